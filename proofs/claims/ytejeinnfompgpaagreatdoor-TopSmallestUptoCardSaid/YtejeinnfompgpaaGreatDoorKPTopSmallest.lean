/- TopSmallest: for every input captionertop.TopSmallest returns true; the arguments read as they did. The listed variables are tied to the program's text by the given tie. -/
import Derived.Test.YtejeinnfompgpaaGreatDoorX7
import Derived.Test.YtejeinnfompgpaaGreatDoorX7
set_option linter.unusedSimpArgs false
set_option linter.unusedVariables false
namespace Go.Proofs.YtejeinnfompgpaaGreatDoor.topSmallestDone
open Go.ChangeShapes Go.WideShapes Go.ChangeAt Go.RowKit

set_option maxRecDepth 100000
set_option maxHeartbeats 10000000
theorem op9 (H : Type) (enc : TypeId × Value → H) : OpTB H enc Tryz.prog 1048576 9 D.str (fun x : List UInt8 => x.length ≤ 1048576) := OpTB.str Tryz.underlying9
theorem op22 (H : Type) (enc : TypeId × Value → H) : OpTB H enc Tryz.prog 1048576 22 (D.int .u8) (fun x : Int => True) := OpTB.int Tryz.underlying22
theorem op4 (H : Type) (enc : TypeId × Value → H) : OpTB H enc Tryz.prog 1048576 4 D.bool (fun x : Bool => True) := OpTB.bool Tryz.underlying4
theorem op2 (H : Type) (enc : TypeId × Value → H) : OpTB H enc Tryz.prog 1048576 2 (D.int .i64) (fun x : Int => True) := OpTB.int Tryz.underlying2
theorem op3 (H : Type) (enc : TypeId × Value → H) : OpTB H enc Tryz.prog 1048576 3 (D.int .i64) (fun x : Int => True) := OpTB.int Tryz.underlying3
theorem op69 (H : Type) (enc : TypeId × Value → H) : OpTB H enc Tryz.prog 1048576 69 (D.int .u8) (fun x : Int => True) := OpTB.int Tryz.underlying69
theorem op71 (H : Type) (enc : TypeId × Value → H) : OpTB H enc Tryz.prog 1048576 71 T_api_Region.d (fun x : T_api_Region => T_api_Region.sz x) := OpTB.struct (ε := T_api_Region.d) Tryz.underlying71 (by kernel_rfl) (by kernel_rfl) (OpFB.cons (by kernel_rfl) (op9 H enc) (OpFB.cons (by kernel_rfl) (op3 H enc) (OpFB.cons (by kernel_rfl) (op3 H enc) (OpFB.cons (by kernel_rfl) (op3 H enc) (OpFB.cons (by kernel_rfl) (op3 H enc) (OpFB.cons (by kernel_rfl) (op69 H enc) (OpFB.cons (by kernel_rfl) (op4 H enc) OpFB.nil))))))) (fun p => T_api_Region.mk p.1 p.2.1 p.2.2.1 p.2.2.2.1 p.2.2.2.2.1 p.2.2.2.2.2.1 p.2.2.2.2.2.2.1) (fun _ => rfl) (fun _ h => h)
theorem op23 (H : Type) (enc : TypeId × Value → H) : OpTB H enc Tryz.prog 1048576 23 (fun l : List T_api_Region => D.sl (l.map T_api_Region.d)) (fun x : List T_api_Region => x.length ≤ 1048576 ∧ ∀ a ∈ x, T_api_Region.sz a) := OpTB.slice Tryz.underlying23 (of_decide_eq_true (by kernel_rfl)) (fun a => by first | rfl | kernel_rfl) (op71 H enc)
theorem op64 (H : Type) (enc : TypeId × Value → H) : OpTB H enc Tryz.prog 1048576 64 T_api_Span.d (fun x : T_api_Span => T_api_Span.sz x) := OpTB.struct (ε := T_api_Span.d) Tryz.underlying64 (by kernel_rfl) (by kernel_rfl) (OpFB.cons (by kernel_rfl) (op2 H enc) (OpFB.cons (by kernel_rfl) (op2 H enc) OpFB.nil)) (fun p => T_api_Span.mk p.1 p.2.1) (fun _ => rfl) (fun _ h => h)
theorem op65 (H : Type) (enc : TypeId × Value → H) : OpTB H enc Tryz.prog 1048576 65 (D.int .u8) (fun x : Int => True) := OpTB.int Tryz.underlying65
theorem op66 (H : Type) (enc : TypeId × Value → H) : OpTB H enc Tryz.prog 1048576 66 (D.int .u8) (fun x : Int => True) := OpTB.int Tryz.underlying66
theorem op68 (H : Type) (enc : TypeId × Value → H) : OpTB H enc Tryz.prog 1048576 68 T_api_Style.d (fun x : T_api_Style => T_api_Style.sz x) := OpTB.struct (ε := T_api_Style.d) Tryz.underlying68 (by kernel_rfl) (by kernel_rfl) (OpFB.cons (by kernel_rfl) (op66 H enc) (OpFB.cons (by kernel_rfl) (op4 H enc) (OpFB.cons (by kernel_rfl) (op4 H enc) OpFB.nil))) (fun p => T_api_Style.mk p.1 p.2.1 p.2.2.1) (fun _ => rfl) (fun _ h => h)
theorem op233 (H : Type) (enc : TypeId × Value → H) : OpTB H enc Tryz.prog 1048576 233 T_api_Run.d (fun x : T_api_Run => T_api_Run.sz x) := OpTB.struct (ε := T_api_Run.d) Tryz.underlying233 (by kernel_rfl) (by kernel_rfl) (OpFB.cons (by kernel_rfl) (op9 H enc) (OpFB.cons (by kernel_rfl) (op68 H enc) (OpFB.cons (by kernel_rfl) (op9 H enc) OpFB.nil))) (fun p => T_api_Run.mk p.1 p.2.1 p.2.2.1) (fun _ => rfl) (fun _ h => h)
theorem op147 (H : Type) (enc : TypeId × Value → H) : OpTB H enc Tryz.prog 1048576 147 (fun l : List T_api_Run => D.sl (l.map T_api_Run.d)) (fun x : List T_api_Run => x.length ≤ 1048576 ∧ ∀ a ∈ x, T_api_Run.sz a) := OpTB.slice Tryz.underlying147 (of_decide_eq_true (by kernel_rfl)) (fun a => by first | rfl | kernel_rfl) (op233 H enc)
theorem op149 (H : Type) (enc : TypeId × Value → H) : OpTB H enc Tryz.prog 1048576 149 T_api_Row.d (fun x : T_api_Row => T_api_Row.sz x) := OpTB.struct (ε := T_api_Row.d) Tryz.underlying149 (by kernel_rfl) (by kernel_rfl) (OpFB.cons (by kernel_rfl) (op147 H enc) OpFB.nil) (fun p => T_api_Row.mk p.1) (fun _ => rfl) (fun _ h => h)
theorem op72 (H : Type) (enc : TypeId × Value → H) : OpTB H enc Tryz.prog 1048576 72 (fun l : List T_api_Row => D.sl (l.map T_api_Row.d)) (fun x : List T_api_Row => x.length ≤ 1048576 ∧ ∀ a ∈ x, T_api_Row.sz a) := OpTB.slice Tryz.underlying72 (of_decide_eq_true (by kernel_rfl)) (fun a => by first | rfl | kernel_rfl) (op149 H enc)
theorem op91 (H : Type) (enc : TypeId × Value → H) : OpTB H enc Tryz.prog 1048576 91 T_api_Event.d (fun x : T_api_Event => T_api_Event.sz x) := OpTB.struct (ε := T_api_Event.d) Tryz.underlying91 (by kernel_rfl) (by kernel_rfl) (OpFB.cons (by kernel_rfl) (op2 H enc) (OpFB.cons (by kernel_rfl) (op64 H enc) (OpFB.cons (by kernel_rfl) (op9 H enc) (OpFB.cons (by kernel_rfl) (op65 H enc) (OpFB.cons (by kernel_rfl) (op9 H enc) (OpFB.cons (by kernel_rfl) (op72 H enc) OpFB.nil)))))) (fun p => T_api_Event.mk p.1 p.2.1 p.2.2.1 p.2.2.2.1 p.2.2.2.2.1 p.2.2.2.2.2.1) (fun _ => rfl) (fun _ h => h)
theorem op24 (H : Type) (enc : TypeId × Value → H) : OpTB H enc Tryz.prog 1048576 24 (fun l : List T_api_Event => D.sl (l.map T_api_Event.d)) (fun x : List T_api_Event => x.length ≤ 1048576 ∧ ∀ a ∈ x, T_api_Event.sz a) := OpTB.slice Tryz.underlying24 (of_decide_eq_true (by kernel_rfl)) (fun a => by first | rfl | kernel_rfl) (op91 H enc)
theorem op162 (H : Type) (enc : TypeId × Value → H) : OpTB H enc Tryz.prog 1048576 162 T_api_Comment.d (fun x : T_api_Comment => T_api_Comment.sz x) := OpTB.struct (ε := T_api_Comment.d) Tryz.underlying162 (by kernel_rfl) (by kernel_rfl) (OpFB.cons (by kernel_rfl) (op2 H enc) (OpFB.cons (by kernel_rfl) (op2 H enc) (OpFB.cons (by kernel_rfl) (op3 H enc) (OpFB.cons (by kernel_rfl) (op3 H enc) (OpFB.cons (by kernel_rfl) (op9 H enc) (OpFB.cons (by kernel_rfl) (op9 H enc) (OpFB.cons (by kernel_rfl) (op4 H enc) (OpFB.cons (by kernel_rfl) (op4 H enc) OpFB.nil)))))))) (fun p => T_api_Comment.mk p.1 p.2.1 p.2.2.1 p.2.2.2.1 p.2.2.2.2.1 p.2.2.2.2.2.1 p.2.2.2.2.2.2.1 p.2.2.2.2.2.2.2.1) (fun _ => rfl) (fun _ h => h)
theorem op25 (H : Type) (enc : TypeId × Value → H) : OpTB H enc Tryz.prog 1048576 25 (fun l : List T_api_Comment => D.sl (l.map T_api_Comment.d)) (fun x : List T_api_Comment => x.length ≤ 1048576 ∧ ∀ a ∈ x, T_api_Comment.sz a) := OpTB.slice Tryz.underlying25 (of_decide_eq_true (by kernel_rfl)) (fun a => by first | rfl | kernel_rfl) (op162 H enc)
theorem op27 (H : Type) (enc : TypeId × Value → H) : OpTB H enc Tryz.prog 1048576 27 T_api_Document.d (fun x : T_api_Document => T_api_Document.sz x) := OpTB.struct (ε := T_api_Document.d) Tryz.underlying27 (by kernel_rfl) (by kernel_rfl) (OpFB.cons (by kernel_rfl) (op9 H enc) (OpFB.cons (by kernel_rfl) (op9 H enc) (OpFB.cons (by kernel_rfl) (op22 H enc) (OpFB.cons (by kernel_rfl) (op4 H enc) (OpFB.cons (by kernel_rfl) (op2 H enc) (OpFB.cons (by kernel_rfl) (op23 H enc) (OpFB.cons (by kernel_rfl) (op24 H enc) (OpFB.cons (by kernel_rfl) (op25 H enc) OpFB.nil)))))))) (fun p => T_api_Document.mk p.1 p.2.1 p.2.2.1 p.2.2.2.1 p.2.2.2.2.1 p.2.2.2.2.2.1 p.2.2.2.2.2.2.1 p.2.2.2.2.2.2.2.1) (fun _ => rfl) (fun _ h => h)
theorem op29 (H : Type) (enc : TypeId × Value → H) : OpTB H enc Tryz.prog 1048576 29 T_api_Profile.d (fun x : T_api_Profile => T_api_Profile.sz x) := OpTB.struct (ε := T_api_Profile.d) Tryz.underlying29 (by kernel_rfl) (by kernel_rfl) (OpFB.cons (by kernel_rfl) (op9 H enc) (OpFB.cons (by kernel_rfl) (op2 H enc) (OpFB.cons (by kernel_rfl) (op2 H enc) (OpFB.cons (by kernel_rfl) (op2 H enc) (OpFB.cons (by kernel_rfl) (op2 H enc) (OpFB.cons (by kernel_rfl) (op2 H enc) (OpFB.cons (by kernel_rfl) (op2 H enc) (OpFB.cons (by kernel_rfl) (op3 H enc) (OpFB.cons (by kernel_rfl) (op3 H enc) (OpFB.cons (by kernel_rfl) (op9 H enc) (OpFB.cons (by kernel_rfl) (op3 H enc) (OpFB.cons (by kernel_rfl) (op3 H enc) (OpFB.cons (by kernel_rfl) (op3 H enc) (OpFB.cons (by kernel_rfl) (op3 H enc) OpFB.nil)))))))))))))) (fun p => T_api_Profile.mk p.1 p.2.1 p.2.2.1 p.2.2.2.1 p.2.2.2.2.1 p.2.2.2.2.2.1 p.2.2.2.2.2.2.1 p.2.2.2.2.2.2.2.1 p.2.2.2.2.2.2.2.2.1 p.2.2.2.2.2.2.2.2.2.1 p.2.2.2.2.2.2.2.2.2.2.1 p.2.2.2.2.2.2.2.2.2.2.2.1 p.2.2.2.2.2.2.2.2.2.2.2.2.1 p.2.2.2.2.2.2.2.2.2.2.2.2.2.1) (fun _ => rfl) (fun _ h => h)
theorem op30 (H : Type) (enc : TypeId × Value → H) : OpTB H enc Tryz.prog 1048576 30 (fun l : List Int => D.sl (l.map (D.int .i64))) (fun x : List Int => x.length ≤ 1048576 ∧ ∀ a ∈ x, True) := OpTB.slice Tryz.underlying30 (of_decide_eq_true (by kernel_rfl)) (fun a => by first | rfl | kernel_rfl) (op2 H enc)
theorem op32 (H : Type) (enc : TypeId × Value → H) : OpTB H enc Tryz.prog 1048576 32 T_captionertop_House.d (fun x : T_captionertop_House => T_captionertop_House.sz x) := OpTB.struct (ε := T_captionertop_House.d) Tryz.underlying32 (by kernel_rfl) (by kernel_rfl) (OpFB.cons (by kernel_rfl) (op27 H enc) (OpFB.cons (by kernel_rfl) (op29 H enc) (OpFB.cons (by kernel_rfl) (op30 H enc) (OpFB.cons (by kernel_rfl) (op2 H enc) OpFB.nil)))) (fun p => T_captionertop_House.mk p.1 p.2.1 p.2.2.1 p.2.2.2.1) (fun _ => rfl) (fun _ h => h)
theorem op5 (H : Type) (enc : TypeId × Value → H) : OpTB H enc Tryz.prog 1048576 5 (D.int .u8) (fun x : Int => True) := OpTB.int Tryz.underlying5
theorem op33 (H : Type) (enc : TypeId × Value → H) : OpTB H enc Tryz.prog 1048576 33 (D.int .u64) (fun x : Int => True) := OpTB.int Tryz.underlying33
theorem contract (H : Type) (enc : TypeId × Value → H) (W : World) (base : Nat) (args : Array Value) (ds gs : List (DataW H)) (before : List MemPlace)
    (hval : ∀ (j : Nat) t v, Tryz.f3.params[j]? = some t → args[j]? = some v → Value.okWide Tryz.prog W .any base t v)
    (hW : DataW.Whole enc Tryz.prog Tryz.f3.params.toList Rows.topSmallestSpec.vars false W args.toList ds gs before) (hL : laidMetH Tryz.prog Rows.topSmallestUptoRow.laid W) (hwt : (DataW.weightsEach Tryz.prog (Tryz.f3.params.toList ++ (Rows.OpenSpec.upto Rows.topSmallestSpec).bare.plain.varTypes Tryz.prog) (ds ++ gs)).all (· ≤ reachBytes) = true) (hS : W.ShapedOpen Tryz.prog) (hcond : ∀ k, (Rows.OpenSpec.upto Rows.topSmallestSpec).cond = some k → k H (ds ++ gs) = true) :
    Calls Tryz.prog 3 args W fun e W' => ∃ v, e = .returned v ∧ Rows.topSmallestSpec.post enc Tryz.prog Tryz.f3 false true false false W args v W' := by
  have HL := Lib.hid hL
  clear hL
  have hW' := hW
  have HS := Lib.hid hS
  clear hS
  have HT := Lib.hid hwt
  clear hwt
  obtain ⟨p, q, hA0, hV, rfl, hfz, hnd⟩ := hW
  have hA : DataW.TrodAll enc Tryz.prog W 0 (fun _ => true) true Tryz.f3.params.toList args.toList ds p := hA0
  rw [Tryz.params3] at hA hval
  obtain ⟨v0, vs0, d0, ds0, p0, q0, hargs, rfl, rfl, h0, r0⟩ := trodAll_cons hA
  obtain ⟨v1, vs1, d1, ds1, p1, q1, rfl, rfl, rfl, h1, r1⟩ := trodAll_cons r0
  obtain ⟨v2, vs2, d2, ds2, p2, q2, rfl, rfl, rfl, h2, r2⟩ := trodAll_cons r1
  obtain ⟨rfl, rfl, rfl⟩ := trodAll_nil r2
  obtain rfl : args = #[v0, v1, v2] := by cases args with | mk l => simp at hargs; subst hargs; rfl
  obtain ⟨rfl, rfl⟩ := trodVars_none hV
  have k0 := h0
  have lt0 : ∀ x ∈ p0, x.block < W.heap.size := by obtain ⟨m, hm⟩ := k0; exact DataW.trod_lt m _ _ _ hm
  have ok0 := hval 0 32 v0 rfl rfl
  have hn0 : Rows.uptoBulk d0 ≤ 1048576 := by
    have hC := hcond _ rfl
    simp [Rows.uptoSmall, Rows.uptoBulkAll] at hC
    omega
  obtain ⟨g0, hg0, hB0⟩ := OpTB.argStruct Tryz.underlying32 (op32 H enc) (fun a => ⟨_, rfl⟩) ok0 h0 hn0
  have k1 := h1
  have lt1 : ∀ x ∈ p1, x.block < W.heap.size := by obtain ⟨m, hm⟩ := k1; exact DataW.trod_lt m _ _ _ hm
  have ok1 := hval 1 5 v1 rfl rfl
  obtain ⟨g1, hg1⟩ := OpT.argInt Tryz.underlying5 (OpT.int (H := H) (enc := enc) Tryz.underlying5) (fun a => rfl) ok1 h1
  have k2 := h2
  have lt2 : ∀ x ∈ p2, x.block < W.heap.size := by obtain ⟨m, hm⟩ := k2; exact DataW.trod_lt m _ _ _ hm
  have ok2 := hval 2 33 v2 rfl rfl
  obtain ⟨g2, hg2⟩ := OpT.argInt Tryz.underlying33 (OpT.int (H := H) (enc := enc) Tryz.underlying33) (fun a => rfl) ok2 h2
  have hC := hcond _ rfl
  clear hA0
  refine ((law_TopSmallest g0 g1 g2 hB0).law (args := [v0, v1, v2]) (env_of8 HL.out HS.out) rfl (fun i v d hv hd => by match i, hv, hd with | 0, hv, hd => (simp at hv hd; subst hv hd; exact hg0) | 1, hv, hd => (simp at hv hd; subst hv hd; exact hg1) | 2, hv, hd => (simp at hv hd; subst hv hd; exact hg2) | (n + 3), hv, hd => simp at hv)).mono fun e W' ⟨he, bel⟩ => ?_
  subst he
  exact ⟨_, rfl, _, _, _, [], _, [], hW', trodAll_mk1 (shut_bool Tryz.underlying4 _), (trodAll_cons_mk (Below.trod laidOut (by kernel_rfl) (of_decide_eq_true (by kernel_rfl)) k0 bel lt0) (trodAll_cons_mk (Below.trod laidOut (by kernel_rfl) (of_decide_eq_true (by kernel_rfl)) k1 bel lt1) (trodAll_cons_mk (Below.trod laidOut (by kernel_rfl) (of_decide_eq_true (by kernel_rfl)) k2 bel lt2) trodAll_mk0))), rfl, bel.frame _, fun h => by cases h⟩

theorem laid_met (os : Os) : laidMet Tryz.prog Rows.topSmallestUptoRow.laid ((laidWorld8 os).forCall (fun _ _ => 0) ⟨#[], #[.agg #[.string ⟨#[]⟩, .string ⟨#[]⟩, .int .u8 0, .bool false, .int .i64 0, .slice none 0 0, .slice none 0 0, .slice none 0 0, .string ⟨#[]⟩, .int .i64 0, .int .i64 0, .int .i64 0, .int .i64 0, .int .i64 0, .int .i64 0, .int .i64 0, .int .i64 0, .string ⟨#[]⟩, .int .i64 0, .int .i64 0, .int .i64 0, .int .i64 0, .slice none 0 0, .int .i64 0], .int .u8 0, .int .u64 0], []⟩).memory :=
  laidMet_of_run' 8 (by kernel_rfl) (by kernel_rfl)
theorem reads (os : Os) {H : Type} (enc : TypeId × Value → H) : ∃ places, DataW.whole enc Tryz.prog ((laidWorld8 os).forCall (fun _ _ => 0) ⟨#[], #[.agg #[.string ⟨#[]⟩, .string ⟨#[]⟩, .int .u8 0, .bool false, .int .i64 0, .slice none 0 0, .slice none 0 0, .slice none 0 0, .string ⟨#[]⟩, .int .i64 0, .int .i64 0, .int .i64 0, .int .i64 0, .int .i64 0, .int .i64 0, .int .i64 0, .int .i64 0, .string ⟨#[]⟩, .int .i64 0, .int .i64 0, .int .i64 0, .int .i64 0, .slice none 0 0, .int .i64 0], .int .u8 0, .int .u64 0], []⟩).memory Tryz.f3.params.toList Rows.topSmallestSpec.vars false (#[.agg #[.string ⟨#[]⟩, .string ⟨#[]⟩, .int .u8 0, .bool false, .int .i64 0, .slice none 0 0, .slice none 0 0, .slice none 0 0, .string ⟨#[]⟩, .int .i64 0, .int .i64 0, .int .i64 0, .int .i64 0, .int .i64 0, .int .i64 0, .int .i64 0, .int .i64 0, .string ⟨#[]⟩, .int .i64 0, .int .i64 0, .int .i64 0, .int .i64 0, .slice none 0 0, .int .i64 0], .int .u8 0, .int .u64 0] : Array Value).toList 8 = some ([.agg [.agg [.lit (.string []), .lit (.string []), .lit (.int .u8 0), .lit (.bool false), .lit (.int .i64 0), .nil, .nil, .nil], .agg [.lit (.string []), .lit (.int .i64 0), .lit (.int .i64 0), .lit (.int .i64 0), .lit (.int .i64 0), .lit (.int .i64 0), .lit (.int .i64 0), .lit (.int .i64 0), .lit (.int .i64 0), .lit (.string []), .lit (.int .i64 0), .lit (.int .i64 0), .lit (.int .i64 0), .lit (.int .i64 0)], .nil, .lit (.int .i64 0)], .lit (.int .u8 0), .lit (.int .u64 0)], [], places) :=
  ⟨[], by kernel_rfl⟩

theorem lifted (os : Os) (started : os.Started) (H : Type) (enc : TypeId × Value → H) (F : Stop.Interp) :
    ReturnsInHanded {} Tryz.checked os 3 .any ((Rows.OpenSpec.upto Rows.topSmallestSpec).preRow enc Tryz.prog Tryz.f3 Rows.topSmallestUptoRow.domain false Rows.topSmallestUptoRow.laid) (((Rows.OpenSpec.upto Rows.topSmallestSpec).at F).post enc Tryz.prog Tryz.f3 false true false false) := by
  obtain ⟨places, hx⟩ := reads os enc
  refine returnsInHanded_of_row (C := Tryz.checked) (s := Rows.OpenSpec.upto Rows.topSmallestSpec) own started (by kernel_rfl) Tryz.func3
    (witness_row_at (enc := enc) (C := Tryz.checked) false (laidWorld8 os) #[.agg #[.string ⟨#[]⟩, .string ⟨#[]⟩, .int .u8 0, .bool false, .int .i64 0, .slice none 0 0, .slice none 0 0, .slice none 0 0, .string ⟨#[]⟩, .int .i64 0, .int .i64 0, .int .i64 0, .int .i64 0, .int .i64 0, .int .i64 0, .int .i64 0, .int .i64 0, .string ⟨#[]⟩, .int .i64 0, .int .i64 0, .int .i64 0, .int .i64 0, .slice none 0 0, .int .i64 0], .int .u8 0, .int .u64 0] rfl (by kernel_rfl) (by kernel_rfl) (by kernel_rfl)
      (OpenSpec.preRow_of_cond 8 hx (by kernel_rfl) (fun k hk => by injection hk with hk; subst hk; kernel_rfl) (by kernel_rfl) (laid_met os))) ?_
  intro W base args ds gs before hval hW _ hc hwt hL hS _
  exact contract H enc W base args ds gs before hval hW hL hwt hS hc

theorem andT {a b : Bool} (h : a = true) (k : b = true) : (a && b) = true := by rw [h, k]; rfl
theorem cf0 : (Rows.topSmallestUptoRow.wf (OpenSpec.ofChange (Rows.OpenSpec.upto Rows.topSmallestSpec).bare)) = true := by kernel_rfl
theorem cf1 : (laidOutB Tryz.pinned.checked.prog) = true := by kernel_rfl
theorem cf2 : (mapsRowed Tryz.pinned.checked.prog) = true := by kernel_rfl
theorem cf3 : (Tryz.f3.params.all (Tryz.pinned.checked.prog.readableRec ·)) = true := by kernel_rfl
theorem cf4 : (namedTie Tryz.pinned.checked.prog Rows.topSmallestUptoRow.named (Rows.OpenSpec.upto Rows.topSmallestSpec).bare.vars) = true := by kernel_rfl
theorem cf5 : ((Rows.topSmallestUptoRow.stops == [])) = true := by kernel_rfl
theorem cf6 : ((Tryz.pinned.checked.prog.stops == [])) = true := by kernel_rfl
theorem cf7 : ((Rows.topSmallestUptoRow.knobs == [])) = true := by kernel_rfl
theorem cf8 : ((Tryz.pinned.checked.prog.stopKnobs == [])) = true := by kernel_rfl
theorem cf9 : ((Rows.topSmallestUptoRow.inPlace == Tryz.pinned.checked.prog.inPlace 3)) = true := by kernel_rfl
theorem cf10 : ((Rows.topSmallestUptoRow.unfollowed == Tryz.pinned.checked.prog.unfollowed 3)) = true := by kernel_rfl
theorem cf11 : ((Rows.topSmallestUptoRow.recurses == Tryz.pinned.checked.prog.recurses 3)) = true := by kernel_rfl
theorem cf12 : ((Rows.topSmallestUptoRow.named == Tryz.pinned.checked.prog.varsNamed 3)) = true := by kernel_rfl
theorem cf13 : ((Rows.topSmallestUptoRow.maps == (Tryz.f3.params.toList ++ (Rows.OpenSpec.upto Rows.topSmallestSpec).bare.plain.varTypes Tryz.pinned.checked.prog).any (Tryz.pinned.checked.prog.mapsRec ·))) = true := by kernel_rfl
theorem cf14 : ((Rows.topSmallestUptoRow.ifaces == (Tryz.f3.params.toList ++ (Rows.OpenSpec.upto Rows.topSmallestSpec).bare.plain.varTypes Tryz.pinned.checked.prog).any (Tryz.pinned.checked.prog.ifacesRec ·))) = true := by kernel_rfl
theorem cf15 : ((Rows.topSmallestUptoRow.mapsOut == Tryz.pinned.checked.prog.mapsAmong Tryz.f3.resultTypes.toList)) = true := by kernel_rfl
theorem cf16 : ((Rows.topSmallestUptoRow.loops == (Tryz.f3.params.toList ++ (Rows.OpenSpec.upto Rows.topSmallestSpec).bare.plain.varTypes Tryz.pinned.checked.prog).any (Tryz.pinned.checked.prog.loopsFrom ·))) = true := by kernel_rfl
theorem cf17 : ((Rows.topSmallestUptoRow.wideKeys == (Tryz.f3.params.toList ++ (Rows.OpenSpec.upto Rows.topSmallestSpec).bare.plain.varTypes Tryz.pinned.checked.prog ++ Tryz.f3.resultTypes.toList).any (Tryz.pinned.checked.prog.wideKeysFrom ·))) = true := by kernel_rfl
theorem cf18 : ((Rows.OpenSpec.upto Rows.topSmallestSpec).bare.vars.all (Tryz.pinned.checked.prog.varReadable ·)) = true := by kernel_rfl
theorem cf19 : (Tryz.f3.resultTypes.all (fun t => Tryz.pinned.checked.prog.readableRec t && decide (t < Tryz.pinned.checked.prog.types.size))) = true := by kernel_rfl
theorem cf20 : ((Rows.topSmallestUptoRow.ifacesOut == Tryz.f3.resultTypes.toList.any (Tryz.pinned.checked.prog.ifacesRec ·))) = true := by kernel_rfl
theorem cf21 : ((Rows.topSmallestUptoRow.loopsOut == Tryz.f3.resultTypes.toList.any (Tryz.pinned.checked.prog.loopsFrom ·))) = true := by kernel_rfl
theorem cf22 : ((Rows.topSmallestUptoRow.plainKeys == Tryz.pinned.checked.prog.plainKeys)) = true := by kernel_rfl
theorem cf23 : (Rows.topSmallestUptoRow.shortTexts.isNone) = true := by kernel_rfl
theorem cf24 : (Tryz.pinned.checked.prog.stopsHeard) = true := by kernel_rfl
theorem cf25 : (Tryz.pinned.checked.prog.mayEnter) = true := by kernel_rfl
theorem cf26 : ((Rows.topSmallestUptoRow.lifted == Tryz.pinned.checked.prog.liftsFinal)) = true := by kernel_rfl
theorem cf27 : ((Tryz.pinned.checked.prog.make == some Rows.topSmallestUptoRow.make)) = true := by kernel_rfl
theorem cf28 : ((Rows.topSmallestUptoRow.kinds == (if Rows.topSmallestUptoRow.domain.isEmpty then [] else Tryz.f3.params.toList.map fun t => match Tryz.pinned.checked.prog.underlying t with | some (.int k) => some k | _ => none))) = true := by kernel_rfl
theorem cf29 : ((Rows.topSmallestUptoRow.pinned == Rows.topSmallestUptoRow.pinnedBy)) = true := by kernel_rfl
theorem cf30 : ((Rows.topSmallestUptoRow.veiled == (Tryz.f3.params.toList ++ (Rows.OpenSpec.upto Rows.topSmallestSpec).bare.plain.varTypes Tryz.pinned.checked.prog ++ Tryz.f3.resultTypes.toList).any (Tryz.pinned.checked.prog.veiledRec ·))) = true := by kernel_rfl
theorem cf31 : (Rows.topSmallestUptoRow.veiledFits Tryz.pinned.checked.prog Tryz.f3.params.toList (Tryz.f3.params.toList ++ (Rows.OpenSpec.upto Rows.topSmallestSpec).bare.plain.varTypes Tryz.pinned.checked.prog ++ Tryz.f3.resultTypes.toList)) = true := by kernel_rfl
theorem closedAll : joinedFacts Tryz.pinned.checked.prog 3 Tryz.f3 (Rows.OpenSpec.upto Rows.topSmallestSpec).bare Rows.topSmallestUptoRow = true := (andT (andT (andT (andT (andT (andT (andT (andT (andT (andT (andT (andT (andT (andT (andT (andT (andT (andT (andT (andT (andT (andT (andT (andT (andT (andT (andT (andT (andT (andT (andT cf0 cf1) cf2) cf3) cf4) cf5) cf6) cf7) cf8) cf9) cf10) cf11) cf12) cf13) cf14) cf15) cf16) cf17) cf18) cf19) cf20) cf21) cf22) cf23) cf24) cf25) cf26) cf27) cf28) cf29) cf30) cf31)
theorem said : Rows.TopSmallestUptoSaid :=
  OpenClaim.holds_of_cond 3 Tryz.f3 rfl rfl rfl rfl rfl rfl rfl ⟨rfl, rfl, rfl, rfl, rfl⟩ rfl rfl rfl rfl rfl (by kernel_rfl) Tryz.func3 closedAll
    (of_decide_eq_true (by kernel_rfl)) (by unfold Func.isWrapper; first | (rw [if_pos (by decide +kernel)]; kernel_rfl) | (rw [if_neg (by decide +kernel)]; exact ⟨rfl, rfl⟩))
    (fun os started H enc _ F => by rw [OpenClaim.pre_eq_preRow]; exact lifted os started H enc F)

theorem plain (f : FuncId) (fn : Func) (hf : Tryz.pinned.checked.prog.funcNamed Rows.topSmallestUptoRow.func = some f) (hfn : Tryz.pinned.checked.prog.funcs[f]? = some fn) :
    true = Tryz.pinned.checked.prog.looks [] ∧ ∀ (j : Nat) t, fn.params[j]? = some t → Tryz.pinned.checked.prog.wantsStandIn t = false := by
  obtain rfl : f = 3 := Option.some.inj ((show Tryz.prog.funcNamed Rows.topSmallestUptoRow.func = some 3 by kernel_rfl).symm.trans hf) |>.symm
  obtain rfl : fn = Tryz.f3 := (Option.some.inj (Tryz.func3.symm.trans hfn)).symm
  refine ⟨by kernel_rfl, fun j t ht => ?_⟩
  rw [Tryz.params3] at ht
  have hm : t ∈ ([32, 5, 33] : List TypeId) := by simpa using Array.mem_of_getElem? ht
  exact standIn_all [32, 5, 33] (by kernel_rfl) t hm

theorem card : Rows.TopSmallestUptoCardSaid :=
  Claim7.holds_tied_plain_at .later [] _ _ _ _ said (fun _ h => by cases h) (by kernel_rfl) (fun _ h => by cases h) topSmallestUpto_row_tie rfl ⟨rfl, rfl⟩ (by kernel_rfl) rfl plain (by kernel_rfl)
end Go.Proofs.YtejeinnfompgpaaGreatDoor.topSmallestDone
namespace Go.Proofs.YtejeinnfompgpaaGreatDoor
theorem topSmallestUpto_card : Rows.TopSmallestUptoCardSaid := topSmallestDone.card
#print axioms topSmallestUpto_card
end Go.Proofs.YtejeinnfompgpaaGreatDoor
