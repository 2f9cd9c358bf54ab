/- RepairApplies: for every input captionerlaw43.RepairApplies returns true; the arguments read as they did. The listed variables are tied to the program's text by the given tie. -/
import Derived.Test.YtobglplholhkcaaGreatDoorA7
import Derived.Test.YtobglplholhkcaaGreatDoorA7
set_option linter.unusedSimpArgs false
set_option linter.unusedVariables false
namespace Go.Proofs.YtobglplholhkcaaGreatDoor.repairAppliesDone
open Go.ChangeShapes Go.WideShapes Go.ChangeAt Go.RowKit

set_option maxRecDepth 100000
set_option maxHeartbeats 10000000
theorem op9 (H : Type) (enc : TypeId × Value → H) : OpTB H enc Tryz.prog 1048576 9 D.str (fun x : List UInt8 => x.length ≤ 1048576) := OpTB.str Tryz.underlying9
theorem op32 (H : Type) (enc : TypeId × Value → H) : OpTB H enc Tryz.prog 1048576 32 (D.int .u8) (fun x : Int => True) := OpTB.int Tryz.underlying32
theorem op4 (H : Type) (enc : TypeId × Value → H) : OpTB H enc Tryz.prog 1048576 4 D.bool (fun x : Bool => True) := OpTB.bool Tryz.underlying4
theorem op2 (H : Type) (enc : TypeId × Value → H) : OpTB H enc Tryz.prog 1048576 2 (D.int .i64) (fun x : Int => True) := OpTB.int Tryz.underlying2
theorem op3 (H : Type) (enc : TypeId × Value → H) : OpTB H enc Tryz.prog 1048576 3 (D.int .i64) (fun x : Int => True) := OpTB.int Tryz.underlying3
theorem op100 (H : Type) (enc : TypeId × Value → H) : OpTB H enc Tryz.prog 1048576 100 (D.int .u8) (fun x : Int => True) := OpTB.int Tryz.underlying100
theorem op102 (H : Type) (enc : TypeId × Value → H) : OpTB H enc Tryz.prog 1048576 102 T_api_Region.d (fun x : T_api_Region => T_api_Region.sz x) := OpTB.struct (ε := T_api_Region.d) Tryz.underlying102 (by kernel_rfl) (by kernel_rfl) (OpFB.cons (by kernel_rfl) (op9 H enc) (OpFB.cons (by kernel_rfl) (op3 H enc) (OpFB.cons (by kernel_rfl) (op3 H enc) (OpFB.cons (by kernel_rfl) (op3 H enc) (OpFB.cons (by kernel_rfl) (op3 H enc) (OpFB.cons (by kernel_rfl) (op100 H enc) (OpFB.cons (by kernel_rfl) (op4 H enc) OpFB.nil))))))) (fun p => T_api_Region.mk p.1 p.2.1 p.2.2.1 p.2.2.2.1 p.2.2.2.2.1 p.2.2.2.2.2.1 p.2.2.2.2.2.2.1) (fun _ => rfl) (fun _ h => h)
theorem op33 (H : Type) (enc : TypeId × Value → H) : OpTB H enc Tryz.prog 1048576 33 (fun l : List T_api_Region => D.sl (l.map T_api_Region.d)) (fun x : List T_api_Region => x.length ≤ 1048576 ∧ ∀ a ∈ x, T_api_Region.sz a) := OpTB.slice Tryz.underlying33 (of_decide_eq_true (by kernel_rfl)) (fun a => by first | rfl | kernel_rfl) (op102 H enc)
theorem op27 (H : Type) (enc : TypeId × Value → H) : OpTB H enc Tryz.prog 1048576 27 T_api_Span.d (fun x : T_api_Span => T_api_Span.sz x) := OpTB.struct (ε := T_api_Span.d) Tryz.underlying27 (by kernel_rfl) (by kernel_rfl) (OpFB.cons (by kernel_rfl) (op2 H enc) (OpFB.cons (by kernel_rfl) (op2 H enc) OpFB.nil)) (fun p => T_api_Span.mk p.1 p.2.1) (fun _ => rfl) (fun _ h => h)
theorem op61 (H : Type) (enc : TypeId × Value → H) : OpTB H enc Tryz.prog 1048576 61 (D.int .u8) (fun x : Int => True) := OpTB.int Tryz.underlying61
theorem op122 (H : Type) (enc : TypeId × Value → H) : OpTB H enc Tryz.prog 1048576 122 (D.int .u8) (fun x : Int => True) := OpTB.int Tryz.underlying122
theorem op124 (H : Type) (enc : TypeId × Value → H) : OpTB H enc Tryz.prog 1048576 124 T_api_Style.d (fun x : T_api_Style => T_api_Style.sz x) := OpTB.struct (ε := T_api_Style.d) Tryz.underlying124 (by kernel_rfl) (by kernel_rfl) (OpFB.cons (by kernel_rfl) (op122 H enc) (OpFB.cons (by kernel_rfl) (op4 H enc) (OpFB.cons (by kernel_rfl) (op4 H enc) OpFB.nil))) (fun p => T_api_Style.mk p.1 p.2.1 p.2.2.1) (fun _ => rfl) (fun _ h => h)
theorem op126 (H : Type) (enc : TypeId × Value → H) : OpTB H enc Tryz.prog 1048576 126 T_api_Run.d (fun x : T_api_Run => T_api_Run.sz x) := OpTB.struct (ε := T_api_Run.d) Tryz.underlying126 (by kernel_rfl) (by kernel_rfl) (OpFB.cons (by kernel_rfl) (op9 H enc) (OpFB.cons (by kernel_rfl) (op124 H enc) (OpFB.cons (by kernel_rfl) (op9 H enc) OpFB.nil))) (fun p => T_api_Run.mk p.1 p.2.1 p.2.2.1) (fun _ => rfl) (fun _ h => h)
theorem op127 (H : Type) (enc : TypeId × Value → H) : OpTB H enc Tryz.prog 1048576 127 (fun l : List T_api_Run => D.sl (l.map T_api_Run.d)) (fun x : List T_api_Run => x.length ≤ 1048576 ∧ ∀ a ∈ x, T_api_Run.sz a) := OpTB.slice Tryz.underlying127 (of_decide_eq_true (by kernel_rfl)) (fun a => by first | rfl | kernel_rfl) (op126 H enc)
theorem op129 (H : Type) (enc : TypeId × Value → H) : OpTB H enc Tryz.prog 1048576 129 T_api_Row.d (fun x : T_api_Row => T_api_Row.sz x) := OpTB.struct (ε := T_api_Row.d) Tryz.underlying129 (by kernel_rfl) (by kernel_rfl) (OpFB.cons (by kernel_rfl) (op127 H enc) OpFB.nil) (fun p => T_api_Row.mk p.1) (fun _ => rfl) (fun _ h => h)
theorem op62 (H : Type) (enc : TypeId × Value → H) : OpTB H enc Tryz.prog 1048576 62 (fun l : List T_api_Row => D.sl (l.map T_api_Row.d)) (fun x : List T_api_Row => x.length ≤ 1048576 ∧ ∀ a ∈ x, T_api_Row.sz a) := OpTB.slice Tryz.underlying62 (of_decide_eq_true (by kernel_rfl)) (fun a => by first | rfl | kernel_rfl) (op129 H enc)
theorem op64 (H : Type) (enc : TypeId × Value → H) : OpTB H enc Tryz.prog 1048576 64 T_api_Event.d (fun x : T_api_Event => T_api_Event.sz x) := OpTB.struct (ε := T_api_Event.d) Tryz.underlying64 (by kernel_rfl) (by kernel_rfl) (OpFB.cons (by kernel_rfl) (op2 H enc) (OpFB.cons (by kernel_rfl) (op27 H enc) (OpFB.cons (by kernel_rfl) (op9 H enc) (OpFB.cons (by kernel_rfl) (op61 H enc) (OpFB.cons (by kernel_rfl) (op9 H enc) (OpFB.cons (by kernel_rfl) (op62 H enc) OpFB.nil)))))) (fun p => T_api_Event.mk p.1 p.2.1 p.2.2.1 p.2.2.2.1 p.2.2.2.2.1 p.2.2.2.2.2.1) (fun _ => rfl) (fun _ h => h)
theorem op34 (H : Type) (enc : TypeId × Value → H) : OpTB H enc Tryz.prog 1048576 34 (fun l : List T_api_Event => D.sl (l.map T_api_Event.d)) (fun x : List T_api_Event => x.length ≤ 1048576 ∧ ∀ a ∈ x, T_api_Event.sz a) := OpTB.slice Tryz.underlying34 (of_decide_eq_true (by kernel_rfl)) (fun a => by first | rfl | kernel_rfl) (op64 H enc)
theorem op107 (H : Type) (enc : TypeId × Value → H) : OpTB H enc Tryz.prog 1048576 107 T_api_Comment.d (fun x : T_api_Comment => T_api_Comment.sz x) := OpTB.struct (ε := T_api_Comment.d) Tryz.underlying107 (by kernel_rfl) (by kernel_rfl) (OpFB.cons (by kernel_rfl) (op2 H enc) (OpFB.cons (by kernel_rfl) (op2 H enc) (OpFB.cons (by kernel_rfl) (op3 H enc) (OpFB.cons (by kernel_rfl) (op3 H enc) (OpFB.cons (by kernel_rfl) (op9 H enc) (OpFB.cons (by kernel_rfl) (op9 H enc) (OpFB.cons (by kernel_rfl) (op4 H enc) (OpFB.cons (by kernel_rfl) (op4 H enc) OpFB.nil)))))))) (fun p => T_api_Comment.mk p.1 p.2.1 p.2.2.1 p.2.2.2.1 p.2.2.2.2.1 p.2.2.2.2.2.1 p.2.2.2.2.2.2.1 p.2.2.2.2.2.2.2.1) (fun _ => rfl) (fun _ h => h)
theorem op35 (H : Type) (enc : TypeId × Value → H) : OpTB H enc Tryz.prog 1048576 35 (fun l : List T_api_Comment => D.sl (l.map T_api_Comment.d)) (fun x : List T_api_Comment => x.length ≤ 1048576 ∧ ∀ a ∈ x, T_api_Comment.sz a) := OpTB.slice Tryz.underlying35 (of_decide_eq_true (by kernel_rfl)) (fun a => by first | rfl | kernel_rfl) (op107 H enc)
theorem op37 (H : Type) (enc : TypeId × Value → H) : OpTB H enc Tryz.prog 1048576 37 T_api_Document.d (fun x : T_api_Document => T_api_Document.sz x) := OpTB.struct (ε := T_api_Document.d) Tryz.underlying37 (by kernel_rfl) (by kernel_rfl) (OpFB.cons (by kernel_rfl) (op9 H enc) (OpFB.cons (by kernel_rfl) (op9 H enc) (OpFB.cons (by kernel_rfl) (op32 H enc) (OpFB.cons (by kernel_rfl) (op4 H enc) (OpFB.cons (by kernel_rfl) (op2 H enc) (OpFB.cons (by kernel_rfl) (op33 H enc) (OpFB.cons (by kernel_rfl) (op34 H enc) (OpFB.cons (by kernel_rfl) (op35 H enc) OpFB.nil)))))))) (fun p => T_api_Document.mk p.1 p.2.1 p.2.2.1 p.2.2.2.1 p.2.2.2.2.1 p.2.2.2.2.2.1 p.2.2.2.2.2.2.1 p.2.2.2.2.2.2.2.1) (fun _ => rfl) (fun _ h => h)
theorem op91 (H : Type) (enc : TypeId × Value → H) : OpTB H enc Tryz.prog 1048576 91 T_api_Shift.d (fun x : T_api_Shift => T_api_Shift.sz x) := OpTB.struct (ε := T_api_Shift.d) Tryz.underlying91 (by kernel_rfl) (by kernel_rfl) (OpFB.cons (by kernel_rfl) (op2 H enc) (OpFB.cons (by kernel_rfl) (op2 H enc) (OpFB.cons (by kernel_rfl) (op2 H enc) OpFB.nil))) (fun p => T_api_Shift.mk p.1 p.2.1 p.2.2.1) (fun _ => rfl) (fun _ h => h)
theorem op49 (H : Type) (enc : TypeId × Value → H) : OpTB H enc Tryz.prog 1048576 49 (fun l : List T_api_Shift => D.sl (l.map T_api_Shift.d)) (fun x : List T_api_Shift => x.length ≤ 1048576 ∧ ∀ a ∈ x, T_api_Shift.sz a) := OpTB.slice Tryz.underlying49 (of_decide_eq_true (by kernel_rfl)) (fun a => by first | rfl | kernel_rfl) (op91 H enc)
theorem contract (H : Type) (enc : TypeId × Value → H) (W : World) (base : Nat) (args : Array Value) (ds gs : List (DataW H)) (before : List MemPlace)
    (hval : ∀ (j : Nat) t v, Tryz.f7.params[j]? = some t → args[j]? = some v → Value.okWide Tryz.prog W .any base t v)
    (hW : DataW.Whole enc Tryz.prog Tryz.f7.params.toList Rows.repairAppliesSpec.vars false W args.toList ds gs before) (hL : laidMetH Tryz.prog Rows.repairAppliesUptoRow.laid W) (hwt : (DataW.weightsEach Tryz.prog (Tryz.f7.params.toList ++ (Rows.OpenSpec.upto Rows.repairAppliesSpec).bare.plain.varTypes Tryz.prog) (ds ++ gs)).all (· ≤ reachBytes) = true) (hS : W.ShapedOpen Tryz.prog) (hcond : ∀ k, (Rows.OpenSpec.upto Rows.repairAppliesSpec).cond = some k → k H (ds ++ gs) = true) :
    Calls Tryz.prog 7 args W fun e W' => ∃ v, e = .returned v ∧ Rows.repairAppliesSpec.post enc Tryz.prog Tryz.f7 false true false false W args v W' := by
  have HL := Lib.hid hL
  clear hL
  have hW' := hW
  have HS := Lib.hid hS
  clear hS
  have HT := Lib.hid hwt
  clear hwt
  obtain ⟨p, q, hA0, hV, rfl, hfz, hnd⟩ := hW
  have hA : DataW.TrodAll enc Tryz.prog W 0 (fun _ => true) true Tryz.f7.params.toList args.toList ds p := hA0
  rw [Tryz.params7] at hA hval
  obtain ⟨v0, vs0, d0, ds0, p0, q0, hargs, rfl, rfl, h0, r0⟩ := trodAll_cons hA
  obtain ⟨v1, vs1, d1, ds1, p1, q1, rfl, rfl, rfl, h1, r1⟩ := trodAll_cons r0
  obtain ⟨rfl, rfl, rfl⟩ := trodAll_nil r1
  obtain rfl : args = #[v0, v1] := by cases args with | mk l => simp at hargs; subst hargs; rfl
  obtain ⟨rfl, rfl⟩ := trodVars_none hV
  have k0 := h0
  have lt0 : ∀ x ∈ p0, x.block < W.heap.size := by obtain ⟨m, hm⟩ := k0; exact DataW.trod_lt m _ _ _ hm
  have ok0 := hval 0 37 v0 rfl rfl
  have hn0 : Rows.uptoBulk d0 ≤ 1048576 := by
    have hC := hcond _ rfl
    simp [Rows.uptoSmall, Rows.uptoBulkAll] at hC
    omega
  obtain ⟨g0, hg0, hB0⟩ := OpTB.argStruct Tryz.underlying37 (op37 H enc) (fun a => ⟨_, rfl⟩) ok0 h0 hn0
  have k1 := h1
  have lt1 : ∀ x ∈ p1, x.block < W.heap.size := by obtain ⟨m, hm⟩ := k1; exact DataW.trod_lt m _ _ _ hm
  have ok1 := hval 1 49 v1 rfl rfl
  have hn1 : Rows.uptoBulk d1 ≤ 1048576 := by
    have hC := hcond _ rfl
    simp [Rows.uptoSmall, Rows.uptoBulkAll] at hC
    omega
  obtain ⟨g1, hg1, hB1⟩ := OpTB.argSlice Tryz.underlying49 (op49 H enc) (fun a => rfl) ok1 h1 hn1
  have hC := hcond _ rfl
  clear hA0
  refine ((law_RepairApplies g0 g1 hB0 hB1).law (args := [v0, v1]) (env_of9 HL.out HS.out) rfl (fun i v d hv hd => by match i, hv, hd with | 0, hv, hd => (simp at hv hd; subst hv hd; exact hg0) | 1, hv, hd => (simp at hv hd; subst hv hd; exact hg1) | (n + 2), hv, hd => simp at hv)).mono fun e W' ⟨he, bel⟩ => ?_
  subst he
  exact ⟨_, rfl, _, _, _, [], _, [], hW', trodAll_mk1 (shut_bool Tryz.underlying4 _), (trodAll_cons_mk (Below.trod laidOut (by kernel_rfl) (of_decide_eq_true (by kernel_rfl)) k0 bel lt0) (trodAll_cons_mk (Below.trod laidOut (by kernel_rfl) (of_decide_eq_true (by kernel_rfl)) k1 bel lt1) trodAll_mk0)), rfl, bel.frame _, fun h => by cases h⟩

theorem laid_met (os : Os) : laidMet Tryz.prog Rows.repairAppliesUptoRow.laid ((laidWorld9 os).forCall (fun _ _ => 0) ⟨#[], #[.agg #[.string ⟨#[]⟩, .string ⟨#[]⟩, .int .u8 0, .bool false, .int .i64 0, .slice none 0 0, .slice none 0 0, .slice none 0 0], .slice none 0 0], []⟩).memory :=
  laidMet_of_run' 8 (by kernel_rfl) (by kernel_rfl)
theorem reads (os : Os) {H : Type} (enc : TypeId × Value → H) : ∃ places, DataW.whole enc Tryz.prog ((laidWorld9 os).forCall (fun _ _ => 0) ⟨#[], #[.agg #[.string ⟨#[]⟩, .string ⟨#[]⟩, .int .u8 0, .bool false, .int .i64 0, .slice none 0 0, .slice none 0 0, .slice none 0 0], .slice none 0 0], []⟩).memory Tryz.f7.params.toList Rows.repairAppliesSpec.vars false (#[.agg #[.string ⟨#[]⟩, .string ⟨#[]⟩, .int .u8 0, .bool false, .int .i64 0, .slice none 0 0, .slice none 0 0, .slice none 0 0], .slice none 0 0] : Array Value).toList 8 = some ([.agg [.lit (.string []), .lit (.string []), .lit (.int .u8 0), .lit (.bool false), .lit (.int .i64 0), .nil, .nil, .nil], .nil], [], places) :=
  ⟨[], by kernel_rfl⟩

theorem lifted (os : Os) (started : os.Started) (H : Type) (enc : TypeId × Value → H) (F : Stop.Interp) :
    ReturnsInHanded {} Tryz.checked os 7 .any ((Rows.OpenSpec.upto Rows.repairAppliesSpec).preRow enc Tryz.prog Tryz.f7 Rows.repairAppliesUptoRow.domain false Rows.repairAppliesUptoRow.laid) (((Rows.OpenSpec.upto Rows.repairAppliesSpec).at F).post enc Tryz.prog Tryz.f7 false true false false) := by
  obtain ⟨places, hx⟩ := reads os enc
  refine returnsInHanded_of_row (C := Tryz.checked) (s := Rows.OpenSpec.upto Rows.repairAppliesSpec) own started (by kernel_rfl) Tryz.func7
    (witness_row_at (enc := enc) (C := Tryz.checked) false (laidWorld9 os) #[.agg #[.string ⟨#[]⟩, .string ⟨#[]⟩, .int .u8 0, .bool false, .int .i64 0, .slice none 0 0, .slice none 0 0, .slice none 0 0], .slice none 0 0] rfl (by kernel_rfl) (by kernel_rfl) (by kernel_rfl)
      (OpenSpec.preRow_of_cond 8 hx (by kernel_rfl) (fun k hk => by injection hk with hk; subst hk; kernel_rfl) (by kernel_rfl) (laid_met os))) ?_
  intro W base args ds gs before hval hW _ hc hwt hL hS _
  exact contract H enc W base args ds gs before hval hW hL hwt hS hc

theorem said : Rows.RepairAppliesUptoSaid :=
  OpenClaim.holds_of_cond 7 Tryz.f7 rfl rfl rfl rfl rfl rfl rfl ⟨rfl, rfl, rfl, rfl, rfl⟩ rfl rfl rfl rfl rfl (by kernel_rfl) Tryz.func7 (by kernel_rfl)
    (of_decide_eq_true (by kernel_rfl)) (by unfold Func.isWrapper; first | (rw [if_pos (by decide +kernel)]; kernel_rfl) | (rw [if_neg (by decide +kernel)]; exact ⟨rfl, rfl⟩))
    (fun os started H enc _ F => by rw [OpenClaim.pre_eq_preRow]; exact lifted os started H enc F)

theorem plain (f : FuncId) (fn : Func) (hf : Tryz.pinned.checked.prog.funcNamed Rows.repairAppliesUptoRow.func = some f) (hfn : Tryz.pinned.checked.prog.funcs[f]? = some fn) :
    false = Tryz.pinned.checked.prog.looks [] ∧ ∀ (j : Nat) t, fn.params[j]? = some t → Tryz.pinned.checked.prog.wantsStandIn t = false := by
  obtain rfl : f = 7 := Option.some.inj ((show Tryz.prog.funcNamed Rows.repairAppliesUptoRow.func = some 7 by kernel_rfl).symm.trans hf) |>.symm
  obtain rfl : fn = Tryz.f7 := (Option.some.inj (Tryz.func7.symm.trans hfn)).symm
  refine ⟨by kernel_rfl, fun j t ht => ?_⟩
  rw [Tryz.params7] at ht
  have hm : t ∈ ([37, 49] : List TypeId) := by simpa using Array.mem_of_getElem? ht
  exact standIn_all [37, 49] (by kernel_rfl) t hm

theorem card : Rows.RepairAppliesUptoCardSaid :=
  Claim7.holds_tied_plain_at .later [] _ _ _ _ said (fun _ h => by cases h) (by kernel_rfl) (fun _ h => by cases h) repairAppliesUpto_row_tie rfl ⟨rfl, rfl⟩ (by kernel_rfl) rfl plain (by kernel_rfl)
end Go.Proofs.YtobglplholhkcaaGreatDoor.repairAppliesDone
namespace Go.Proofs.YtobglplholhkcaaGreatDoor
theorem repairAppliesUpto_card : Rows.RepairAppliesUptoCardSaid := repairAppliesDone.card
#print axioms repairAppliesUpto_card
end Go.Proofs.YtobglplholhkcaaGreatDoor
