/- SegmentCosts: for every input captionerlaw38.SegmentCosts returns true; the arguments read as they did. The listed variables are tied to the program's text by the given tie. -/
import Derived.Test.YtalfcmgcjdkolaaGreatDoorX6
import Derived.Test.YtalfcmgcjdkolaaGreatDoorX6
set_option linter.unusedSimpArgs false
set_option linter.unusedVariables false
namespace Go.Proofs.YtalfcmgcjdkolaaGreatDoor.segmentCostsDone
open Go.ChangeShapes Go.WideShapes Go.ChangeAt Go.RowKit

set_option maxRecDepth 100000
set_option maxHeartbeats 10000000
theorem op22 (H : Type) (enc : TypeId × Value → H) : OpTB H enc Tryz.prog 1048576 22 (D.int .u8) (fun x : Int => True) := OpTB.int Tryz.underlying22
theorem op9 (H : Type) (enc : TypeId × Value → H) : OpTB H enc Tryz.prog 1048576 9 D.str (fun x : List UInt8 => x.length ≤ 1048576) := OpTB.str Tryz.underlying9
theorem op2 (H : Type) (enc : TypeId × Value → H) : OpTB H enc Tryz.prog 1048576 2 (D.int .i64) (fun x : Int => True) := OpTB.int Tryz.underlying2
theorem op36 (H : Type) (enc : TypeId × Value → H) : OpTB H enc Tryz.prog 1048576 36 A_Span.d (fun x : A_Span => A_Span.sz x) := OpTB.struct (ε := A_Span.d) Tryz.underlying36 (by kernel_rfl) (by kernel_rfl) (OpFB.cons (by kernel_rfl) (op2 H enc) (OpFB.cons (by kernel_rfl) (op2 H enc) OpFB.nil)) (fun p => A_Span.mk p.1 p.2.1) (fun _ => rfl) (fun _ h => h)
theorem op65 (H : Type) (enc : TypeId × Value → H) : OpTB H enc Tryz.prog 1048576 65 A_Word.d (fun x : A_Word => A_Word.sz x) := OpTB.struct (ε := A_Word.d) Tryz.underlying65 (by kernel_rfl) (by kernel_rfl) (OpFB.cons (by kernel_rfl) (op9 H enc) (OpFB.cons (by kernel_rfl) (op36 H enc) OpFB.nil)) (fun p => A_Word.mk p.1 p.2.1) (fun _ => rfl) (fun _ h => h)
theorem op23 (H : Type) (enc : TypeId × Value → H) : OpTB H enc Tryz.prog 1048576 23 (fun l : List A_Word => D.sl (l.map A_Word.d)) (fun x : List A_Word => x.length ≤ 1048576 ∧ ∀ a ∈ x, A_Word.sz a) := OpTB.slice Tryz.underlying23 (of_decide_eq_true (by kernel_rfl)) (fun a => by first | rfl | kernel_rfl) (op65 H enc)
theorem op24 (H : Type) (enc : TypeId × Value → H) : OpTB H enc Tryz.prog 1048576 24 (fun l : List Int => D.sl (l.map (D.int .i64))) (fun x : List Int => x.length ≤ 1048576 ∧ ∀ a ∈ x, True) := OpTB.slice Tryz.underlying24 (of_decide_eq_true (by kernel_rfl)) (fun a => by first | rfl | kernel_rfl) (op2 H enc)
theorem op25 (H : Type) (enc : TypeId × Value → H) : OpTB H enc Tryz.prog 1048576 25 T_arr6_Int.d (fun x : T_arr6_Int => T_arr6_Int.sz x) := OpTB.array (ε := T_arr6_Int.d) Tryz.underlying25 (by kernel_rfl) (op2 H enc) (fun l h => T_arr6_Int.mk (l[0]'(by omega)) (l[1]'(by omega)) (l[2]'(by omega)) (l[3]'(by omega)) (l[4]'(by omega)) (l[5]'(by omega))) (fun l h => by match l, h with | [x0, x1, x2, x3, x4, x5], _ => rfl) (fun l h hA => ⟨hA (l[0]'(by omega)) (List.getElem_mem _), hA (l[1]'(by omega)) (List.getElem_mem _), hA (l[2]'(by omega)) (List.getElem_mem _), hA (l[3]'(by omega)) (List.getElem_mem _), hA (l[4]'(by omega)) (List.getElem_mem _), hA (l[5]'(by omega)) (List.getElem_mem _)⟩)
theorem op27 (H : Type) (enc : TypeId × Value → H) : OpTB H enc Tryz.prog 1048576 27 A_Pn.d (fun x : A_Pn => A_Pn.sz x) := OpTB.struct (ε := A_Pn.d) Tryz.underlying27 (by kernel_rfl) (by kernel_rfl) (OpFB.cons (by kernel_rfl) (op25 H enc) (OpFB.cons (by kernel_rfl) (op2 H enc) (OpFB.cons (by kernel_rfl) (op2 H enc) (OpFB.cons (by kernel_rfl) (op2 H enc) (OpFB.cons (by kernel_rfl) (op2 H enc) (OpFB.cons (by kernel_rfl) (op2 H enc) (OpFB.cons (by kernel_rfl) (op2 H enc) OpFB.nil))))))) (fun p => A_Pn.mk p.1 p.2.1 p.2.2.1 p.2.2.2.1 p.2.2.2.2.1 p.2.2.2.2.2.1 p.2.2.2.2.2.2.1) (fun _ => rfl) (fun _ h => h)
theorem op3 (H : Type) (enc : TypeId × Value → H) : OpTB H enc Tryz.prog 1048576 3 (D.int .i64) (fun x : Int => True) := OpTB.int Tryz.underlying3
theorem op29 (H : Type) (enc : TypeId × Value → H) : OpTB H enc Tryz.prog 1048576 29 A_Pf.d (fun x : A_Pf => A_Pf.sz x) := OpTB.struct (ε := A_Pf.d) Tryz.underlying29 (by kernel_rfl) (by kernel_rfl) (OpFB.cons (by kernel_rfl) (op9 H enc) (OpFB.cons (by kernel_rfl) (op2 H enc) (OpFB.cons (by kernel_rfl) (op2 H enc) (OpFB.cons (by kernel_rfl) (op2 H enc) (OpFB.cons (by kernel_rfl) (op2 H enc) (OpFB.cons (by kernel_rfl) (op2 H enc) (OpFB.cons (by kernel_rfl) (op2 H enc) (OpFB.cons (by kernel_rfl) (op3 H enc) (OpFB.cons (by kernel_rfl) (op3 H enc) (OpFB.cons (by kernel_rfl) (op9 H enc) (OpFB.cons (by kernel_rfl) (op3 H enc) (OpFB.cons (by kernel_rfl) (op3 H enc) (OpFB.cons (by kernel_rfl) (op3 H enc) (OpFB.cons (by kernel_rfl) (op3 H enc) OpFB.nil)))))))))))))) (fun p => A_Pf.mk p.1 p.2.1 p.2.2.1 p.2.2.2.1 p.2.2.2.2.1 p.2.2.2.2.2.1 p.2.2.2.2.2.2.1 p.2.2.2.2.2.2.2.1 p.2.2.2.2.2.2.2.2.1 p.2.2.2.2.2.2.2.2.2.1 p.2.2.2.2.2.2.2.2.2.2.1 p.2.2.2.2.2.2.2.2.2.2.2.1 p.2.2.2.2.2.2.2.2.2.2.2.2.1 p.2.2.2.2.2.2.2.2.2.2.2.2.2.1) (fun _ => rfl) (fun _ h => h)
theorem op31 (H : Type) (enc : TypeId × Value → H) : OpTB H enc Tryz.prog 1048576 31 A_Sh.d (fun x : A_Sh => A_Sh.sz x) := OpTB.struct (ε := A_Sh.d) Tryz.underlying31 (by kernel_rfl) (by kernel_rfl) (OpFB.cons (by kernel_rfl) (op22 H enc) (OpFB.cons (by kernel_rfl) (op23 H enc) (OpFB.cons (by kernel_rfl) (op24 H enc) (OpFB.cons (by kernel_rfl) (op27 H enc) (OpFB.cons (by kernel_rfl) (op29 H enc) OpFB.nil))))) (fun p => A_Sh.mk p.1 p.2.1 p.2.2.1 p.2.2.2.1 p.2.2.2.2.1) (fun _ => rfl) (fun _ h => h)
theorem op34 (H : Type) (enc : TypeId × Value → H) : OpTB H enc Tryz.prog 1048576 34 (fun l : List Int => D.sl (l.map (D.int .i64))) (fun x : List Int => x.length ≤ 1048576 ∧ ∀ a ∈ x, True) := OpTB.slice Tryz.underlying34 (of_decide_eq_true (by kernel_rfl)) (fun a => by first | rfl | kernel_rfl) (op3 H enc)
theorem op38 (H : Type) (enc : TypeId × Value → H) : OpTB H enc Tryz.prog 1048576 38 A_Part.d (fun x : A_Part => A_Part.sz x) := OpTB.struct (ε := A_Part.d) Tryz.underlying38 (by kernel_rfl) (by kernel_rfl) (OpFB.cons (by kernel_rfl) (op3 H enc) (OpFB.cons (by kernel_rfl) (op3 H enc) (OpFB.cons (by kernel_rfl) (op34 H enc) (OpFB.cons (by kernel_rfl) (op36 H enc) OpFB.nil)))) (fun p => A_Part.mk p.1 p.2.1 p.2.2.1 p.2.2.2.1) (fun _ => rfl) (fun _ h => h)
theorem op45 (H : Type) (enc : TypeId × Value → H) : OpTB H enc Tryz.prog 1048576 45 (fun l : List A_Part => D.sl (l.map A_Part.d)) (fun x : List A_Part => x.length ≤ 1048576 ∧ ∀ a ∈ x, A_Part.sz a) := OpTB.slice Tryz.underlying45 (of_decide_eq_true (by kernel_rfl)) (fun a => by first | rfl | kernel_rfl) (op38 H enc)
theorem contract (H : Type) (enc : TypeId × Value → H) (W : World) (base : Nat) (args : Array Value) (ds gs : List (DataW H)) (before : List MemPlace)
    (hval : ∀ (j : Nat) t v, Tryz.f5.params[j]? = some t → args[j]? = some v → Value.okWide Tryz.prog W .any base t v)
    (hW : DataW.Whole enc Tryz.prog Tryz.f5.params.toList Rows.segmentCostsSpec.vars false W args.toList ds gs before) (hL : laidMetH Tryz.prog Rows.segmentCostsUptoRow.laid W) (hwt : (DataW.weightsEach Tryz.prog (Tryz.f5.params.toList ++ (Rows.OpenSpec.upto Rows.segmentCostsSpec).bare.plain.varTypes Tryz.prog) (ds ++ gs)).all (· ≤ reachBytes) = true) (hS : W.ShapedOpen Tryz.prog) (hcond : ∀ k, (Rows.OpenSpec.upto Rows.segmentCostsSpec).cond = some k → k H (ds ++ gs) = true) :
    Calls Tryz.prog 5 args W fun e W' => ∃ v, e = .returned v ∧ Rows.segmentCostsSpec.post enc Tryz.prog Tryz.f5 false true false false W args v W' := by
  have HL := Lib.hid hL
  clear hL
  have hW' := hW
  have HS := Lib.hid hS
  clear hS
  have HT := Lib.hid hwt
  clear hwt
  obtain ⟨p, q, hA0, hV, rfl, hfz, hnd⟩ := hW
  have hA : DataW.TrodAll enc Tryz.prog W 0 (fun _ => true) true Tryz.f5.params.toList args.toList ds p := hA0
  rw [Tryz.params5] at hA hval
  obtain ⟨v0, vs0, d0, ds0, p0, q0, hargs, rfl, rfl, h0, r0⟩ := trodAll_cons hA
  obtain ⟨v1, vs1, d1, ds1, p1, q1, rfl, rfl, rfl, h1, r1⟩ := trodAll_cons r0
  obtain ⟨rfl, rfl, rfl⟩ := trodAll_nil r1
  obtain rfl : args = #[v0, v1] := by cases args with | mk l => simp at hargs; subst hargs; rfl
  obtain ⟨rfl, rfl⟩ := trodVars_none hV
  have k0 := h0
  have lt0 : ∀ x ∈ p0, x.block < W.heap.size := by obtain ⟨m, hm⟩ := k0; exact DataW.trod_lt m _ _ _ hm
  have ok0 := hval 0 31 v0 rfl rfl
  have hn0 : Rows.uptoBulk d0 ≤ 1048576 := by
    have hC := hcond _ rfl
    simp [Rows.uptoSmall, Rows.uptoBulkAll] at hC
    omega
  obtain ⟨g0, hg0, hB0⟩ := OpTB.argStruct Tryz.underlying31 (op31 H enc) (fun a => ⟨_, rfl⟩) ok0 h0 hn0
  have k1 := h1
  have lt1 : ∀ x ∈ p1, x.block < W.heap.size := by obtain ⟨m, hm⟩ := k1; exact DataW.trod_lt m _ _ _ hm
  have ok1 := hval 1 45 v1 rfl rfl
  have hn1 : Rows.uptoBulk d1 ≤ 1048576 := by
    have hC := hcond _ rfl
    simp [Rows.uptoSmall, Rows.uptoBulkAll] at hC
    omega
  obtain ⟨g1, hg1, hB1⟩ := OpTB.argSlice Tryz.underlying45 (op45 H enc) (fun a => rfl) ok1 h1 hn1
  have hC := hcond _ rfl
  clear hA0
  refine ((law_SegmentCosts g0 g1 hB0 hB1).law (args := [v0, v1]) (env_of9 HL.out HS.out) rfl (fun i v d hv hd => by match i, hv, hd with | 0, hv, hd => (simp at hv hd; subst hv hd; exact hg0) | 1, hv, hd => (simp at hv hd; subst hv hd; exact hg1) | (n + 2), hv, hd => simp at hv)).mono fun e W' ⟨he, bel⟩ => ?_
  subst he
  exact ⟨_, rfl, _, _, _, [], _, [], hW', trodAll_mk1 (shut_bool Tryz.underlying4 _), (trodAll_cons_mk (Below.trod laidOut (by kernel_rfl) (of_decide_eq_true (by kernel_rfl)) k0 bel lt0) (trodAll_cons_mk (Below.trod laidOut (by kernel_rfl) (of_decide_eq_true (by kernel_rfl)) k1 bel lt1) trodAll_mk0)), rfl, bel.frame _, fun h => by cases h⟩

theorem laid_met (os : Os) : laidMet Tryz.prog Rows.segmentCostsUptoRow.laid ((laidWorld9 os).forCall (fun _ _ => 0) ⟨#[], #[.agg #[.int .u8 0, .slice none 0 0, .slice none 0 0, .int .i64 0, .int .i64 0, .int .i64 0, .int .i64 0, .int .i64 0, .int .i64 0, .int .i64 0, .int .i64 0, .int .i64 0, .int .i64 0, .int .i64 0, .int .i64 0, .string ⟨#[]⟩, .int .i64 0, .int .i64 0, .int .i64 0, .int .i64 0, .int .i64 0, .int .i64 0, .int .i64 0, .int .i64 0, .string ⟨#[]⟩, .int .i64 0, .int .i64 0, .int .i64 0, .int .i64 0], .slice none 0 0], []⟩).memory :=
  laidMet_of_run' 8 (by kernel_rfl) (by kernel_rfl)
theorem reads (os : Os) {H : Type} (enc : TypeId × Value → H) : ∃ places, DataW.whole enc Tryz.prog ((laidWorld9 os).forCall (fun _ _ => 0) ⟨#[], #[.agg #[.int .u8 0, .slice none 0 0, .slice none 0 0, .int .i64 0, .int .i64 0, .int .i64 0, .int .i64 0, .int .i64 0, .int .i64 0, .int .i64 0, .int .i64 0, .int .i64 0, .int .i64 0, .int .i64 0, .int .i64 0, .string ⟨#[]⟩, .int .i64 0, .int .i64 0, .int .i64 0, .int .i64 0, .int .i64 0, .int .i64 0, .int .i64 0, .int .i64 0, .string ⟨#[]⟩, .int .i64 0, .int .i64 0, .int .i64 0, .int .i64 0], .slice none 0 0], []⟩).memory Tryz.f5.params.toList Rows.segmentCostsSpec.vars false (#[.agg #[.int .u8 0, .slice none 0 0, .slice none 0 0, .int .i64 0, .int .i64 0, .int .i64 0, .int .i64 0, .int .i64 0, .int .i64 0, .int .i64 0, .int .i64 0, .int .i64 0, .int .i64 0, .int .i64 0, .int .i64 0, .string ⟨#[]⟩, .int .i64 0, .int .i64 0, .int .i64 0, .int .i64 0, .int .i64 0, .int .i64 0, .int .i64 0, .int .i64 0, .string ⟨#[]⟩, .int .i64 0, .int .i64 0, .int .i64 0, .int .i64 0], .slice none 0 0] : Array Value).toList 8 = some ([.agg [.lit (.int .u8 0), .nil, .nil, .agg [.agg [.lit (.int .i64 0), .lit (.int .i64 0), .lit (.int .i64 0), .lit (.int .i64 0), .lit (.int .i64 0), .lit (.int .i64 0)], .lit (.int .i64 0), .lit (.int .i64 0), .lit (.int .i64 0), .lit (.int .i64 0), .lit (.int .i64 0), .lit (.int .i64 0)], .agg [.lit (.string []), .lit (.int .i64 0), .lit (.int .i64 0), .lit (.int .i64 0), .lit (.int .i64 0), .lit (.int .i64 0), .lit (.int .i64 0), .lit (.int .i64 0), .lit (.int .i64 0), .lit (.string []), .lit (.int .i64 0), .lit (.int .i64 0), .lit (.int .i64 0), .lit (.int .i64 0)]], .nil], [], places) :=
  ⟨[], by kernel_rfl⟩

theorem lifted (os : Os) (started : os.Started) (H : Type) (enc : TypeId × Value → H) (F : Stop.Interp) :
    ReturnsInHanded {} Tryz.checked os 5 .any ((Rows.OpenSpec.upto Rows.segmentCostsSpec).preRow enc Tryz.prog Tryz.f5 Rows.segmentCostsUptoRow.domain false Rows.segmentCostsUptoRow.laid) (((Rows.OpenSpec.upto Rows.segmentCostsSpec).at F).post enc Tryz.prog Tryz.f5 false true false false) := by
  obtain ⟨places, hx⟩ := reads os enc
  refine returnsInHanded_of_row (C := Tryz.checked) (s := Rows.OpenSpec.upto Rows.segmentCostsSpec) own started (by kernel_rfl) Tryz.func5
    (witness_row_at (enc := enc) (C := Tryz.checked) false (laidWorld9 os) #[.agg #[.int .u8 0, .slice none 0 0, .slice none 0 0, .int .i64 0, .int .i64 0, .int .i64 0, .int .i64 0, .int .i64 0, .int .i64 0, .int .i64 0, .int .i64 0, .int .i64 0, .int .i64 0, .int .i64 0, .int .i64 0, .string ⟨#[]⟩, .int .i64 0, .int .i64 0, .int .i64 0, .int .i64 0, .int .i64 0, .int .i64 0, .int .i64 0, .int .i64 0, .string ⟨#[]⟩, .int .i64 0, .int .i64 0, .int .i64 0, .int .i64 0], .slice none 0 0] rfl (by kernel_rfl) (by kernel_rfl) (by kernel_rfl)
      (OpenSpec.preRow_of_cond 8 hx (by kernel_rfl) (fun k hk => by injection hk with hk; subst hk; kernel_rfl) (by kernel_rfl) (laid_met os))) ?_
  intro W base args ds gs before hval hW _ hc hwt hL hS _
  exact contract H enc W base args ds gs before hval hW hL hwt hS hc

theorem said : Rows.SegmentCostsUptoSaid :=
  OpenClaim.holds_of_cond 5 Tryz.f5 rfl rfl rfl rfl rfl rfl rfl ⟨rfl, rfl, rfl, rfl, rfl⟩ rfl rfl rfl rfl rfl (by kernel_rfl) Tryz.func5 (by kernel_rfl)
    (of_decide_eq_true (by kernel_rfl)) (by unfold Func.isWrapper; first | (rw [if_pos (by decide +kernel)]; kernel_rfl) | (rw [if_neg (by decide +kernel)]; exact ⟨rfl, rfl⟩))
    (fun os started H enc _ F => by rw [OpenClaim.pre_eq_preRow]; exact lifted os started H enc F)

theorem plain (f : FuncId) (fn : Func) (hf : Tryz.pinned.checked.prog.funcNamed Rows.segmentCostsUptoRow.func = some f) (hfn : Tryz.pinned.checked.prog.funcs[f]? = some fn) :
    false = Tryz.pinned.checked.prog.looks [] ∧ ∀ (j : Nat) t, fn.params[j]? = some t → Tryz.pinned.checked.prog.wantsStandIn t = false := by
  obtain rfl : f = 5 := Option.some.inj ((show Tryz.prog.funcNamed Rows.segmentCostsUptoRow.func = some 5 by kernel_rfl).symm.trans hf) |>.symm
  obtain rfl : fn = Tryz.f5 := (Option.some.inj (Tryz.func5.symm.trans hfn)).symm
  refine ⟨by kernel_rfl, fun j t ht => ?_⟩
  rw [Tryz.params5] at ht
  have hm : t ∈ ([31, 45] : List TypeId) := by simpa using Array.mem_of_getElem? ht
  exact standIn_all [31, 45] (by kernel_rfl) t hm

theorem card : Rows.SegmentCostsUptoCardSaid :=
  Claim7.holds_tied_plain_at .later [] _ _ _ _ said (fun _ h => by cases h) (by kernel_rfl) (fun _ h => by cases h) segmentCostsUpto_row_tie rfl ⟨rfl, rfl⟩ (by kernel_rfl) rfl plain (by kernel_rfl)
end Go.Proofs.YtalfcmgcjdkolaaGreatDoor.segmentCostsDone
namespace Go.Proofs.YtalfcmgcjdkolaaGreatDoor
theorem segmentCostsUpto_card : Rows.SegmentCostsUptoCardSaid := segmentCostsDone.card
#print axioms segmentCostsUpto_card
end Go.Proofs.YtalfcmgcjdkolaaGreatDoor
