/- ReadingFits: for every input captionerlaw40.ReadingFits returns true; the arguments read as they did. The listed variables are tied to the program's text by the given tie. -/
import Derived.Test.YtipdmcpmedmicaaDoorLL40a
set_option linter.unusedSimpArgs false
set_option linter.unusedVariables false
namespace Go.Proofs.YtipdmcpmedmicaaDoor.readingFitsDone
open Go.ChangeShapes Go.WideShapes Go.ChangeAt Go.RowKit

set_option maxRecDepth 100000
theorem op22 (H : Type) (enc : TypeId × Value → H) : OpT H enc Tryd.prog 22 (D.int .u8) := OpT.int Tryd.underlying22
theorem op2 (H : Type) (enc : TypeId × Value → H) : OpT H enc Tryd.prog 2 (D.int .i64) := OpT.int Tryd.underlying2
theorem op52 (H : Type) (enc : TypeId × Value → H) : OpT H enc Tryd.prog 52 T_arr3_Int.d := OpT.array (ε := T_arr3_Int.d) Tryd.underlying52 (by kernel_rfl) (op2 H enc) (fun l h => T_arr3_Int.mk (l[0]'(by omega)) (l[1]'(by omega)) (l[2]'(by omega))) (fun l h => by match l, h with | [x0, x1, x2], _ => rfl)
theorem contract (H : Type) (enc : TypeId × Value → H) (W : World) (base : Nat) (args : Array Value) (ds gs : List (DataW H)) (before : List MemPlace)
    (hval : ∀ (j : Nat) t v, Tryd.f6.params[j]? = some t → args[j]? = some v → Value.okWide Tryd.prog W .any base t v)
    (hW : DataW.Whole enc Tryd.prog Tryd.f6.params.toList Rows.readingFitsSpec.vars false W args.toList ds gs before) (hL : laidMetH Tryd.prog Rows.readingFitsRow.laid W) (hwt : (DataW.weightsEach Tryd.prog (Tryd.f6.params.toList ++ (OpenSpec.ofChange Rows.readingFitsSpec).bare.plain.varTypes Tryd.prog) (ds ++ gs)).all (· ≤ reachBytes) = true) (hS : W.ShapedOpen Tryd.prog) :
    Calls Tryd.prog 6 args W fun e W' => ∃ v, e = .returned v ∧ Rows.readingFitsSpec.post enc Tryd.prog Tryd.f6 false true false false W args v W' := by
  have HL := Lib.hid hL
  clear hL
  have hW' := hW
  have HS := Lib.hid hS
  clear hS
  have HT := Lib.hid hwt
  clear hwt
  obtain ⟨p, q, hA0, hV, rfl, hfz, hnd⟩ := hW
  have hA : DataW.TrodAll enc Tryd.prog W 0 (fun _ => true) true Tryd.f6.params.toList args.toList ds p := hA0
  rw [Tryd.params6] at hA hval
  obtain ⟨v0, vs0, d0, ds0, p0, q0, hargs, rfl, rfl, h0, r0⟩ := trodAll_cons hA
  obtain ⟨v1, vs1, d1, ds1, p1, q1, rfl, rfl, rfl, h1, r1⟩ := trodAll_cons r0
  obtain ⟨rfl, rfl, rfl⟩ := trodAll_nil r1
  obtain rfl : args = #[v0, v1] := by cases args with | mk l => simp at hargs; subst hargs; rfl
  obtain ⟨rfl, rfl⟩ := trodVars_none hV
  have k0 := h0
  have lt0 : ∀ x ∈ p0, x.block < W.heap.size := by obtain ⟨m, hm⟩ := k0; exact DataW.trod_lt m _ _ _ hm
  have ok0 := hval 0 22 v0 rfl rfl
  obtain ⟨g0, hg0⟩ := OpT.argInt Tryd.underlying22 (op22 H enc) (fun a => rfl) ok0 h0
  have k1 := h1
  have lt1 : ∀ x ∈ p1, x.block < W.heap.size := by obtain ⟨m, hm⟩ := k1; exact DataW.trod_lt m _ _ _ hm
  have ok1 := hval 1 52 v1 rfl rfl
  obtain ⟨g1, hg1⟩ := OpT.argArray Tryd.underlying52 (op52 H enc) (fun a => ⟨_, rfl⟩) ok1 h1
  clear hA0
  refine ((law_ReadingFits g0 g1).law (args := [v0, v1]) (env_of40 HL.out HS.out) rfl (fun i v d hv hd => by match i, hv, hd with | 0, hv, hd => (simp at hv hd; subst hv hd; exact hg0) | 1, hv, hd => (simp at hv hd; subst hv hd; exact hg1) | (n + 2), hv, hd => simp at hv)).mono fun e W' ⟨he, bel⟩ => ?_
  subst he
  exact ⟨_, rfl, _, _, _, [], _, [], hW', trodAll_mk1 (shut_bool Tryd.underlying4 _), (trodAll_cons_mk (Below.trod laidOut (by kernel_rfl) (of_decide_eq_true (by kernel_rfl)) k0 bel lt0) (trodAll_cons_mk (Below.trod laidOut (by kernel_rfl) (of_decide_eq_true (by kernel_rfl)) k1 bel lt1) trodAll_mk0)), rfl, bel.frame _, fun h => by cases h⟩

theorem laid_met (os : Os) : laidMet Tryd.prog Rows.readingFitsRow.laid ((laidWorld40 os).forCall (fun _ _ => 0) ⟨#[], #[.int .u8 0, .agg #[.int .i64 0, .int .i64 0, .int .i64 0]], []⟩).memory :=
  laidMet_of_run' 8 (by kernel_rfl) (by kernel_rfl)
theorem reads (os : Os) {H : Type} (enc : TypeId × Value → H) : ∃ places, DataW.whole enc Tryd.prog ((laidWorld40 os).forCall (fun _ _ => 0) ⟨#[], #[.int .u8 0, .agg #[.int .i64 0, .int .i64 0, .int .i64 0]], []⟩).memory Tryd.f6.params.toList Rows.readingFitsSpec.vars false (#[.int .u8 0, .agg #[.int .i64 0, .int .i64 0, .int .i64 0]] : Array Value).toList 8 = some ([.lit (.int .u8 0), .agg [.lit (.int .i64 0), .lit (.int .i64 0), .lit (.int .i64 0)]], [], places) :=
  ⟨[], by kernel_rfl⟩

theorem lifted (os : Os) (started : os.Started) (H : Type) (enc : TypeId × Value → H) (F : Stop.Interp) :
    ReturnsInHanded {} Tryd.checked os 6 .any ((OpenSpec.ofChange Rows.readingFitsSpec).preRow enc Tryd.prog Tryd.f6 Rows.readingFitsRow.domain false Rows.readingFitsRow.laid) (((OpenSpec.ofChange Rows.readingFitsSpec).at F).post enc Tryd.prog Tryd.f6 false true false false) := by
  obtain ⟨places, hx⟩ := reads os enc
  refine returnsInHanded_of_row (C := Tryd.checked) (s := OpenSpec.ofChange Rows.readingFitsSpec) own started (by kernel_rfl) Tryd.func6
    (witness_row_at (enc := enc) (C := Tryd.checked) false (laidWorld40 os) #[.int .u8 0, .agg #[.int .i64 0, .int .i64 0, .int .i64 0]] rfl (by kernel_rfl) (by kernel_rfl) (by kernel_rfl)
      (OpenSpec.preRow_of_cond 8 hx (by kernel_rfl) (fun k hk => by cases hk) (by kernel_rfl) (laid_met os))) ?_
  intro W base args ds gs before hval hW _ _ hwt hL hS _
  exact contract H enc W base args ds gs before hval hW hL hwt hS

theorem said : Rows.ReadingFitsSaid :=
  OpenClaim.holds_of_cond 6 Tryd.f6 rfl rfl rfl rfl rfl rfl rfl ⟨rfl, rfl, rfl, rfl, rfl⟩ rfl rfl rfl rfl rfl (by kernel_rfl) Tryd.func6 (by kernel_rfl)
    (of_decide_eq_true (by kernel_rfl)) (by unfold Func.isWrapper; first | (rw [if_pos (by decide +kernel)]; kernel_rfl) | (rw [if_neg (by decide +kernel)]; exact ⟨rfl, rfl⟩))
    (fun os started H enc _ F => by rw [OpenClaim.pre_eq_preRow]; exact lifted os started H enc F)

theorem plain (f : FuncId) (fn : Func) (hf : Tryd.pinned.checked.prog.funcNamed Rows.readingFitsRow.func = some f) (hfn : Tryd.pinned.checked.prog.funcs[f]? = some fn) :
    true = Tryd.pinned.checked.prog.looks [] ∧ ∀ (j : Nat) t, fn.params[j]? = some t → Tryd.pinned.checked.prog.wantsStandIn t = false := by
  obtain rfl : f = 6 := Option.some.inj ((show Tryd.prog.funcNamed Rows.readingFitsRow.func = some 6 by kernel_rfl).symm.trans hf) |>.symm
  obtain rfl : fn = Tryd.f6 := (Option.some.inj (Tryd.func6.symm.trans hfn)).symm
  refine ⟨by kernel_rfl, fun j t ht => ?_⟩
  rw [Tryd.params6] at ht
  have hm : t ∈ ([22, 52] : List TypeId) := by simpa using Array.mem_of_getElem? ht
  exact standIn_all [22, 52] (by kernel_rfl) t hm

theorem card : Rows.ReadingFitsCardSaid :=
  Claim7.holds_tied_plain_at .later [] _ _ _ _ said (fun _ h => by cases h) (by kernel_rfl) (fun _ h => by cases h) readingFits_row_tie rfl ⟨rfl, rfl⟩ (by kernel_rfl) rfl plain (by kernel_rfl)
end Go.Proofs.YtipdmcpmedmicaaDoor.readingFitsDone
namespace Go.Proofs.YtipdmcpmedmicaaDoor
theorem readingFits_card : Rows.ReadingFitsCardSaid := readingFitsDone.card
#print axioms readingFits_card
end Go.Proofs.YtipdmcpmedmicaaDoor
