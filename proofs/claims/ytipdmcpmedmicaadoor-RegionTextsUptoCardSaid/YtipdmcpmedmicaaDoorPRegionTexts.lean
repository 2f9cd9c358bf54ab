/- RegionTexts: for every input captionerlaw10.RegionTexts returns true; the arguments read as they did. The listed variables are tied to the program's text by the given tie. -/
import Derived.Test.YtipdmcpmedmicaaDoorLL10t
import Derived.ChangeMaps5
set_option linter.unusedSimpArgs false
set_option linter.unusedVariables false
namespace Go.Proofs.YtipdmcpmedmicaaDoor.regionTextsDone
open Go.ChangeShapes Go.WideShapes Go.ChangeAt Go.RowKit

set_option maxRecDepth 100000
theorem op9 (H : Type) (enc : TypeId × Value → H) : OpT H enc Tryd.prog 9 D.str := OpT.str Tryd.underlying9
theorem op3 (H : Type) (enc : TypeId × Value → H) : OpT H enc Tryd.prog 3 (D.int .i64) := OpT.int Tryd.underlying3
theorem op59 (H : Type) (enc : TypeId × Value → H) : OpT H enc Tryd.prog 59 (D.int .u8) := OpT.int Tryd.underlying59
theorem op4 (H : Type) (enc : TypeId × Value → H) : OpT H enc Tryd.prog 4 D.bool := OpT.bool Tryd.underlying4
theorem op61 (H : Type) (enc : TypeId × Value → H) : OpT H enc Tryd.prog 61 T_api_Region.d := OpT.struct (ε := T_api_Region.d) Tryd.underlying61 (by kernel_rfl) (by kernel_rfl) (OpF.cons (by kernel_rfl) (op9 H enc) (OpF.cons (by kernel_rfl) (op3 H enc) (OpF.cons (by kernel_rfl) (op3 H enc) (OpF.cons (by kernel_rfl) (op3 H enc) (OpF.cons (by kernel_rfl) (op3 H enc) (OpF.cons (by kernel_rfl) (op59 H enc) (OpF.cons (by kernel_rfl) (op4 H enc) OpF.nil))))))) (fun p => T_api_Region.mk p.1 p.2.1 p.2.2.1 p.2.2.2.1 p.2.2.2.2.1 p.2.2.2.2.2.1 p.2.2.2.2.2.2.1) (fun _ => rfl)
theorem contract (H : Type) (enc : TypeId × Value → H) (W : World) (base : Nat) (args : Array Value) (ds gs : List (DataW H)) (before : List MemPlace)
    (hval : ∀ (j : Nat) t v, Tryd.f8.params[j]? = some t → args[j]? = some v → Value.okWide Tryd.prog W .any base t v)
    (hW : DataW.Whole enc Tryd.prog Tryd.f8.params.toList Rows.regionTextsSpec.vars false W args.toList ds gs before) (hL : laidMetH Tryd.prog Rows.regionTextsUptoRow.laid W) (hwt : (DataW.weightsEach Tryd.prog (Tryd.f8.params.toList ++ (Rows.OpenSpec.upto Rows.regionTextsSpec).bare.plain.varTypes Tryd.prog) (ds ++ gs)).all (· ≤ reachBytes) = true) (hS : W.ShapedOpen Tryd.prog) (hcond : ∀ k, (Rows.OpenSpec.upto Rows.regionTextsSpec).cond = some k → k H (ds ++ gs) = true) :
    Calls Tryd.prog 8 args W fun e W' => ∃ v, e = .returned v ∧ Rows.regionTextsSpec.post enc Tryd.prog Tryd.f8 false true false false W args v W' := by
  have HL := Lib.hid hL
  clear hL
  have hW' := hW
  have HS := Lib.hid hS
  clear hS
  have HT := Lib.hid hwt
  clear hwt
  obtain ⟨p, q, hA0, hV, rfl, hfz, hnd⟩ := hW
  have hA : DataW.TrodAll enc Tryd.prog W 0 (fun _ => true) true Tryd.f8.params.toList args.toList ds p := hA0
  rw [Tryd.params8] at hA hval
  obtain ⟨v0, vs0, d0, ds0, p0, q0, hargs, rfl, rfl, h0, r0⟩ := trodAll_cons hA
  obtain ⟨v1, vs1, d1, ds1, p1, q1, rfl, rfl, rfl, h1, r1⟩ := trodAll_cons r0
  obtain ⟨rfl, rfl, rfl⟩ := trodAll_nil r1
  obtain rfl : args = #[v0, v1] := by cases args with | mk l => simp at hargs; subst hargs; rfl
  obtain ⟨rfl, rfl⟩ := trodVars_none hV
  have k0 := h0
  have lt0 : ∀ x ∈ p0, x.block < W.heap.size := by obtain ⟨m, hm⟩ := k0; exact DataW.trod_lt m _ _ _ hm
  have ok0 := hval 0 61 v0 rfl rfl
  obtain ⟨g0, hg0⟩ := OpT.argStruct Tryd.underlying61 (op61 H enc) (fun a => ⟨_, rfl⟩) ok0 h0
  have k1 := h1
  have lt1 : ∀ x ∈ p1, x.block < W.heap.size := by obtain ⟨m, hm⟩ := k1; exact DataW.trod_lt m _ _ _ hm
  have ok1 := hval 1 9 v1 rfl rfl
  obtain ⟨g1, hg1⟩ := OpT.argStr Tryd.underlying9 (op9 H enc) (fun a => rfl) ok1 h1
  obtain ⟨s1, e1, ed1, _, _⟩ := Go.ChangeMaps.open_string Tryd.underlying9 ok1 h1
  have hT := HT.out
  rw [Tryd.params8] at hT
  have hC := hcond _ rfl
  have hl1 : g1.length ≤ 1048576 := by
    obtain ⟨hv, _⟩ := rep_str1 hg1
    rw [e1] at hv
    injection hv with hv
    rw [ed1] at hC
    simp [Rows.uptoSmall, Rows.uptoBulkAll, Rows.uptoBulk, hv] at hC
    omega
  clear hA0
  refine ((law_RegionTexts g0 g1 hl1).law (args := [v0, v1]) (env_of7 HL.out HS.out) rfl (fun i v d hv hd => by match i, hv, hd with | 0, hv, hd => (simp at hv hd; subst hv hd; exact hg0) | 1, hv, hd => (simp at hv hd; subst hv hd; exact hg1) | (n + 2), hv, hd => simp at hv)).mono fun e W' ⟨he, bel⟩ => ?_
  subst he
  exact ⟨_, rfl, _, _, _, [], _, [], hW', trodAll_mk1 (shut_bool Tryd.underlying4 _), (trodAll_cons_mk (Below.trod laidOut (by kernel_rfl) (of_decide_eq_true (by kernel_rfl)) k0 bel lt0) (trodAll_cons_mk (Below.trod laidOut (by kernel_rfl) (of_decide_eq_true (by kernel_rfl)) k1 bel lt1) trodAll_mk0)), rfl, bel.frame _, fun h => by cases h⟩

theorem laid_met (os : Os) : laidMet Tryd.prog Rows.regionTextsUptoRow.laid ((laidWorld7 os).forCall (fun _ _ => 0) ⟨#[], #[.agg #[.string ⟨#[]⟩, .int .i64 0, .int .i64 0, .int .i64 0, .int .i64 0, .int .u8 0, .bool false], .string ⟨#[]⟩], []⟩).memory :=
  laidMet_of_run' 8 (by kernel_rfl) (by kernel_rfl)
theorem reads (os : Os) {H : Type} (enc : TypeId × Value → H) : ∃ places, DataW.whole enc Tryd.prog ((laidWorld7 os).forCall (fun _ _ => 0) ⟨#[], #[.agg #[.string ⟨#[]⟩, .int .i64 0, .int .i64 0, .int .i64 0, .int .i64 0, .int .u8 0, .bool false], .string ⟨#[]⟩], []⟩).memory Tryd.f8.params.toList Rows.regionTextsSpec.vars false (#[.agg #[.string ⟨#[]⟩, .int .i64 0, .int .i64 0, .int .i64 0, .int .i64 0, .int .u8 0, .bool false], .string ⟨#[]⟩] : Array Value).toList 8 = some ([.agg [.lit (.string []), .lit (.int .i64 0), .lit (.int .i64 0), .lit (.int .i64 0), .lit (.int .i64 0), .lit (.int .u8 0), .lit (.bool false)], .lit (.string [])], [], places) :=
  ⟨[], by kernel_rfl⟩

theorem lifted (os : Os) (started : os.Started) (H : Type) (enc : TypeId × Value → H) (F : Stop.Interp) :
    ReturnsInHanded {} Tryd.checked os 8 .any ((Rows.OpenSpec.upto Rows.regionTextsSpec).preRow enc Tryd.prog Tryd.f8 Rows.regionTextsUptoRow.domain false Rows.regionTextsUptoRow.laid) (((Rows.OpenSpec.upto Rows.regionTextsSpec).at F).post enc Tryd.prog Tryd.f8 false true false false) := by
  obtain ⟨places, hx⟩ := reads os enc
  refine returnsInHanded_of_row (C := Tryd.checked) (s := Rows.OpenSpec.upto Rows.regionTextsSpec) own started (by kernel_rfl) Tryd.func8
    (witness_row_at (enc := enc) (C := Tryd.checked) false (laidWorld7 os) #[.agg #[.string ⟨#[]⟩, .int .i64 0, .int .i64 0, .int .i64 0, .int .i64 0, .int .u8 0, .bool false], .string ⟨#[]⟩] rfl (by kernel_rfl) (by kernel_rfl) (by kernel_rfl)
      (OpenSpec.preRow_of_cond 8 hx (by kernel_rfl) (fun k hk => by injection hk with hk; subst hk; rfl) (by kernel_rfl) (laid_met os))) ?_
  intro W base args ds gs before hval hW _ hc hwt hL hS _
  exact contract H enc W base args ds gs before hval hW hL hwt hS hc

theorem said : Rows.RegionTextsUptoSaid :=
  OpenClaim.holds_of_cond 8 Tryd.f8 rfl rfl rfl rfl rfl rfl rfl ⟨rfl, rfl, rfl, rfl, rfl⟩ rfl rfl rfl rfl rfl (by kernel_rfl) Tryd.func8 (by kernel_rfl)
    (of_decide_eq_true (by kernel_rfl)) (by unfold Func.isWrapper; first | (rw [if_pos (by decide +kernel)]; kernel_rfl) | (rw [if_neg (by decide +kernel)]; exact ⟨rfl, rfl⟩))
    (fun os started H enc _ F => by rw [OpenClaim.pre_eq_preRow]; exact lifted os started H enc F)

theorem plain (f : FuncId) (fn : Func) (hf : Tryd.pinned.checked.prog.funcNamed Rows.regionTextsUptoRow.func = some f) (hfn : Tryd.pinned.checked.prog.funcs[f]? = some fn) :
    true = Tryd.pinned.checked.prog.looks [] ∧ ∀ (j : Nat) t, fn.params[j]? = some t → Tryd.pinned.checked.prog.wantsStandIn t = false := by
  obtain rfl : f = 8 := Option.some.inj ((show Tryd.prog.funcNamed Rows.regionTextsUptoRow.func = some 8 by kernel_rfl).symm.trans hf) |>.symm
  obtain rfl : fn = Tryd.f8 := (Option.some.inj (Tryd.func8.symm.trans hfn)).symm
  refine ⟨by kernel_rfl, fun j t ht => ?_⟩
  rw [Tryd.params8] at ht
  have hm : t ∈ ([61, 9] : List TypeId) := by simpa using Array.mem_of_getElem? ht
  exact standIn_all [61, 9] (by kernel_rfl) t hm

theorem card : Rows.RegionTextsUptoCardSaid :=
  Claim7.holds_tied_plain_at .later [] _ _ _ _ said (fun _ h => by cases h) (by kernel_rfl) (fun _ h => by cases h) regionTextsUpto_row_tie rfl ⟨rfl, rfl⟩ (by kernel_rfl) rfl plain (by kernel_rfl)
end Go.Proofs.YtipdmcpmedmicaaDoor.regionTextsDone
namespace Go.Proofs.YtipdmcpmedmicaaDoor
theorem regionTextsUpto_card : Rows.RegionTextsUptoCardSaid := regionTextsDone.card
#print axioms regionTextsUpto_card
end Go.Proofs.YtipdmcpmedmicaaDoor
