/- RepairZones: for every input captionerlaw43.RepairZones returns true; the arguments read as they did. The listed variables are tied to the program's text by the given tie. -/
import Derived.Test.YtobglplholhkcaaGreatDoorW6
import Derived.Test.YtobglplholhkcaaGreatDoorW6
set_option linter.unusedSimpArgs false
set_option linter.unusedVariables false
namespace Go.Proofs.YtobglplholhkcaaGreatDoor.repairZonesDone
open Go.ChangeShapes Go.WideShapes Go.ChangeAt Go.RowKit

set_option maxRecDepth 100000
set_option maxHeartbeats 10000000
theorem op2 (H : Type) (enc : TypeId × Value → H) : OpTB H enc Tryz.prog 1048576 2 (D.int .i64) (fun x : Int => True) := OpTB.int Tryz.underlying2
theorem op22 (H : Type) (enc : TypeId × Value → H) : OpTB H enc Tryz.prog 1048576 22 (fun l : List Int => D.sl (l.map (D.int .i64))) (fun x : List Int => x.length ≤ 1048576 ∧ ∀ a ∈ x, True) := OpTB.slice Tryz.underlying22 (of_decide_eq_true (by kernel_rfl)) (fun a => by first | rfl | kernel_rfl) (op2 H enc)
theorem op9 (H : Type) (enc : TypeId × Value → H) : OpTB H enc Tryz.prog 1048576 9 D.str (fun x : List UInt8 => x.length ≤ 1048576) := OpTB.str Tryz.underlying9
theorem op3 (H : Type) (enc : TypeId × Value → H) : OpTB H enc Tryz.prog 1048576 3 (D.int .i64) (fun x : Int => True) := OpTB.int Tryz.underlying3
theorem op24 (H : Type) (enc : TypeId × Value → H) : OpTB H enc Tryz.prog 1048576 24 T_api_Profile.d (fun x : T_api_Profile => T_api_Profile.sz x) := OpTB.struct (ε := T_api_Profile.d) Tryz.underlying24 (by kernel_rfl) (by kernel_rfl) (OpFB.cons (by kernel_rfl) (op9 H enc) (OpFB.cons (by kernel_rfl) (op2 H enc) (OpFB.cons (by kernel_rfl) (op2 H enc) (OpFB.cons (by kernel_rfl) (op2 H enc) (OpFB.cons (by kernel_rfl) (op2 H enc) (OpFB.cons (by kernel_rfl) (op2 H enc) (OpFB.cons (by kernel_rfl) (op2 H enc) (OpFB.cons (by kernel_rfl) (op3 H enc) (OpFB.cons (by kernel_rfl) (op3 H enc) (OpFB.cons (by kernel_rfl) (op9 H enc) (OpFB.cons (by kernel_rfl) (op3 H enc) (OpFB.cons (by kernel_rfl) (op3 H enc) (OpFB.cons (by kernel_rfl) (op3 H enc) (OpFB.cons (by kernel_rfl) (op3 H enc) OpFB.nil)))))))))))))) (fun p => T_api_Profile.mk p.1 p.2.1 p.2.2.1 p.2.2.2.1 p.2.2.2.2.1 p.2.2.2.2.2.1 p.2.2.2.2.2.2.1 p.2.2.2.2.2.2.2.1 p.2.2.2.2.2.2.2.2.1 p.2.2.2.2.2.2.2.2.2.1 p.2.2.2.2.2.2.2.2.2.2.1 p.2.2.2.2.2.2.2.2.2.2.2.1 p.2.2.2.2.2.2.2.2.2.2.2.2.1 p.2.2.2.2.2.2.2.2.2.2.2.2.2.1) (fun _ => rfl) (fun _ h => h)
theorem contract (H : Type) (enc : TypeId × Value → H) (W : World) (base : Nat) (args : Array Value) (ds gs : List (DataW H)) (before : List MemPlace)
    (hval : ∀ (j : Nat) t v, Tryz.f3.params[j]? = some t → args[j]? = some v → Value.okWide Tryz.prog W .any base t v)
    (hW : DataW.Whole enc Tryz.prog Tryz.f3.params.toList Rows.repairZonesSpec.vars false W args.toList ds gs before) (hL : laidMetH Tryz.prog Rows.repairZonesUptoRow.laid W) (hwt : (DataW.weightsEach Tryz.prog (Tryz.f3.params.toList ++ (Rows.OpenSpec.upto Rows.repairZonesSpec).bare.plain.varTypes Tryz.prog) (ds ++ gs)).all (· ≤ reachBytes) = true) (hS : W.ShapedOpen Tryz.prog) (hcond : ∀ k, (Rows.OpenSpec.upto Rows.repairZonesSpec).cond = some k → k H (ds ++ gs) = true) :
    Calls Tryz.prog 3 args W fun e W' => ∃ v, e = .returned v ∧ Rows.repairZonesSpec.post enc Tryz.prog Tryz.f3 false true false false W args v W' := by
  have HL := Lib.hid hL
  clear hL
  have hW' := hW
  have HS := Lib.hid hS
  clear hS
  have HT := Lib.hid hwt
  clear hwt
  obtain ⟨p, q, hA0, hV, rfl, hfz, hnd⟩ := hW
  have hA : DataW.TrodAll enc Tryz.prog W 0 (fun _ => true) true Tryz.f3.params.toList args.toList ds p := hA0
  rw [Tryz.params3] at hA hval
  obtain ⟨v0, vs0, d0, ds0, p0, q0, hargs, rfl, rfl, h0, r0⟩ := trodAll_cons hA
  obtain ⟨v1, vs1, d1, ds1, p1, q1, rfl, rfl, rfl, h1, r1⟩ := trodAll_cons r0
  obtain ⟨v2, vs2, d2, ds2, p2, q2, rfl, rfl, rfl, h2, r2⟩ := trodAll_cons r1
  obtain ⟨rfl, rfl, rfl⟩ := trodAll_nil r2
  obtain rfl : args = #[v0, v1, v2] := by cases args with | mk l => simp at hargs; subst hargs; rfl
  obtain ⟨rfl, rfl⟩ := trodVars_none hV
  have k0 := h0
  have lt0 : ∀ x ∈ p0, x.block < W.heap.size := by obtain ⟨m, hm⟩ := k0; exact DataW.trod_lt m _ _ _ hm
  have ok0 := hval 0 22 v0 rfl rfl
  have hn0 : Rows.uptoBulk d0 ≤ 1048576 := by
    have hC := hcond _ rfl
    simp [Rows.uptoSmall, Rows.uptoBulkAll] at hC
    omega
  obtain ⟨g0, hg0, hB0⟩ := OpTB.argSlice Tryz.underlying22 (op22 H enc) (fun a => rfl) ok0 h0 hn0
  have k1 := h1
  have lt1 : ∀ x ∈ p1, x.block < W.heap.size := by obtain ⟨m, hm⟩ := k1; exact DataW.trod_lt m _ _ _ hm
  have ok1 := hval 1 2 v1 rfl rfl
  obtain ⟨g1, hg1⟩ := OpT.argInt Tryz.underlying2 (OpT.int (H := H) (enc := enc) Tryz.underlying2) (fun a => rfl) ok1 h1
  have k2 := h2
  have lt2 : ∀ x ∈ p2, x.block < W.heap.size := by obtain ⟨m, hm⟩ := k2; exact DataW.trod_lt m _ _ _ hm
  have ok2 := hval 2 24 v2 rfl rfl
  have hn2 : Rows.uptoBulk d2 ≤ 1048576 := by
    have hC := hcond _ rfl
    simp [Rows.uptoSmall, Rows.uptoBulkAll] at hC
    omega
  obtain ⟨g2, hg2, hB2⟩ := OpTB.argStruct Tryz.underlying24 (op24 H enc) (fun a => ⟨_, rfl⟩) ok2 h2 hn2
  have hC := hcond _ rfl
  clear hA0
  refine ((law_RepairZones g0 g1 g2 hB0 hB2).law (args := [v0, v1, v2]) (env_of9 HL.out HS.out) rfl (fun i v d hv hd => by match i, hv, hd with | 0, hv, hd => (simp at hv hd; subst hv hd; exact hg0) | 1, hv, hd => (simp at hv hd; subst hv hd; exact hg1) | 2, hv, hd => (simp at hv hd; subst hv hd; exact hg2) | (n + 3), hv, hd => simp at hv)).mono fun e W' ⟨he, bel⟩ => ?_
  subst he
  exact ⟨_, rfl, _, _, _, [], _, [], hW', trodAll_mk1 (shut_bool Tryz.underlying4 _), (trodAll_cons_mk (Below.trod laidOut (by kernel_rfl) (of_decide_eq_true (by kernel_rfl)) k0 bel lt0) (trodAll_cons_mk (Below.trod laidOut (by kernel_rfl) (of_decide_eq_true (by kernel_rfl)) k1 bel lt1) (trodAll_cons_mk (Below.trod laidOut (by kernel_rfl) (of_decide_eq_true (by kernel_rfl)) k2 bel lt2) trodAll_mk0))), rfl, bel.frame _, fun h => by cases h⟩

theorem laid_met (os : Os) : laidMet Tryz.prog Rows.repairZonesUptoRow.laid ((laidWorld9 os).forCall (fun _ _ => 0) ⟨#[], #[.slice none 0 0, .int .i64 0, .agg #[.string ⟨#[]⟩, .int .i64 0, .int .i64 0, .int .i64 0, .int .i64 0, .int .i64 0, .int .i64 0, .int .i64 0, .int .i64 0, .string ⟨#[]⟩, .int .i64 0, .int .i64 0, .int .i64 0, .int .i64 0]], []⟩).memory :=
  laidMet_of_run' 8 (by kernel_rfl) (by kernel_rfl)
theorem reads (os : Os) {H : Type} (enc : TypeId × Value → H) : ∃ places, DataW.whole enc Tryz.prog ((laidWorld9 os).forCall (fun _ _ => 0) ⟨#[], #[.slice none 0 0, .int .i64 0, .agg #[.string ⟨#[]⟩, .int .i64 0, .int .i64 0, .int .i64 0, .int .i64 0, .int .i64 0, .int .i64 0, .int .i64 0, .int .i64 0, .string ⟨#[]⟩, .int .i64 0, .int .i64 0, .int .i64 0, .int .i64 0]], []⟩).memory Tryz.f3.params.toList Rows.repairZonesSpec.vars false (#[.slice none 0 0, .int .i64 0, .agg #[.string ⟨#[]⟩, .int .i64 0, .int .i64 0, .int .i64 0, .int .i64 0, .int .i64 0, .int .i64 0, .int .i64 0, .int .i64 0, .string ⟨#[]⟩, .int .i64 0, .int .i64 0, .int .i64 0, .int .i64 0]] : Array Value).toList 8 = some ([.nil, .lit (.int .i64 0), .agg [.lit (.string []), .lit (.int .i64 0), .lit (.int .i64 0), .lit (.int .i64 0), .lit (.int .i64 0), .lit (.int .i64 0), .lit (.int .i64 0), .lit (.int .i64 0), .lit (.int .i64 0), .lit (.string []), .lit (.int .i64 0), .lit (.int .i64 0), .lit (.int .i64 0), .lit (.int .i64 0)]], [], places) :=
  ⟨[], by kernel_rfl⟩

theorem lifted (os : Os) (started : os.Started) (H : Type) (enc : TypeId × Value → H) (F : Stop.Interp) :
    ReturnsInHanded {} Tryz.checked os 3 .any ((Rows.OpenSpec.upto Rows.repairZonesSpec).preRow enc Tryz.prog Tryz.f3 Rows.repairZonesUptoRow.domain false Rows.repairZonesUptoRow.laid) (((Rows.OpenSpec.upto Rows.repairZonesSpec).at F).post enc Tryz.prog Tryz.f3 false true false false) := by
  obtain ⟨places, hx⟩ := reads os enc
  refine returnsInHanded_of_row (C := Tryz.checked) (s := Rows.OpenSpec.upto Rows.repairZonesSpec) own started (by kernel_rfl) Tryz.func3
    (witness_row_at (enc := enc) (C := Tryz.checked) false (laidWorld9 os) #[.slice none 0 0, .int .i64 0, .agg #[.string ⟨#[]⟩, .int .i64 0, .int .i64 0, .int .i64 0, .int .i64 0, .int .i64 0, .int .i64 0, .int .i64 0, .int .i64 0, .string ⟨#[]⟩, .int .i64 0, .int .i64 0, .int .i64 0, .int .i64 0]] rfl (by kernel_rfl) (by kernel_rfl) (by kernel_rfl)
      (OpenSpec.preRow_of_cond 8 hx (by kernel_rfl) (fun k hk => by injection hk with hk; subst hk; kernel_rfl) (by kernel_rfl) (laid_met os))) ?_
  intro W base args ds gs before hval hW _ hc hwt hL hS _
  exact contract H enc W base args ds gs before hval hW hL hwt hS hc

theorem said : Rows.RepairZonesUptoSaid :=
  OpenClaim.holds_of_cond 3 Tryz.f3 rfl rfl rfl rfl rfl rfl rfl ⟨rfl, rfl, rfl, rfl, rfl⟩ rfl rfl rfl rfl rfl (by kernel_rfl) Tryz.func3 (by kernel_rfl)
    (of_decide_eq_true (by kernel_rfl)) (by unfold Func.isWrapper; first | (rw [if_pos (by decide +kernel)]; kernel_rfl) | (rw [if_neg (by decide +kernel)]; exact ⟨rfl, rfl⟩))
    (fun os started H enc _ F => by rw [OpenClaim.pre_eq_preRow]; exact lifted os started H enc F)

theorem plain (f : FuncId) (fn : Func) (hf : Tryz.pinned.checked.prog.funcNamed Rows.repairZonesUptoRow.func = some f) (hfn : Tryz.pinned.checked.prog.funcs[f]? = some fn) :
    false = Tryz.pinned.checked.prog.looks [] ∧ ∀ (j : Nat) t, fn.params[j]? = some t → Tryz.pinned.checked.prog.wantsStandIn t = false := by
  obtain rfl : f = 3 := Option.some.inj ((show Tryz.prog.funcNamed Rows.repairZonesUptoRow.func = some 3 by kernel_rfl).symm.trans hf) |>.symm
  obtain rfl : fn = Tryz.f3 := (Option.some.inj (Tryz.func3.symm.trans hfn)).symm
  refine ⟨by kernel_rfl, fun j t ht => ?_⟩
  rw [Tryz.params3] at ht
  have hm : t ∈ ([22, 2, 24] : List TypeId) := by simpa using Array.mem_of_getElem? ht
  exact standIn_all [22, 2, 24] (by kernel_rfl) t hm

theorem card : Rows.RepairZonesUptoCardSaid :=
  Claim7.holds_tied_plain_at .later [] _ _ _ _ said (fun _ h => by cases h) (by kernel_rfl) (fun _ h => by cases h) repairZonesUpto_row_tie rfl ⟨rfl, rfl⟩ (by kernel_rfl) rfl plain (by kernel_rfl)
end Go.Proofs.YtobglplholhkcaaGreatDoor.repairZonesDone
namespace Go.Proofs.YtobglplholhkcaaGreatDoor
theorem repairZonesUpto_card : Rows.RepairZonesUptoCardSaid := repairZonesDone.card
#print axioms repairZonesUpto_card
end Go.Proofs.YtobglplholhkcaaGreatDoor
