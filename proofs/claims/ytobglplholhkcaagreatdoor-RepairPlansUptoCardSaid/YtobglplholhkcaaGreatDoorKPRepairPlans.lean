/- RepairPlans: for every input captionerlaw43.RepairPlans returns true; the arguments read as they did. The listed variables are tied to the program's text by the given tie. -/
import Derived.Test.YtobglplholhkcaaGreatDoorS7
import Derived.Test.YtobglplholhkcaaGreatDoorS7
set_option linter.unusedSimpArgs false
set_option linter.unusedVariables false
namespace Go.Proofs.YtobglplholhkcaaGreatDoor.repairPlansDone
open Go.ChangeShapes Go.WideShapes Go.ChangeAt Go.RowKit

set_option maxRecDepth 100000
set_option maxHeartbeats 10000000
theorem op9 (H : Type) (enc : TypeId × Value → H) : OpTB H enc Tryz.prog 1048576 9 D.str (fun x : List UInt8 => x.length ≤ 1048576) := OpTB.str Tryz.underlying9
theorem op32 (H : Type) (enc : TypeId × Value → H) : OpTB H enc Tryz.prog 1048576 32 (D.int .u8) (fun x : Int => True) := OpTB.int Tryz.underlying32
theorem op4 (H : Type) (enc : TypeId × Value → H) : OpTB H enc Tryz.prog 1048576 4 D.bool (fun x : Bool => True) := OpTB.bool Tryz.underlying4
theorem op2 (H : Type) (enc : TypeId × Value → H) : OpTB H enc Tryz.prog 1048576 2 (D.int .i64) (fun x : Int => True) := OpTB.int Tryz.underlying2
theorem op3 (H : Type) (enc : TypeId × Value → H) : OpTB H enc Tryz.prog 1048576 3 (D.int .i64) (fun x : Int => True) := OpTB.int Tryz.underlying3
theorem op100 (H : Type) (enc : TypeId × Value → H) : OpTB H enc Tryz.prog 1048576 100 (D.int .u8) (fun x : Int => True) := OpTB.int Tryz.underlying100
theorem op102 (H : Type) (enc : TypeId × Value → H) : OpTB H enc Tryz.prog 1048576 102 Z3.d (fun x : Z3 => Z3.sz x) := OpTB.struct (ε := Z3.d) Tryz.underlying102 (by kernel_rfl) (by kernel_rfl) (OpFB.cons (by kernel_rfl) (op9 H enc) (OpFB.cons (by kernel_rfl) (op3 H enc) (OpFB.cons (by kernel_rfl) (op3 H enc) (OpFB.cons (by kernel_rfl) (op3 H enc) (OpFB.cons (by kernel_rfl) (op3 H enc) (OpFB.cons (by kernel_rfl) (op100 H enc) (OpFB.cons (by kernel_rfl) (op4 H enc) OpFB.nil))))))) (fun p => Z3.mk p.1 p.2.1 p.2.2.1 p.2.2.2.1 p.2.2.2.2.1 p.2.2.2.2.2.1 p.2.2.2.2.2.2.1) (fun _ => rfl) (fun _ h => h)
theorem op33 (H : Type) (enc : TypeId × Value → H) : OpTB H enc Tryz.prog 1048576 33 (fun l : List Z3 => D.sl (l.map Z3.d)) (fun x : List Z3 => x.length ≤ 1048576 ∧ ∀ a ∈ x, Z3.sz a) := OpTB.slice Tryz.underlying33 (of_decide_eq_true (by kernel_rfl)) (fun a => by first | rfl | kernel_rfl) (op102 H enc)
theorem op27 (H : Type) (enc : TypeId × Value → H) : OpTB H enc Tryz.prog 1048576 27 Ze.d (fun x : Ze => Ze.sz x) := OpTB.struct (ε := Ze.d) Tryz.underlying27 (by kernel_rfl) (by kernel_rfl) (OpFB.cons (by kernel_rfl) (op2 H enc) (OpFB.cons (by kernel_rfl) (op2 H enc) OpFB.nil)) (fun p => Ze.mk p.1 p.2.1) (fun _ => rfl) (fun _ h => h)
theorem op61 (H : Type) (enc : TypeId × Value → H) : OpTB H enc Tryz.prog 1048576 61 (D.int .u8) (fun x : Int => True) := OpTB.int Tryz.underlying61
theorem op122 (H : Type) (enc : TypeId × Value → H) : OpTB H enc Tryz.prog 1048576 122 (D.int .u8) (fun x : Int => True) := OpTB.int Tryz.underlying122
theorem op124 (H : Type) (enc : TypeId × Value → H) : OpTB H enc Tryz.prog 1048576 124 Zw.d (fun x : Zw => Zw.sz x) := OpTB.struct (ε := Zw.d) Tryz.underlying124 (by kernel_rfl) (by kernel_rfl) (OpFB.cons (by kernel_rfl) (op122 H enc) (OpFB.cons (by kernel_rfl) (op4 H enc) (OpFB.cons (by kernel_rfl) (op4 H enc) OpFB.nil))) (fun p => Zw.mk p.1 p.2.1 p.2.2.1) (fun _ => rfl) (fun _ h => h)
theorem op126 (H : Type) (enc : TypeId × Value → H) : OpTB H enc Tryz.prog 1048576 126 Zd.d (fun x : Zd => Zd.sz x) := OpTB.struct (ε := Zd.d) Tryz.underlying126 (by kernel_rfl) (by kernel_rfl) (OpFB.cons (by kernel_rfl) (op9 H enc) (OpFB.cons (by kernel_rfl) (op124 H enc) (OpFB.cons (by kernel_rfl) (op9 H enc) OpFB.nil))) (fun p => Zd.mk p.1 p.2.1 p.2.2.1) (fun _ => rfl) (fun _ h => h)
theorem op127 (H : Type) (enc : TypeId × Value → H) : OpTB H enc Tryz.prog 1048576 127 (fun l : List Zd => D.sl (l.map Zd.d)) (fun x : List Zd => x.length ≤ 1048576 ∧ ∀ a ∈ x, Zd.sz a) := OpTB.slice Tryz.underlying127 (of_decide_eq_true (by kernel_rfl)) (fun a => by first | rfl | kernel_rfl) (op126 H enc)
theorem op129 (H : Type) (enc : TypeId × Value → H) : OpTB H enc Tryz.prog 1048576 129 Z6.d (fun x : Z6 => Z6.sz x) := OpTB.struct (ε := Z6.d) Tryz.underlying129 (by kernel_rfl) (by kernel_rfl) (OpFB.cons (by kernel_rfl) (op127 H enc) OpFB.nil) (fun p => Z6.mk p.1) (fun _ => rfl) (fun _ h => h)
theorem op62 (H : Type) (enc : TypeId × Value → H) : OpTB H enc Tryz.prog 1048576 62 (fun l : List Z6 => D.sl (l.map Z6.d)) (fun x : List Z6 => x.length ≤ 1048576 ∧ ∀ a ∈ x, Z6.sz a) := OpTB.slice Tryz.underlying62 (of_decide_eq_true (by kernel_rfl)) (fun a => by first | rfl | kernel_rfl) (op129 H enc)
theorem op64 (H : Type) (enc : TypeId × Value → H) : OpTB H enc Tryz.prog 1048576 64 Z0.d (fun x : Z0 => Z0.sz x) := OpTB.struct (ε := Z0.d) Tryz.underlying64 (by kernel_rfl) (by kernel_rfl) (OpFB.cons (by kernel_rfl) (op2 H enc) (OpFB.cons (by kernel_rfl) (op27 H enc) (OpFB.cons (by kernel_rfl) (op9 H enc) (OpFB.cons (by kernel_rfl) (op61 H enc) (OpFB.cons (by kernel_rfl) (op9 H enc) (OpFB.cons (by kernel_rfl) (op62 H enc) OpFB.nil)))))) (fun p => Z0.mk p.1 p.2.1 p.2.2.1 p.2.2.2.1 p.2.2.2.2.1 p.2.2.2.2.2.1) (fun _ => rfl) (fun _ h => h)
theorem op34 (H : Type) (enc : TypeId × Value → H) : OpTB H enc Tryz.prog 1048576 34 (fun l : List Z0 => D.sl (l.map Z0.d)) (fun x : List Z0 => x.length ≤ 1048576 ∧ ∀ a ∈ x, Z0.sz a) := OpTB.slice Tryz.underlying34 (of_decide_eq_true (by kernel_rfl)) (fun a => by first | rfl | kernel_rfl) (op64 H enc)
theorem op107 (H : Type) (enc : TypeId × Value → H) : OpTB H enc Tryz.prog 1048576 107 Z4.d (fun x : Z4 => Z4.sz x) := OpTB.struct (ε := Z4.d) Tryz.underlying107 (by kernel_rfl) (by kernel_rfl) (OpFB.cons (by kernel_rfl) (op2 H enc) (OpFB.cons (by kernel_rfl) (op2 H enc) (OpFB.cons (by kernel_rfl) (op3 H enc) (OpFB.cons (by kernel_rfl) (op3 H enc) (OpFB.cons (by kernel_rfl) (op9 H enc) (OpFB.cons (by kernel_rfl) (op9 H enc) (OpFB.cons (by kernel_rfl) (op4 H enc) (OpFB.cons (by kernel_rfl) (op4 H enc) OpFB.nil)))))))) (fun p => Z4.mk p.1 p.2.1 p.2.2.1 p.2.2.2.1 p.2.2.2.2.1 p.2.2.2.2.2.1 p.2.2.2.2.2.2.1 p.2.2.2.2.2.2.2.1) (fun _ => rfl) (fun _ h => h)
theorem op35 (H : Type) (enc : TypeId × Value → H) : OpTB H enc Tryz.prog 1048576 35 (fun l : List Z4 => D.sl (l.map Z4.d)) (fun x : List Z4 => x.length ≤ 1048576 ∧ ∀ a ∈ x, Z4.sz a) := OpTB.slice Tryz.underlying35 (of_decide_eq_true (by kernel_rfl)) (fun a => by first | rfl | kernel_rfl) (op107 H enc)
theorem op37 (H : Type) (enc : TypeId × Value → H) : OpTB H enc Tryz.prog 1048576 37 Z2.d (fun x : Z2 => Z2.sz x) := OpTB.struct (ε := Z2.d) Tryz.underlying37 (by kernel_rfl) (by kernel_rfl) (OpFB.cons (by kernel_rfl) (op9 H enc) (OpFB.cons (by kernel_rfl) (op9 H enc) (OpFB.cons (by kernel_rfl) (op32 H enc) (OpFB.cons (by kernel_rfl) (op4 H enc) (OpFB.cons (by kernel_rfl) (op2 H enc) (OpFB.cons (by kernel_rfl) (op33 H enc) (OpFB.cons (by kernel_rfl) (op34 H enc) (OpFB.cons (by kernel_rfl) (op35 H enc) OpFB.nil)))))))) (fun p => Z2.mk p.1 p.2.1 p.2.2.1 p.2.2.2.1 p.2.2.2.2.1 p.2.2.2.2.2.1 p.2.2.2.2.2.2.1 p.2.2.2.2.2.2.2.1) (fun _ => rfl) (fun _ h => h)
theorem op24 (H : Type) (enc : TypeId × Value → H) : OpTB H enc Tryz.prog 1048576 24 Z7.d (fun x : Z7 => Z7.sz x) := OpTB.struct (ε := Z7.d) Tryz.underlying24 (by kernel_rfl) (by kernel_rfl) (OpFB.cons (by kernel_rfl) (op9 H enc) (OpFB.cons (by kernel_rfl) (op2 H enc) (OpFB.cons (by kernel_rfl) (op2 H enc) (OpFB.cons (by kernel_rfl) (op2 H enc) (OpFB.cons (by kernel_rfl) (op2 H enc) (OpFB.cons (by kernel_rfl) (op2 H enc) (OpFB.cons (by kernel_rfl) (op2 H enc) (OpFB.cons (by kernel_rfl) (op3 H enc) (OpFB.cons (by kernel_rfl) (op3 H enc) (OpFB.cons (by kernel_rfl) (op9 H enc) (OpFB.cons (by kernel_rfl) (op3 H enc) (OpFB.cons (by kernel_rfl) (op3 H enc) (OpFB.cons (by kernel_rfl) (op3 H enc) (OpFB.cons (by kernel_rfl) (op3 H enc) OpFB.nil)))))))))))))) (fun p => Z7.mk p.1 p.2.1 p.2.2.1 p.2.2.2.1 p.2.2.2.2.1 p.2.2.2.2.2.1 p.2.2.2.2.2.2.1 p.2.2.2.2.2.2.2.1 p.2.2.2.2.2.2.2.2.1 p.2.2.2.2.2.2.2.2.2.1 p.2.2.2.2.2.2.2.2.2.2.1 p.2.2.2.2.2.2.2.2.2.2.2.1 p.2.2.2.2.2.2.2.2.2.2.2.2.1 p.2.2.2.2.2.2.2.2.2.2.2.2.2.1) (fun _ => rfl) (fun _ h => h)
theorem op22 (H : Type) (enc : TypeId × Value → H) : OpTB H enc Tryz.prog 1048576 22 (fun l : List Int => D.sl (l.map (D.int .i64))) (fun x : List Int => x.length ≤ 1048576 ∧ ∀ a ∈ x, True) := OpTB.slice Tryz.underlying22 (of_decide_eq_true (by kernel_rfl)) (fun a => by first | rfl | kernel_rfl) (op2 H enc)
theorem op39 (H : Type) (enc : TypeId × Value → H) : OpTB H enc Tryz.prog 1048576 39 Zf.d (fun x : Zf => Zf.sz x) := OpTB.struct (ε := Zf.d) Tryz.underlying39 (by kernel_rfl) (by kernel_rfl) (OpFB.cons (by kernel_rfl) (op37 H enc) (OpFB.cons (by kernel_rfl) (op24 H enc) (OpFB.cons (by kernel_rfl) (op22 H enc) (OpFB.cons (by kernel_rfl) (op2 H enc) OpFB.nil)))) (fun p => Zf.mk p.1 p.2.1 p.2.2.1 p.2.2.2.1) (fun _ => rfl) (fun _ h => h)
theorem contract (H : Type) (enc : TypeId × Value → H) (W : World) (base : Nat) (args : Array Value) (ds gs : List (DataW H)) (before : List MemPlace)
    (hval : ∀ (j : Nat) t v, Tryz.f6.params[j]? = some t → args[j]? = some v → Value.okWide Tryz.prog W .any base t v)
    (hW : DataW.Whole enc Tryz.prog Tryz.f6.params.toList Rows.repairPlansSpec.vars false W args.toList ds gs before) (hL : laidMetH Tryz.prog Rows.repairPlansUptoRow.laid W) (hwt : (DataW.weightsEach Tryz.prog (Tryz.f6.params.toList ++ (Rows.OpenSpec.upto Rows.repairPlansSpec).bare.plain.varTypes Tryz.prog) (ds ++ gs)).all (· ≤ reachBytes) = true) (hS : W.ShapedOpen Tryz.prog) (hcond : ∀ k, (Rows.OpenSpec.upto Rows.repairPlansSpec).cond = some k → k H (ds ++ gs) = true) :
    Calls Tryz.prog 6 args W fun e W' => ∃ v, e = .returned v ∧ Rows.repairPlansSpec.post enc Tryz.prog Tryz.f6 false true false false W args v W' := by
  have HL := Lib.hid hL
  clear hL
  have hW' := hW
  have HS := Lib.hid hS
  clear hS
  have HT := Lib.hid hwt
  clear hwt
  obtain ⟨p, q, hA0, hV, rfl, hfz, hnd⟩ := hW
  have hA : DataW.TrodAll enc Tryz.prog W 0 (fun _ => true) true Tryz.f6.params.toList args.toList ds p := hA0
  rw [Tryz.params6] at hA hval
  obtain ⟨v0, vs0, d0, ds0, p0, q0, hargs, rfl, rfl, h0, r0⟩ := trodAll_cons hA
  obtain ⟨rfl, rfl, rfl⟩ := trodAll_nil r0
  obtain rfl : args = #[v0] := by cases args with | mk l => simp at hargs; subst hargs; rfl
  obtain ⟨rfl, rfl⟩ := trodVars_none hV
  have k0 := h0
  have lt0 : ∀ x ∈ p0, x.block < W.heap.size := by obtain ⟨m, hm⟩ := k0; exact DataW.trod_lt m _ _ _ hm
  have ok0 := hval 0 39 v0 rfl rfl
  have hn0 : Rows.uptoBulk d0 ≤ 1048576 := by
    have hC := hcond _ rfl
    simp [Rows.uptoSmall, Rows.uptoBulkAll] at hC
    omega
  obtain ⟨g0, hg0, hB0⟩ := OpTB.argStruct Tryz.underlying39 (op39 H enc) (fun a => ⟨_, rfl⟩) ok0 h0 hn0
  have hC := hcond _ rfl
  clear hA0
  refine ((Zb9 g0 hB0).law (args := [v0]) (Zjk HL.out HS.out) rfl (fun i v d hv hd => by match i, hv, hd with | 0, hv, hd => (simp at hv hd; subst hv hd; exact hg0) | (n + 1), hv, hd => simp at hv)).mono fun e W' ⟨he, bel⟩ => ?_
  subst he
  exact ⟨_, rfl, _, _, _, [], _, [], hW', trodAll_mk1 (shut_bool Tryz.underlying4 _), (trodAll_cons_mk (Below.trod Zjs (by kernel_rfl) (of_decide_eq_true (by kernel_rfl)) k0 bel lt0) trodAll_mk0), rfl, bel.frame _, fun h => by cases h⟩

theorem laid_met (os : Os) : laidMet Tryz.prog Rows.repairPlansUptoRow.laid ((Z8q os).forCall (fun _ _ => 0) ⟨#[], #[.agg #[.string ⟨#[]⟩, .string ⟨#[]⟩, .int .u8 0, .bool false, .int .i64 0, .slice none 0 0, .slice none 0 0, .slice none 0 0, .string ⟨#[]⟩, .int .i64 0, .int .i64 0, .int .i64 0, .int .i64 0, .int .i64 0, .int .i64 0, .int .i64 0, .int .i64 0, .string ⟨#[]⟩, .int .i64 0, .int .i64 0, .int .i64 0, .int .i64 0, .slice none 0 0, .int .i64 0]], []⟩).memory :=
  laidMet_of_run' 8 (by kernel_rfl) (by kernel_rfl)
theorem reads (os : Os) {H : Type} (enc : TypeId × Value → H) : ∃ places, DataW.whole enc Tryz.prog ((Z8q os).forCall (fun _ _ => 0) ⟨#[], #[.agg #[.string ⟨#[]⟩, .string ⟨#[]⟩, .int .u8 0, .bool false, .int .i64 0, .slice none 0 0, .slice none 0 0, .slice none 0 0, .string ⟨#[]⟩, .int .i64 0, .int .i64 0, .int .i64 0, .int .i64 0, .int .i64 0, .int .i64 0, .int .i64 0, .int .i64 0, .string ⟨#[]⟩, .int .i64 0, .int .i64 0, .int .i64 0, .int .i64 0, .slice none 0 0, .int .i64 0]], []⟩).memory Tryz.f6.params.toList Rows.repairPlansSpec.vars false (#[.agg #[.string ⟨#[]⟩, .string ⟨#[]⟩, .int .u8 0, .bool false, .int .i64 0, .slice none 0 0, .slice none 0 0, .slice none 0 0, .string ⟨#[]⟩, .int .i64 0, .int .i64 0, .int .i64 0, .int .i64 0, .int .i64 0, .int .i64 0, .int .i64 0, .int .i64 0, .string ⟨#[]⟩, .int .i64 0, .int .i64 0, .int .i64 0, .int .i64 0, .slice none 0 0, .int .i64 0]] : Array Value).toList 8 = some ([.agg [.agg [.lit (.string []), .lit (.string []), .lit (.int .u8 0), .lit (.bool false), .lit (.int .i64 0), .nil, .nil, .nil], .agg [.lit (.string []), .lit (.int .i64 0), .lit (.int .i64 0), .lit (.int .i64 0), .lit (.int .i64 0), .lit (.int .i64 0), .lit (.int .i64 0), .lit (.int .i64 0), .lit (.int .i64 0), .lit (.string []), .lit (.int .i64 0), .lit (.int .i64 0), .lit (.int .i64 0), .lit (.int .i64 0)], .nil, .lit (.int .i64 0)]], [], places) :=
  ⟨[], by kernel_rfl⟩

theorem lifted (os : Os) (started : os.Started) (H : Type) (enc : TypeId × Value → H) (F : Stop.Interp) :
    ReturnsInHanded {} Tryz.checked os 6 .any ((Rows.OpenSpec.upto Rows.repairPlansSpec).preRow enc Tryz.prog Tryz.f6 Rows.repairPlansUptoRow.domain false Rows.repairPlansUptoRow.laid) (((Rows.OpenSpec.upto Rows.repairPlansSpec).at F).post enc Tryz.prog Tryz.f6 false true false false) := by
  obtain ⟨places, hx⟩ := reads os enc
  refine returnsInHanded_of_row (C := Tryz.checked) (s := Rows.OpenSpec.upto Rows.repairPlansSpec) own started (by kernel_rfl) Tryz.func6
    (witness_row_at (enc := enc) (C := Tryz.checked) false (Z8q os) #[.agg #[.string ⟨#[]⟩, .string ⟨#[]⟩, .int .u8 0, .bool false, .int .i64 0, .slice none 0 0, .slice none 0 0, .slice none 0 0, .string ⟨#[]⟩, .int .i64 0, .int .i64 0, .int .i64 0, .int .i64 0, .int .i64 0, .int .i64 0, .int .i64 0, .int .i64 0, .string ⟨#[]⟩, .int .i64 0, .int .i64 0, .int .i64 0, .int .i64 0, .slice none 0 0, .int .i64 0]] rfl (by kernel_rfl) (by kernel_rfl) (by kernel_rfl)
      (OpenSpec.preRow_of_cond 8 hx (by kernel_rfl) (fun k hk => by injection hk with hk; subst hk; kernel_rfl) (by kernel_rfl) (laid_met os))) ?_
  intro W base args ds gs before hval hW _ hc hwt hL hS _
  exact contract H enc W base args ds gs before hval hW hL hwt hS hc

theorem said : Rows.RepairPlansUptoSaid :=
  OpenClaim.holds_of_cond 6 Tryz.f6 rfl rfl rfl rfl rfl rfl rfl ⟨rfl, rfl, rfl, rfl, rfl⟩ rfl rfl rfl rfl rfl (by kernel_rfl) Tryz.func6 (by kernel_rfl)
    (of_decide_eq_true (by kernel_rfl)) (by unfold Func.isWrapper; first | (rw [if_pos (by decide +kernel)]; kernel_rfl) | (rw [if_neg (by decide +kernel)]; exact ⟨rfl, rfl⟩))
    (fun os started H enc _ F => by rw [OpenClaim.pre_eq_preRow]; exact lifted os started H enc F)

theorem plain (f : FuncId) (fn : Func) (hf : Tryz.pinned.checked.prog.funcNamed Rows.repairPlansUptoRow.func = some f) (hfn : Tryz.pinned.checked.prog.funcs[f]? = some fn) :
    false = Tryz.pinned.checked.prog.looks [] ∧ ∀ (j : Nat) t, fn.params[j]? = some t → Tryz.pinned.checked.prog.wantsStandIn t = false := by
  obtain rfl : f = 6 := Option.some.inj ((show Tryz.prog.funcNamed Rows.repairPlansUptoRow.func = some 6 by kernel_rfl).symm.trans hf) |>.symm
  obtain rfl : fn = Tryz.f6 := (Option.some.inj (Tryz.func6.symm.trans hfn)).symm
  refine ⟨by kernel_rfl, fun j t ht => ?_⟩
  rw [Tryz.params6] at ht
  have hm : t ∈ ([39] : List TypeId) := by simpa using Array.mem_of_getElem? ht
  exact ZeU [39] (by kernel_rfl) t hm

theorem card : Rows.RepairPlansUptoCardSaid :=
  Claim7.holds_tied_plain_at .later [] _ _ _ _ said (fun _ h => by cases h) (by kernel_rfl) (fun _ h => by cases h) repairPlansUpto_row_tie rfl ⟨rfl, rfl⟩ (by kernel_rfl) rfl plain (by kernel_rfl)
end Go.Proofs.YtobglplholhkcaaGreatDoor.repairPlansDone
namespace Go.Proofs.YtobglplholhkcaaGreatDoor
theorem repairPlansUpto_card : Rows.RepairPlansUptoCardSaid := repairPlansDone.card
#print axioms repairPlansUpto_card
end Go.Proofs.YtobglplholhkcaaGreatDoor
