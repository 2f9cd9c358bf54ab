/- TopRows: for every input captionertop.TopRows returns true; the arguments read as they did. The listed variables are tied to the program's text by the given tie. -/
import Derived.Test.YthbmhmpppgdkmaaGreatDoorX5
import Derived.Test.YthbmhmpppgdkmaaGreatDoorX5
set_option linter.unusedSimpArgs false
set_option linter.unusedVariables false
namespace Go.Proofs.YthbmhmpppgdkmaaGreatDoor.topRowsDone
open Go.ChangeShapes Go.WideShapes Go.ChangeAt Go.RowKit

set_option maxRecDepth 100000
theorem op9 (H : Type) (enc : TypeId × Value → H) : OpT H enc Tryz.prog 9 D.str := OpT.str Tryz.underlying9
theorem op3 (H : Type) (enc : TypeId × Value → H) : OpT H enc Tryz.prog 3 (D.int .i64) := OpT.int Tryz.underlying3
theorem op86 (H : Type) (enc : TypeId × Value → H) : OpT H enc Tryz.prog 86 T_api_Token.d := OpT.struct (ε := T_api_Token.d) Tryz.underlying86 (by kernel_rfl) (by kernel_rfl) (OpFd.cons (by kernel_rfl) (op9 H enc) (OpFd.cons (by kernel_rfl) (op3 H enc) OpFd.nil)) (fun p => T_api_Token.mk p.1 p.2.1) (fun _ => rfl)
theorem op22 (H : Type) (enc : TypeId × Value → H) : OpT H enc Tryz.prog 22 (fun l : List T_api_Token => D.sl (l.map T_api_Token.d)) := OpT.slice Tryz.underlying22 (of_decide_eq_true (by kernel_rfl)) (fun a => by first | rfl | kernel_rfl) (op86 H enc)
theorem op2 (H : Type) (enc : TypeId × Value → H) : OpT H enc Tryz.prog 2 (D.int .i64) := OpT.int Tryz.underlying2
theorem op23 (H : Type) (enc : TypeId × Value → H) : OpT H enc Tryz.prog 23 T_arr6_Int.d := OpT.array (ε := T_arr6_Int.d) Tryz.underlying23 (by kernel_rfl) (op2 H enc) (fun l h => T_arr6_Int.mk (l[0]'(by omega)) (l[1]'(by omega)) (l[2]'(by omega)) (l[3]'(by omega)) (l[4]'(by omega)) (l[5]'(by omega))) (fun l h => by match l, h with | [x0, x1, x2, x3, x4, x5], _ => rfl)
theorem op25 (H : Type) (enc : TypeId × Value → H) : OpT H enc Tryz.prog 25 T_api_Penalties.d := OpT.struct (ε := T_api_Penalties.d) Tryz.underlying25 (by kernel_rfl) (by kernel_rfl) (OpFd.cons (by kernel_rfl) (op23 H enc) (OpFd.cons (by kernel_rfl) (op2 H enc) (OpFd.cons (by kernel_rfl) (op2 H enc) (OpFd.cons (by kernel_rfl) (op2 H enc) (OpFd.cons (by kernel_rfl) (op2 H enc) (OpFd.cons (by kernel_rfl) (op2 H enc) (OpFd.cons (by kernel_rfl) (op2 H enc) OpFd.nil))))))) (fun p => T_api_Penalties.mk p.1 p.2.1 p.2.2.1 p.2.2.2.1 p.2.2.2.2.1 p.2.2.2.2.2.1 p.2.2.2.2.2.2.1) (fun _ => rfl)
theorem op27 (H : Type) (enc : TypeId × Value → H) : OpT H enc Tryz.prog 27 T_api_Paragraph.d := OpT.struct (ε := T_api_Paragraph.d) Tryz.underlying27 (by kernel_rfl) (by kernel_rfl) (OpFd.cons (by kernel_rfl) (op22 H enc) (OpFd.cons (by kernel_rfl) (op3 H enc) (OpFd.cons (by kernel_rfl) (op3 H enc) (OpFd.cons (by kernel_rfl) (op25 H enc) OpFd.nil)))) (fun p => T_api_Paragraph.mk p.1 p.2.1 p.2.2.1 p.2.2.2.1) (fun _ => rfl)
theorem op28 (H : Type) (enc : TypeId × Value → H) : OpT H enc Tryz.prog 28 (fun l : List Int => D.sl (l.map (D.int .i64))) := OpT.slice Tryz.underlying28 (of_decide_eq_true (by kernel_rfl)) (fun a => by first | rfl | kernel_rfl) (op3 H enc)
theorem contract (H : Type) (enc : TypeId × Value → H) (W : World) (base : Nat) (args : Array Value) (ds gs : List (DataW H)) (before : List MemPlace)
    (hval : ∀ (j : Nat) t v, Tryz.f3.params[j]? = some t → args[j]? = some v → Value.okWide Tryz.prog W .any base t v)
    (hW : DataW.Whole enc Tryz.prog Tryz.f3.params.toList Rows.topRowsSpec.vars false W args.toList ds gs before) (hL : laidMetH Tryz.prog Rows.topRowsRow.laid W) (hwt : (DataW.weightsEach Tryz.prog (Tryz.f3.params.toList ++ (OpenSpec.ofChange Rows.topRowsSpec).bare.plain.varTypes Tryz.prog) (ds ++ gs)).all (· ≤ reachBytes) = true) (hS : W.ShapedOpen Tryz.prog) :
    Calls Tryz.prog 3 args W fun e W' => ∃ v, e = .returned v ∧ Rows.topRowsSpec.post enc Tryz.prog Tryz.f3 false true false false W args v W' := by
  have HL := Lib.hid hL
  clear hL
  have hW' := hW
  have HS := Lib.hid hS
  clear hS
  have HT := Lib.hid hwt
  clear hwt
  obtain ⟨p, q, hA0, hV, rfl, hfz, hnd⟩ := hW
  have hA : DataW.TrodAll enc Tryz.prog W 0 (fun _ => true) true Tryz.f3.params.toList args.toList ds p := hA0
  rw [Tryz.params3] at hA hval
  obtain ⟨v0, vs0, d0, ds0, p0, q0, hargs, rfl, rfl, h0, r0⟩ := trodAll_cons hA
  obtain ⟨v1, vs1, d1, ds1, p1, q1, rfl, rfl, rfl, h1, r1⟩ := trodAll_cons r0
  obtain ⟨v2, vs2, d2, ds2, p2, q2, rfl, rfl, rfl, h2, r2⟩ := trodAll_cons r1
  obtain ⟨rfl, rfl, rfl⟩ := trodAll_nil r2
  obtain rfl : args = #[v0, v1, v2] := by cases args with | mk l => simp at hargs; subst hargs; rfl
  obtain ⟨rfl, rfl⟩ := trodVars_none hV
  have k0 := h0
  have lt0 : ∀ x ∈ p0, x.block < W.heap.size := by obtain ⟨m, hm⟩ := k0; exact DataW.trod_lt m _ _ _ hm
  have ok0 := hval 0 9 v0 rfl rfl
  obtain ⟨g0, hg0⟩ := OpT.argStr Tryz.underlying9 (op9 H enc) (fun a => rfl) ok0 h0
  have k1 := h1
  have lt1 : ∀ x ∈ p1, x.block < W.heap.size := by obtain ⟨m, hm⟩ := k1; exact DataW.trod_lt m _ _ _ hm
  have ok1 := hval 1 27 v1 rfl rfl
  obtain ⟨g1, hg1⟩ := OpT.argStruct Tryz.underlying27 (op27 H enc) (fun a => ⟨_, rfl⟩) ok1 h1
  have k2 := h2
  have lt2 : ∀ x ∈ p2, x.block < W.heap.size := by obtain ⟨m, hm⟩ := k2; exact DataW.trod_lt m _ _ _ hm
  have ok2 := hval 2 28 v2 rfl rfl
  obtain ⟨g2, hg2⟩ := OpT.argSlice Tryz.underlying28 (op28 H enc) (fun a => rfl) ok2 h2
  clear hA0
  refine ((law_TopRows g0 g1 g2).law (args := [v0, v1, v2]) (env_of8 HL.out HS.out) rfl (fun i v d hv hd => by match i, hv, hd with | 0, hv, hd => (simp at hv hd; subst hv hd; exact hg0) | 1, hv, hd => (simp at hv hd; subst hv hd; exact hg1) | 2, hv, hd => (simp at hv hd; subst hv hd; exact hg2) | (n + 3), hv, hd => simp at hv)).mono fun e W' ⟨he, bel⟩ => ?_
  subst he
  exact ⟨_, rfl, _, _, _, [], _, [], hW', trodAll_mk1 (shut_bool Tryz.underlying4 _), (trodAll_cons_mk (Below.trod laidOut (by kernel_rfl) (of_decide_eq_true (by kernel_rfl)) k0 bel lt0) (trodAll_cons_mk (Below.trod laidOut (by kernel_rfl) (of_decide_eq_true (by kernel_rfl)) k1 bel lt1) (trodAll_cons_mk (Below.trod laidOut (by kernel_rfl) (of_decide_eq_true (by kernel_rfl)) k2 bel lt2) trodAll_mk0))), rfl, bel.frame _, fun h => by cases h⟩

theorem laid_met (os : Os) : laidMet Tryz.prog Rows.topRowsRow.laid ((laidWorld8 os).forCall (fun _ _ => 0) ⟨#[], #[.string ⟨#[]⟩, .agg #[.slice none 0 0, .int .i64 0, .int .i64 0, .int .i64 0, .int .i64 0, .int .i64 0, .int .i64 0, .int .i64 0, .int .i64 0, .int .i64 0, .int .i64 0, .int .i64 0, .int .i64 0, .int .i64 0, .int .i64 0], .slice none 0 0], []⟩).memory :=
  laidMet_of_run' 8 (by kernel_rfl) (by kernel_rfl)
theorem reads (os : Os) {H : Type} (enc : TypeId × Value → H) : ∃ places, DataW.whole enc Tryz.prog ((laidWorld8 os).forCall (fun _ _ => 0) ⟨#[], #[.string ⟨#[]⟩, .agg #[.slice none 0 0, .int .i64 0, .int .i64 0, .int .i64 0, .int .i64 0, .int .i64 0, .int .i64 0, .int .i64 0, .int .i64 0, .int .i64 0, .int .i64 0, .int .i64 0, .int .i64 0, .int .i64 0, .int .i64 0], .slice none 0 0], []⟩).memory Tryz.f3.params.toList Rows.topRowsSpec.vars false (#[.string ⟨#[]⟩, .agg #[.slice none 0 0, .int .i64 0, .int .i64 0, .int .i64 0, .int .i64 0, .int .i64 0, .int .i64 0, .int .i64 0, .int .i64 0, .int .i64 0, .int .i64 0, .int .i64 0, .int .i64 0, .int .i64 0, .int .i64 0], .slice none 0 0] : Array Value).toList 8 = some ([.lit (.string []), .agg [.nil, .lit (.int .i64 0), .lit (.int .i64 0), .agg [.agg [.lit (.int .i64 0), .lit (.int .i64 0), .lit (.int .i64 0), .lit (.int .i64 0), .lit (.int .i64 0), .lit (.int .i64 0)], .lit (.int .i64 0), .lit (.int .i64 0), .lit (.int .i64 0), .lit (.int .i64 0), .lit (.int .i64 0), .lit (.int .i64 0)]], .nil], [], places) :=
  ⟨[], by kernel_rfl⟩

theorem lifted (os : Os) (started : os.Started) (H : Type) (enc : TypeId × Value → H) (F : Stop.Interp) :
    ReturnsInHanded {} Tryz.checked os 3 .any ((OpenSpec.ofChange Rows.topRowsSpec).preRow enc Tryz.prog Tryz.f3 Rows.topRowsRow.domain false Rows.topRowsRow.laid) (((OpenSpec.ofChange Rows.topRowsSpec).at F).post enc Tryz.prog Tryz.f3 false true false false) := by
  obtain ⟨places, hx⟩ := reads os enc
  refine returnsInHanded_of_row (C := Tryz.checked) (s := OpenSpec.ofChange Rows.topRowsSpec) own started (by kernel_rfl) Tryz.func3
    (witness_row_at (enc := enc) (C := Tryz.checked) false (laidWorld8 os) #[.string ⟨#[]⟩, .agg #[.slice none 0 0, .int .i64 0, .int .i64 0, .int .i64 0, .int .i64 0, .int .i64 0, .int .i64 0, .int .i64 0, .int .i64 0, .int .i64 0, .int .i64 0, .int .i64 0, .int .i64 0, .int .i64 0, .int .i64 0], .slice none 0 0] rfl (by kernel_rfl) (by kernel_rfl) (by kernel_rfl)
      (OpenSpec.preRow_of_cond 8 hx (by kernel_rfl) (fun k hk => by cases hk) (by kernel_rfl) (laid_met os))) ?_
  intro W base args ds gs before hval hW _ _ hwt hL hS _
  exact contract H enc W base args ds gs before hval hW hL hwt hS

theorem andT {a b : Bool} (h : a = true) (k : b = true) : (a && b) = true := by rw [h, k]; rfl
theorem cf0 : (Rows.topRowsRow.wf (OpenSpec.ofChange (OpenSpec.ofChange Rows.topRowsSpec).bare)) = true := by kernel_rfl
theorem cf1 : (laidOutB Tryz.pinned.checked.prog) = true := by kernel_rfl
theorem cf2 : (mapsRowed Tryz.pinned.checked.prog) = true := by kernel_rfl
theorem cf3 : (Tryz.f3.params.all (Tryz.pinned.checked.prog.readableRec ·)) = true := by kernel_rfl
theorem cf4 : (namedTie Tryz.pinned.checked.prog Rows.topRowsRow.named (OpenSpec.ofChange Rows.topRowsSpec).bare.vars) = true := by kernel_rfl
theorem cf5 : ((Rows.topRowsRow.stops == [])) = true := by kernel_rfl
theorem cf6 : ((Tryz.pinned.checked.prog.stops == [])) = true := by kernel_rfl
theorem cf7 : ((Rows.topRowsRow.knobs == [])) = true := by kernel_rfl
theorem cf8 : ((Tryz.pinned.checked.prog.stopKnobs == [])) = true := by kernel_rfl
theorem cf9 : ((Rows.topRowsRow.inPlace == Tryz.pinned.checked.prog.inPlace 3)) = true := by kernel_rfl
theorem cf10 : ((Rows.topRowsRow.unfollowed == Tryz.pinned.checked.prog.unfollowed 3)) = true := by kernel_rfl
theorem cf11 : ((Rows.topRowsRow.recurses == Tryz.pinned.checked.prog.recurses 3)) = true := by kernel_rfl
theorem cf12 : ((Rows.topRowsRow.named == Tryz.pinned.checked.prog.varsNamed 3)) = true := by kernel_rfl
theorem cf13 : ((Rows.topRowsRow.maps == (Tryz.f3.params.toList ++ (OpenSpec.ofChange Rows.topRowsSpec).bare.plain.varTypes Tryz.pinned.checked.prog).any (Tryz.pinned.checked.prog.mapsRec ·))) = true := by kernel_rfl
theorem cf14 : ((Rows.topRowsRow.ifaces == (Tryz.f3.params.toList ++ (OpenSpec.ofChange Rows.topRowsSpec).bare.plain.varTypes Tryz.pinned.checked.prog).any (Tryz.pinned.checked.prog.ifacesRec ·))) = true := by kernel_rfl
theorem cf15 : ((Rows.topRowsRow.mapsOut == Tryz.pinned.checked.prog.mapsAmong Tryz.f3.resultTypes.toList)) = true := by kernel_rfl
theorem cf16 : ((Rows.topRowsRow.loops == (Tryz.f3.params.toList ++ (OpenSpec.ofChange Rows.topRowsSpec).bare.plain.varTypes Tryz.pinned.checked.prog).any (Tryz.pinned.checked.prog.loopsFrom ·))) = true := by kernel_rfl
theorem cf17 : ((Rows.topRowsRow.wideKeys == (Tryz.f3.params.toList ++ (OpenSpec.ofChange Rows.topRowsSpec).bare.plain.varTypes Tryz.pinned.checked.prog ++ Tryz.f3.resultTypes.toList).any (Tryz.pinned.checked.prog.wideKeysFrom ·))) = true := by kernel_rfl
theorem cf18 : ((OpenSpec.ofChange Rows.topRowsSpec).bare.vars.all (Tryz.pinned.checked.prog.varReadable ·)) = true := by kernel_rfl
theorem cf19 : (Tryz.f3.resultTypes.all (fun t => Tryz.pinned.checked.prog.readableRec t && decide (t < Tryz.pinned.checked.prog.types.size))) = true := by kernel_rfl
theorem cf20 : ((Rows.topRowsRow.ifacesOut == Tryz.f3.resultTypes.toList.any (Tryz.pinned.checked.prog.ifacesRec ·))) = true := by kernel_rfl
theorem cf21 : ((Rows.topRowsRow.loopsOut == Tryz.f3.resultTypes.toList.any (Tryz.pinned.checked.prog.loopsFrom ·))) = true := by kernel_rfl
theorem cf22 : ((Rows.topRowsRow.plainKeys == Tryz.pinned.checked.prog.plainKeys)) = true := by kernel_rfl
theorem cf23 : (Rows.topRowsRow.shortTexts.isNone) = true := by kernel_rfl
theorem cf24 : (Tryz.pinned.checked.prog.stopsHeard) = true := by kernel_rfl
theorem cf25 : (Tryz.pinned.checked.prog.mayEnter) = true := by kernel_rfl
theorem cf26 : ((Rows.topRowsRow.lifted == Tryz.pinned.checked.prog.liftsFinal)) = true := by kernel_rfl
theorem cf27 : ((Tryz.pinned.checked.prog.make == some Rows.topRowsRow.make)) = true := by kernel_rfl
theorem cf28 : ((Rows.topRowsRow.kinds == (if Rows.topRowsRow.domain.isEmpty then [] else Tryz.f3.params.toList.map fun t => match Tryz.pinned.checked.prog.underlying t with | some (.int k) => some k | _ => none))) = true := by kernel_rfl
theorem cf29 : ((Rows.topRowsRow.pinned == Rows.topRowsRow.pinnedBy)) = true := by kernel_rfl
theorem cf30 : ((Rows.topRowsRow.veiled == (Tryz.f3.params.toList ++ (OpenSpec.ofChange Rows.topRowsSpec).bare.plain.varTypes Tryz.pinned.checked.prog ++ Tryz.f3.resultTypes.toList).any (Tryz.pinned.checked.prog.veiledRec ·))) = true := by kernel_rfl
theorem cf31 : (Rows.topRowsRow.veiledFits Tryz.pinned.checked.prog Tryz.f3.params.toList (Tryz.f3.params.toList ++ (OpenSpec.ofChange Rows.topRowsSpec).bare.plain.varTypes Tryz.pinned.checked.prog ++ Tryz.f3.resultTypes.toList)) = true := by kernel_rfl
theorem closedAll : joinedFacts Tryz.pinned.checked.prog 3 Tryz.f3 (OpenSpec.ofChange Rows.topRowsSpec).bare Rows.topRowsRow = true := (andT (andT (andT (andT (andT (andT (andT (andT (andT (andT (andT (andT (andT (andT (andT (andT (andT (andT (andT (andT (andT (andT (andT (andT (andT (andT (andT (andT (andT (andT (andT cf0 cf1) cf2) cf3) cf4) cf5) cf6) cf7) cf8) cf9) cf10) cf11) cf12) cf13) cf14) cf15) cf16) cf17) cf18) cf19) cf20) cf21) cf22) cf23) cf24) cf25) cf26) cf27) cf28) cf29) cf30) cf31)
theorem said : Rows.TopRowsSaid :=
  OpenClaim.holds_of_cond 3 Tryz.f3 rfl rfl rfl rfl rfl rfl rfl ⟨rfl, rfl, rfl, rfl, rfl⟩ rfl rfl rfl rfl rfl (by kernel_rfl) Tryz.func3 closedAll
    (of_decide_eq_true (by kernel_rfl)) (by unfold Func.isWrapper; first | (rw [if_pos (by decide +kernel)]; kernel_rfl) | (rw [if_neg (by decide +kernel)]; exact ⟨rfl, rfl⟩))
    (fun os started H enc _ F => by rw [OpenClaim.pre_eq_preRow]; exact lifted os started H enc F)

theorem plain (f : FuncId) (fn : Func) (hf : Tryz.pinned.checked.prog.funcNamed Rows.topRowsRow.func = some f) (hfn : Tryz.pinned.checked.prog.funcs[f]? = some fn) :
    true = Tryz.pinned.checked.prog.looks [] ∧ ∀ (j : Nat) t, fn.params[j]? = some t → Tryz.pinned.checked.prog.wantsStandIn t = false := by
  obtain rfl : f = 3 := Option.some.inj ((show Tryz.prog.funcNamed Rows.topRowsRow.func = some 3 by kernel_rfl).symm.trans hf) |>.symm
  obtain rfl : fn = Tryz.f3 := (Option.some.inj (Tryz.func3.symm.trans hfn)).symm
  refine ⟨by kernel_rfl, fun j t ht => ?_⟩
  rw [Tryz.params3] at ht
  have hm : t ∈ ([9, 27, 28] : List TypeId) := by simpa using Array.mem_of_getElem? ht
  exact standIn_all [9, 27, 28] (by kernel_rfl) t hm

theorem card : Rows.TopRowsCardSaid :=
  Claim7.holds_tied_plain_at .later [] _ _ _ _ said (fun _ h => by cases h) (by kernel_rfl) (fun _ h => by cases h) topRows_row_tie rfl ⟨rfl, rfl⟩ (by kernel_rfl) rfl plain (by kernel_rfl)
end Go.Proofs.YthbmhmpppgdkmaaGreatDoor.topRowsDone
namespace Go.Proofs.YthbmhmpppgdkmaaGreatDoor
theorem topRows_card : Rows.TopRowsCardSaid := topRowsDone.card
#print axioms topRows_card
end Go.Proofs.YthbmhmpppgdkmaaGreatDoor
