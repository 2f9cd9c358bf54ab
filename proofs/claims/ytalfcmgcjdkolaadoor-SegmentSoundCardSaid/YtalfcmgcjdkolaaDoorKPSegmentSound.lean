/- SegmentSound: for every input captionerlaw38.SegmentSound returns true; the arguments read as they did. The listed variables are tied to the program's text by the given tie. -/
import Derived.Test.YtalfcmgcjdkolaaDoorW6
import Derived.Test.YtalfcmgcjdkolaaDoorW6
set_option linter.unusedSimpArgs false
set_option linter.unusedVariables false
namespace Go.Proofs.YtalfcmgcjdkolaaDoor.segmentSoundDone
open Go.ChangeShapes Go.WideShapes Go.ChangeAt Go.RowKit

set_option maxRecDepth 100000
set_option maxHeartbeats 10000000
theorem op22 (H : Type) (enc : TypeId × Value → H) : OpTW H enc Tryd.prog 140737488351232 22 (D.int .u8) (fun x : Int => True) := OpTW.int Tryd.underlying22
theorem op9 (H : Type) (enc : TypeId × Value → H) : OpTW H enc Tryd.prog 140737488351232 9 D.str (fun x : List UInt8 => x.length ≤ 140737488351232) := OpTW.str Tryd.underlying9
theorem op2 (H : Type) (enc : TypeId × Value → H) : OpTW H enc Tryd.prog 140737488351232 2 (D.int .i64) (fun x : Int => True) := OpTW.int Tryd.underlying2
theorem op45 (H : Type) (enc : TypeId × Value → H) : OpTW H enc Tryd.prog 140737488351232 45 A_Span.d (fun x : A_Span => A_Span.sz x) := OpTW.struct (ε := A_Span.d) Tryd.underlying45 (by kernel_rfl) (by kernel_rfl) (OpFW.cons (by kernel_rfl) (op2 H enc) (OpFW.cons (by kernel_rfl) (op2 H enc) OpFW.nil)) (fun p => A_Span.mk p.1 p.2.1) (fun _ => rfl) (fun _ h => h)
theorem op56 (H : Type) (enc : TypeId × Value → H) : OpTW H enc Tryd.prog 140737488351232 56 A_Word.d (fun x : A_Word => A_Word.sz x) := OpTW.struct (ε := A_Word.d) Tryd.underlying56 (by kernel_rfl) (by kernel_rfl) (OpFW.cons (by kernel_rfl) (op9 H enc) (OpFW.cons (by kernel_rfl) (op45 H enc) OpFW.nil)) (fun p => A_Word.mk p.1 p.2.1) (fun _ => rfl) (fun _ h => h)
theorem op23 (H : Type) (enc : TypeId × Value → H) : OpTW H enc Tryd.prog 140737488351232 23 (fun l : List A_Word => D.sl (l.map A_Word.d)) (fun x : List A_Word => ∀ a ∈ x, A_Word.sz a) := OpTW.slice Tryd.underlying23 (of_decide_eq_true (by kernel_rfl)) (fun a => by first | rfl | kernel_rfl) (op56 H enc)
theorem op24 (H : Type) (enc : TypeId × Value → H) : OpTW H enc Tryd.prog 140737488351232 24 (fun l : List Int => D.sl (l.map (D.int .i64))) (fun x : List Int => ∀ a ∈ x, True) := OpTW.slice Tryd.underlying24 (of_decide_eq_true (by kernel_rfl)) (fun a => by first | rfl | kernel_rfl) (op2 H enc)
theorem op25 (H : Type) (enc : TypeId × Value → H) : OpTW H enc Tryd.prog 140737488351232 25 T_arr6_Int.d (fun x : T_arr6_Int => T_arr6_Int.sz x) := OpTW.array (ε := T_arr6_Int.d) Tryd.underlying25 (by kernel_rfl) (op2 H enc) (fun l h => T_arr6_Int.mk (l[0]'(by omega)) (l[1]'(by omega)) (l[2]'(by omega)) (l[3]'(by omega)) (l[4]'(by omega)) (l[5]'(by omega))) (fun l h => by match l, h with | [x0, x1, x2, x3, x4, x5], _ => rfl) (fun l h hA => ⟨hA (l[0]'(by omega)) (List.getElem_mem _), hA (l[1]'(by omega)) (List.getElem_mem _), hA (l[2]'(by omega)) (List.getElem_mem _), hA (l[3]'(by omega)) (List.getElem_mem _), hA (l[4]'(by omega)) (List.getElem_mem _), hA (l[5]'(by omega)) (List.getElem_mem _)⟩)
theorem op27 (H : Type) (enc : TypeId × Value → H) : OpTW H enc Tryd.prog 140737488351232 27 A_Penalties.d (fun x : A_Penalties => A_Penalties.sz x) := OpTW.struct (ε := A_Penalties.d) Tryd.underlying27 (by kernel_rfl) (by kernel_rfl) (OpFW.cons (by kernel_rfl) (op25 H enc) (OpFW.cons (by kernel_rfl) (op2 H enc) (OpFW.cons (by kernel_rfl) (op2 H enc) (OpFW.cons (by kernel_rfl) (op2 H enc) (OpFW.cons (by kernel_rfl) (op2 H enc) (OpFW.cons (by kernel_rfl) (op2 H enc) (OpFW.cons (by kernel_rfl) (op2 H enc) OpFW.nil))))))) (fun p => A_Penalties.mk p.1 p.2.1 p.2.2.1 p.2.2.2.1 p.2.2.2.2.1 p.2.2.2.2.2.1 p.2.2.2.2.2.2.1) (fun _ => rfl) (fun _ h => h)
theorem op3 (H : Type) (enc : TypeId × Value → H) : OpTW H enc Tryd.prog 140737488351232 3 (D.int .i64) (fun x : Int => True) := OpTW.int Tryd.underlying3
theorem op29 (H : Type) (enc : TypeId × Value → H) : OpTW H enc Tryd.prog 140737488351232 29 A_Profile.d (fun x : A_Profile => A_Profile.sz x) := OpTW.struct (ε := A_Profile.d) Tryd.underlying29 (by kernel_rfl) (by kernel_rfl) (OpFW.cons (by kernel_rfl) (op9 H enc) (OpFW.cons (by kernel_rfl) (op2 H enc) (OpFW.cons (by kernel_rfl) (op2 H enc) (OpFW.cons (by kernel_rfl) (op2 H enc) (OpFW.cons (by kernel_rfl) (op2 H enc) (OpFW.cons (by kernel_rfl) (op2 H enc) (OpFW.cons (by kernel_rfl) (op2 H enc) (OpFW.cons (by kernel_rfl) (op3 H enc) (OpFW.cons (by kernel_rfl) (op3 H enc) (OpFW.cons (by kernel_rfl) (op9 H enc) (OpFW.cons (by kernel_rfl) (op3 H enc) (OpFW.cons (by kernel_rfl) (op3 H enc) (OpFW.cons (by kernel_rfl) (op3 H enc) (OpFW.cons (by kernel_rfl) (op3 H enc) OpFW.nil)))))))))))))) (fun p => A_Profile.mk p.1 p.2.1 p.2.2.1 p.2.2.2.1 p.2.2.2.2.1 p.2.2.2.2.2.1 p.2.2.2.2.2.2.1 p.2.2.2.2.2.2.2.1 p.2.2.2.2.2.2.2.2.1 p.2.2.2.2.2.2.2.2.2.1 p.2.2.2.2.2.2.2.2.2.2.1 p.2.2.2.2.2.2.2.2.2.2.2.1 p.2.2.2.2.2.2.2.2.2.2.2.2.1 p.2.2.2.2.2.2.2.2.2.2.2.2.2.1) (fun _ => rfl) (fun _ h => h)
theorem op31 (H : Type) (enc : TypeId × Value → H) : OpTW H enc Tryd.prog 140737488351232 31 A_Speech.d (fun x : A_Speech => A_Speech.sz x) := OpTW.struct (ε := A_Speech.d) Tryd.underlying31 (by kernel_rfl) (by kernel_rfl) (OpFW.cons (by kernel_rfl) (op22 H enc) (OpFW.cons (by kernel_rfl) (op23 H enc) (OpFW.cons (by kernel_rfl) (op24 H enc) (OpFW.cons (by kernel_rfl) (op27 H enc) (OpFW.cons (by kernel_rfl) (op29 H enc) OpFW.nil))))) (fun p => A_Speech.mk p.1 p.2.1 p.2.2.1 p.2.2.2.1 p.2.2.2.2.1) (fun _ => rfl) (fun _ h => h)
theorem op43 (H : Type) (enc : TypeId × Value → H) : OpTW H enc Tryd.prog 140737488351232 43 (fun l : List Int => D.sl (l.map (D.int .i64))) (fun x : List Int => ∀ a ∈ x, True) := OpTW.slice Tryd.underlying43 (of_decide_eq_true (by kernel_rfl)) (fun a => by first | rfl | kernel_rfl) (op3 H enc)
theorem op47 (H : Type) (enc : TypeId × Value → H) : OpTW H enc Tryd.prog 140737488351232 47 A_Part.d (fun x : A_Part => A_Part.sz x) := OpTW.struct (ε := A_Part.d) Tryd.underlying47 (by kernel_rfl) (by kernel_rfl) (OpFW.cons (by kernel_rfl) (op3 H enc) (OpFW.cons (by kernel_rfl) (op3 H enc) (OpFW.cons (by kernel_rfl) (op43 H enc) (OpFW.cons (by kernel_rfl) (op45 H enc) OpFW.nil)))) (fun p => A_Part.mk p.1 p.2.1 p.2.2.1 p.2.2.2.1) (fun _ => rfl) (fun _ h => h)
theorem op32 (H : Type) (enc : TypeId × Value → H) : OpTW H enc Tryd.prog 140737488351232 32 (fun l : List A_Part => D.sl (l.map A_Part.d)) (fun x : List A_Part => ∀ a ∈ x, A_Part.sz a) := OpTW.slice Tryd.underlying32 (of_decide_eq_true (by kernel_rfl)) (fun a => by first | rfl | kernel_rfl) (op47 H enc)
theorem op36 (H : Type) (enc : TypeId × Value → H) : OpTW H enc Tryd.prog 140737488351232 36 A_Segments.d (fun x : A_Segments => A_Segments.sz x) := OpTW.struct (ε := A_Segments.d) Tryd.underlying36 (by kernel_rfl) (by kernel_rfl) (OpFW.cons (by kernel_rfl) (op32 H enc) (OpFW.cons (by kernel_rfl) (op2 H enc) (OpFW.cons (by kernel_rfl) (op24 H enc) OpFW.nil))) (fun p => A_Segments.mk p.1 p.2.1 p.2.2.1) (fun _ => rfl) (fun _ h => h)
theorem contract (H : Type) (enc : TypeId × Value → H) (W : World) (base : Nat) (args : Array Value) (ds gs : List (DataW H)) (before : List MemPlace)
    (hval : ∀ (j : Nat) t v, Tryd.f5.params[j]? = some t → args[j]? = some v → Value.okWide Tryd.prog W .any base t v)
    (hW : DataW.Whole enc Tryd.prog Tryd.f5.params.toList Rows.segmentSoundSpec.vars false W args.toList ds gs before) (hL : laidMetH Tryd.prog Rows.segmentSoundRow.laid W) (hwt : (DataW.weightsEach Tryd.prog (Tryd.f5.params.toList ++ (OpenSpec.ofChange Rows.segmentSoundSpec).bare.plain.varTypes Tryd.prog) (ds ++ gs)).all (· ≤ reachBytes) = true) (hS : W.ShapedOpen Tryd.prog) :
    Calls Tryd.prog 5 args W fun e W' => ∃ v, e = .returned v ∧ Rows.segmentSoundSpec.post enc Tryd.prog Tryd.f5 false true false false W args v W' := by
  have HL := Lib.hid hL
  clear hL
  have hW' := hW
  have HS := Lib.hid hS
  clear hS
  have HT := Lib.hid hwt
  clear hwt
  obtain ⟨p, q, hA0, hV, rfl, hfz, hnd⟩ := hW
  have hA : DataW.TrodAll enc Tryd.prog W 0 (fun _ => true) true Tryd.f5.params.toList args.toList ds p := hA0
  rw [Tryd.params5] at hA hval
  obtain ⟨v0, vs0, d0, ds0, p0, q0, hargs, rfl, rfl, h0, r0⟩ := trodAll_cons hA
  obtain ⟨v1, vs1, d1, ds1, p1, q1, rfl, rfl, rfl, h1, r1⟩ := trodAll_cons r0
  obtain ⟨v2, vs2, d2, ds2, p2, q2, rfl, rfl, rfl, h2, r2⟩ := trodAll_cons r1
  obtain ⟨rfl, rfl, rfl⟩ := trodAll_nil r2
  obtain rfl : args = #[v0, v1, v2] := by cases args with | mk l => simp at hargs; subst hargs; rfl
  obtain ⟨rfl, rfl⟩ := trodVars_none hV
  have k0 := h0
  have lt0 : ∀ x ∈ p0, x.block < W.heap.size := by obtain ⟨m, hm⟩ := k0; exact DataW.trod_lt m _ _ _ hm
  have ok0 := hval 0 31 v0 rfl rfl
  have hn0 : ∀ m ∈ d0.weights Tryd.prog 31, m ≤ 140737488351232 := fun m hm => by
    have hT := HT.out
    rw [Tryd.params5] at hT
    exact of_decide_eq_true (List.all_eq_true.1 hT m (wt_each (i := 0) rfl rfl m hm))
  obtain ⟨g0, hg0, hB0⟩ := OpTW.argStruct Tryd.underlying31 (op31 H enc) (fun a => ⟨_, rfl⟩) ok0 h0 hn0
  have k1 := h1
  have lt1 : ∀ x ∈ p1, x.block < W.heap.size := by obtain ⟨m, hm⟩ := k1; exact DataW.trod_lt m _ _ _ hm
  have ok1 := hval 1 36 v1 rfl rfl
  have hn1 : ∀ m ∈ d1.weights Tryd.prog 36, m ≤ 140737488351232 := fun m hm => by
    have hT := HT.out
    rw [Tryd.params5] at hT
    exact of_decide_eq_true (List.all_eq_true.1 hT m (wt_each (i := 1) rfl rfl m hm))
  obtain ⟨g1, hg1, hB1⟩ := OpTW.argStruct Tryd.underlying36 (op36 H enc) (fun a => ⟨_, rfl⟩) ok1 h1 hn1
  have k2 := h2
  have lt2 : ∀ x ∈ p2, x.block < W.heap.size := by obtain ⟨m, hm⟩ := k2; exact DataW.trod_lt m _ _ _ hm
  have ok2 := hval 2 32 v2 rfl rfl
  have hn2 : ∀ m ∈ d2.weights Tryd.prog 32, m ≤ 140737488351232 := fun m hm => by
    have hT := HT.out
    rw [Tryd.params5] at hT
    exact of_decide_eq_true (List.all_eq_true.1 hT m (wt_each (i := 2) rfl rfl m hm))
  obtain ⟨g2, hg2, hB2⟩ := OpTW.argSlice Tryd.underlying32 (op32 H enc) (fun a => rfl) ok2 h2 hn2
  clear hA0
  refine ((law_SegmentSound g0 g1 g2 hB0 hB1 hB2).law (args := [v0, v1, v2]) (env_of9 HL.out HS.out) rfl (fun i v d hv hd => by match i, hv, hd with | 0, hv, hd => (simp at hv hd; subst hv hd; exact hg0) | 1, hv, hd => (simp at hv hd; subst hv hd; exact hg1) | 2, hv, hd => (simp at hv hd; subst hv hd; exact hg2) | (n + 3), hv, hd => simp at hv)).mono fun e W' ⟨he, bel⟩ => ?_
  subst he
  exact ⟨_, rfl, _, _, _, [], _, [], hW', trodAll_mk1 (shut_bool Tryd.underlying4 _), (trodAll_cons_mk (Below.trod laidOut (by kernel_rfl) (of_decide_eq_true (by kernel_rfl)) k0 bel lt0) (trodAll_cons_mk (Below.trod laidOut (by kernel_rfl) (of_decide_eq_true (by kernel_rfl)) k1 bel lt1) (trodAll_cons_mk (Below.trod laidOut (by kernel_rfl) (of_decide_eq_true (by kernel_rfl)) k2 bel lt2) trodAll_mk0))), rfl, bel.frame _, fun h => by cases h⟩

theorem laid_met (os : Os) : laidMet Tryd.prog Rows.segmentSoundRow.laid ((laidWorld9 os).forCall (fun _ _ => 0) ⟨#[], #[.agg #[.int .u8 0, .slice none 0 0, .slice none 0 0, .int .i64 0, .int .i64 0, .int .i64 0, .int .i64 0, .int .i64 0, .int .i64 0, .int .i64 0, .int .i64 0, .int .i64 0, .int .i64 0, .int .i64 0, .int .i64 0, .string ⟨#[]⟩, .int .i64 0, .int .i64 0, .int .i64 0, .int .i64 0, .int .i64 0, .int .i64 0, .int .i64 0, .int .i64 0, .string ⟨#[]⟩, .int .i64 0, .int .i64 0, .int .i64 0, .int .i64 0], .agg #[.slice none 0 0, .int .i64 0, .slice none 0 0], .slice none 0 0], []⟩).memory :=
  laidMet_of_run' 8 (by kernel_rfl) (by kernel_rfl)
theorem reads (os : Os) {H : Type} (enc : TypeId × Value → H) : ∃ places, DataW.whole enc Tryd.prog ((laidWorld9 os).forCall (fun _ _ => 0) ⟨#[], #[.agg #[.int .u8 0, .slice none 0 0, .slice none 0 0, .int .i64 0, .int .i64 0, .int .i64 0, .int .i64 0, .int .i64 0, .int .i64 0, .int .i64 0, .int .i64 0, .int .i64 0, .int .i64 0, .int .i64 0, .int .i64 0, .string ⟨#[]⟩, .int .i64 0, .int .i64 0, .int .i64 0, .int .i64 0, .int .i64 0, .int .i64 0, .int .i64 0, .int .i64 0, .string ⟨#[]⟩, .int .i64 0, .int .i64 0, .int .i64 0, .int .i64 0], .agg #[.slice none 0 0, .int .i64 0, .slice none 0 0], .slice none 0 0], []⟩).memory Tryd.f5.params.toList Rows.segmentSoundSpec.vars false (#[.agg #[.int .u8 0, .slice none 0 0, .slice none 0 0, .int .i64 0, .int .i64 0, .int .i64 0, .int .i64 0, .int .i64 0, .int .i64 0, .int .i64 0, .int .i64 0, .int .i64 0, .int .i64 0, .int .i64 0, .int .i64 0, .string ⟨#[]⟩, .int .i64 0, .int .i64 0, .int .i64 0, .int .i64 0, .int .i64 0, .int .i64 0, .int .i64 0, .int .i64 0, .string ⟨#[]⟩, .int .i64 0, .int .i64 0, .int .i64 0, .int .i64 0], .agg #[.slice none 0 0, .int .i64 0, .slice none 0 0], .slice none 0 0] : Array Value).toList 8 = some ([.agg [.lit (.int .u8 0), .nil, .nil, .agg [.agg [.lit (.int .i64 0), .lit (.int .i64 0), .lit (.int .i64 0), .lit (.int .i64 0), .lit (.int .i64 0), .lit (.int .i64 0)], .lit (.int .i64 0), .lit (.int .i64 0), .lit (.int .i64 0), .lit (.int .i64 0), .lit (.int .i64 0), .lit (.int .i64 0)], .agg [.lit (.string []), .lit (.int .i64 0), .lit (.int .i64 0), .lit (.int .i64 0), .lit (.int .i64 0), .lit (.int .i64 0), .lit (.int .i64 0), .lit (.int .i64 0), .lit (.int .i64 0), .lit (.string []), .lit (.int .i64 0), .lit (.int .i64 0), .lit (.int .i64 0), .lit (.int .i64 0)]], .agg [.nil, .lit (.int .i64 0), .nil], .nil], [], places) :=
  ⟨[], by kernel_rfl⟩

theorem lifted (os : Os) (started : os.Started) (H : Type) (enc : TypeId × Value → H) (F : Stop.Interp) :
    ReturnsInHanded {} Tryd.checked os 5 .any ((OpenSpec.ofChange Rows.segmentSoundSpec).preRow enc Tryd.prog Tryd.f5 Rows.segmentSoundRow.domain false Rows.segmentSoundRow.laid) (((OpenSpec.ofChange Rows.segmentSoundSpec).at F).post enc Tryd.prog Tryd.f5 false true false false) := by
  obtain ⟨places, hx⟩ := reads os enc
  refine returnsInHanded_of_row (C := Tryd.checked) (s := OpenSpec.ofChange Rows.segmentSoundSpec) own started (by kernel_rfl) Tryd.func5
    (witness_row_at (enc := enc) (C := Tryd.checked) false (laidWorld9 os) #[.agg #[.int .u8 0, .slice none 0 0, .slice none 0 0, .int .i64 0, .int .i64 0, .int .i64 0, .int .i64 0, .int .i64 0, .int .i64 0, .int .i64 0, .int .i64 0, .int .i64 0, .int .i64 0, .int .i64 0, .int .i64 0, .string ⟨#[]⟩, .int .i64 0, .int .i64 0, .int .i64 0, .int .i64 0, .int .i64 0, .int .i64 0, .int .i64 0, .int .i64 0, .string ⟨#[]⟩, .int .i64 0, .int .i64 0, .int .i64 0, .int .i64 0], .agg #[.slice none 0 0, .int .i64 0, .slice none 0 0], .slice none 0 0] rfl (by kernel_rfl) (by kernel_rfl) (by kernel_rfl)
      (OpenSpec.preRow_of_cond 8 hx (by kernel_rfl) (fun k hk => by cases hk) (by kernel_rfl) (laid_met os))) ?_
  intro W base args ds gs before hval hW _ _ hwt hL hS _
  exact contract H enc W base args ds gs before hval hW hL hwt hS

theorem said : Rows.SegmentSoundSaid :=
  OpenClaim.holds_of_cond 5 Tryd.f5 rfl rfl rfl rfl rfl rfl rfl ⟨rfl, rfl, rfl, rfl, rfl⟩ rfl rfl rfl rfl rfl (by kernel_rfl) Tryd.func5 (by kernel_rfl)
    (of_decide_eq_true (by kernel_rfl)) (by unfold Func.isWrapper; first | (rw [if_pos (by decide +kernel)]; kernel_rfl) | (rw [if_neg (by decide +kernel)]; exact ⟨rfl, rfl⟩))
    (fun os started H enc _ F => by rw [OpenClaim.pre_eq_preRow]; exact lifted os started H enc F)

theorem plain (f : FuncId) (fn : Func) (hf : Tryd.pinned.checked.prog.funcNamed Rows.segmentSoundRow.func = some f) (hfn : Tryd.pinned.checked.prog.funcs[f]? = some fn) :
    false = Tryd.pinned.checked.prog.looks [] ∧ ∀ (j : Nat) t, fn.params[j]? = some t → Tryd.pinned.checked.prog.wantsStandIn t = false := by
  obtain rfl : f = 5 := Option.some.inj ((show Tryd.prog.funcNamed Rows.segmentSoundRow.func = some 5 by kernel_rfl).symm.trans hf) |>.symm
  obtain rfl : fn = Tryd.f5 := (Option.some.inj (Tryd.func5.symm.trans hfn)).symm
  refine ⟨by kernel_rfl, fun j t ht => ?_⟩
  rw [Tryd.params5] at ht
  have hm : t ∈ ([31, 36, 32] : List TypeId) := by simpa using Array.mem_of_getElem? ht
  exact standIn_all [31, 36, 32] (by kernel_rfl) t hm

theorem card : Rows.SegmentSoundCardSaid :=
  Claim7.holds_tied_plain_at .later [] _ _ _ _ said (fun _ h => by cases h) (by kernel_rfl) (fun _ h => by cases h) segmentSound_row_tie rfl ⟨rfl, rfl⟩ (by kernel_rfl) rfl plain (by kernel_rfl)
end Go.Proofs.YtalfcmgcjdkolaaDoor.segmentSoundDone
namespace Go.Proofs.YtalfcmgcjdkolaaDoor
theorem segmentSound_card : Rows.SegmentSoundCardSaid := segmentSoundDone.card
#print axioms segmentSound_card
end Go.Proofs.YtalfcmgcjdkolaaDoor
