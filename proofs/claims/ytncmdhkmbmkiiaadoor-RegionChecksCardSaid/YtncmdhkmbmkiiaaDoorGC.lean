/- What some functions compute, read off their texts by a program of mine (gen.py): definitions, and contracts (the text computes it). No condition but that the definition answers. -/
import Derived.Test.YtncmdhkmbmkiiaaDoorGB
namespace Go.Proofs.YtncmdhkmbmkiiaaDoor
open Go.RowKit
set_option maxRecDepth 100000
set_option linter.unusedVariables false
set_option linter.unusedSimpArgs false
set_option maxHeartbeats 10000000
-- region.aligns
def g_region_aligns  : Option ((List (List UInt8))) :=
  (some [[76, 69, 70, 84], [67, 69, 78, 84, 69, 82], [82, 73, 71, 72, 84]])
theorem a_region_aligns (I : World → Prop) (hI : Stab I)  {r : (List (List UInt8))} (h : g_region_aligns  = some r) : AFun Tryd.prog I 86 [] (.sl (r.map D.str)) := by
  refine AFun.enterB hI Tryd.func86 rfl (by decide) (by simp [Tryd.f86]) (by kernel_rfl) ?_
  unfold g_region_aligns at h
  simp only [S0, Tryd.ntmps86]
  refine rb_seq ?_
  refine rb_regionK fun K2 hK2 => ?_
  simp -implicitDefEqProofs only [vt, ↓atI_fold, forall_const, reduceIte, reduceCtorEq, Nat.reduceEqDiff, Nat.reduceAdd, Nat.reduceSub, Nat.reduceMul, Nat.reduceLT, Nat.reduceLeDiff, Nat.reducePow, Int.reduceToNat, Int.reduceLT, Int.reduceLE, Int.reduceAdd, Int.reduceSub, Int.reduceMul, Int.reduceEq, Int.reduceBEq, Int.reduceBNe, Int.reduceNeg]
  subst hK2
  refine eb_seq ?_
  refine rb_seq ?_
  refine rb_regionK fun K4 hK4 => ?_
  simp -implicitDefEqProofs only [vt, ↓atI_fold, forall_const, reduceIte, reduceCtorEq, Nat.reduceEqDiff, Nat.reduceAdd, Nat.reduceSub, Nat.reduceMul, Nat.reduceLT, Nat.reduceLeDiff, Nat.reducePow, Int.reduceToNat, Int.reduceLT, Int.reduceLE, Int.reduceAdd, Int.reduceSub, Int.reduceMul, Int.reduceEq, Int.reduceBEq, Int.reduceBNe, Int.reduceNeg]
  subst hK4
  refine eb_seq ?_
  refine rb_ret ?_
  obtain rfl := Option.some.inj h
  refine eb_nil ?_
  simp -implicitDefEqProofs only [vt, ↓atI_fold, forall_const, reduceIte, reduceCtorEq, Nat.reduceEqDiff, Nat.reduceAdd, Nat.reduceSub, Nat.reduceMul, Nat.reduceLT, Nat.reduceLeDiff, Nat.reducePow, Int.reduceToNat, Int.reduceLT, Int.reduceLE, Int.reduceAdd, Int.reduceSub, Int.reduceMul, Int.reduceEq, Int.reduceBEq, Int.reduceBNe, Int.reduceNeg, retQ_r, Tryd.results86] <;> first | rfl | (simp [List.map_append]; done)
-- lines.Decimal
def g_lines_Decimal (n_0 : Int) : Option ((List UInt8)) :=
  ((g_strconv_FormatInt n_0 10).bind fun r7 => (some r7))
theorem a_lines_Decimal (I : World → Prop) (hI : Stab I) (hTab : ∀ w, I w → Tab w) (n_0 : Int) {r : (List UInt8)} (h : g_lines_Decimal n_0 = some r) : AFun Tryd.prog I 53 [.int .i64 n_0] (.str r) := by
  refine AFun.enterB hI Tryd.func53 rfl (by decide) (by simp [Tryd.f53]) (by kernel_rfl) ?_
  unfold g_lines_Decimal at h
  simp only [S0, Tryd.ntmps53]
  refine rb_seq ?_
  refine rb_regionK fun K2 hK2 => ?_
  simp -implicitDefEqProofs only [vt, ↓atI_fold, forall_const, reduceIte, reduceCtorEq, Nat.reduceEqDiff, Nat.reduceAdd, Nat.reduceSub, Nat.reduceMul, Nat.reduceLT, Nat.reduceLeDiff, Nat.reducePow, Int.reduceToNat, Int.reduceLT, Int.reduceLE, Int.reduceAdd, Int.reduceSub, Int.reduceMul, Int.reduceEq, Int.reduceBEq, Int.reduceBNe, Int.reduceNeg]
  subst hK2
  refine eb_seq ?_
  refine rb_seq ?_
  refine rb_regionK fun K6 hK6 => ?_
  simp -implicitDefEqProofs only [vt, ↓atI_fold, forall_const, reduceIte, reduceCtorEq, Nat.reduceEqDiff, Nat.reduceAdd, Nat.reduceSub, Nat.reduceMul, Nat.reduceLT, Nat.reduceLeDiff, Nat.reducePow, Int.reduceToNat, Int.reduceLT, Int.reduceLE, Int.reduceAdd, Int.reduceSub, Int.reduceMul, Int.reduceEq, Int.reduceBEq, Int.reduceBNe, Int.reduceNeg]
  obtain ⟨r7, h8, h⟩ := bind_some h
  refine cW.intro (a_strconv_FormatInt I hI hTab n_0 10 h8) (by first | rfl | (simp [List.map_append]; done)) ?_
  simp -implicitDefEqProofs only [vt, ↓atI_fold, forall_const, reduceIte, reduceCtorEq, Nat.reduceEqDiff, Nat.reduceAdd, Nat.reduceSub, Nat.reduceMul, Nat.reduceLT, Nat.reduceLeDiff, Nat.reducePow, Int.reduceToNat, Int.reduceLT, Int.reduceLE, Int.reduceAdd, Int.reduceSub, Int.reduceMul, Int.reduceEq, Int.reduceBEq, Int.reduceBNe, Int.reduceNeg]
  subst hK6
  refine eb_seq ?_
  refine rb_ret ?_
  obtain rfl := Option.some.inj h
  refine eb_nil ?_
  simp -implicitDefEqProofs only [vt, ↓atI_fold, forall_const, reduceIte, reduceCtorEq, Nat.reduceEqDiff, Nat.reduceAdd, Nat.reduceSub, Nat.reduceMul, Nat.reduceLT, Nat.reduceLeDiff, Nat.reducePow, Int.reduceToNat, Int.reduceLT, Int.reduceLE, Int.reduceAdd, Int.reduceSub, Int.reduceMul, Int.reduceEq, Int.reduceBEq, Int.reduceBNe, Int.reduceNeg, retQ_r, Tryd.results53] <;> first | rfl | (simp [List.map_append]; done)
-- region.Text
def g_region_Text_s1 (r_0 : T_api_Region) (x18 : Int × (List (List UInt8))) : Option (Nx (Int × (List (List UInt8))) ((List (List UInt8)))) :=
  (if (decide (x18.1 < 4)) then ((atI [r_0.Top, r_0.Height, r_0.Left, r_0.Width] x18.1).bind fun y126 => ((g_lines_Decimal y126).bind fun r132 => (if (x18.2.length + 1) * 16 ≤ 140737488355328 then (some (.go ((IntKind.i64.wrap (x18.1 + 1)), (x18.2 ++ [r132])))) else none))) else (some (.out x18.2)))
def g_region_Text (r_0 : T_api_Region) : Option ((List UInt8) × Int) :=
  ((g_region_Check r_0).bind fun r7 => (if (r7 != 0) then (some ([], r7)) else ((iter (g_region_Text_s1 r_0) (0, [r_0.Name])).bind fun e19 => (if r_0.Bottom then ((g_region_aligns).bind fun r154 => ((atI r154 (IntKind.u8.wrap (r_0.Align - 1))).bind fun y156 => (if (e19.length + 2) * 16 ≤ 140737488355328 then ((g_strings_Join (e19 ++ [y156, [66, 79, 84, 84, 79, 77]]) [32]).bind fun r160 => (some (r160, 0))) else none))) else ((g_region_aligns).bind fun r172 => ((atI r172 (IntKind.u8.wrap (r_0.Align - 1))).bind fun y174 => (if (e19.length + 2) * 16 ≤ 140737488355328 then ((g_strings_Join (e19 ++ [y174, [84, 79, 80]]) [32]).bind fun r178 => (some (r178, 0))) else none)))))))
theorem a_region_Text (I : World → Prop) (hI : Stab I) (hTab : ∀ w, I w → Tab w) (r_0 : T_api_Region) {r : (List UInt8) × Int} (h : g_region_Text r_0 = some r) : AFun Tryd.prog I 64 [T_api_Region.d r_0] (.tup [.str r.1, .int .i64 r.2]) := by
  refine AFun.enterB hI Tryd.func64 rfl (by decide) (by simp [Tryd.f64]) (by kernel_rfl) ?_
  unfold g_region_Text at h
  simp only [S0, Tryd.ntmps64, T_api_Region.d]
  refine rb_seq ?_
  refine rb_regionK fun K2 hK2 => ?_
  simp -implicitDefEqProofs only [vt, ↓atI_fold, forall_const, reduceIte, reduceCtorEq, Nat.reduceEqDiff, Nat.reduceAdd, Nat.reduceSub, Nat.reduceMul, Nat.reduceLT, Nat.reduceLeDiff, Nat.reducePow, Int.reduceToNat, Int.reduceLT, Int.reduceLE, Int.reduceAdd, Int.reduceSub, Int.reduceMul, Int.reduceEq, Int.reduceBEq, Int.reduceBNe, Int.reduceNeg, T_api_Region.d]
  subst hK2
  refine eb_seq ?_
  refine rb_seq ?_
  refine rb_seq ?_
  refine rb_regionK fun K6 hK6 => ?_
  simp -implicitDefEqProofs only [vt, ↓atI_fold, forall_const, reduceIte, reduceCtorEq, Nat.reduceEqDiff, Nat.reduceAdd, Nat.reduceSub, Nat.reduceMul, Nat.reduceLT, Nat.reduceLeDiff, Nat.reducePow, Int.reduceToNat, Int.reduceLT, Int.reduceLE, Int.reduceAdd, Int.reduceSub, Int.reduceMul, Int.reduceEq, Int.reduceBEq, Int.reduceBNe, Int.reduceNeg, T_api_Region.d]
  obtain ⟨r7, h8, h⟩ := bind_some h
  refine cW.intro (a_region_Check I hI r_0 h8) (by first | rfl | (simp [List.map_append, T_api_Region.d]; done)) ?_
  simp -implicitDefEqProofs only [vt, ↓atI_fold, forall_const, reduceIte, reduceCtorEq, Nat.reduceEqDiff, Nat.reduceAdd, Nat.reduceSub, Nat.reduceMul, Nat.reduceLT, Nat.reduceLeDiff, Nat.reducePow, Int.reduceToNat, Int.reduceLT, Int.reduceLE, Int.reduceAdd, Int.reduceSub, Int.reduceMul, Int.reduceEq, Int.reduceBEq, Int.reduceBNe, Int.reduceNeg, T_api_Region.d]
  subst hK6
  refine eb_seq ?_
  refine rb_seq ?_
  refine rb_regionK fun K10 hK10 => ?_
  simp -implicitDefEqProofs only [vt, ↓atI_fold, forall_const, reduceIte, reduceCtorEq, Nat.reduceEqDiff, Nat.reduceAdd, Nat.reduceSub, Nat.reduceMul, Nat.reduceLT, Nat.reduceLeDiff, Nat.reducePow, Int.reduceToNat, Int.reduceLT, Int.reduceLE, Int.reduceAdd, Int.reduceSub, Int.reduceMul, Int.reduceEq, Int.reduceBEq, Int.reduceBNe, Int.reduceNeg, T_api_Region.d]
  subst hK10
  refine eb_seq ?_
  rcases ite_or h with ⟨k11, h⟩ | ⟨k11, h⟩
  · refine rb_true (congrArg D.bool k11) ?_
    refine rb_seq ?_
    refine rb_regionK fun K13 hK13 => ?_
    simp -implicitDefEqProofs only [vt, ↓atI_fold, forall_const, reduceIte, reduceCtorEq, Nat.reduceEqDiff, Nat.reduceAdd, Nat.reduceSub, Nat.reduceMul, Nat.reduceLT, Nat.reduceLeDiff, Nat.reducePow, Int.reduceToNat, Int.reduceLT, Int.reduceLE, Int.reduceAdd, Int.reduceSub, Int.reduceMul, Int.reduceEq, Int.reduceBEq, Int.reduceBNe, Int.reduceNeg, T_api_Region.d, k11]
    subst hK13
    refine eb_seq ?_
    refine rb_ret ?_
    refine eb_seq_r ?_
    obtain rfl := Option.some.inj h
    refine eb_nil ?_
    simp -implicitDefEqProofs only [vt, ↓atI_fold, forall_const, reduceIte, reduceCtorEq, Nat.reduceEqDiff, Nat.reduceAdd, Nat.reduceSub, Nat.reduceMul, Nat.reduceLT, Nat.reduceLeDiff, Nat.reducePow, Int.reduceToNat, Int.reduceLT, Int.reduceLE, Int.reduceAdd, Int.reduceSub, Int.reduceMul, Int.reduceEq, Int.reduceBEq, Int.reduceBNe, Int.reduceNeg, retQ_r, Tryd.results64, T_api_Region.d, k11] <;> first | rfl | (simp [List.map_append, T_api_Region.d]; done)
  · refine rb_false (congrArg D.bool k11) ?_
    refine rb_skip ?_
    refine eb_seq ?_
    refine rb_seq ?_
    refine rb_regionK fun K15 hK15 => ?_
    simp -implicitDefEqProofs only [vt, ↓atI_fold, forall_const, reduceIte, reduceCtorEq, Nat.reduceEqDiff, Nat.reduceAdd, Nat.reduceSub, Nat.reduceMul, Nat.reduceLT, Nat.reduceLeDiff, Nat.reducePow, Int.reduceToNat, Int.reduceLT, Int.reduceLE, Int.reduceAdd, Int.reduceSub, Int.reduceMul, Int.reduceEq, Int.reduceBEq, Int.reduceBNe, Int.reduceNeg, T_api_Region.d, k11]
    subst hK15
    refine eb_seq ?_
    refine rb_seq ?_
    refine rb_seq ?_
    refine rb_regionK fun K17 hK17 => ?_
    simp -implicitDefEqProofs only [vt, ↓atI_fold, forall_const, reduceIte, reduceCtorEq, Nat.reduceEqDiff, Nat.reduceAdd, Nat.reduceSub, Nat.reduceMul, Nat.reduceLT, Nat.reduceLeDiff, Nat.reducePow, Int.reduceToNat, Int.reduceLT, Int.reduceLE, Int.reduceAdd, Int.reduceSub, Int.reduceMul, Int.reduceEq, Int.reduceBEq, Int.reduceBNe, Int.reduceNeg, T_api_Region.d, k11]
    subst hK17
    refine eb_seq ?_
    refine rb_block ?_
    obtain ⟨e19, h137, h⟩ := bind_some h
    refine rb_loop (fun x18 => ⟨envL [(1, .ptr 0 0), (5, .own 1 x18.2.length), (25, .own 2 4), (26, .int .i64 4), (27, .int .i64 x18.1)], heapL [(0, .box [.str r_0.Name, .int .i64 r_0.Top, .int .i64 r_0.Height, .int .i64 r_0.Left, .int .i64 r_0.Width, .int .u8 r_0.Align, .bool r_0.Bottom]), (1, .vec 9 1 (x18.2.map D.str) false), (2, .vec 3 1 ([r_0.Top, r_0.Height, r_0.Left, r_0.Width].map (D.int .i64)) false)], 3, 50⟩) (fun _ => .exit 0) (fun e19 => ⟨envL [(1, .ptr 0 0), (5, .own 1 e19.length)], heapL [(0, .box [.str r_0.Name, .int .i64 r_0.Top, .int .i64 r_0.Height, .int .i64 r_0.Left, .int .i64 r_0.Width, .int .u8 r_0.Align, .bool r_0.Bottom]), (1, .vec 9 1 (e19.map D.str) false)], 2, 50⟩) h137 (Wk.of (fun i => if i = 2 then some 20 else if i = 1 then some 10 else if i = 0 then some 0 else some i) _ _ _ (by simp -implicitDefEqProofs [upd_app, argL, envL_app, heapL_app, look, appEff, wkEnv, wkHeap, D.ren, D.ren1, D.idOk, D.idOk1, Blk.ren, Blk.idOk, T_api_Region.d, k11]) (by simp -implicitDefEqProofs [upd_app, argL, envL_app, heapL_app, look, appEff, wkEnv, wkHeap, D.ren, D.ren1, D.idOk, D.idOk1, Blk.ren, Blk.idOk, T_api_Region.d, k11])) (by intro w; simp) ?_ ?_
    · clear h
      intro x18 y h
      unfold g_region_Text_s1 at h
      refine rb_seq ?_
      refine rb_regionK fun K99 hK99 => ?_
      simp -implicitDefEqProofs only [vt, ↓atI_fold, forall_const, reduceIte, reduceCtorEq, Nat.reduceEqDiff, Nat.reduceAdd, Nat.reduceSub, Nat.reduceMul, Nat.reduceLT, Nat.reduceLeDiff, Nat.reducePow, Int.reduceToNat, Int.reduceLT, Int.reduceLE, Int.reduceAdd, Int.reduceSub, Int.reduceMul, Int.reduceEq, Int.reduceBEq, Int.reduceBNe, Int.reduceNeg, T_api_Region.d, k11]
      subst hK99
      refine eb_seq ?_
      refine rb_seq ?_
      rcases ite_or h with ⟨k101, h⟩ | ⟨k101, h⟩
      · refine rb_true (congrArg D.bool k101) ?_
        refine rb_skip ?_
        refine eb_seq ?_
        refine rb_seq ?_
        refine rb_block ?_
        refine rb_seq ?_
        refine rb_regionK fun K125 hK125 => ?_
        simp -implicitDefEqProofs only [vt, ↓atI_fold, forall_const, reduceIte, reduceCtorEq, Nat.reduceEqDiff, Nat.reduceAdd, Nat.reduceSub, Nat.reduceMul, Nat.reduceLT, Nat.reduceLeDiff, Nat.reducePow, Int.reduceToNat, Int.reduceLT, Int.reduceLE, Int.reduceAdd, Int.reduceSub, Int.reduceMul, Int.reduceEq, Int.reduceBEq, Int.reduceBNe, Int.reduceNeg, T_api_Region.d, k11, k101]
        obtain ⟨y126, h127, h⟩ := bind_some h
        obtain ⟨h128, h129, h130⟩ := atI_own h127
        have h130 := h130 (D.int .i64)
        simp only [List.map_cons, List.map_nil, T_api_Region.d] at h130
        have h129 : x18.1 < 4 := by simpa using h129
        simp -implicitDefEqProofs only [vt, ↓atI_fold, forall_const, reduceIte, reduceCtorEq, Nat.reduceEqDiff, Nat.reduceAdd, Nat.reduceSub, Nat.reduceMul, Nat.reduceLT, Nat.reduceLeDiff, Nat.reducePow, Int.reduceToNat, Int.reduceLT, Int.reduceLE, Int.reduceAdd, Int.reduceSub, Int.reduceMul, Int.reduceEq, Int.reduceBEq, Int.reduceBNe, Int.reduceNeg, T_api_Region.d, k11, k101, h128, h129, h130]
        subst hK125
        refine eb_seq ?_
        refine rb_regionK fun K131 hK131 => ?_
        simp -implicitDefEqProofs only [vt, ↓atI_fold, forall_const, reduceIte, reduceCtorEq, Nat.reduceEqDiff, Nat.reduceAdd, Nat.reduceSub, Nat.reduceMul, Nat.reduceLT, Nat.reduceLeDiff, Nat.reducePow, Int.reduceToNat, Int.reduceLT, Int.reduceLE, Int.reduceAdd, Int.reduceSub, Int.reduceMul, Int.reduceEq, Int.reduceBEq, Int.reduceBNe, Int.reduceNeg, T_api_Region.d, k11, k101, h128, h129, h130]
        obtain ⟨r132, h133, h⟩ := bind_some h
        refine cW.intro (a_lines_Decimal I hI hTab y126 h133) (by first | rfl | (simp [List.map_append, T_api_Region.d]; done)) ?_
        simp -implicitDefEqProofs only [vt, ↓atI_fold, forall_const, reduceIte, reduceCtorEq, Nat.reduceEqDiff, Nat.reduceAdd, Nat.reduceSub, Nat.reduceMul, Nat.reduceLT, Nat.reduceLeDiff, Nat.reducePow, Int.reduceToNat, Int.reduceLT, Int.reduceLE, Int.reduceAdd, Int.reduceSub, Int.reduceMul, Int.reduceEq, Int.reduceBEq, Int.reduceBNe, Int.reduceNeg, T_api_Region.d, k11, k101, h128, h129, h130]
        obtain ⟨h134, h⟩ := ite_on h
        have h135 : x18.2.length + 1 ≤ 9223372036854775807 := by omega
        try simp only [Nat.reduceLeDiff] at h135
        simp -implicitDefEqProofs only [vt, ↓atI_fold, forall_const, reduceIte, reduceCtorEq, Nat.reduceEqDiff, Nat.reduceAdd, Nat.reduceSub, Nat.reduceMul, Nat.reduceLT, Nat.reduceLeDiff, Nat.reducePow, Int.reduceToNat, Int.reduceLT, Int.reduceLE, Int.reduceAdd, Int.reduceSub, Int.reduceMul, Int.reduceEq, Int.reduceBEq, Int.reduceBNe, Int.reduceNeg, T_api_Region.d, k11, k101, h128, h129, h130, h135, h134]
        subst hK131
        refine eb_blk_n ?_
        refine eb_seq ?_
        refine rb_regionK fun K136 hK136 => ?_
        simp -implicitDefEqProofs only [vt, ↓atI_fold, forall_const, reduceIte, reduceCtorEq, Nat.reduceEqDiff, Nat.reduceAdd, Nat.reduceSub, Nat.reduceMul, Nat.reduceLT, Nat.reduceLeDiff, Nat.reducePow, Int.reduceToNat, Int.reduceLT, Int.reduceLE, Int.reduceAdd, Int.reduceSub, Int.reduceMul, Int.reduceEq, Int.reduceBEq, Int.reduceBNe, Int.reduceNeg, T_api_Region.d, k11, k101, h128, h129, h130, h135, h134]
        subst hK136
        obtain rfl := Option.some.inj h
        exact eb_nil ⟨rfl, Wk.of (fun i => if i = 2 then some 2 else if i = 1 then some 11 else if i = 0 then some 0 else some i) _ _ _ (by simp -implicitDefEqProofs [upd_app, argL, envL_app, heapL_app, look, appEff, wkEnv, wkHeap, D.ren, D.ren1, D.idOk, D.idOk1, Blk.ren, Blk.idOk, T_api_Region.d, k11, k101]) (by simp -implicitDefEqProofs [upd_app, argL, envL_app, heapL_app, look, appEff, wkEnv, wkHeap, D.ren, D.ren1, D.idOk, D.idOk1, Blk.ren, Blk.idOk, T_api_Region.d, k11, k101])⟩
      · refine rb_false (congrArg D.bool k101) ?_
        refine rb_exit ?_
        refine eb_seq_e ?_
        obtain rfl := Option.some.inj h
        exact eb_nil ⟨rfl, Wk.of (fun i => if i = 1 then some 1 else if i = 0 then some 0 else some i) _ _ _ (by simp -implicitDefEqProofs [upd_app, argL, envL_app, heapL_app, look, appEff, wkEnv, wkHeap, D.ren, D.ren1, D.idOk, D.idOk1, Blk.ren, Blk.idOk, T_api_Region.d, k11, k101]) (by simp -implicitDefEqProofs [upd_app, argL, envL_app, heapL_app, look, appEff, wkEnv, wkHeap, D.ren, D.ren1, D.idOk, D.idOk1, Blk.ren, Blk.idOk, T_api_Region.d, k11, k101])⟩
    · refine eb_blk_hit ?_
      refine eb_seq ?_
      refine rb_seq ?_
      refine rb_regionK fun K139 hK139 => ?_
      simp -implicitDefEqProofs only [vt, ↓atI_fold, forall_const, reduceIte, reduceCtorEq, Nat.reduceEqDiff, Nat.reduceAdd, Nat.reduceSub, Nat.reduceMul, Nat.reduceLT, Nat.reduceLeDiff, Nat.reducePow, Int.reduceToNat, Int.reduceLT, Int.reduceLE, Int.reduceAdd, Int.reduceSub, Int.reduceMul, Int.reduceEq, Int.reduceBEq, Int.reduceBNe, Int.reduceNeg, T_api_Region.d, k11]
      subst hK139
      refine eb_seq ?_
      refine rb_seq ?_
      refine rb_seq ?_
      refine rb_regionK fun K141 hK141 => ?_
      simp -implicitDefEqProofs only [vt, ↓atI_fold, forall_const, reduceIte, reduceCtorEq, Nat.reduceEqDiff, Nat.reduceAdd, Nat.reduceSub, Nat.reduceMul, Nat.reduceLT, Nat.reduceLeDiff, Nat.reducePow, Int.reduceToNat, Int.reduceLT, Int.reduceLE, Int.reduceAdd, Int.reduceSub, Int.reduceMul, Int.reduceEq, Int.reduceBEq, Int.reduceBNe, Int.reduceNeg, T_api_Region.d, k11]
      subst hK141
      refine eb_seq ?_
      rcases ite_or h with ⟨k142, h⟩ | ⟨k142, h⟩
      · refine rb_true (congrArg D.bool k142) ?_
        refine rb_regionK fun K143 hK143 => ?_
        simp -implicitDefEqProofs only [vt, ↓atI_fold, forall_const, reduceIte, reduceCtorEq, Nat.reduceEqDiff, Nat.reduceAdd, Nat.reduceSub, Nat.reduceMul, Nat.reduceLT, Nat.reduceLeDiff, Nat.reducePow, Int.reduceToNat, Int.reduceLT, Int.reduceLE, Int.reduceAdd, Int.reduceSub, Int.reduceMul, Int.reduceEq, Int.reduceBEq, Int.reduceBNe, Int.reduceNeg, T_api_Region.d, k11, k142]
        subst hK143
        refine eb_seq ?_
        refine rb_seq ?_
        refine rb_drawK hI (by kernel_rfl) (by kernel_rfl) fun K153 hK153 => ?_
        simp -implicitDefEqProofs only [vt, ↓atI_fold, forall_const, reduceIte, reduceCtorEq, Nat.reduceEqDiff, Nat.reduceAdd, Nat.reduceSub, Nat.reduceMul, Nat.reduceLT, Nat.reduceLeDiff, Nat.reducePow, Int.reduceToNat, Int.reduceLT, Int.reduceLE, Int.reduceAdd, Int.reduceSub, Int.reduceMul, Int.reduceEq, Int.reduceBEq, Int.reduceBNe, Int.reduceNeg, T_api_Region.d, k11, k142]
        obtain ⟨r154, h155, h⟩ := bind_some h
        refine cD'.intro (a_region_aligns I hI h155) (by first | rfl | (simp [List.map_append, T_api_Region.d]; done)) (by kernel_rfl) ?_
        simp -implicitDefEqProofs only [vt, ↓atI_fold, forall_const, reduceIte, reduceCtorEq, Nat.reduceEqDiff, Nat.reduceAdd, Nat.reduceSub, Nat.reduceMul, Nat.reduceLT, Nat.reduceLeDiff, Nat.reducePow, Int.reduceToNat, Int.reduceLT, Int.reduceLE, Int.reduceAdd, Int.reduceSub, Int.reduceMul, Int.reduceEq, Int.reduceBEq, Int.reduceBNe, Int.reduceNeg, T_api_Region.d, k11, k142]
        obtain ⟨y156, h157, h⟩ := bind_some h
        simp -implicitDefEqProofs only [vt, ↓atI_fold, forall_const, reduceIte, reduceCtorEq, Nat.reduceEqDiff, Nat.reduceAdd, Nat.reduceSub, Nat.reduceMul, Nat.reduceLT, Nat.reduceLeDiff, Nat.reducePow, Int.reduceToNat, Int.reduceLT, Int.reduceLE, Int.reduceAdd, Int.reduceSub, Int.reduceMul, Int.reduceEq, Int.reduceBEq, Int.reduceBNe, Int.reduceNeg, T_api_Region.d, k11, k142, h157]
        obtain ⟨h158, h⟩ := ite_on h
        have h159 : e19.length + 2 ≤ 9223372036854775807 := by omega
        try simp only [Nat.reduceLeDiff] at h159
        simp -implicitDefEqProofs only [vt, ↓atI_fold, forall_const, reduceIte, reduceCtorEq, Nat.reduceEqDiff, Nat.reduceAdd, Nat.reduceSub, Nat.reduceMul, Nat.reduceLT, Nat.reduceLeDiff, Nat.reducePow, Int.reduceToNat, Int.reduceLT, Int.reduceLE, Int.reduceAdd, Int.reduceSub, Int.reduceMul, Int.reduceEq, Int.reduceBEq, Int.reduceBNe, Int.reduceNeg, T_api_Region.d, k11, k142, h157, h159, h158]
        refine hD.intro (by kernel_rfl) ?_
        simp -implicitDefEqProofs only [vt, ↓atI_fold, forall_const, reduceIte, reduceCtorEq, Nat.reduceEqDiff, Nat.reduceAdd, Nat.reduceSub, Nat.reduceMul, Nat.reduceLT, Nat.reduceLeDiff, Nat.reducePow, Int.reduceToNat, Int.reduceLT, Int.reduceLE, Int.reduceAdd, Int.reduceSub, Int.reduceMul, Int.reduceEq, Int.reduceBEq, Int.reduceBNe, Int.reduceNeg, T_api_Region.d, k11, k142, h157, h159, h158]
        obtain ⟨r160, h161, h⟩ := bind_some h
        refine cD'.intro (a_strings_Join I hI (e19 ++ [y156, [66, 79, 84, 84, 79, 77]]) [32] h161) (by first | rfl | (simp [List.map_append, T_api_Region.d]; done)) (by kernel_rfl) ?_
        simp -implicitDefEqProofs only [vt, ↓atI_fold, forall_const, reduceIte, reduceCtorEq, Nat.reduceEqDiff, Nat.reduceAdd, Nat.reduceSub, Nat.reduceMul, Nat.reduceLT, Nat.reduceLeDiff, Nat.reducePow, Int.reduceToNat, Int.reduceLT, Int.reduceLE, Int.reduceAdd, Int.reduceSub, Int.reduceMul, Int.reduceEq, Int.reduceBEq, Int.reduceBNe, Int.reduceNeg, T_api_Region.d, k11, k142, h157, h159, h158]
        subst hK153
        refine eb_seq ?_
        refine rb_ret ?_
        obtain rfl := Option.some.inj h
        refine eb_nil ?_
        simp -implicitDefEqProofs only [vt, ↓atI_fold, forall_const, reduceIte, reduceCtorEq, Nat.reduceEqDiff, Nat.reduceAdd, Nat.reduceSub, Nat.reduceMul, Nat.reduceLT, Nat.reduceLeDiff, Nat.reducePow, Int.reduceToNat, Int.reduceLT, Int.reduceLE, Int.reduceAdd, Int.reduceSub, Int.reduceMul, Int.reduceEq, Int.reduceBEq, Int.reduceBNe, Int.reduceNeg, retQ_r, Tryd.results64, T_api_Region.d, k11, k142, h157, h159, h158] <;> first | rfl | (simp [List.map_append, T_api_Region.d]; done)
      · refine rb_false (congrArg D.bool k142) ?_
        refine rb_skip ?_
        refine eb_seq ?_
        refine rb_seq ?_
        refine rb_drawK hI (by kernel_rfl) (by kernel_rfl) fun K171 hK171 => ?_
        simp -implicitDefEqProofs only [vt, ↓atI_fold, forall_const, reduceIte, reduceCtorEq, Nat.reduceEqDiff, Nat.reduceAdd, Nat.reduceSub, Nat.reduceMul, Nat.reduceLT, Nat.reduceLeDiff, Nat.reducePow, Int.reduceToNat, Int.reduceLT, Int.reduceLE, Int.reduceAdd, Int.reduceSub, Int.reduceMul, Int.reduceEq, Int.reduceBEq, Int.reduceBNe, Int.reduceNeg, T_api_Region.d, k11, k142]
        obtain ⟨r172, h173, h⟩ := bind_some h
        refine cD'.intro (a_region_aligns I hI h173) (by first | rfl | (simp [List.map_append, T_api_Region.d]; done)) (by kernel_rfl) ?_
        simp -implicitDefEqProofs only [vt, ↓atI_fold, forall_const, reduceIte, reduceCtorEq, Nat.reduceEqDiff, Nat.reduceAdd, Nat.reduceSub, Nat.reduceMul, Nat.reduceLT, Nat.reduceLeDiff, Nat.reducePow, Int.reduceToNat, Int.reduceLT, Int.reduceLE, Int.reduceAdd, Int.reduceSub, Int.reduceMul, Int.reduceEq, Int.reduceBEq, Int.reduceBNe, Int.reduceNeg, T_api_Region.d, k11, k142]
        obtain ⟨y174, h175, h⟩ := bind_some h
        simp -implicitDefEqProofs only [vt, ↓atI_fold, forall_const, reduceIte, reduceCtorEq, Nat.reduceEqDiff, Nat.reduceAdd, Nat.reduceSub, Nat.reduceMul, Nat.reduceLT, Nat.reduceLeDiff, Nat.reducePow, Int.reduceToNat, Int.reduceLT, Int.reduceLE, Int.reduceAdd, Int.reduceSub, Int.reduceMul, Int.reduceEq, Int.reduceBEq, Int.reduceBNe, Int.reduceNeg, T_api_Region.d, k11, k142, h175]
        obtain ⟨h176, h⟩ := ite_on h
        have h177 : e19.length + 2 ≤ 9223372036854775807 := by omega
        try simp only [Nat.reduceLeDiff] at h177
        simp -implicitDefEqProofs only [vt, ↓atI_fold, forall_const, reduceIte, reduceCtorEq, Nat.reduceEqDiff, Nat.reduceAdd, Nat.reduceSub, Nat.reduceMul, Nat.reduceLT, Nat.reduceLeDiff, Nat.reducePow, Int.reduceToNat, Int.reduceLT, Int.reduceLE, Int.reduceAdd, Int.reduceSub, Int.reduceMul, Int.reduceEq, Int.reduceBEq, Int.reduceBNe, Int.reduceNeg, T_api_Region.d, k11, k142, h175, h177, h176]
        refine hD.intro (by kernel_rfl) ?_
        simp -implicitDefEqProofs only [vt, ↓atI_fold, forall_const, reduceIte, reduceCtorEq, Nat.reduceEqDiff, Nat.reduceAdd, Nat.reduceSub, Nat.reduceMul, Nat.reduceLT, Nat.reduceLeDiff, Nat.reducePow, Int.reduceToNat, Int.reduceLT, Int.reduceLE, Int.reduceAdd, Int.reduceSub, Int.reduceMul, Int.reduceEq, Int.reduceBEq, Int.reduceBNe, Int.reduceNeg, T_api_Region.d, k11, k142, h175, h177, h176]
        obtain ⟨r178, h179, h⟩ := bind_some h
        refine cD'.intro (a_strings_Join I hI (e19 ++ [y174, [84, 79, 80]]) [32] h179) (by first | rfl | (simp [List.map_append, T_api_Region.d]; done)) (by kernel_rfl) ?_
        simp -implicitDefEqProofs only [vt, ↓atI_fold, forall_const, reduceIte, reduceCtorEq, Nat.reduceEqDiff, Nat.reduceAdd, Nat.reduceSub, Nat.reduceMul, Nat.reduceLT, Nat.reduceLeDiff, Nat.reducePow, Int.reduceToNat, Int.reduceLT, Int.reduceLE, Int.reduceAdd, Int.reduceSub, Int.reduceMul, Int.reduceEq, Int.reduceBEq, Int.reduceBNe, Int.reduceNeg, T_api_Region.d, k11, k142, h175, h177, h176]
        subst hK171
        refine eb_seq ?_
        refine rb_ret ?_
        obtain rfl := Option.some.inj h
        refine eb_nil ?_
        simp -implicitDefEqProofs only [vt, ↓atI_fold, forall_const, reduceIte, reduceCtorEq, Nat.reduceEqDiff, Nat.reduceAdd, Nat.reduceSub, Nat.reduceMul, Nat.reduceLT, Nat.reduceLeDiff, Nat.reducePow, Int.reduceToNat, Int.reduceLT, Int.reduceLE, Int.reduceAdd, Int.reduceSub, Int.reduceMul, Int.reduceEq, Int.reduceBEq, Int.reduceBNe, Int.reduceNeg, retQ_r, Tryd.results64, T_api_Region.d, k11, k142, h175, h177, h176] <;> first | rfl | (simp [List.map_append, T_api_Region.d]; done)
-- captionerlaw10.awake
def g_law10_awake  : Option (Bool) :=
  ((g_region_Default).bind fun r9 => ((g_region_Place r9 [5, 32]).bind fun r11 => ((g_region_Default).bind fun r19 => ((g_region_Place r19 [1, 1, 1, 1, 1]).bind fun r21 => ((g_region_Default).bind fun r29 => ((g_region_Place r29 [33]).bind fun r31 => ((g_region_Text (T_api_Region.mk [84, 79, 80] 1 2 4 24 1 false)).bind fun r37 => (if ((r11.1.length : Int) == 2) then ((atI r11.1 0).bind fun y53 => (if ((y53.Row == 13) && ((y53.Col == 13) && (y53.Len == 5))) then ((atI r11.1 1).bind fun y56 => (if ((y56.Row == 14) && ((y56.Col == 0) && (y56.Len == 32))) then (if (r11.2 == 0) then (if (r21.2 == 9) then (if (r31.2 == 11) then (if (r37.1 == ([84, 79, 80, 32, 49, 32, 50, 32, 52, 32, 50, 52, 32, 76, 69, 70, 84, 32, 84, 79, 80] : List UInt8)) then (some (r37.2 == 0)) else (some false)) else (some false)) else (some false)) else (some false)) else (some false))) else (some false))) else (some false)))))))))
theorem a_law10_awake (I : World → Prop) (hI : Stab I) (hTab : ∀ w, I w → Tab w)  {r : Bool} (h : g_law10_awake  = some r) : AFun Tryd.prog I 25 [] (.bool r) := by
  refine AFun.enterB hI Tryd.func25 rfl (by decide) (by simp [Tryd.f25]) (by kernel_rfl) ?_
  unfold g_law10_awake at h
  simp only [S0, Tryd.ntmps25, T_api_Region.d, T_api_Spot.d]
  refine rb_seq ?_
  refine rb_regionK fun K2 hK2 => ?_
  simp -implicitDefEqProofs only [vt, ↓atI_fold, forall_const, reduceIte, reduceCtorEq, Nat.reduceEqDiff, Nat.reduceAdd, Nat.reduceSub, Nat.reduceMul, Nat.reduceLT, Nat.reduceLeDiff, Nat.reducePow, Int.reduceToNat, Int.reduceLT, Int.reduceLE, Int.reduceAdd, Int.reduceSub, Int.reduceMul, Int.reduceEq, Int.reduceBEq, Int.reduceBNe, Int.reduceNeg, T_api_Region.d]
  subst hK2
  refine eb_seq ?_
  refine rb_seq ?_
  refine rb_regionK fun K8 hK8 => ?_
  simp -implicitDefEqProofs only [vt, ↓atI_fold, forall_const, reduceIte, reduceCtorEq, Nat.reduceEqDiff, Nat.reduceAdd, Nat.reduceSub, Nat.reduceMul, Nat.reduceLT, Nat.reduceLeDiff, Nat.reducePow, Int.reduceToNat, Int.reduceLT, Int.reduceLE, Int.reduceAdd, Int.reduceSub, Int.reduceMul, Int.reduceEq, Int.reduceBEq, Int.reduceBNe, Int.reduceNeg, T_api_Region.d]
  obtain ⟨r9, h10, h⟩ := bind_some h
  refine cW.intro (a_region_Default I hI h10) (by first | rfl | (simp [List.map_append, T_api_Region.d]; done)) ?_
  simp -implicitDefEqProofs only [vt, ↓atI_fold, forall_const, reduceIte, reduceCtorEq, Nat.reduceEqDiff, Nat.reduceAdd, Nat.reduceSub, Nat.reduceMul, Nat.reduceLT, Nat.reduceLeDiff, Nat.reducePow, Int.reduceToNat, Int.reduceLT, Int.reduceLE, Int.reduceAdd, Int.reduceSub, Int.reduceMul, Int.reduceEq, Int.reduceBEq, Int.reduceBNe, Int.reduceNeg, T_api_Region.d]
  obtain ⟨r11, h12, h⟩ := bind_some h
  refine cW.intro (a_region_Place I hI r9 [5, 32] h12) (by first | rfl | (simp [List.map_append, T_api_Region.d]; done)) ?_
  simp -implicitDefEqProofs only [vt, ↓atI_fold, forall_const, reduceIte, reduceCtorEq, Nat.reduceEqDiff, Nat.reduceAdd, Nat.reduceSub, Nat.reduceMul, Nat.reduceLT, Nat.reduceLeDiff, Nat.reducePow, Int.reduceToNat, Int.reduceLT, Int.reduceLE, Int.reduceAdd, Int.reduceSub, Int.reduceMul, Int.reduceEq, Int.reduceBEq, Int.reduceBNe, Int.reduceNeg, T_api_Region.d]
  subst hK8
  refine eb_seq ?_
  refine rb_seq ?_
  refine rb_regionK fun K18 hK18 => ?_
  simp -implicitDefEqProofs only [vt, ↓atI_fold, forall_const, reduceIte, reduceCtorEq, Nat.reduceEqDiff, Nat.reduceAdd, Nat.reduceSub, Nat.reduceMul, Nat.reduceLT, Nat.reduceLeDiff, Nat.reducePow, Int.reduceToNat, Int.reduceLT, Int.reduceLE, Int.reduceAdd, Int.reduceSub, Int.reduceMul, Int.reduceEq, Int.reduceBEq, Int.reduceBNe, Int.reduceNeg, T_api_Region.d]
  obtain ⟨r19, h20, h⟩ := bind_some h
  refine cW.intro (a_region_Default I hI h20) (by first | rfl | (simp [List.map_append, T_api_Region.d]; done)) ?_
  simp -implicitDefEqProofs only [vt, ↓atI_fold, forall_const, reduceIte, reduceCtorEq, Nat.reduceEqDiff, Nat.reduceAdd, Nat.reduceSub, Nat.reduceMul, Nat.reduceLT, Nat.reduceLeDiff, Nat.reducePow, Int.reduceToNat, Int.reduceLT, Int.reduceLE, Int.reduceAdd, Int.reduceSub, Int.reduceMul, Int.reduceEq, Int.reduceBEq, Int.reduceBNe, Int.reduceNeg, T_api_Region.d]
  obtain ⟨r21, h22, h⟩ := bind_some h
  refine cW.intro (a_region_Place I hI r19 [1, 1, 1, 1, 1] h22) (by first | rfl | (simp [List.map_append, T_api_Region.d]; done)) ?_
  simp -implicitDefEqProofs only [vt, ↓atI_fold, forall_const, reduceIte, reduceCtorEq, Nat.reduceEqDiff, Nat.reduceAdd, Nat.reduceSub, Nat.reduceMul, Nat.reduceLT, Nat.reduceLeDiff, Nat.reducePow, Int.reduceToNat, Int.reduceLT, Int.reduceLE, Int.reduceAdd, Int.reduceSub, Int.reduceMul, Int.reduceEq, Int.reduceBEq, Int.reduceBNe, Int.reduceNeg, T_api_Region.d]
  subst hK18
  refine eb_seq ?_
  refine rb_seq ?_
  refine rb_regionK fun K28 hK28 => ?_
  simp -implicitDefEqProofs only [vt, ↓atI_fold, forall_const, reduceIte, reduceCtorEq, Nat.reduceEqDiff, Nat.reduceAdd, Nat.reduceSub, Nat.reduceMul, Nat.reduceLT, Nat.reduceLeDiff, Nat.reducePow, Int.reduceToNat, Int.reduceLT, Int.reduceLE, Int.reduceAdd, Int.reduceSub, Int.reduceMul, Int.reduceEq, Int.reduceBEq, Int.reduceBNe, Int.reduceNeg, T_api_Region.d]
  obtain ⟨r29, h30, h⟩ := bind_some h
  refine cW.intro (a_region_Default I hI h30) (by first | rfl | (simp [List.map_append, T_api_Region.d]; done)) ?_
  simp -implicitDefEqProofs only [vt, ↓atI_fold, forall_const, reduceIte, reduceCtorEq, Nat.reduceEqDiff, Nat.reduceAdd, Nat.reduceSub, Nat.reduceMul, Nat.reduceLT, Nat.reduceLeDiff, Nat.reducePow, Int.reduceToNat, Int.reduceLT, Int.reduceLE, Int.reduceAdd, Int.reduceSub, Int.reduceMul, Int.reduceEq, Int.reduceBEq, Int.reduceBNe, Int.reduceNeg, T_api_Region.d]
  obtain ⟨r31, h32, h⟩ := bind_some h
  refine cW.intro (a_region_Place I hI r29 [33] h32) (by first | rfl | (simp [List.map_append, T_api_Region.d]; done)) ?_
  simp -implicitDefEqProofs only [vt, ↓atI_fold, forall_const, reduceIte, reduceCtorEq, Nat.reduceEqDiff, Nat.reduceAdd, Nat.reduceSub, Nat.reduceMul, Nat.reduceLT, Nat.reduceLeDiff, Nat.reducePow, Int.reduceToNat, Int.reduceLT, Int.reduceLE, Int.reduceAdd, Int.reduceSub, Int.reduceMul, Int.reduceEq, Int.reduceBEq, Int.reduceBNe, Int.reduceNeg, T_api_Region.d]
  subst hK28
  refine eb_seq ?_
  refine rb_seq ?_
  refine rb_regionK fun K36 hK36 => ?_
  simp -implicitDefEqProofs only [vt, ↓atI_fold, forall_const, reduceIte, reduceCtorEq, Nat.reduceEqDiff, Nat.reduceAdd, Nat.reduceSub, Nat.reduceMul, Nat.reduceLT, Nat.reduceLeDiff, Nat.reducePow, Int.reduceToNat, Int.reduceLT, Int.reduceLE, Int.reduceAdd, Int.reduceSub, Int.reduceMul, Int.reduceEq, Int.reduceBEq, Int.reduceBNe, Int.reduceNeg, T_api_Region.d]
  obtain ⟨r37, h38, h⟩ := bind_some h
  refine cW.intro (a_region_Text I hI hTab (T_api_Region.mk [84, 79, 80] 1 2 4 24 1 false) h38) (by first | rfl | (simp [List.map_append, T_api_Region.d]; done)) ?_
  simp -implicitDefEqProofs only [vt, ↓atI_fold, forall_const, reduceIte, reduceCtorEq, Nat.reduceEqDiff, Nat.reduceAdd, Nat.reduceSub, Nat.reduceMul, Nat.reduceLT, Nat.reduceLeDiff, Nat.reducePow, Int.reduceToNat, Int.reduceLT, Int.reduceLE, Int.reduceAdd, Int.reduceSub, Int.reduceMul, Int.reduceEq, Int.reduceBEq, Int.reduceBNe, Int.reduceNeg, T_api_Region.d]
  subst hK36
  refine eb_seq ?_
  refine rb_seq ?_
  refine rb_regionK fun K51 hK51 => ?_
  simp -implicitDefEqProofs only [vt, ↓atI_fold, forall_const, reduceIte, reduceCtorEq, Nat.reduceEqDiff, Nat.reduceAdd, Nat.reduceSub, Nat.reduceMul, Nat.reduceLT, Nat.reduceLeDiff, Nat.reducePow, Int.reduceToNat, Int.reduceLT, Int.reduceLE, Int.reduceAdd, Int.reduceSub, Int.reduceMul, Int.reduceEq, Int.reduceBEq, Int.reduceBNe, Int.reduceNeg, T_api_Region.d, T_api_Spot.d]
  rcases ite_or h with ⟨k52, h⟩ | ⟨k52, h⟩
  · simp -implicitDefEqProofs only [vt, ↓atI_fold, forall_const, reduceIte, reduceCtorEq, Nat.reduceEqDiff, Nat.reduceAdd, Nat.reduceSub, Nat.reduceMul, Nat.reduceLT, Nat.reduceLeDiff, Nat.reducePow, Int.reduceToNat, Int.reduceLT, Int.reduceLE, Int.reduceAdd, Int.reduceSub, Int.reduceMul, Int.reduceEq, Int.reduceBEq, Int.reduceBNe, Int.reduceNeg, T_api_Region.d, T_api_Spot.d, k52]
    obtain ⟨y53, h54, h⟩ := bind_some h
    simp -implicitDefEqProofs only [vt, ↓atI_fold, forall_const, reduceIte, reduceCtorEq, Nat.reduceEqDiff, Nat.reduceAdd, Nat.reduceSub, Nat.reduceMul, Nat.reduceLT, Nat.reduceLeDiff, Nat.reducePow, Int.reduceToNat, Int.reduceLT, Int.reduceLE, Int.reduceAdd, Int.reduceSub, Int.reduceMul, Int.reduceEq, Int.reduceBEq, Int.reduceBNe, Int.reduceNeg, T_api_Region.d, T_api_Spot.d, k52, h54]
    rcases ite_or h with ⟨k55, h⟩ | ⟨k55, h⟩
    · simp -implicitDefEqProofs only [vt, ↓atI_fold, forall_const, reduceIte, reduceCtorEq, Nat.reduceEqDiff, Nat.reduceAdd, Nat.reduceSub, Nat.reduceMul, Nat.reduceLT, Nat.reduceLeDiff, Nat.reducePow, Int.reduceToNat, Int.reduceLT, Int.reduceLE, Int.reduceAdd, Int.reduceSub, Int.reduceMul, Int.reduceEq, Int.reduceBEq, Int.reduceBNe, Int.reduceNeg, T_api_Region.d, T_api_Spot.d, k52, h54, k55]
      obtain ⟨y56, h57, h⟩ := bind_some h
      simp -implicitDefEqProofs only [vt, ↓atI_fold, forall_const, reduceIte, reduceCtorEq, Nat.reduceEqDiff, Nat.reduceAdd, Nat.reduceSub, Nat.reduceMul, Nat.reduceLT, Nat.reduceLeDiff, Nat.reducePow, Int.reduceToNat, Int.reduceLT, Int.reduceLE, Int.reduceAdd, Int.reduceSub, Int.reduceMul, Int.reduceEq, Int.reduceBEq, Int.reduceBNe, Int.reduceNeg, T_api_Region.d, T_api_Spot.d, k52, h54, k55, h57]
      rcases ite_or h with ⟨k58, h⟩ | ⟨k58, h⟩
      · simp -implicitDefEqProofs only [vt, ↓atI_fold, forall_const, reduceIte, reduceCtorEq, Nat.reduceEqDiff, Nat.reduceAdd, Nat.reduceSub, Nat.reduceMul, Nat.reduceLT, Nat.reduceLeDiff, Nat.reducePow, Int.reduceToNat, Int.reduceLT, Int.reduceLE, Int.reduceAdd, Int.reduceSub, Int.reduceMul, Int.reduceEq, Int.reduceBEq, Int.reduceBNe, Int.reduceNeg, T_api_Region.d, T_api_Spot.d, k52, h54, k55, h57, k58]
        rcases ite_or h with ⟨k59, h⟩ | ⟨k59, h⟩
        · simp -implicitDefEqProofs only [vt, ↓atI_fold, forall_const, reduceIte, reduceCtorEq, Nat.reduceEqDiff, Nat.reduceAdd, Nat.reduceSub, Nat.reduceMul, Nat.reduceLT, Nat.reduceLeDiff, Nat.reducePow, Int.reduceToNat, Int.reduceLT, Int.reduceLE, Int.reduceAdd, Int.reduceSub, Int.reduceMul, Int.reduceEq, Int.reduceBEq, Int.reduceBNe, Int.reduceNeg, T_api_Region.d, T_api_Spot.d, k52, h54, k55, h57, k58, k59]
          rcases ite_or h with ⟨k60, h⟩ | ⟨k60, h⟩
          · simp -implicitDefEqProofs only [vt, ↓atI_fold, forall_const, reduceIte, reduceCtorEq, Nat.reduceEqDiff, Nat.reduceAdd, Nat.reduceSub, Nat.reduceMul, Nat.reduceLT, Nat.reduceLeDiff, Nat.reducePow, Int.reduceToNat, Int.reduceLT, Int.reduceLE, Int.reduceAdd, Int.reduceSub, Int.reduceMul, Int.reduceEq, Int.reduceBEq, Int.reduceBNe, Int.reduceNeg, T_api_Region.d, T_api_Spot.d, k52, h54, k55, h57, k58, k59, k60]
            rcases ite_or h with ⟨k61, h⟩ | ⟨k61, h⟩
            · simp -implicitDefEqProofs only [vt, ↓atI_fold, forall_const, reduceIte, reduceCtorEq, Nat.reduceEqDiff, Nat.reduceAdd, Nat.reduceSub, Nat.reduceMul, Nat.reduceLT, Nat.reduceLeDiff, Nat.reducePow, Int.reduceToNat, Int.reduceLT, Int.reduceLE, Int.reduceAdd, Int.reduceSub, Int.reduceMul, Int.reduceEq, Int.reduceBEq, Int.reduceBNe, Int.reduceNeg, T_api_Region.d, T_api_Spot.d, k52, h54, k55, h57, k58, k59, k60, k61]
              rcases ite_or h with ⟨k62, h⟩ | ⟨k62, h⟩
              · simp -implicitDefEqProofs only [vt, ↓atI_fold, forall_const, reduceIte, reduceCtorEq, Nat.reduceEqDiff, Nat.reduceAdd, Nat.reduceSub, Nat.reduceMul, Nat.reduceLT, Nat.reduceLeDiff, Nat.reducePow, Int.reduceToNat, Int.reduceLT, Int.reduceLE, Int.reduceAdd, Int.reduceSub, Int.reduceMul, Int.reduceEq, Int.reduceBEq, Int.reduceBNe, Int.reduceNeg, T_api_Region.d, T_api_Spot.d, k52, h54, k55, h57, k58, k59, k60, k61, k62]
                subst hK51
                refine eb_seq ?_
                refine rb_ret ?_
                obtain rfl := Option.some.inj h
                refine eb_nil ?_
                simp -implicitDefEqProofs only [vt, ↓atI_fold, forall_const, reduceIte, reduceCtorEq, Nat.reduceEqDiff, Nat.reduceAdd, Nat.reduceSub, Nat.reduceMul, Nat.reduceLT, Nat.reduceLeDiff, Nat.reducePow, Int.reduceToNat, Int.reduceLT, Int.reduceLE, Int.reduceAdd, Int.reduceSub, Int.reduceMul, Int.reduceEq, Int.reduceBEq, Int.reduceBNe, Int.reduceNeg, retQ_r, Tryd.results25, T_api_Region.d, T_api_Spot.d, k52, h54, k55, h57, k58, k59, k60, k61, k62] <;> first | rfl | (simp [List.map_append, T_api_Region.d, T_api_Spot.d]; done)
              · simp -implicitDefEqProofs only [vt, ↓atI_fold, forall_const, reduceIte, reduceCtorEq, Nat.reduceEqDiff, Nat.reduceAdd, Nat.reduceSub, Nat.reduceMul, Nat.reduceLT, Nat.reduceLeDiff, Nat.reducePow, Int.reduceToNat, Int.reduceLT, Int.reduceLE, Int.reduceAdd, Int.reduceSub, Int.reduceMul, Int.reduceEq, Int.reduceBEq, Int.reduceBNe, Int.reduceNeg, T_api_Region.d, T_api_Spot.d, k52, h54, k55, h57, k58, k59, k60, k61, k62]
                subst hK51
                refine eb_seq ?_
                refine rb_ret ?_
                obtain rfl := Option.some.inj h
                refine eb_nil ?_
                simp -implicitDefEqProofs only [vt, ↓atI_fold, forall_const, reduceIte, reduceCtorEq, Nat.reduceEqDiff, Nat.reduceAdd, Nat.reduceSub, Nat.reduceMul, Nat.reduceLT, Nat.reduceLeDiff, Nat.reducePow, Int.reduceToNat, Int.reduceLT, Int.reduceLE, Int.reduceAdd, Int.reduceSub, Int.reduceMul, Int.reduceEq, Int.reduceBEq, Int.reduceBNe, Int.reduceNeg, retQ_r, Tryd.results25, T_api_Region.d, T_api_Spot.d, k52, h54, k55, h57, k58, k59, k60, k61, k62] <;> first | rfl | (simp [List.map_append, T_api_Region.d, T_api_Spot.d]; done)
            · simp -implicitDefEqProofs only [vt, ↓atI_fold, forall_const, reduceIte, reduceCtorEq, Nat.reduceEqDiff, Nat.reduceAdd, Nat.reduceSub, Nat.reduceMul, Nat.reduceLT, Nat.reduceLeDiff, Nat.reducePow, Int.reduceToNat, Int.reduceLT, Int.reduceLE, Int.reduceAdd, Int.reduceSub, Int.reduceMul, Int.reduceEq, Int.reduceBEq, Int.reduceBNe, Int.reduceNeg, T_api_Region.d, T_api_Spot.d, k52, h54, k55, h57, k58, k59, k60, k61]
              subst hK51
              refine eb_seq ?_
              refine rb_ret ?_
              obtain rfl := Option.some.inj h
              refine eb_nil ?_
              simp -implicitDefEqProofs only [vt, ↓atI_fold, forall_const, reduceIte, reduceCtorEq, Nat.reduceEqDiff, Nat.reduceAdd, Nat.reduceSub, Nat.reduceMul, Nat.reduceLT, Nat.reduceLeDiff, Nat.reducePow, Int.reduceToNat, Int.reduceLT, Int.reduceLE, Int.reduceAdd, Int.reduceSub, Int.reduceMul, Int.reduceEq, Int.reduceBEq, Int.reduceBNe, Int.reduceNeg, retQ_r, Tryd.results25, T_api_Region.d, T_api_Spot.d, k52, h54, k55, h57, k58, k59, k60, k61] <;> first | rfl | (simp [List.map_append, T_api_Region.d, T_api_Spot.d]; done)
          · simp -implicitDefEqProofs only [vt, ↓atI_fold, forall_const, reduceIte, reduceCtorEq, Nat.reduceEqDiff, Nat.reduceAdd, Nat.reduceSub, Nat.reduceMul, Nat.reduceLT, Nat.reduceLeDiff, Nat.reducePow, Int.reduceToNat, Int.reduceLT, Int.reduceLE, Int.reduceAdd, Int.reduceSub, Int.reduceMul, Int.reduceEq, Int.reduceBEq, Int.reduceBNe, Int.reduceNeg, T_api_Region.d, T_api_Spot.d, k52, h54, k55, h57, k58, k59, k60]
            subst hK51
            refine eb_seq ?_
            refine rb_ret ?_
            obtain rfl := Option.some.inj h
            refine eb_nil ?_
            simp -implicitDefEqProofs only [vt, ↓atI_fold, forall_const, reduceIte, reduceCtorEq, Nat.reduceEqDiff, Nat.reduceAdd, Nat.reduceSub, Nat.reduceMul, Nat.reduceLT, Nat.reduceLeDiff, Nat.reducePow, Int.reduceToNat, Int.reduceLT, Int.reduceLE, Int.reduceAdd, Int.reduceSub, Int.reduceMul, Int.reduceEq, Int.reduceBEq, Int.reduceBNe, Int.reduceNeg, retQ_r, Tryd.results25, T_api_Region.d, T_api_Spot.d, k52, h54, k55, h57, k58, k59, k60] <;> first | rfl | (simp [List.map_append, T_api_Region.d, T_api_Spot.d]; done)
        · simp -implicitDefEqProofs only [vt, ↓atI_fold, forall_const, reduceIte, reduceCtorEq, Nat.reduceEqDiff, Nat.reduceAdd, Nat.reduceSub, Nat.reduceMul, Nat.reduceLT, Nat.reduceLeDiff, Nat.reducePow, Int.reduceToNat, Int.reduceLT, Int.reduceLE, Int.reduceAdd, Int.reduceSub, Int.reduceMul, Int.reduceEq, Int.reduceBEq, Int.reduceBNe, Int.reduceNeg, T_api_Region.d, T_api_Spot.d, k52, h54, k55, h57, k58, k59]
          subst hK51
          refine eb_seq ?_
          refine rb_ret ?_
          obtain rfl := Option.some.inj h
          refine eb_nil ?_
          simp -implicitDefEqProofs only [vt, ↓atI_fold, forall_const, reduceIte, reduceCtorEq, Nat.reduceEqDiff, Nat.reduceAdd, Nat.reduceSub, Nat.reduceMul, Nat.reduceLT, Nat.reduceLeDiff, Nat.reducePow, Int.reduceToNat, Int.reduceLT, Int.reduceLE, Int.reduceAdd, Int.reduceSub, Int.reduceMul, Int.reduceEq, Int.reduceBEq, Int.reduceBNe, Int.reduceNeg, retQ_r, Tryd.results25, T_api_Region.d, T_api_Spot.d, k52, h54, k55, h57, k58, k59] <;> first | rfl | (simp [List.map_append, T_api_Region.d, T_api_Spot.d]; done)
      · simp -implicitDefEqProofs only [vt, ↓atI_fold, forall_const, reduceIte, reduceCtorEq, Nat.reduceEqDiff, Nat.reduceAdd, Nat.reduceSub, Nat.reduceMul, Nat.reduceLT, Nat.reduceLeDiff, Nat.reducePow, Int.reduceToNat, Int.reduceLT, Int.reduceLE, Int.reduceAdd, Int.reduceSub, Int.reduceMul, Int.reduceEq, Int.reduceBEq, Int.reduceBNe, Int.reduceNeg, T_api_Region.d, T_api_Spot.d, k52, h54, k55, h57, k58]
        subst hK51
        refine eb_seq ?_
        refine rb_ret ?_
        obtain rfl := Option.some.inj h
        refine eb_nil ?_
        simp -implicitDefEqProofs only [vt, ↓atI_fold, forall_const, reduceIte, reduceCtorEq, Nat.reduceEqDiff, Nat.reduceAdd, Nat.reduceSub, Nat.reduceMul, Nat.reduceLT, Nat.reduceLeDiff, Nat.reducePow, Int.reduceToNat, Int.reduceLT, Int.reduceLE, Int.reduceAdd, Int.reduceSub, Int.reduceMul, Int.reduceEq, Int.reduceBEq, Int.reduceBNe, Int.reduceNeg, retQ_r, Tryd.results25, T_api_Region.d, T_api_Spot.d, k52, h54, k55, h57, k58] <;> first | rfl | (simp [List.map_append, T_api_Region.d, T_api_Spot.d]; done)
    · simp -implicitDefEqProofs only [vt, ↓atI_fold, forall_const, reduceIte, reduceCtorEq, Nat.reduceEqDiff, Nat.reduceAdd, Nat.reduceSub, Nat.reduceMul, Nat.reduceLT, Nat.reduceLeDiff, Nat.reducePow, Int.reduceToNat, Int.reduceLT, Int.reduceLE, Int.reduceAdd, Int.reduceSub, Int.reduceMul, Int.reduceEq, Int.reduceBEq, Int.reduceBNe, Int.reduceNeg, T_api_Region.d, T_api_Spot.d, k52, h54, k55]
      subst hK51
      refine eb_seq ?_
      refine rb_ret ?_
      obtain rfl := Option.some.inj h
      refine eb_nil ?_
      simp -implicitDefEqProofs only [vt, ↓atI_fold, forall_const, reduceIte, reduceCtorEq, Nat.reduceEqDiff, Nat.reduceAdd, Nat.reduceSub, Nat.reduceMul, Nat.reduceLT, Nat.reduceLeDiff, Nat.reducePow, Int.reduceToNat, Int.reduceLT, Int.reduceLE, Int.reduceAdd, Int.reduceSub, Int.reduceMul, Int.reduceEq, Int.reduceBEq, Int.reduceBNe, Int.reduceNeg, retQ_r, Tryd.results25, T_api_Region.d, T_api_Spot.d, k52, h54, k55] <;> first | rfl | (simp [List.map_append, T_api_Region.d, T_api_Spot.d]; done)
  · simp -implicitDefEqProofs only [vt, ↓atI_fold, forall_const, reduceIte, reduceCtorEq, Nat.reduceEqDiff, Nat.reduceAdd, Nat.reduceSub, Nat.reduceMul, Nat.reduceLT, Nat.reduceLeDiff, Nat.reducePow, Int.reduceToNat, Int.reduceLT, Int.reduceLE, Int.reduceAdd, Int.reduceSub, Int.reduceMul, Int.reduceEq, Int.reduceBEq, Int.reduceBNe, Int.reduceNeg, T_api_Region.d, T_api_Spot.d, k52]
    subst hK51
    refine eb_seq ?_
    refine rb_ret ?_
    obtain rfl := Option.some.inj h
    refine eb_nil ?_
    simp -implicitDefEqProofs only [vt, ↓atI_fold, forall_const, reduceIte, reduceCtorEq, Nat.reduceEqDiff, Nat.reduceAdd, Nat.reduceSub, Nat.reduceMul, Nat.reduceLT, Nat.reduceLeDiff, Nat.reducePow, Int.reduceToNat, Int.reduceLT, Int.reduceLE, Int.reduceAdd, Int.reduceSub, Int.reduceMul, Int.reduceEq, Int.reduceBEq, Int.reduceBNe, Int.reduceNeg, retQ_r, Tryd.results25, T_api_Region.d, T_api_Spot.d, k52] <;> first | rfl | (simp [List.map_append, T_api_Region.d, T_api_Spot.d]; done)
-- captionerlaw10.RegionCells
def g_law10_RegionCells_s1 (r_0 : T_api_Region) (q_1 : T_api_Region) (lens_2 : List Int) (r14 : (List T_api_Spot) × Int) (x46 : Int) : Option (Nx (Int) (Unit ⊕ Unit)) :=
  (if (decide (x46 < (r14.1.length : Int))) then ((atI r14.1 x46).bind fun y400 => ((((atI lens_2 x46).bind fun y417 => (if (y400.Len != y417) then (some true) else (if (decide (y400.Row < r_0.Top)) then (some true) else (if (decide ((IntKind.i64.wrap (r_0.Top + r_0.Height)) ≤ y400.Row)) then (some true) else (if (decide (y400.Col < r_0.Left)) then (some true) else (if (decide ((IntKind.i64.wrap (r_0.Left + r_0.Width)) < (IntKind.i64.wrap (y400.Col + y400.Len)))) then (some true) else (if (decide (14 < y400.Row)) then (some true) else (if (decide (32 < (IntKind.i64.wrap (y400.Col + y400.Len)))) then (some true) else (if (decide (0 < x46)) then ((atI r14.1 (IntKind.i64.wrap (x46 - 1))).bind fun y427 => (some (y400.Row != (IntKind.i64.wrap (y427.Row + 1))))) else (some false)))))))))) : Option (Bool)).bind fun v415 => (if v415 then (some (.out (.inl ()))) else (((if (decide (q_1.Top ≤ y400.Row)) then (if (decide (y400.Row < (IntKind.i64.wrap (q_1.Top + q_1.Height)))) then (if (decide (y400.Col < (IntKind.i64.wrap (q_1.Left + q_1.Width)))) then (if (decide (q_1.Left < (IntKind.i64.wrap (y400.Col + y400.Len)))) then (some (decide (0 < y400.Len))) else (some false)) else (some false)) else (some false)) else (some false)) : Option (Bool)).bind fun v438 => (if v438 then ((g_region_Check q_1).bind fun r454 => (if (r454 == 0) then ((g_region_Overlap r_0 q_1).bind fun r457 => (if r457 then (some (.go (IntKind.i64.wrap (x46 + 1)))) else (some (.out (.inl ()))))) else (some (.go (IntKind.i64.wrap (x46 + 1)))))) else (some (.go (IntKind.i64.wrap (x46 + 1))))))))) else (some (.out (.inr ()))))
def g_law10_RegionCells (r_0 : T_api_Region) (q_1 : T_api_Region) (lens_2 : List Int) : Option (Bool) :=
  ((g_law10_awake).bind fun r7 => (if r7 then ((g_region_Place r_0 lens_2).bind fun r14 => (if (r14.2 != 0) then (some ((r14.1.length : Int) == 0)) else (((if ((r14.1.length : Int) != (lens_2.length : Int)) then (some true) else ((g_region_Inside r_0 r_0.Top (IntKind.i64.wrap ((IntKind.i64.wrap (15 - r_0.Top)) - r_0.Height)) r_0.Left (IntKind.i64.wrap ((IntKind.i64.wrap (32 - r_0.Left)) - r_0.Width))).bind fun r33 => (if r33 then ((g_region_Overlap r_0 q_1).bind fun r36 => ((g_region_Overlap q_1 r_0).bind fun r38 => (some (!(r36 == r38))))) else (some true)))) : Option (Bool)).bind fun v30 => (if v30 then (some false) else ((iter (g_law10_RegionCells_s1 r_0 q_1 lens_2 r14) 0).bind fun e47 => (match e47 with | Sum.inl e47 => (some false) | Sum.inr (e47) => (some true))))))) else (some false)))
theorem a_law10_RegionCells (I : World → Prop) (hI : Stab I) (hTab : ∀ w, I w → Tab w) (r_0 : T_api_Region) (q_1 : T_api_Region) (lens_2 : List Int) {r : Bool} (h : g_law10_RegionCells r_0 q_1 lens_2 = some r) : AFun Tryd.prog I 8 [T_api_Region.d r_0, T_api_Region.d q_1, .sl (lens_2.map (D.int .i64))] (.bool r) := by
  refine AFun.enterB hI Tryd.func8 rfl (by decide) (by simp [Tryd.f8]) (by kernel_rfl) ?_
  unfold g_law10_RegionCells at h
  simp only [S0, Tryd.ntmps8, T_api_Region.d, T_api_Spot.d]
  refine rb_seq ?_
  refine rb_regionK fun K2 hK2 => ?_
  simp -implicitDefEqProofs only [vt, ↓atI_fold, forall_const, reduceIte, reduceCtorEq, Nat.reduceEqDiff, Nat.reduceAdd, Nat.reduceSub, Nat.reduceMul, Nat.reduceLT, Nat.reduceLeDiff, Nat.reducePow, Int.reduceToNat, Int.reduceLT, Int.reduceLE, Int.reduceAdd, Int.reduceSub, Int.reduceMul, Int.reduceEq, Int.reduceBEq, Int.reduceBNe, Int.reduceNeg, T_api_Region.d, T_api_Spot.d]
  subst hK2
  refine eb_seq ?_
  refine rb_seq ?_
  refine rb_seq ?_
  refine rb_regionK fun K6 hK6 => ?_
  simp -implicitDefEqProofs only [vt, ↓atI_fold, forall_const, reduceIte, reduceCtorEq, Nat.reduceEqDiff, Nat.reduceAdd, Nat.reduceSub, Nat.reduceMul, Nat.reduceLT, Nat.reduceLeDiff, Nat.reducePow, Int.reduceToNat, Int.reduceLT, Int.reduceLE, Int.reduceAdd, Int.reduceSub, Int.reduceMul, Int.reduceEq, Int.reduceBEq, Int.reduceBNe, Int.reduceNeg, T_api_Region.d, T_api_Spot.d]
  obtain ⟨r7, h8, h⟩ := bind_some h
  refine cW.intro (a_law10_awake I hI hTab h8) (by first | rfl | (simp [List.map_append, T_api_Region.d, T_api_Spot.d]; done)) ?_
  simp -implicitDefEqProofs only [vt, ↓atI_fold, forall_const, reduceIte, reduceCtorEq, Nat.reduceEqDiff, Nat.reduceAdd, Nat.reduceSub, Nat.reduceMul, Nat.reduceLT, Nat.reduceLeDiff, Nat.reducePow, Int.reduceToNat, Int.reduceLT, Int.reduceLE, Int.reduceAdd, Int.reduceSub, Int.reduceMul, Int.reduceEq, Int.reduceBEq, Int.reduceBNe, Int.reduceNeg, T_api_Region.d, T_api_Spot.d]
  subst hK6
  refine eb_seq ?_
  rcases ite_or h with ⟨k9, h⟩ | ⟨k9, h⟩
  · refine rb_false (congrArg D.bool (congrArg Bool.not k9)) ?_
    refine rb_skip ?_
    refine eb_seq ?_
    refine rb_seq ?_
    refine rb_regionK fun K13 hK13 => ?_
    simp -implicitDefEqProofs only [vt, ↓atI_fold, forall_const, reduceIte, reduceCtorEq, Nat.reduceEqDiff, Nat.reduceAdd, Nat.reduceSub, Nat.reduceMul, Nat.reduceLT, Nat.reduceLeDiff, Nat.reducePow, Int.reduceToNat, Int.reduceLT, Int.reduceLE, Int.reduceAdd, Int.reduceSub, Int.reduceMul, Int.reduceEq, Int.reduceBEq, Int.reduceBNe, Int.reduceNeg, T_api_Region.d, T_api_Spot.d, k9]
    obtain ⟨r14, h15, h⟩ := bind_some h
    refine cW.intro (a_region_Place I hI r_0 lens_2 h15) (by first | rfl | (simp [List.map_append, T_api_Region.d, T_api_Spot.d]; done)) ?_
    simp -implicitDefEqProofs only [vt, ↓atI_fold, forall_const, reduceIte, reduceCtorEq, Nat.reduceEqDiff, Nat.reduceAdd, Nat.reduceSub, Nat.reduceMul, Nat.reduceLT, Nat.reduceLeDiff, Nat.reducePow, Int.reduceToNat, Int.reduceLT, Int.reduceLE, Int.reduceAdd, Int.reduceSub, Int.reduceMul, Int.reduceEq, Int.reduceBEq, Int.reduceBNe, Int.reduceNeg, T_api_Region.d, T_api_Spot.d, k9]
    subst hK13
    refine eb_seq ?_
    refine rb_seq ?_
    refine rb_seq ?_
    refine rb_regionK fun K17 hK17 => ?_
    simp -implicitDefEqProofs only [vt, ↓atI_fold, forall_const, reduceIte, reduceCtorEq, Nat.reduceEqDiff, Nat.reduceAdd, Nat.reduceSub, Nat.reduceMul, Nat.reduceLT, Nat.reduceLeDiff, Nat.reducePow, Int.reduceToNat, Int.reduceLT, Int.reduceLE, Int.reduceAdd, Int.reduceSub, Int.reduceMul, Int.reduceEq, Int.reduceBEq, Int.reduceBNe, Int.reduceNeg, T_api_Region.d, T_api_Spot.d, k9]
    subst hK17
    refine eb_seq ?_
    rcases ite_or h with ⟨k18, h⟩ | ⟨k18, h⟩
    · refine rb_true (congrArg D.bool k18) ?_
      refine rb_seq ?_
      refine rb_regionK fun K20 hK20 => ?_
      simp -implicitDefEqProofs only [vt, ↓atI_fold, forall_const, reduceIte, reduceCtorEq, Nat.reduceEqDiff, Nat.reduceAdd, Nat.reduceSub, Nat.reduceMul, Nat.reduceLT, Nat.reduceLeDiff, Nat.reducePow, Int.reduceToNat, Int.reduceLT, Int.reduceLE, Int.reduceAdd, Int.reduceSub, Int.reduceMul, Int.reduceEq, Int.reduceBEq, Int.reduceBNe, Int.reduceNeg, T_api_Region.d, T_api_Spot.d, k9, k18]
      subst hK20
      refine eb_seq ?_
      refine rb_ret ?_
      refine eb_seq_r ?_
      obtain rfl := Option.some.inj h
      refine eb_nil ?_
      simp -implicitDefEqProofs only [vt, ↓atI_fold, forall_const, reduceIte, reduceCtorEq, Nat.reduceEqDiff, Nat.reduceAdd, Nat.reduceSub, Nat.reduceMul, Nat.reduceLT, Nat.reduceLeDiff, Nat.reducePow, Int.reduceToNat, Int.reduceLT, Int.reduceLE, Int.reduceAdd, Int.reduceSub, Int.reduceMul, Int.reduceEq, Int.reduceBEq, Int.reduceBNe, Int.reduceNeg, retQ_r, Tryd.results8, T_api_Region.d, T_api_Spot.d, k9, k18] <;> first | rfl | (simp [List.map_append, T_api_Region.d, T_api_Spot.d]; done)
    · refine rb_false (congrArg D.bool k18) ?_
      refine rb_skip ?_
      refine eb_seq ?_
      refine rb_seq ?_
      obtain ⟨v30, h40, h⟩ := bind_some h
      refine rb_cut (fun v30 => ⟨envL [(2, .sl (lens_2.map (D.int .i64))), (3, .ptr 0 0), (4, .ptr 1 0), (7, .sl (r14.1.map T_api_Spot.d)), (59, .bool v30)], heapL [(0, .box [.str r_0.Name, .int .i64 r_0.Top, .int .i64 r_0.Height, .int .i64 r_0.Left, .int .i64 r_0.Width, .int .u8 r_0.Align, .bool r_0.Bottom]), (1, .box [.str q_1.Name, .int .i64 q_1.Top, .int .i64 q_1.Height, .int .i64 q_1.Left, .int .i64 q_1.Width, .int .u8 q_1.Align, .bool q_1.Bottom])], 2, 193⟩) h40 ?_ ?_
      · clear h
        intro v30 h
        refine rb_drawK hI (by kernel_rfl) (by kernel_rfl) fun K31 hK31 => ?_
        simp -implicitDefEqProofs only [vt, ↓atI_fold, forall_const, reduceIte, reduceCtorEq, Nat.reduceEqDiff, Nat.reduceAdd, Nat.reduceSub, Nat.reduceMul, Nat.reduceLT, Nat.reduceLeDiff, Nat.reducePow, Int.reduceToNat, Int.reduceLT, Int.reduceLE, Int.reduceAdd, Int.reduceSub, Int.reduceMul, Int.reduceEq, Int.reduceBEq, Int.reduceBNe, Int.reduceNeg, T_api_Region.d, T_api_Spot.d, k9, k18]
        rcases ite_or h with ⟨k32, h⟩ | ⟨k32, h⟩
        · simp -implicitDefEqProofs only [vt, ↓atI_fold, forall_const, reduceIte, reduceCtorEq, Nat.reduceEqDiff, Nat.reduceAdd, Nat.reduceSub, Nat.reduceMul, Nat.reduceLT, Nat.reduceLeDiff, Nat.reducePow, Int.reduceToNat, Int.reduceLT, Int.reduceLE, Int.reduceAdd, Int.reduceSub, Int.reduceMul, Int.reduceEq, Int.reduceBEq, Int.reduceBNe, Int.reduceNeg, T_api_Region.d, T_api_Spot.d, k9, k18, k32]
          subst hK31
          obtain rfl := Option.some.inj h
          exact eb_nil ⟨rfl, Wk.of (fun i => if i = 1 then some 1 else if i = 0 then some 0 else some i) _ _ _ (by simp -implicitDefEqProofs [upd_app, argL, envL_app, heapL_app, look, appEff, wkEnv, wkHeap, D.ren, D.ren1, D.idOk, D.idOk1, Blk.ren, Blk.idOk, T_api_Region.d, T_api_Spot.d, k9, k18, k32]) (by simp -implicitDefEqProofs [upd_app, argL, envL_app, heapL_app, look, appEff, wkEnv, wkHeap, D.ren, D.ren1, D.idOk, D.idOk1, Blk.ren, Blk.idOk, T_api_Region.d, T_api_Spot.d, k9, k18, k32])⟩
        · simp -implicitDefEqProofs only [vt, ↓atI_fold, forall_const, reduceIte, reduceCtorEq, Nat.reduceEqDiff, Nat.reduceAdd, Nat.reduceSub, Nat.reduceMul, Nat.reduceLT, Nat.reduceLeDiff, Nat.reducePow, Int.reduceToNat, Int.reduceLT, Int.reduceLE, Int.reduceAdd, Int.reduceSub, Int.reduceMul, Int.reduceEq, Int.reduceBEq, Int.reduceBNe, Int.reduceNeg, T_api_Region.d, T_api_Spot.d, k9, k18, k32]
          obtain ⟨r33, h34, h⟩ := bind_some h
          refine cD'.intro (a_region_Inside I hI r_0 r_0.Top (IntKind.i64.wrap ((IntKind.i64.wrap (15 - r_0.Top)) - r_0.Height)) r_0.Left (IntKind.i64.wrap ((IntKind.i64.wrap (32 - r_0.Left)) - r_0.Width)) h34) (by first | rfl | (simp [List.map_append, T_api_Region.d, T_api_Spot.d]; done)) (by kernel_rfl) ?_
          simp -implicitDefEqProofs only [vt, ↓atI_fold, forall_const, reduceIte, reduceCtorEq, Nat.reduceEqDiff, Nat.reduceAdd, Nat.reduceSub, Nat.reduceMul, Nat.reduceLT, Nat.reduceLeDiff, Nat.reducePow, Int.reduceToNat, Int.reduceLT, Int.reduceLE, Int.reduceAdd, Int.reduceSub, Int.reduceMul, Int.reduceEq, Int.reduceBEq, Int.reduceBNe, Int.reduceNeg, T_api_Region.d, T_api_Spot.d, k9, k18, k32]
          rcases ite_or h with ⟨k35, h⟩ | ⟨k35, h⟩
          · simp -implicitDefEqProofs only [vt, ↓atI_fold, forall_const, reduceIte, reduceCtorEq, Nat.reduceEqDiff, Nat.reduceAdd, Nat.reduceSub, Nat.reduceMul, Nat.reduceLT, Nat.reduceLeDiff, Nat.reducePow, Int.reduceToNat, Int.reduceLT, Int.reduceLE, Int.reduceAdd, Int.reduceSub, Int.reduceMul, Int.reduceEq, Int.reduceBEq, Int.reduceBNe, Int.reduceNeg, T_api_Region.d, T_api_Spot.d, k9, k18, k32, k35]
            obtain ⟨r36, h37, h⟩ := bind_some h
            refine cD'.intro (a_region_Overlap I hI r_0 q_1 h37) (by first | rfl | (simp [List.map_append, T_api_Region.d, T_api_Spot.d]; done)) (by kernel_rfl) ?_
            simp -implicitDefEqProofs only [vt, ↓atI_fold, forall_const, reduceIte, reduceCtorEq, Nat.reduceEqDiff, Nat.reduceAdd, Nat.reduceSub, Nat.reduceMul, Nat.reduceLT, Nat.reduceLeDiff, Nat.reducePow, Int.reduceToNat, Int.reduceLT, Int.reduceLE, Int.reduceAdd, Int.reduceSub, Int.reduceMul, Int.reduceEq, Int.reduceBEq, Int.reduceBNe, Int.reduceNeg, T_api_Region.d, T_api_Spot.d, k9, k18, k32, k35]
            obtain ⟨r38, h39, h⟩ := bind_some h
            refine cD'.intro (a_region_Overlap I hI q_1 r_0 h39) (by first | rfl | (simp [List.map_append, T_api_Region.d, T_api_Spot.d]; done)) (by kernel_rfl) ?_
            simp -implicitDefEqProofs only [vt, ↓atI_fold, forall_const, reduceIte, reduceCtorEq, Nat.reduceEqDiff, Nat.reduceAdd, Nat.reduceSub, Nat.reduceMul, Nat.reduceLT, Nat.reduceLeDiff, Nat.reducePow, Int.reduceToNat, Int.reduceLT, Int.reduceLE, Int.reduceAdd, Int.reduceSub, Int.reduceMul, Int.reduceEq, Int.reduceBEq, Int.reduceBNe, Int.reduceNeg, T_api_Region.d, T_api_Spot.d, k9, k18, k32, k35]
            subst hK31
            obtain rfl := Option.some.inj h
            exact eb_nil ⟨rfl, Wk.of (fun i => if i = 1 then some 1 else if i = 0 then some 0 else some i) _ _ _ (by simp -implicitDefEqProofs [upd_app, argL, envL_app, heapL_app, look, appEff, wkEnv, wkHeap, D.ren, D.ren1, D.idOk, D.idOk1, Blk.ren, Blk.idOk, T_api_Region.d, T_api_Spot.d, k9, k18, k32, k35]) (by simp -implicitDefEqProofs [upd_app, argL, envL_app, heapL_app, look, appEff, wkEnv, wkHeap, D.ren, D.ren1, D.idOk, D.idOk1, Blk.ren, Blk.idOk, T_api_Region.d, T_api_Spot.d, k9, k18, k32, k35])⟩
          · simp -implicitDefEqProofs only [vt, ↓atI_fold, forall_const, reduceIte, reduceCtorEq, Nat.reduceEqDiff, Nat.reduceAdd, Nat.reduceSub, Nat.reduceMul, Nat.reduceLT, Nat.reduceLeDiff, Nat.reducePow, Int.reduceToNat, Int.reduceLT, Int.reduceLE, Int.reduceAdd, Int.reduceSub, Int.reduceMul, Int.reduceEq, Int.reduceBEq, Int.reduceBNe, Int.reduceNeg, T_api_Region.d, T_api_Spot.d, k9, k18, k32, k35]
            subst hK31
            obtain rfl := Option.some.inj h
            exact eb_nil ⟨rfl, Wk.of (fun i => if i = 1 then some 1 else if i = 0 then some 0 else some i) _ _ _ (by simp -implicitDefEqProofs [upd_app, argL, envL_app, heapL_app, look, appEff, wkEnv, wkHeap, D.ren, D.ren1, D.idOk, D.idOk1, Blk.ren, Blk.idOk, T_api_Region.d, T_api_Spot.d, k9, k18, k32, k35]) (by simp -implicitDefEqProofs [upd_app, argL, envL_app, heapL_app, look, appEff, wkEnv, wkHeap, D.ren, D.ren1, D.idOk, D.idOk1, Blk.ren, Blk.idOk, T_api_Region.d, T_api_Spot.d, k9, k18, k32, k35])⟩
      · rcases ite_or h with ⟨k41, h⟩ | ⟨k41, h⟩
        · refine rb_true (congrArg D.bool k41) ?_
          refine rb_seq ?_
          refine rb_regionK fun K43 hK43 => ?_
          simp -implicitDefEqProofs only [vt, ↓atI_fold, forall_const, reduceIte, reduceCtorEq, Nat.reduceEqDiff, Nat.reduceAdd, Nat.reduceSub, Nat.reduceMul, Nat.reduceLT, Nat.reduceLeDiff, Nat.reducePow, Int.reduceToNat, Int.reduceLT, Int.reduceLE, Int.reduceAdd, Int.reduceSub, Int.reduceMul, Int.reduceEq, Int.reduceBEq, Int.reduceBNe, Int.reduceNeg, T_api_Region.d, T_api_Spot.d, k9, k18, k41]
          subst hK43
          refine eb_seq ?_
          refine rb_ret ?_
          refine eb_seq_r ?_
          obtain rfl := Option.some.inj h
          refine eb_nil ?_
          simp -implicitDefEqProofs only [vt, ↓atI_fold, forall_const, reduceIte, reduceCtorEq, Nat.reduceEqDiff, Nat.reduceAdd, Nat.reduceSub, Nat.reduceMul, Nat.reduceLT, Nat.reduceLeDiff, Nat.reducePow, Int.reduceToNat, Int.reduceLT, Int.reduceLE, Int.reduceAdd, Int.reduceSub, Int.reduceMul, Int.reduceEq, Int.reduceBEq, Int.reduceBNe, Int.reduceNeg, retQ_r, Tryd.results8, T_api_Region.d, T_api_Spot.d, k9, k18, k41] <;> first | rfl | (simp [List.map_append, T_api_Region.d, T_api_Spot.d]; done)
        · refine rb_false (congrArg D.bool k41) ?_
          refine rb_skip ?_
          refine eb_seq ?_
          refine rb_seq ?_
          refine rb_seq ?_
          refine rb_regionK fun K45 hK45 => ?_
          simp -implicitDefEqProofs only [vt, ↓atI_fold, forall_const, reduceIte, reduceCtorEq, Nat.reduceEqDiff, Nat.reduceAdd, Nat.reduceSub, Nat.reduceMul, Nat.reduceLT, Nat.reduceLeDiff, Nat.reducePow, Int.reduceToNat, Int.reduceLT, Int.reduceLE, Int.reduceAdd, Int.reduceSub, Int.reduceMul, Int.reduceEq, Int.reduceBEq, Int.reduceBNe, Int.reduceNeg, T_api_Region.d, T_api_Spot.d, k9, k18, k41]
          subst hK45
          refine eb_seq ?_
          refine rb_block ?_
          obtain ⟨e47, h465, h⟩ := bind_some h
          refine rb_loop (fun x46 => ⟨envL [(2, .sl (lens_2.map (D.int .i64))), (3, .ptr 0 0), (4, .ptr 1 0), (7, .sl (r14.1.map T_api_Spot.d)), (60, .sl (r14.1.map T_api_Spot.d)), (61, .int .i64 (r14.1.length : Int)), (62, .int .i64 x46)], heapL [(0, .box [.str r_0.Name, .int .i64 r_0.Top, .int .i64 r_0.Height, .int .i64 r_0.Left, .int .i64 r_0.Width, .int .u8 r_0.Align, .bool r_0.Bottom]), (1, .box [.str q_1.Name, .int .i64 q_1.Top, .int .i64 q_1.Height, .int .i64 q_1.Left, .int .i64 q_1.Width, .int .u8 q_1.Align, .bool q_1.Bottom])], 2, 193⟩) (fun w => match w with | Sum.inl _ => .ret | Sum.inr (_) => .exit 0) (fun w => match w with | Sum.inl e47 => ⟨envL [(6, .bool false)], heapL [], 0, 193⟩ | Sum.inr (e47) => ⟨envL [], heapL [], 0, 193⟩) h465 (Wk.of (fun i => if i = 1 then some 1 else if i = 0 then some 0 else some i) _ _ _ (by simp -implicitDefEqProofs [upd_app, argL, envL_app, heapL_app, look, appEff, wkEnv, wkHeap, D.ren, D.ren1, D.idOk, D.idOk1, Blk.ren, Blk.idOk, T_api_Region.d, T_api_Spot.d, k9, k18, k41]) (by simp -implicitDefEqProofs [upd_app, argL, envL_app, heapL_app, look, appEff, wkEnv, wkHeap, D.ren, D.ren1, D.idOk, D.idOk1, Blk.ren, Blk.idOk, T_api_Region.d, T_api_Spot.d, k9, k18, k41])) (by intro w; rcases w with w | w <;> simp) ?_ ?_
          · clear h
            intro x46 y h
            unfold g_law10_RegionCells_s1 at h
            refine rb_seq ?_
            refine rb_regionK fun K327 hK327 => ?_
            simp -implicitDefEqProofs only [vt, ↓atI_fold, forall_const, reduceIte, reduceCtorEq, Nat.reduceEqDiff, Nat.reduceAdd, Nat.reduceSub, Nat.reduceMul, Nat.reduceLT, Nat.reduceLeDiff, Nat.reducePow, Int.reduceToNat, Int.reduceLT, Int.reduceLE, Int.reduceAdd, Int.reduceSub, Int.reduceMul, Int.reduceEq, Int.reduceBEq, Int.reduceBNe, Int.reduceNeg, T_api_Region.d, T_api_Spot.d, k9, k18, k41]
            subst hK327
            refine eb_seq ?_
            refine rb_seq ?_
            rcases ite_or h with ⟨k329, h⟩ | ⟨k329, h⟩
            · refine rb_true (congrArg D.bool k329) ?_
              refine rb_skip ?_
              refine eb_seq ?_
              refine rb_seq ?_
              refine rb_block ?_
              refine rb_seq ?_
              refine rb_regionK fun K399 hK399 => ?_
              simp -implicitDefEqProofs only [vt, ↓atI_fold, forall_const, reduceIte, reduceCtorEq, Nat.reduceEqDiff, Nat.reduceAdd, Nat.reduceSub, Nat.reduceMul, Nat.reduceLT, Nat.reduceLeDiff, Nat.reducePow, Int.reduceToNat, Int.reduceLT, Int.reduceLE, Int.reduceAdd, Int.reduceSub, Int.reduceMul, Int.reduceEq, Int.reduceBEq, Int.reduceBNe, Int.reduceNeg, T_api_Region.d, T_api_Spot.d, k9, k18, k41, k329]
              obtain ⟨y400, h401, h⟩ := bind_some h
              simp -implicitDefEqProofs only [vt, ↓atI_fold, forall_const, reduceIte, reduceCtorEq, Nat.reduceEqDiff, Nat.reduceAdd, Nat.reduceSub, Nat.reduceMul, Nat.reduceLT, Nat.reduceLeDiff, Nat.reducePow, Int.reduceToNat, Int.reduceLT, Int.reduceLE, Int.reduceAdd, Int.reduceSub, Int.reduceMul, Int.reduceEq, Int.reduceBEq, Int.reduceBNe, Int.reduceNeg, T_api_Region.d, T_api_Spot.d, k9, k18, k41, k329, h401]
              subst hK399
              refine eb_seq ?_
              refine rb_seq ?_
              obtain ⟨v415, h429, h⟩ := bind_some h
              refine rb_cut (fun v415 => ⟨envL [(2, .sl (lens_2.map (D.int .i64))), (3, .ptr 0 0), (4, .ptr 1 0), (7, .sl (r14.1.map T_api_Spot.d)), (10, .ptr 2 0), (60, .sl (r14.1.map T_api_Spot.d)), (61, .int .i64 (r14.1.length : Int)), (62, .int .i64 x46), (139, .bool v415)], heapL [(0, .box [.str r_0.Name, .int .i64 r_0.Top, .int .i64 r_0.Height, .int .i64 r_0.Left, .int .i64 r_0.Width, .int .u8 r_0.Align, .bool r_0.Bottom]), (1, .box [.str q_1.Name, .int .i64 q_1.Top, .int .i64 q_1.Height, .int .i64 q_1.Left, .int .i64 q_1.Width, .int .u8 q_1.Align, .bool q_1.Bottom]), (2, .box [.int .i64 y400.Row, .int .i64 y400.Col, .int .i64 y400.Len])], 3, 193⟩) h429 ?_ ?_
              · clear h
                intro v415 h
                refine rb_drawK hI (by kernel_rfl) (by kernel_rfl) fun K416 hK416 => ?_
                simp -implicitDefEqProofs only [vt, ↓atI_fold, forall_const, reduceIte, reduceCtorEq, Nat.reduceEqDiff, Nat.reduceAdd, Nat.reduceSub, Nat.reduceMul, Nat.reduceLT, Nat.reduceLeDiff, Nat.reducePow, Int.reduceToNat, Int.reduceLT, Int.reduceLE, Int.reduceAdd, Int.reduceSub, Int.reduceMul, Int.reduceEq, Int.reduceBEq, Int.reduceBNe, Int.reduceNeg, T_api_Region.d, T_api_Spot.d, k9, k18, k41, k329, h401]
                obtain ⟨y417, h418, h⟩ := bind_some h
                simp -implicitDefEqProofs only [vt, ↓atI_fold, forall_const, reduceIte, reduceCtorEq, Nat.reduceEqDiff, Nat.reduceAdd, Nat.reduceSub, Nat.reduceMul, Nat.reduceLT, Nat.reduceLeDiff, Nat.reducePow, Int.reduceToNat, Int.reduceLT, Int.reduceLE, Int.reduceAdd, Int.reduceSub, Int.reduceMul, Int.reduceEq, Int.reduceBEq, Int.reduceBNe, Int.reduceNeg, T_api_Region.d, T_api_Spot.d, k9, k18, k41, k329, h401, h418]
                rcases ite_or h with ⟨k419, h⟩ | ⟨k419, h⟩
                · simp -implicitDefEqProofs only [vt, ↓atI_fold, forall_const, reduceIte, reduceCtorEq, Nat.reduceEqDiff, Nat.reduceAdd, Nat.reduceSub, Nat.reduceMul, Nat.reduceLT, Nat.reduceLeDiff, Nat.reducePow, Int.reduceToNat, Int.reduceLT, Int.reduceLE, Int.reduceAdd, Int.reduceSub, Int.reduceMul, Int.reduceEq, Int.reduceBEq, Int.reduceBNe, Int.reduceNeg, T_api_Region.d, T_api_Spot.d, k9, k18, k41, k329, h401, h418, k419]
                  subst hK416
                  obtain rfl := Option.some.inj h
                  exact eb_nil ⟨rfl, Wk.of (fun i => if i = 2 then some 6 else if i = 1 then some 1 else if i = 0 then some 0 else some i) _ _ _ (by simp -implicitDefEqProofs [upd_app, argL, envL_app, heapL_app, look, appEff, wkEnv, wkHeap, D.ren, D.ren1, D.idOk, D.idOk1, Blk.ren, Blk.idOk, T_api_Region.d, T_api_Spot.d, k9, k18, k41, k329, k419]) (by simp -implicitDefEqProofs [upd_app, argL, envL_app, heapL_app, look, appEff, wkEnv, wkHeap, D.ren, D.ren1, D.idOk, D.idOk1, Blk.ren, Blk.idOk, T_api_Region.d, T_api_Spot.d, k9, k18, k41, k329, k419])⟩
                · simp -implicitDefEqProofs only [vt, ↓atI_fold, forall_const, reduceIte, reduceCtorEq, Nat.reduceEqDiff, Nat.reduceAdd, Nat.reduceSub, Nat.reduceMul, Nat.reduceLT, Nat.reduceLeDiff, Nat.reducePow, Int.reduceToNat, Int.reduceLT, Int.reduceLE, Int.reduceAdd, Int.reduceSub, Int.reduceMul, Int.reduceEq, Int.reduceBEq, Int.reduceBNe, Int.reduceNeg, T_api_Region.d, T_api_Spot.d, k9, k18, k41, k329, h401, h418, k419]
                  rcases ite_or h with ⟨k420, h⟩ | ⟨k420, h⟩
                  · simp -implicitDefEqProofs only [vt, ↓atI_fold, forall_const, reduceIte, reduceCtorEq, Nat.reduceEqDiff, Nat.reduceAdd, Nat.reduceSub, Nat.reduceMul, Nat.reduceLT, Nat.reduceLeDiff, Nat.reducePow, Int.reduceToNat, Int.reduceLT, Int.reduceLE, Int.reduceAdd, Int.reduceSub, Int.reduceMul, Int.reduceEq, Int.reduceBEq, Int.reduceBNe, Int.reduceNeg, T_api_Region.d, T_api_Spot.d, k9, k18, k41, k329, h401, h418, k419, k420]
                    subst hK416
                    obtain rfl := Option.some.inj h
                    exact eb_nil ⟨rfl, Wk.of (fun i => if i = 2 then some 6 else if i = 1 then some 1 else if i = 0 then some 0 else some i) _ _ _ (by simp -implicitDefEqProofs [upd_app, argL, envL_app, heapL_app, look, appEff, wkEnv, wkHeap, D.ren, D.ren1, D.idOk, D.idOk1, Blk.ren, Blk.idOk, T_api_Region.d, T_api_Spot.d, k9, k18, k41, k329, k419, k420]) (by simp -implicitDefEqProofs [upd_app, argL, envL_app, heapL_app, look, appEff, wkEnv, wkHeap, D.ren, D.ren1, D.idOk, D.idOk1, Blk.ren, Blk.idOk, T_api_Region.d, T_api_Spot.d, k9, k18, k41, k329, k419, k420])⟩
                  · simp -implicitDefEqProofs only [vt, ↓atI_fold, forall_const, reduceIte, reduceCtorEq, Nat.reduceEqDiff, Nat.reduceAdd, Nat.reduceSub, Nat.reduceMul, Nat.reduceLT, Nat.reduceLeDiff, Nat.reducePow, Int.reduceToNat, Int.reduceLT, Int.reduceLE, Int.reduceAdd, Int.reduceSub, Int.reduceMul, Int.reduceEq, Int.reduceBEq, Int.reduceBNe, Int.reduceNeg, T_api_Region.d, T_api_Spot.d, k9, k18, k41, k329, h401, h418, k419, k420]
                    rcases ite_or h with ⟨k421, h⟩ | ⟨k421, h⟩
                    · simp -implicitDefEqProofs only [vt, ↓atI_fold, forall_const, reduceIte, reduceCtorEq, Nat.reduceEqDiff, Nat.reduceAdd, Nat.reduceSub, Nat.reduceMul, Nat.reduceLT, Nat.reduceLeDiff, Nat.reducePow, Int.reduceToNat, Int.reduceLT, Int.reduceLE, Int.reduceAdd, Int.reduceSub, Int.reduceMul, Int.reduceEq, Int.reduceBEq, Int.reduceBNe, Int.reduceNeg, T_api_Region.d, T_api_Spot.d, k9, k18, k41, k329, h401, h418, k419, k420, k421]
                      subst hK416
                      obtain rfl := Option.some.inj h
                      exact eb_nil ⟨rfl, Wk.of (fun i => if i = 2 then some 6 else if i = 1 then some 1 else if i = 0 then some 0 else some i) _ _ _ (by simp -implicitDefEqProofs [upd_app, argL, envL_app, heapL_app, look, appEff, wkEnv, wkHeap, D.ren, D.ren1, D.idOk, D.idOk1, Blk.ren, Blk.idOk, T_api_Region.d, T_api_Spot.d, k9, k18, k41, k329, k419, k420, k421]) (by simp -implicitDefEqProofs [upd_app, argL, envL_app, heapL_app, look, appEff, wkEnv, wkHeap, D.ren, D.ren1, D.idOk, D.idOk1, Blk.ren, Blk.idOk, T_api_Region.d, T_api_Spot.d, k9, k18, k41, k329, k419, k420, k421])⟩
                    · simp -implicitDefEqProofs only [vt, ↓atI_fold, forall_const, reduceIte, reduceCtorEq, Nat.reduceEqDiff, Nat.reduceAdd, Nat.reduceSub, Nat.reduceMul, Nat.reduceLT, Nat.reduceLeDiff, Nat.reducePow, Int.reduceToNat, Int.reduceLT, Int.reduceLE, Int.reduceAdd, Int.reduceSub, Int.reduceMul, Int.reduceEq, Int.reduceBEq, Int.reduceBNe, Int.reduceNeg, T_api_Region.d, T_api_Spot.d, k9, k18, k41, k329, h401, h418, k419, k420, k421]
                      rcases ite_or h with ⟨k422, h⟩ | ⟨k422, h⟩
                      · simp -implicitDefEqProofs only [vt, ↓atI_fold, forall_const, reduceIte, reduceCtorEq, Nat.reduceEqDiff, Nat.reduceAdd, Nat.reduceSub, Nat.reduceMul, Nat.reduceLT, Nat.reduceLeDiff, Nat.reducePow, Int.reduceToNat, Int.reduceLT, Int.reduceLE, Int.reduceAdd, Int.reduceSub, Int.reduceMul, Int.reduceEq, Int.reduceBEq, Int.reduceBNe, Int.reduceNeg, T_api_Region.d, T_api_Spot.d, k9, k18, k41, k329, h401, h418, k419, k420, k421, k422]
                        subst hK416
                        obtain rfl := Option.some.inj h
                        exact eb_nil ⟨rfl, Wk.of (fun i => if i = 2 then some 6 else if i = 1 then some 1 else if i = 0 then some 0 else some i) _ _ _ (by simp -implicitDefEqProofs [upd_app, argL, envL_app, heapL_app, look, appEff, wkEnv, wkHeap, D.ren, D.ren1, D.idOk, D.idOk1, Blk.ren, Blk.idOk, T_api_Region.d, T_api_Spot.d, k9, k18, k41, k329, k419, k420, k421, k422]) (by simp -implicitDefEqProofs [upd_app, argL, envL_app, heapL_app, look, appEff, wkEnv, wkHeap, D.ren, D.ren1, D.idOk, D.idOk1, Blk.ren, Blk.idOk, T_api_Region.d, T_api_Spot.d, k9, k18, k41, k329, k419, k420, k421, k422])⟩
                      · simp -implicitDefEqProofs only [vt, ↓atI_fold, forall_const, reduceIte, reduceCtorEq, Nat.reduceEqDiff, Nat.reduceAdd, Nat.reduceSub, Nat.reduceMul, Nat.reduceLT, Nat.reduceLeDiff, Nat.reducePow, Int.reduceToNat, Int.reduceLT, Int.reduceLE, Int.reduceAdd, Int.reduceSub, Int.reduceMul, Int.reduceEq, Int.reduceBEq, Int.reduceBNe, Int.reduceNeg, T_api_Region.d, T_api_Spot.d, k9, k18, k41, k329, h401, h418, k419, k420, k421, k422]
                        rcases ite_or h with ⟨k423, h⟩ | ⟨k423, h⟩
                        · simp -implicitDefEqProofs only [vt, ↓atI_fold, forall_const, reduceIte, reduceCtorEq, Nat.reduceEqDiff, Nat.reduceAdd, Nat.reduceSub, Nat.reduceMul, Nat.reduceLT, Nat.reduceLeDiff, Nat.reducePow, Int.reduceToNat, Int.reduceLT, Int.reduceLE, Int.reduceAdd, Int.reduceSub, Int.reduceMul, Int.reduceEq, Int.reduceBEq, Int.reduceBNe, Int.reduceNeg, T_api_Region.d, T_api_Spot.d, k9, k18, k41, k329, h401, h418, k419, k420, k421, k422, k423]
                          subst hK416
                          obtain rfl := Option.some.inj h
                          exact eb_nil ⟨rfl, Wk.of (fun i => if i = 2 then some 6 else if i = 1 then some 1 else if i = 0 then some 0 else some i) _ _ _ (by simp -implicitDefEqProofs [upd_app, argL, envL_app, heapL_app, look, appEff, wkEnv, wkHeap, D.ren, D.ren1, D.idOk, D.idOk1, Blk.ren, Blk.idOk, T_api_Region.d, T_api_Spot.d, k9, k18, k41, k329, k419, k420, k421, k422, k423]) (by simp -implicitDefEqProofs [upd_app, argL, envL_app, heapL_app, look, appEff, wkEnv, wkHeap, D.ren, D.ren1, D.idOk, D.idOk1, Blk.ren, Blk.idOk, T_api_Region.d, T_api_Spot.d, k9, k18, k41, k329, k419, k420, k421, k422, k423])⟩
                        · simp -implicitDefEqProofs only [vt, ↓atI_fold, forall_const, reduceIte, reduceCtorEq, Nat.reduceEqDiff, Nat.reduceAdd, Nat.reduceSub, Nat.reduceMul, Nat.reduceLT, Nat.reduceLeDiff, Nat.reducePow, Int.reduceToNat, Int.reduceLT, Int.reduceLE, Int.reduceAdd, Int.reduceSub, Int.reduceMul, Int.reduceEq, Int.reduceBEq, Int.reduceBNe, Int.reduceNeg, T_api_Region.d, T_api_Spot.d, k9, k18, k41, k329, h401, h418, k419, k420, k421, k422, k423]
                          rcases ite_or h with ⟨k424, h⟩ | ⟨k424, h⟩
                          · simp -implicitDefEqProofs only [vt, ↓atI_fold, forall_const, reduceIte, reduceCtorEq, Nat.reduceEqDiff, Nat.reduceAdd, Nat.reduceSub, Nat.reduceMul, Nat.reduceLT, Nat.reduceLeDiff, Nat.reducePow, Int.reduceToNat, Int.reduceLT, Int.reduceLE, Int.reduceAdd, Int.reduceSub, Int.reduceMul, Int.reduceEq, Int.reduceBEq, Int.reduceBNe, Int.reduceNeg, T_api_Region.d, T_api_Spot.d, k9, k18, k41, k329, h401, h418, k419, k420, k421, k422, k423, k424]
                            subst hK416
                            obtain rfl := Option.some.inj h
                            exact eb_nil ⟨rfl, Wk.of (fun i => if i = 2 then some 6 else if i = 1 then some 1 else if i = 0 then some 0 else some i) _ _ _ (by simp -implicitDefEqProofs [upd_app, argL, envL_app, heapL_app, look, appEff, wkEnv, wkHeap, D.ren, D.ren1, D.idOk, D.idOk1, Blk.ren, Blk.idOk, T_api_Region.d, T_api_Spot.d, k9, k18, k41, k329, k419, k420, k421, k422, k423, k424]) (by simp -implicitDefEqProofs [upd_app, argL, envL_app, heapL_app, look, appEff, wkEnv, wkHeap, D.ren, D.ren1, D.idOk, D.idOk1, Blk.ren, Blk.idOk, T_api_Region.d, T_api_Spot.d, k9, k18, k41, k329, k419, k420, k421, k422, k423, k424])⟩
                          · simp -implicitDefEqProofs only [vt, ↓atI_fold, forall_const, reduceIte, reduceCtorEq, Nat.reduceEqDiff, Nat.reduceAdd, Nat.reduceSub, Nat.reduceMul, Nat.reduceLT, Nat.reduceLeDiff, Nat.reducePow, Int.reduceToNat, Int.reduceLT, Int.reduceLE, Int.reduceAdd, Int.reduceSub, Int.reduceMul, Int.reduceEq, Int.reduceBEq, Int.reduceBNe, Int.reduceNeg, T_api_Region.d, T_api_Spot.d, k9, k18, k41, k329, h401, h418, k419, k420, k421, k422, k423, k424]
                            rcases ite_or h with ⟨k425, h⟩ | ⟨k425, h⟩
                            · simp -implicitDefEqProofs only [vt, ↓atI_fold, forall_const, reduceIte, reduceCtorEq, Nat.reduceEqDiff, Nat.reduceAdd, Nat.reduceSub, Nat.reduceMul, Nat.reduceLT, Nat.reduceLeDiff, Nat.reducePow, Int.reduceToNat, Int.reduceLT, Int.reduceLE, Int.reduceAdd, Int.reduceSub, Int.reduceMul, Int.reduceEq, Int.reduceBEq, Int.reduceBNe, Int.reduceNeg, T_api_Region.d, T_api_Spot.d, k9, k18, k41, k329, h401, h418, k419, k420, k421, k422, k423, k424, k425]
                              subst hK416
                              obtain rfl := Option.some.inj h
                              exact eb_nil ⟨rfl, Wk.of (fun i => if i = 2 then some 6 else if i = 1 then some 1 else if i = 0 then some 0 else some i) _ _ _ (by simp -implicitDefEqProofs [upd_app, argL, envL_app, heapL_app, look, appEff, wkEnv, wkHeap, D.ren, D.ren1, D.idOk, D.idOk1, Blk.ren, Blk.idOk, T_api_Region.d, T_api_Spot.d, k9, k18, k41, k329, k419, k420, k421, k422, k423, k424, k425]) (by simp -implicitDefEqProofs [upd_app, argL, envL_app, heapL_app, look, appEff, wkEnv, wkHeap, D.ren, D.ren1, D.idOk, D.idOk1, Blk.ren, Blk.idOk, T_api_Region.d, T_api_Spot.d, k9, k18, k41, k329, k419, k420, k421, k422, k423, k424, k425])⟩
                            · simp -implicitDefEqProofs only [vt, ↓atI_fold, forall_const, reduceIte, reduceCtorEq, Nat.reduceEqDiff, Nat.reduceAdd, Nat.reduceSub, Nat.reduceMul, Nat.reduceLT, Nat.reduceLeDiff, Nat.reducePow, Int.reduceToNat, Int.reduceLT, Int.reduceLE, Int.reduceAdd, Int.reduceSub, Int.reduceMul, Int.reduceEq, Int.reduceBEq, Int.reduceBNe, Int.reduceNeg, T_api_Region.d, T_api_Spot.d, k9, k18, k41, k329, h401, h418, k419, k420, k421, k422, k423, k424, k425]
                              rcases ite_or h with ⟨k426, h⟩ | ⟨k426, h⟩
                              · simp -implicitDefEqProofs only [vt, ↓atI_fold, forall_const, reduceIte, reduceCtorEq, Nat.reduceEqDiff, Nat.reduceAdd, Nat.reduceSub, Nat.reduceMul, Nat.reduceLT, Nat.reduceLeDiff, Nat.reducePow, Int.reduceToNat, Int.reduceLT, Int.reduceLE, Int.reduceAdd, Int.reduceSub, Int.reduceMul, Int.reduceEq, Int.reduceBEq, Int.reduceBNe, Int.reduceNeg, T_api_Region.d, T_api_Spot.d, k9, k18, k41, k329, h401, h418, k419, k420, k421, k422, k423, k424, k425, k426]
                                obtain ⟨y427, h428, h⟩ := bind_some h
                                simp -implicitDefEqProofs only [vt, ↓atI_fold, forall_const, reduceIte, reduceCtorEq, Nat.reduceEqDiff, Nat.reduceAdd, Nat.reduceSub, Nat.reduceMul, Nat.reduceLT, Nat.reduceLeDiff, Nat.reducePow, Int.reduceToNat, Int.reduceLT, Int.reduceLE, Int.reduceAdd, Int.reduceSub, Int.reduceMul, Int.reduceEq, Int.reduceBEq, Int.reduceBNe, Int.reduceNeg, T_api_Region.d, T_api_Spot.d, k9, k18, k41, k329, h401, h418, k419, k420, k421, k422, k423, k424, k425, k426, h428]
                                subst hK416
                                obtain rfl := Option.some.inj h
                                exact eb_nil ⟨rfl, Wk.of (fun i => if i = 2 then some 6 else if i = 1 then some 1 else if i = 0 then some 0 else some i) _ _ _ (by simp -implicitDefEqProofs [upd_app, argL, envL_app, heapL_app, look, appEff, wkEnv, wkHeap, D.ren, D.ren1, D.idOk, D.idOk1, Blk.ren, Blk.idOk, T_api_Region.d, T_api_Spot.d, k9, k18, k41, k329, k419, k420, k421, k422, k423, k424, k425, k426]) (by simp -implicitDefEqProofs [upd_app, argL, envL_app, heapL_app, look, appEff, wkEnv, wkHeap, D.ren, D.ren1, D.idOk, D.idOk1, Blk.ren, Blk.idOk, T_api_Region.d, T_api_Spot.d, k9, k18, k41, k329, k419, k420, k421, k422, k423, k424, k425, k426])⟩
                              · simp -implicitDefEqProofs only [vt, ↓atI_fold, forall_const, reduceIte, reduceCtorEq, Nat.reduceEqDiff, Nat.reduceAdd, Nat.reduceSub, Nat.reduceMul, Nat.reduceLT, Nat.reduceLeDiff, Nat.reducePow, Int.reduceToNat, Int.reduceLT, Int.reduceLE, Int.reduceAdd, Int.reduceSub, Int.reduceMul, Int.reduceEq, Int.reduceBEq, Int.reduceBNe, Int.reduceNeg, T_api_Region.d, T_api_Spot.d, k9, k18, k41, k329, h401, h418, k419, k420, k421, k422, k423, k424, k425, k426]
                                subst hK416
                                obtain rfl := Option.some.inj h
                                exact eb_nil ⟨rfl, Wk.of (fun i => if i = 2 then some 6 else if i = 1 then some 1 else if i = 0 then some 0 else some i) _ _ _ (by simp -implicitDefEqProofs [upd_app, argL, envL_app, heapL_app, look, appEff, wkEnv, wkHeap, D.ren, D.ren1, D.idOk, D.idOk1, Blk.ren, Blk.idOk, T_api_Region.d, T_api_Spot.d, k9, k18, k41, k329, k419, k420, k421, k422, k423, k424, k425, k426]) (by simp -implicitDefEqProofs [upd_app, argL, envL_app, heapL_app, look, appEff, wkEnv, wkHeap, D.ren, D.ren1, D.idOk, D.idOk1, Blk.ren, Blk.idOk, T_api_Region.d, T_api_Spot.d, k9, k18, k41, k329, k419, k420, k421, k422, k423, k424, k425, k426])⟩
              · rcases ite_or h with ⟨k430, h⟩ | ⟨k430, h⟩
                · refine rb_true (congrArg D.bool k430) ?_
                  refine rb_seq ?_
                  refine rb_regionK fun K432 hK432 => ?_
                  simp -implicitDefEqProofs only [vt, ↓atI_fold, forall_const, reduceIte, reduceCtorEq, Nat.reduceEqDiff, Nat.reduceAdd, Nat.reduceSub, Nat.reduceMul, Nat.reduceLT, Nat.reduceLeDiff, Nat.reducePow, Int.reduceToNat, Int.reduceLT, Int.reduceLE, Int.reduceAdd, Int.reduceSub, Int.reduceMul, Int.reduceEq, Int.reduceBEq, Int.reduceBNe, Int.reduceNeg, T_api_Region.d, T_api_Spot.d, k9, k18, k41, k329, h401, k430]
                  subst hK432
                  refine eb_seq ?_
                  refine rb_ret ?_
                  refine eb_seq_r ?_
                  refine eb_blk_r ?_
                  refine eb_seq_r ?_
                  obtain rfl := Option.some.inj h
                  exact eb_nil ⟨rfl, Wk.of (fun i => some i) _ _ _ (by simp -implicitDefEqProofs [upd_app, argL, envL_app, heapL_app, look, appEff, wkEnv, wkHeap, D.ren, D.ren1, D.idOk, D.idOk1, Blk.ren, Blk.idOk, T_api_Region.d, T_api_Spot.d, k9, k18, k41, k329, k430]) (by simp -implicitDefEqProofs [upd_app, argL, envL_app, heapL_app, look, appEff, wkEnv, wkHeap, D.ren, D.ren1, D.idOk, D.idOk1, Blk.ren, Blk.idOk, T_api_Region.d, T_api_Spot.d, k9, k18, k41, k329, k430])⟩
                · refine rb_false (congrArg D.bool k430) ?_
                  refine rb_skip ?_
                  refine eb_seq ?_
                  obtain ⟨v438, h444, h⟩ := bind_some h
                  refine rb_cut (fun v438 => ⟨envL [(2, .sl (lens_2.map (D.int .i64))), (3, .ptr 0 0), (4, .ptr 1 0), (7, .sl (r14.1.map T_api_Spot.d)), (11, .bool v438), (60, .sl (r14.1.map T_api_Spot.d)), (61, .int .i64 (r14.1.length : Int)), (62, .int .i64 x46)], heapL [(0, .box [.str r_0.Name, .int .i64 r_0.Top, .int .i64 r_0.Height, .int .i64 r_0.Left, .int .i64 r_0.Width, .int .u8 r_0.Align, .bool r_0.Bottom]), (1, .box [.str q_1.Name, .int .i64 q_1.Top, .int .i64 q_1.Height, .int .i64 q_1.Left, .int .i64 q_1.Width, .int .u8 q_1.Align, .bool q_1.Bottom])], 2, 193⟩) h444 ?_ ?_
                  · clear h
                    intro v438 h
                    refine rb_regionK fun K439 hK439 => ?_
                    simp -implicitDefEqProofs only [vt, ↓atI_fold, forall_const, reduceIte, reduceCtorEq, Nat.reduceEqDiff, Nat.reduceAdd, Nat.reduceSub, Nat.reduceMul, Nat.reduceLT, Nat.reduceLeDiff, Nat.reducePow, Int.reduceToNat, Int.reduceLT, Int.reduceLE, Int.reduceAdd, Int.reduceSub, Int.reduceMul, Int.reduceEq, Int.reduceBEq, Int.reduceBNe, Int.reduceNeg, T_api_Region.d, T_api_Spot.d, k9, k18, k41, k329, h401, k430]
                    rcases ite_or h with ⟨k440, h⟩ | ⟨k440, h⟩
                    · simp -implicitDefEqProofs only [vt, ↓atI_fold, forall_const, reduceIte, reduceCtorEq, Nat.reduceEqDiff, Nat.reduceAdd, Nat.reduceSub, Nat.reduceMul, Nat.reduceLT, Nat.reduceLeDiff, Nat.reducePow, Int.reduceToNat, Int.reduceLT, Int.reduceLE, Int.reduceAdd, Int.reduceSub, Int.reduceMul, Int.reduceEq, Int.reduceBEq, Int.reduceBNe, Int.reduceNeg, T_api_Region.d, T_api_Spot.d, k9, k18, k41, k329, h401, k430, k440]
                      rcases ite_or h with ⟨k441, h⟩ | ⟨k441, h⟩
                      · simp -implicitDefEqProofs only [vt, ↓atI_fold, forall_const, reduceIte, reduceCtorEq, Nat.reduceEqDiff, Nat.reduceAdd, Nat.reduceSub, Nat.reduceMul, Nat.reduceLT, Nat.reduceLeDiff, Nat.reducePow, Int.reduceToNat, Int.reduceLT, Int.reduceLE, Int.reduceAdd, Int.reduceSub, Int.reduceMul, Int.reduceEq, Int.reduceBEq, Int.reduceBNe, Int.reduceNeg, T_api_Region.d, T_api_Spot.d, k9, k18, k41, k329, h401, k430, k440, k441]
                        rcases ite_or h with ⟨k442, h⟩ | ⟨k442, h⟩
                        · simp -implicitDefEqProofs only [vt, ↓atI_fold, forall_const, reduceIte, reduceCtorEq, Nat.reduceEqDiff, Nat.reduceAdd, Nat.reduceSub, Nat.reduceMul, Nat.reduceLT, Nat.reduceLeDiff, Nat.reducePow, Int.reduceToNat, Int.reduceLT, Int.reduceLE, Int.reduceAdd, Int.reduceSub, Int.reduceMul, Int.reduceEq, Int.reduceBEq, Int.reduceBNe, Int.reduceNeg, T_api_Region.d, T_api_Spot.d, k9, k18, k41, k329, h401, k430, k440, k441, k442]
                          rcases ite_or h with ⟨k443, h⟩ | ⟨k443, h⟩
                          · simp -implicitDefEqProofs only [vt, ↓atI_fold, forall_const, reduceIte, reduceCtorEq, Nat.reduceEqDiff, Nat.reduceAdd, Nat.reduceSub, Nat.reduceMul, Nat.reduceLT, Nat.reduceLeDiff, Nat.reducePow, Int.reduceToNat, Int.reduceLT, Int.reduceLE, Int.reduceAdd, Int.reduceSub, Int.reduceMul, Int.reduceEq, Int.reduceBEq, Int.reduceBNe, Int.reduceNeg, T_api_Region.d, T_api_Spot.d, k9, k18, k41, k329, h401, k430, k440, k441, k442, k443]
                            subst hK439
                            obtain rfl := Option.some.inj h
                            exact eb_nil ⟨rfl, Wk.of (fun i => if i = 1 then some 1 else if i = 0 then some 0 else some i) _ _ _ (by simp -implicitDefEqProofs [upd_app, argL, envL_app, heapL_app, look, appEff, wkEnv, wkHeap, D.ren, D.ren1, D.idOk, D.idOk1, Blk.ren, Blk.idOk, T_api_Region.d, T_api_Spot.d, k9, k18, k41, k329, k430, k440, k441, k442, k443]) (by simp -implicitDefEqProofs [upd_app, argL, envL_app, heapL_app, look, appEff, wkEnv, wkHeap, D.ren, D.ren1, D.idOk, D.idOk1, Blk.ren, Blk.idOk, T_api_Region.d, T_api_Spot.d, k9, k18, k41, k329, k430, k440, k441, k442, k443])⟩
                          · simp -implicitDefEqProofs only [vt, ↓atI_fold, forall_const, reduceIte, reduceCtorEq, Nat.reduceEqDiff, Nat.reduceAdd, Nat.reduceSub, Nat.reduceMul, Nat.reduceLT, Nat.reduceLeDiff, Nat.reducePow, Int.reduceToNat, Int.reduceLT, Int.reduceLE, Int.reduceAdd, Int.reduceSub, Int.reduceMul, Int.reduceEq, Int.reduceBEq, Int.reduceBNe, Int.reduceNeg, T_api_Region.d, T_api_Spot.d, k9, k18, k41, k329, h401, k430, k440, k441, k442, k443]
                            subst hK439
                            obtain rfl := Option.some.inj h
                            exact eb_nil ⟨rfl, Wk.of (fun i => if i = 1 then some 1 else if i = 0 then some 0 else some i) _ _ _ (by simp -implicitDefEqProofs [upd_app, argL, envL_app, heapL_app, look, appEff, wkEnv, wkHeap, D.ren, D.ren1, D.idOk, D.idOk1, Blk.ren, Blk.idOk, T_api_Region.d, T_api_Spot.d, k9, k18, k41, k329, k430, k440, k441, k442, k443]) (by simp -implicitDefEqProofs [upd_app, argL, envL_app, heapL_app, look, appEff, wkEnv, wkHeap, D.ren, D.ren1, D.idOk, D.idOk1, Blk.ren, Blk.idOk, T_api_Region.d, T_api_Spot.d, k9, k18, k41, k329, k430, k440, k441, k442, k443])⟩
                        · simp -implicitDefEqProofs only [vt, ↓atI_fold, forall_const, reduceIte, reduceCtorEq, Nat.reduceEqDiff, Nat.reduceAdd, Nat.reduceSub, Nat.reduceMul, Nat.reduceLT, Nat.reduceLeDiff, Nat.reducePow, Int.reduceToNat, Int.reduceLT, Int.reduceLE, Int.reduceAdd, Int.reduceSub, Int.reduceMul, Int.reduceEq, Int.reduceBEq, Int.reduceBNe, Int.reduceNeg, T_api_Region.d, T_api_Spot.d, k9, k18, k41, k329, h401, k430, k440, k441, k442]
                          subst hK439
                          obtain rfl := Option.some.inj h
                          exact eb_nil ⟨rfl, Wk.of (fun i => if i = 1 then some 1 else if i = 0 then some 0 else some i) _ _ _ (by simp -implicitDefEqProofs [upd_app, argL, envL_app, heapL_app, look, appEff, wkEnv, wkHeap, D.ren, D.ren1, D.idOk, D.idOk1, Blk.ren, Blk.idOk, T_api_Region.d, T_api_Spot.d, k9, k18, k41, k329, k430, k440, k441, k442]) (by simp -implicitDefEqProofs [upd_app, argL, envL_app, heapL_app, look, appEff, wkEnv, wkHeap, D.ren, D.ren1, D.idOk, D.idOk1, Blk.ren, Blk.idOk, T_api_Region.d, T_api_Spot.d, k9, k18, k41, k329, k430, k440, k441, k442])⟩
                      · simp -implicitDefEqProofs only [vt, ↓atI_fold, forall_const, reduceIte, reduceCtorEq, Nat.reduceEqDiff, Nat.reduceAdd, Nat.reduceSub, Nat.reduceMul, Nat.reduceLT, Nat.reduceLeDiff, Nat.reducePow, Int.reduceToNat, Int.reduceLT, Int.reduceLE, Int.reduceAdd, Int.reduceSub, Int.reduceMul, Int.reduceEq, Int.reduceBEq, Int.reduceBNe, Int.reduceNeg, T_api_Region.d, T_api_Spot.d, k9, k18, k41, k329, h401, k430, k440, k441]
                        subst hK439
                        obtain rfl := Option.some.inj h
                        exact eb_nil ⟨rfl, Wk.of (fun i => if i = 1 then some 1 else if i = 0 then some 0 else some i) _ _ _ (by simp -implicitDefEqProofs [upd_app, argL, envL_app, heapL_app, look, appEff, wkEnv, wkHeap, D.ren, D.ren1, D.idOk, D.idOk1, Blk.ren, Blk.idOk, T_api_Region.d, T_api_Spot.d, k9, k18, k41, k329, k430, k440, k441]) (by simp -implicitDefEqProofs [upd_app, argL, envL_app, heapL_app, look, appEff, wkEnv, wkHeap, D.ren, D.ren1, D.idOk, D.idOk1, Blk.ren, Blk.idOk, T_api_Region.d, T_api_Spot.d, k9, k18, k41, k329, k430, k440, k441])⟩
                    · simp -implicitDefEqProofs only [vt, ↓atI_fold, forall_const, reduceIte, reduceCtorEq, Nat.reduceEqDiff, Nat.reduceAdd, Nat.reduceSub, Nat.reduceMul, Nat.reduceLT, Nat.reduceLeDiff, Nat.reducePow, Int.reduceToNat, Int.reduceLT, Int.reduceLE, Int.reduceAdd, Int.reduceSub, Int.reduceMul, Int.reduceEq, Int.reduceBEq, Int.reduceBNe, Int.reduceNeg, T_api_Region.d, T_api_Spot.d, k9, k18, k41, k329, h401, k430, k440]
                      subst hK439
                      obtain rfl := Option.some.inj h
                      exact eb_nil ⟨rfl, Wk.of (fun i => if i = 1 then some 1 else if i = 0 then some 0 else some i) _ _ _ (by simp -implicitDefEqProofs [upd_app, argL, envL_app, heapL_app, look, appEff, wkEnv, wkHeap, D.ren, D.ren1, D.idOk, D.idOk1, Blk.ren, Blk.idOk, T_api_Region.d, T_api_Spot.d, k9, k18, k41, k329, k430, k440]) (by simp -implicitDefEqProofs [upd_app, argL, envL_app, heapL_app, look, appEff, wkEnv, wkHeap, D.ren, D.ren1, D.idOk, D.idOk1, Blk.ren, Blk.idOk, T_api_Region.d, T_api_Spot.d, k9, k18, k41, k329, k430, k440])⟩
                  · refine rb_seq ?_
                    refine rb_regionK fun K452 hK452 => ?_
                    simp -implicitDefEqProofs only [vt, ↓atI_fold, forall_const, reduceIte, reduceCtorEq, Nat.reduceEqDiff, Nat.reduceAdd, Nat.reduceSub, Nat.reduceMul, Nat.reduceLT, Nat.reduceLeDiff, Nat.reducePow, Int.reduceToNat, Int.reduceLT, Int.reduceLE, Int.reduceAdd, Int.reduceSub, Int.reduceMul, Int.reduceEq, Int.reduceBEq, Int.reduceBNe, Int.reduceNeg, T_api_Region.d, T_api_Spot.d, k9, k18, k41, k329, h401, k430]
                    rcases ite_or h with ⟨k453, h⟩ | ⟨k453, h⟩
                    · simp -implicitDefEqProofs only [vt, ↓atI_fold, forall_const, reduceIte, reduceCtorEq, Nat.reduceEqDiff, Nat.reduceAdd, Nat.reduceSub, Nat.reduceMul, Nat.reduceLT, Nat.reduceLeDiff, Nat.reducePow, Int.reduceToNat, Int.reduceLT, Int.reduceLE, Int.reduceAdd, Int.reduceSub, Int.reduceMul, Int.reduceEq, Int.reduceBEq, Int.reduceBNe, Int.reduceNeg, T_api_Region.d, T_api_Spot.d, k9, k18, k41, k329, h401, k430, k453]
                      obtain ⟨r454, h455, h⟩ := bind_some h
                      refine cW.intro (a_region_Check I hI q_1 h455) (by first | rfl | (simp [List.map_append, T_api_Region.d, T_api_Spot.d]; done)) ?_
                      simp -implicitDefEqProofs only [vt, ↓atI_fold, forall_const, reduceIte, reduceCtorEq, Nat.reduceEqDiff, Nat.reduceAdd, Nat.reduceSub, Nat.reduceMul, Nat.reduceLT, Nat.reduceLeDiff, Nat.reducePow, Int.reduceToNat, Int.reduceLT, Int.reduceLE, Int.reduceAdd, Int.reduceSub, Int.reduceMul, Int.reduceEq, Int.reduceBEq, Int.reduceBNe, Int.reduceNeg, T_api_Region.d, T_api_Spot.d, k9, k18, k41, k329, h401, k430, k453]
                      rcases ite_or h with ⟨k456, h⟩ | ⟨k456, h⟩
                      · simp -implicitDefEqProofs only [vt, ↓atI_fold, forall_const, reduceIte, reduceCtorEq, Nat.reduceEqDiff, Nat.reduceAdd, Nat.reduceSub, Nat.reduceMul, Nat.reduceLT, Nat.reduceLeDiff, Nat.reducePow, Int.reduceToNat, Int.reduceLT, Int.reduceLE, Int.reduceAdd, Int.reduceSub, Int.reduceMul, Int.reduceEq, Int.reduceBEq, Int.reduceBNe, Int.reduceNeg, T_api_Region.d, T_api_Spot.d, k9, k18, k41, k329, h401, k430, k453, k456]
                        obtain ⟨r457, h458, h⟩ := bind_some h
                        refine cW.intro (a_region_Overlap I hI r_0 q_1 h458) (by first | rfl | (simp [List.map_append, T_api_Region.d, T_api_Spot.d]; done)) ?_
                        simp -implicitDefEqProofs only [vt, ↓atI_fold, forall_const, reduceIte, reduceCtorEq, Nat.reduceEqDiff, Nat.reduceAdd, Nat.reduceSub, Nat.reduceMul, Nat.reduceLT, Nat.reduceLeDiff, Nat.reducePow, Int.reduceToNat, Int.reduceLT, Int.reduceLE, Int.reduceAdd, Int.reduceSub, Int.reduceMul, Int.reduceEq, Int.reduceBEq, Int.reduceBNe, Int.reduceNeg, T_api_Region.d, T_api_Spot.d, k9, k18, k41, k329, h401, k430, k453, k456]
                        subst hK452
                        refine eb_seq ?_
                        rcases ite_or h with ⟨k459, h⟩ | ⟨k459, h⟩
                        · refine rb_false (congrArg D.bool (congrArg Bool.not k459)) ?_
                          refine rb_skip ?_
                          refine eb_blk_n ?_
                          refine eb_seq ?_
                          refine rb_regionK fun K460 hK460 => ?_
                          simp -implicitDefEqProofs only [vt, ↓atI_fold, forall_const, reduceIte, reduceCtorEq, Nat.reduceEqDiff, Nat.reduceAdd, Nat.reduceSub, Nat.reduceMul, Nat.reduceLT, Nat.reduceLeDiff, Nat.reducePow, Int.reduceToNat, Int.reduceLT, Int.reduceLE, Int.reduceAdd, Int.reduceSub, Int.reduceMul, Int.reduceEq, Int.reduceBEq, Int.reduceBNe, Int.reduceNeg, T_api_Region.d, T_api_Spot.d, k9, k18, k41, k329, h401, k430, k453, k456, k459]
                          subst hK460
                          obtain rfl := Option.some.inj h
                          exact eb_nil ⟨rfl, Wk.of (fun i => if i = 1 then some 1 else if i = 0 then some 0 else some i) _ _ _ (by simp -implicitDefEqProofs [upd_app, argL, envL_app, heapL_app, look, appEff, wkEnv, wkHeap, D.ren, D.ren1, D.idOk, D.idOk1, Blk.ren, Blk.idOk, T_api_Region.d, T_api_Spot.d, k9, k18, k41, k329, k430, k453, k456, k459]) (by simp -implicitDefEqProofs [upd_app, argL, envL_app, heapL_app, look, appEff, wkEnv, wkHeap, D.ren, D.ren1, D.idOk, D.idOk1, Blk.ren, Blk.idOk, T_api_Region.d, T_api_Spot.d, k9, k18, k41, k329, k430, k453, k456, k459])⟩
                        · refine rb_true (congrArg D.bool (congrArg Bool.not k459)) ?_
                          refine rb_seq ?_
                          refine rb_regionK fun K462 hK462 => ?_
                          simp -implicitDefEqProofs only [vt, ↓atI_fold, forall_const, reduceIte, reduceCtorEq, Nat.reduceEqDiff, Nat.reduceAdd, Nat.reduceSub, Nat.reduceMul, Nat.reduceLT, Nat.reduceLeDiff, Nat.reducePow, Int.reduceToNat, Int.reduceLT, Int.reduceLE, Int.reduceAdd, Int.reduceSub, Int.reduceMul, Int.reduceEq, Int.reduceBEq, Int.reduceBNe, Int.reduceNeg, T_api_Region.d, T_api_Spot.d, k9, k18, k41, k329, h401, k430, k453, k456, k459]
                          subst hK462
                          refine eb_seq ?_
                          refine rb_ret ?_
                          refine eb_blk_r ?_
                          refine eb_seq_r ?_
                          obtain rfl := Option.some.inj h
                          exact eb_nil ⟨rfl, Wk.of (fun i => some i) _ _ _ (by simp -implicitDefEqProofs [upd_app, argL, envL_app, heapL_app, look, appEff, wkEnv, wkHeap, D.ren, D.ren1, D.idOk, D.idOk1, Blk.ren, Blk.idOk, T_api_Region.d, T_api_Spot.d, k9, k18, k41, k329, k430, k453, k456, k459]) (by simp -implicitDefEqProofs [upd_app, argL, envL_app, heapL_app, look, appEff, wkEnv, wkHeap, D.ren, D.ren1, D.idOk, D.idOk1, Blk.ren, Blk.idOk, T_api_Region.d, T_api_Spot.d, k9, k18, k41, k329, k430, k453, k456, k459])⟩
                      · simp -implicitDefEqProofs only [vt, ↓atI_fold, forall_const, reduceIte, reduceCtorEq, Nat.reduceEqDiff, Nat.reduceAdd, Nat.reduceSub, Nat.reduceMul, Nat.reduceLT, Nat.reduceLeDiff, Nat.reducePow, Int.reduceToNat, Int.reduceLT, Int.reduceLE, Int.reduceAdd, Int.reduceSub, Int.reduceMul, Int.reduceEq, Int.reduceBEq, Int.reduceBNe, Int.reduceNeg, T_api_Region.d, T_api_Spot.d, k9, k18, k41, k329, h401, k430, k453, k456]
                        subst hK452
                        refine eb_seq ?_
                        refine rb_false (rfl) ?_
                        refine rb_skip ?_
                        refine eb_blk_n ?_
                        refine eb_seq ?_
                        refine rb_regionK fun K463 hK463 => ?_
                        simp -implicitDefEqProofs only [vt, ↓atI_fold, forall_const, reduceIte, reduceCtorEq, Nat.reduceEqDiff, Nat.reduceAdd, Nat.reduceSub, Nat.reduceMul, Nat.reduceLT, Nat.reduceLeDiff, Nat.reducePow, Int.reduceToNat, Int.reduceLT, Int.reduceLE, Int.reduceAdd, Int.reduceSub, Int.reduceMul, Int.reduceEq, Int.reduceBEq, Int.reduceBNe, Int.reduceNeg, T_api_Region.d, T_api_Spot.d, k9, k18, k41, k329, h401, k430, k453, k456]
                        subst hK463
                        obtain rfl := Option.some.inj h
                        exact eb_nil ⟨rfl, Wk.of (fun i => if i = 1 then some 1 else if i = 0 then some 0 else some i) _ _ _ (by simp -implicitDefEqProofs [upd_app, argL, envL_app, heapL_app, look, appEff, wkEnv, wkHeap, D.ren, D.ren1, D.idOk, D.idOk1, Blk.ren, Blk.idOk, T_api_Region.d, T_api_Spot.d, k9, k18, k41, k329, k430, k453, k456]) (by simp -implicitDefEqProofs [upd_app, argL, envL_app, heapL_app, look, appEff, wkEnv, wkHeap, D.ren, D.ren1, D.idOk, D.idOk1, Blk.ren, Blk.idOk, T_api_Region.d, T_api_Spot.d, k9, k18, k41, k329, k430, k453, k456])⟩
                    · simp -implicitDefEqProofs only [vt, ↓atI_fold, forall_const, reduceIte, reduceCtorEq, Nat.reduceEqDiff, Nat.reduceAdd, Nat.reduceSub, Nat.reduceMul, Nat.reduceLT, Nat.reduceLeDiff, Nat.reducePow, Int.reduceToNat, Int.reduceLT, Int.reduceLE, Int.reduceAdd, Int.reduceSub, Int.reduceMul, Int.reduceEq, Int.reduceBEq, Int.reduceBNe, Int.reduceNeg, T_api_Region.d, T_api_Spot.d, k9, k18, k41, k329, h401, k430, k453]
                      subst hK452
                      refine eb_seq ?_
                      refine rb_false (rfl) ?_
                      refine rb_skip ?_
                      refine eb_blk_n ?_
                      refine eb_seq ?_
                      refine rb_regionK fun K464 hK464 => ?_
                      simp -implicitDefEqProofs only [vt, ↓atI_fold, forall_const, reduceIte, reduceCtorEq, Nat.reduceEqDiff, Nat.reduceAdd, Nat.reduceSub, Nat.reduceMul, Nat.reduceLT, Nat.reduceLeDiff, Nat.reducePow, Int.reduceToNat, Int.reduceLT, Int.reduceLE, Int.reduceAdd, Int.reduceSub, Int.reduceMul, Int.reduceEq, Int.reduceBEq, Int.reduceBNe, Int.reduceNeg, T_api_Region.d, T_api_Spot.d, k9, k18, k41, k329, h401, k430, k453]
                      subst hK464
                      obtain rfl := Option.some.inj h
                      exact eb_nil ⟨rfl, Wk.of (fun i => if i = 1 then some 1 else if i = 0 then some 0 else some i) _ _ _ (by simp -implicitDefEqProofs [upd_app, argL, envL_app, heapL_app, look, appEff, wkEnv, wkHeap, D.ren, D.ren1, D.idOk, D.idOk1, Blk.ren, Blk.idOk, T_api_Region.d, T_api_Spot.d, k9, k18, k41, k329, k430, k453]) (by simp -implicitDefEqProofs [upd_app, argL, envL_app, heapL_app, look, appEff, wkEnv, wkHeap, D.ren, D.ren1, D.idOk, D.idOk1, Blk.ren, Blk.idOk, T_api_Region.d, T_api_Spot.d, k9, k18, k41, k329, k430, k453])⟩
            · refine rb_false (congrArg D.bool k329) ?_
              refine rb_exit ?_
              refine eb_seq_e ?_
              obtain rfl := Option.some.inj h
              exact eb_nil ⟨rfl, Wk.of (fun i => some i) _ _ _ (by simp -implicitDefEqProofs [upd_app, argL, envL_app, heapL_app, look, appEff, wkEnv, wkHeap, D.ren, D.ren1, D.idOk, D.idOk1, Blk.ren, Blk.idOk, T_api_Region.d, T_api_Spot.d, k9, k18, k41, k329]) (by simp -implicitDefEqProofs [upd_app, argL, envL_app, heapL_app, look, appEff, wkEnv, wkHeap, D.ren, D.ren1, D.idOk, D.idOk1, Blk.ren, Blk.idOk, T_api_Region.d, T_api_Spot.d, k9, k18, k41, k329])⟩
          · rcases e47 with e47 | e47
            · try dsimp only at h ⊢
              refine eb_blk_r ?_
              refine eb_seq_r ?_
              obtain rfl := Option.some.inj h
              refine eb_nil ?_
              simp -implicitDefEqProofs only [vt, ↓atI_fold, forall_const, reduceIte, reduceCtorEq, Nat.reduceEqDiff, Nat.reduceAdd, Nat.reduceSub, Nat.reduceMul, Nat.reduceLT, Nat.reduceLeDiff, Nat.reducePow, Int.reduceToNat, Int.reduceLT, Int.reduceLE, Int.reduceAdd, Int.reduceSub, Int.reduceMul, Int.reduceEq, Int.reduceBEq, Int.reduceBNe, Int.reduceNeg, retQ_r, Tryd.results8, T_api_Region.d, T_api_Spot.d, k9, k18, k41] <;> first | rfl | (simp [List.map_append, T_api_Region.d, T_api_Spot.d]; done)
            · try dsimp only at h ⊢
              refine eb_blk_hit ?_
              refine eb_seq ?_
              refine rb_seq ?_
              refine rb_regionK fun K467 hK467 => ?_
              simp -implicitDefEqProofs only [vt, ↓atI_fold, forall_const, reduceIte, reduceCtorEq, Nat.reduceEqDiff, Nat.reduceAdd, Nat.reduceSub, Nat.reduceMul, Nat.reduceLT, Nat.reduceLeDiff, Nat.reducePow, Int.reduceToNat, Int.reduceLT, Int.reduceLE, Int.reduceAdd, Int.reduceSub, Int.reduceMul, Int.reduceEq, Int.reduceBEq, Int.reduceBNe, Int.reduceNeg, T_api_Region.d, T_api_Spot.d, k9, k18, k41]
              subst hK467
              refine eb_seq ?_
              refine rb_ret ?_
              obtain rfl := Option.some.inj h
              refine eb_nil ?_
              simp -implicitDefEqProofs only [vt, ↓atI_fold, forall_const, reduceIte, reduceCtorEq, Nat.reduceEqDiff, Nat.reduceAdd, Nat.reduceSub, Nat.reduceMul, Nat.reduceLT, Nat.reduceLeDiff, Nat.reducePow, Int.reduceToNat, Int.reduceLT, Int.reduceLE, Int.reduceAdd, Int.reduceSub, Int.reduceMul, Int.reduceEq, Int.reduceBEq, Int.reduceBNe, Int.reduceNeg, retQ_r, Tryd.results8, T_api_Region.d, T_api_Spot.d, k9, k18, k41] <;> first | rfl | (simp [List.map_append, T_api_Region.d, T_api_Spot.d]; done)
  · refine rb_true (congrArg D.bool (congrArg Bool.not k9)) ?_
    refine rb_seq ?_
    refine rb_regionK fun K469 hK469 => ?_
    simp -implicitDefEqProofs only [vt, ↓atI_fold, forall_const, reduceIte, reduceCtorEq, Nat.reduceEqDiff, Nat.reduceAdd, Nat.reduceSub, Nat.reduceMul, Nat.reduceLT, Nat.reduceLeDiff, Nat.reducePow, Int.reduceToNat, Int.reduceLT, Int.reduceLE, Int.reduceAdd, Int.reduceSub, Int.reduceMul, Int.reduceEq, Int.reduceBEq, Int.reduceBNe, Int.reduceNeg, T_api_Region.d, T_api_Spot.d, k9]
    subst hK469
    refine eb_seq ?_
    refine rb_ret ?_
    refine eb_seq_r ?_
    obtain rfl := Option.some.inj h
    refine eb_nil ?_
    simp -implicitDefEqProofs only [vt, ↓atI_fold, forall_const, reduceIte, reduceCtorEq, Nat.reduceEqDiff, Nat.reduceAdd, Nat.reduceSub, Nat.reduceMul, Nat.reduceLT, Nat.reduceLeDiff, Nat.reducePow, Int.reduceToNat, Int.reduceLT, Int.reduceLE, Int.reduceAdd, Int.reduceSub, Int.reduceMul, Int.reduceEq, Int.reduceBEq, Int.reduceBNe, Int.reduceNeg, retQ_r, Tryd.results8, T_api_Region.d, T_api_Spot.d, k9] <;> first | rfl | (simp [List.map_append, T_api_Region.d, T_api_Spot.d]; done)
-- captionerlaw10.RegionChecks
def g_law10_RegionChecks_s1 (l_0 : List T_api_Region) (x36 : Int) : Option (Nx (Int) (Unit ⊕ Unit)) :=
  (if (decide (x36 < (l_0.length : Int))) then ((atI l_0 x36).bind fun y108 => ((g_region_Check y108).bind fun r116 => ((g_ref10_Check y108).bind fun r118 => (if (r116 != r118) then (some (.out (.inl ()))) else (some (.go (IntKind.i64.wrap (x36 + 1)))))))) else (some (.out (.inr ()))))
def g_law10_RegionChecks (l_0 : List T_api_Region) (name_1 : List UInt8) : Option (Bool) :=
  ((((g_law10_awake).bind fun r18 => (if r18 then ((g_region_CheckList l_0).bind fun r21 => ((g_ref10_CheckList l_0).bind fun r23 => (if (r21 != r23) then (some true) else ((g_region_Default).bind fun r26 => ((g_ref10_Default).bind fun r28 => (some (!((r26.Name == r28.Name) && ((r26.Top == r28.Top) && ((r26.Height == r28.Height) && ((r26.Left == r28.Left) && ((r26.Width == r28.Width) && ((r26.Align == r28.Align) && (r26.Bottom == r28.Bottom)))))))))))))) else (some true))) : Option (Bool)).bind fun v16 => (if v16 then (some false) else ((iter (g_law10_RegionChecks_s1 l_0) 0).bind fun e37 => (match e37 with | Sum.inl e37 => (some false) | Sum.inr (e37) => ((g_region_Find l_0 name_1).bind fun r129 => ((g_ref10_Find l_0 name_1).bind fun r135 => (if ((r129.1.Name == r135.1.Name) && ((r129.1.Top == r135.1.Top) && ((r129.1.Height == r135.1.Height) && ((r129.1.Left == r135.1.Left) && ((r129.1.Width == r135.1.Width) && ((r129.1.Align == r135.1.Align) && (r129.1.Bottom == r135.1.Bottom))))))) then (some (r129.2 == r135.2)) else (some false))))))))
theorem a_law10_RegionChecks (I : World → Prop) (hI : Stab I) (hTab : ∀ w, I w → Tab w) (l_0 : List T_api_Region) (name_1 : List UInt8) {r : Bool} (h : g_law10_RegionChecks l_0 name_1 = some r) : AFun Tryd.prog I 9 [.sl (l_0.map T_api_Region.d), .str name_1] (.bool r) := by
  refine AFun.enterB hI Tryd.func9 rfl (by decide) (by simp [Tryd.f9]) (by kernel_rfl) ?_
  unfold g_law10_RegionChecks at h
  simp only [S0, Tryd.ntmps9, T_api_Region.d, T_api_Spot.d]
  refine rb_seq ?_
  refine rb_regionK fun K2 hK2 => ?_
  simp -implicitDefEqProofs only [vt, ↓atI_fold, forall_const, reduceIte, reduceCtorEq, Nat.reduceEqDiff, Nat.reduceAdd, Nat.reduceSub, Nat.reduceMul, Nat.reduceLT, Nat.reduceLeDiff, Nat.reducePow, Int.reduceToNat, Int.reduceLT, Int.reduceLE, Int.reduceAdd, Int.reduceSub, Int.reduceMul, Int.reduceEq, Int.reduceBEq, Int.reduceBNe, Int.reduceNeg, T_api_Region.d, T_api_Spot.d]
  subst hK2
  refine eb_seq ?_
  refine rb_seq ?_
  obtain ⟨v16, h30, h⟩ := bind_some h
  refine rb_cut (fun v16 => ⟨envL [(0, .sl (l_0.map T_api_Region.d)), (1, .str name_1), (24, .bool v16)], heapL [], 0, 57⟩) h30 ?_ ?_
  · clear h
    intro v16 h
    refine rb_regionK fun K17 hK17 => ?_
    simp -implicitDefEqProofs only [vt, ↓atI_fold, forall_const, reduceIte, reduceCtorEq, Nat.reduceEqDiff, Nat.reduceAdd, Nat.reduceSub, Nat.reduceMul, Nat.reduceLT, Nat.reduceLeDiff, Nat.reducePow, Int.reduceToNat, Int.reduceLT, Int.reduceLE, Int.reduceAdd, Int.reduceSub, Int.reduceMul, Int.reduceEq, Int.reduceBEq, Int.reduceBNe, Int.reduceNeg, T_api_Region.d, T_api_Spot.d]
    obtain ⟨r18, h19, h⟩ := bind_some h
    refine cW.intro (a_law10_awake I hI hTab h19) (by first | rfl | (simp [List.map_append, T_api_Region.d, T_api_Spot.d]; done)) ?_
    simp -implicitDefEqProofs only [vt, ↓atI_fold, forall_const, reduceIte, reduceCtorEq, Nat.reduceEqDiff, Nat.reduceAdd, Nat.reduceSub, Nat.reduceMul, Nat.reduceLT, Nat.reduceLeDiff, Nat.reducePow, Int.reduceToNat, Int.reduceLT, Int.reduceLE, Int.reduceAdd, Int.reduceSub, Int.reduceMul, Int.reduceEq, Int.reduceBEq, Int.reduceBNe, Int.reduceNeg, T_api_Region.d, T_api_Spot.d]
    rcases ite_or h with ⟨k20, h⟩ | ⟨k20, h⟩
    · simp -implicitDefEqProofs only [vt, ↓atI_fold, forall_const, reduceIte, reduceCtorEq, Nat.reduceEqDiff, Nat.reduceAdd, Nat.reduceSub, Nat.reduceMul, Nat.reduceLT, Nat.reduceLeDiff, Nat.reducePow, Int.reduceToNat, Int.reduceLT, Int.reduceLE, Int.reduceAdd, Int.reduceSub, Int.reduceMul, Int.reduceEq, Int.reduceBEq, Int.reduceBNe, Int.reduceNeg, T_api_Region.d, T_api_Spot.d, k20]
      obtain ⟨r21, h22, h⟩ := bind_some h
      refine cW.intro (a_region_CheckList I hI l_0 h22) (by first | rfl | (simp [List.map_append, T_api_Region.d, T_api_Spot.d]; done)) ?_
      simp -implicitDefEqProofs only [vt, ↓atI_fold, forall_const, reduceIte, reduceCtorEq, Nat.reduceEqDiff, Nat.reduceAdd, Nat.reduceSub, Nat.reduceMul, Nat.reduceLT, Nat.reduceLeDiff, Nat.reducePow, Int.reduceToNat, Int.reduceLT, Int.reduceLE, Int.reduceAdd, Int.reduceSub, Int.reduceMul, Int.reduceEq, Int.reduceBEq, Int.reduceBNe, Int.reduceNeg, T_api_Region.d, T_api_Spot.d, k20]
      obtain ⟨r23, h24, h⟩ := bind_some h
      refine cW.intro (a_ref10_CheckList I hI l_0 h24) (by first | rfl | (simp [List.map_append, T_api_Region.d, T_api_Spot.d]; done)) ?_
      simp -implicitDefEqProofs only [vt, ↓atI_fold, forall_const, reduceIte, reduceCtorEq, Nat.reduceEqDiff, Nat.reduceAdd, Nat.reduceSub, Nat.reduceMul, Nat.reduceLT, Nat.reduceLeDiff, Nat.reducePow, Int.reduceToNat, Int.reduceLT, Int.reduceLE, Int.reduceAdd, Int.reduceSub, Int.reduceMul, Int.reduceEq, Int.reduceBEq, Int.reduceBNe, Int.reduceNeg, T_api_Region.d, T_api_Spot.d, k20]
      rcases ite_or h with ⟨k25, h⟩ | ⟨k25, h⟩
      · simp -implicitDefEqProofs only [vt, ↓atI_fold, forall_const, reduceIte, reduceCtorEq, Nat.reduceEqDiff, Nat.reduceAdd, Nat.reduceSub, Nat.reduceMul, Nat.reduceLT, Nat.reduceLeDiff, Nat.reducePow, Int.reduceToNat, Int.reduceLT, Int.reduceLE, Int.reduceAdd, Int.reduceSub, Int.reduceMul, Int.reduceEq, Int.reduceBEq, Int.reduceBNe, Int.reduceNeg, T_api_Region.d, T_api_Spot.d, k20, k25]
        subst hK17
        obtain rfl := Option.some.inj h
        exact eb_nil ⟨rfl, Wk.of (fun i => some i) _ _ _ (by simp -implicitDefEqProofs [upd_app, argL, envL_app, heapL_app, look, appEff, wkEnv, wkHeap, D.ren, D.ren1, D.idOk, D.idOk1, Blk.ren, Blk.idOk, T_api_Region.d, T_api_Spot.d, k20, k25]) (by simp -implicitDefEqProofs [upd_app, argL, envL_app, heapL_app, look, appEff, wkEnv, wkHeap, D.ren, D.ren1, D.idOk, D.idOk1, Blk.ren, Blk.idOk, T_api_Region.d, T_api_Spot.d, k20, k25])⟩
      · simp -implicitDefEqProofs only [vt, ↓atI_fold, forall_const, reduceIte, reduceCtorEq, Nat.reduceEqDiff, Nat.reduceAdd, Nat.reduceSub, Nat.reduceMul, Nat.reduceLT, Nat.reduceLeDiff, Nat.reducePow, Int.reduceToNat, Int.reduceLT, Int.reduceLE, Int.reduceAdd, Int.reduceSub, Int.reduceMul, Int.reduceEq, Int.reduceBEq, Int.reduceBNe, Int.reduceNeg, T_api_Region.d, T_api_Spot.d, k20, k25]
        obtain ⟨r26, h27, h⟩ := bind_some h
        refine cW.intro (a_region_Default I hI h27) (by first | rfl | (simp [List.map_append, T_api_Region.d, T_api_Spot.d]; done)) ?_
        simp -implicitDefEqProofs only [vt, ↓atI_fold, forall_const, reduceIte, reduceCtorEq, Nat.reduceEqDiff, Nat.reduceAdd, Nat.reduceSub, Nat.reduceMul, Nat.reduceLT, Nat.reduceLeDiff, Nat.reducePow, Int.reduceToNat, Int.reduceLT, Int.reduceLE, Int.reduceAdd, Int.reduceSub, Int.reduceMul, Int.reduceEq, Int.reduceBEq, Int.reduceBNe, Int.reduceNeg, T_api_Region.d, T_api_Spot.d, k20, k25]
        obtain ⟨r28, h29, h⟩ := bind_some h
        refine cW.intro (a_ref10_Default I hI h29) (by first | rfl | (simp [List.map_append, T_api_Region.d, T_api_Spot.d]; done)) ?_
        simp -implicitDefEqProofs only [vt, ↓atI_fold, forall_const, reduceIte, reduceCtorEq, Nat.reduceEqDiff, Nat.reduceAdd, Nat.reduceSub, Nat.reduceMul, Nat.reduceLT, Nat.reduceLeDiff, Nat.reducePow, Int.reduceToNat, Int.reduceLT, Int.reduceLE, Int.reduceAdd, Int.reduceSub, Int.reduceMul, Int.reduceEq, Int.reduceBEq, Int.reduceBNe, Int.reduceNeg, T_api_Region.d, T_api_Spot.d, k20, k25]
        subst hK17
        obtain rfl := Option.some.inj h
        exact eb_nil ⟨rfl, Wk.of (fun i => some i) _ _ _ (by simp -implicitDefEqProofs [upd_app, argL, envL_app, heapL_app, look, appEff, wkEnv, wkHeap, D.ren, D.ren1, D.idOk, D.idOk1, Blk.ren, Blk.idOk, T_api_Region.d, T_api_Spot.d, k20, k25]) (by simp -implicitDefEqProofs [upd_app, argL, envL_app, heapL_app, look, appEff, wkEnv, wkHeap, D.ren, D.ren1, D.idOk, D.idOk1, Blk.ren, Blk.idOk, T_api_Region.d, T_api_Spot.d, k20, k25])⟩
    · simp -implicitDefEqProofs only [vt, ↓atI_fold, forall_const, reduceIte, reduceCtorEq, Nat.reduceEqDiff, Nat.reduceAdd, Nat.reduceSub, Nat.reduceMul, Nat.reduceLT, Nat.reduceLeDiff, Nat.reducePow, Int.reduceToNat, Int.reduceLT, Int.reduceLE, Int.reduceAdd, Int.reduceSub, Int.reduceMul, Int.reduceEq, Int.reduceBEq, Int.reduceBNe, Int.reduceNeg, T_api_Region.d, T_api_Spot.d, k20]
      subst hK17
      obtain rfl := Option.some.inj h
      exact eb_nil ⟨rfl, Wk.of (fun i => some i) _ _ _ (by simp -implicitDefEqProofs [upd_app, argL, envL_app, heapL_app, look, appEff, wkEnv, wkHeap, D.ren, D.ren1, D.idOk, D.idOk1, Blk.ren, Blk.idOk, T_api_Region.d, T_api_Spot.d, k20]) (by simp -implicitDefEqProofs [upd_app, argL, envL_app, heapL_app, look, appEff, wkEnv, wkHeap, D.ren, D.ren1, D.idOk, D.idOk1, Blk.ren, Blk.idOk, T_api_Region.d, T_api_Spot.d, k20])⟩
  · rcases ite_or h with ⟨k31, h⟩ | ⟨k31, h⟩
    · refine rb_true (congrArg D.bool k31) ?_
      refine rb_seq ?_
      refine rb_regionK fun K33 hK33 => ?_
      simp -implicitDefEqProofs only [vt, ↓atI_fold, forall_const, reduceIte, reduceCtorEq, Nat.reduceEqDiff, Nat.reduceAdd, Nat.reduceSub, Nat.reduceMul, Nat.reduceLT, Nat.reduceLeDiff, Nat.reducePow, Int.reduceToNat, Int.reduceLT, Int.reduceLE, Int.reduceAdd, Int.reduceSub, Int.reduceMul, Int.reduceEq, Int.reduceBEq, Int.reduceBNe, Int.reduceNeg, T_api_Region.d, T_api_Spot.d, k31]
      subst hK33
      refine eb_seq ?_
      refine rb_ret ?_
      refine eb_seq_r ?_
      obtain rfl := Option.some.inj h
      refine eb_nil ?_
      simp -implicitDefEqProofs only [vt, ↓atI_fold, forall_const, reduceIte, reduceCtorEq, Nat.reduceEqDiff, Nat.reduceAdd, Nat.reduceSub, Nat.reduceMul, Nat.reduceLT, Nat.reduceLeDiff, Nat.reducePow, Int.reduceToNat, Int.reduceLT, Int.reduceLE, Int.reduceAdd, Int.reduceSub, Int.reduceMul, Int.reduceEq, Int.reduceBEq, Int.reduceBNe, Int.reduceNeg, retQ_r, Tryd.results9, T_api_Region.d, T_api_Spot.d, k31] <;> first | rfl | (simp [List.map_append, T_api_Region.d, T_api_Spot.d]; done)
    · refine rb_false (congrArg D.bool k31) ?_
      refine rb_skip ?_
      refine eb_seq ?_
      refine rb_seq ?_
      refine rb_seq ?_
      refine rb_regionK fun K35 hK35 => ?_
      simp -implicitDefEqProofs only [vt, ↓atI_fold, forall_const, reduceIte, reduceCtorEq, Nat.reduceEqDiff, Nat.reduceAdd, Nat.reduceSub, Nat.reduceMul, Nat.reduceLT, Nat.reduceLeDiff, Nat.reducePow, Int.reduceToNat, Int.reduceLT, Int.reduceLE, Int.reduceAdd, Int.reduceSub, Int.reduceMul, Int.reduceEq, Int.reduceBEq, Int.reduceBNe, Int.reduceNeg, T_api_Region.d, T_api_Spot.d, k31]
      subst hK35
      refine eb_seq ?_
      refine rb_block ?_
      obtain ⟨e37, h124, h⟩ := bind_some h
      refine rb_loop (fun x36 => ⟨envL [(0, .sl (l_0.map T_api_Region.d)), (1, .str name_1), (25, .sl (l_0.map T_api_Region.d)), (26, .int .i64 (l_0.length : Int)), (27, .int .i64 x36)], heapL [], 0, 57⟩) (fun w => match w with | Sum.inl _ => .ret | Sum.inr (_) => .exit 0) (fun w => match w with | Sum.inl e37 => ⟨envL [(4, .bool false)], heapL [], 0, 57⟩ | Sum.inr (e37) => ⟨envL [(0, .sl (l_0.map T_api_Region.d)), (1, .str name_1)], heapL [], 0, 57⟩) h124 (Wk.of (fun i => some i) _ _ _ (by simp -implicitDefEqProofs [upd_app, argL, envL_app, heapL_app, look, appEff, wkEnv, wkHeap, D.ren, D.ren1, D.idOk, D.idOk1, Blk.ren, Blk.idOk, T_api_Region.d, T_api_Spot.d, k31]) (by simp -implicitDefEqProofs [upd_app, argL, envL_app, heapL_app, look, appEff, wkEnv, wkHeap, D.ren, D.ren1, D.idOk, D.idOk1, Blk.ren, Blk.idOk, T_api_Region.d, T_api_Spot.d, k31])) (by intro w; rcases w with w | w <;> simp) ?_ ?_
      · clear h
        intro x36 y h
        unfold g_law10_RegionChecks_s1 at h
        refine rb_seq ?_
        refine rb_regionK fun K82 hK82 => ?_
        simp -implicitDefEqProofs only [vt, ↓atI_fold, forall_const, reduceIte, reduceCtorEq, Nat.reduceEqDiff, Nat.reduceAdd, Nat.reduceSub, Nat.reduceMul, Nat.reduceLT, Nat.reduceLeDiff, Nat.reducePow, Int.reduceToNat, Int.reduceLT, Int.reduceLE, Int.reduceAdd, Int.reduceSub, Int.reduceMul, Int.reduceEq, Int.reduceBEq, Int.reduceBNe, Int.reduceNeg, T_api_Region.d, T_api_Spot.d, k31]
        subst hK82
        refine eb_seq ?_
        refine rb_seq ?_
        rcases ite_or h with ⟨k84, h⟩ | ⟨k84, h⟩
        · refine rb_true (congrArg D.bool k84) ?_
          refine rb_skip ?_
          refine eb_seq ?_
          refine rb_seq ?_
          refine rb_block ?_
          refine rb_seq ?_
          refine rb_regionK fun K107 hK107 => ?_
          simp -implicitDefEqProofs only [vt, ↓atI_fold, forall_const, reduceIte, reduceCtorEq, Nat.reduceEqDiff, Nat.reduceAdd, Nat.reduceSub, Nat.reduceMul, Nat.reduceLT, Nat.reduceLeDiff, Nat.reducePow, Int.reduceToNat, Int.reduceLT, Int.reduceLE, Int.reduceAdd, Int.reduceSub, Int.reduceMul, Int.reduceEq, Int.reduceBEq, Int.reduceBNe, Int.reduceNeg, T_api_Region.d, T_api_Spot.d, k31, k84]
          obtain ⟨y108, h109, h⟩ := bind_some h
          simp -implicitDefEqProofs only [vt, ↓atI_fold, forall_const, reduceIte, reduceCtorEq, Nat.reduceEqDiff, Nat.reduceAdd, Nat.reduceSub, Nat.reduceMul, Nat.reduceLT, Nat.reduceLeDiff, Nat.reducePow, Int.reduceToNat, Int.reduceLT, Int.reduceLE, Int.reduceAdd, Int.reduceSub, Int.reduceMul, Int.reduceEq, Int.reduceBEq, Int.reduceBNe, Int.reduceNeg, T_api_Region.d, T_api_Spot.d, k31, k84, h109]
          subst hK107
          refine eb_seq ?_
          refine rb_seq ?_
          refine rb_drawK hI (by kernel_rfl) (by kernel_rfl) fun K115 hK115 => ?_
          simp -implicitDefEqProofs only [vt, ↓atI_fold, forall_const, reduceIte, reduceCtorEq, Nat.reduceEqDiff, Nat.reduceAdd, Nat.reduceSub, Nat.reduceMul, Nat.reduceLT, Nat.reduceLeDiff, Nat.reducePow, Int.reduceToNat, Int.reduceLT, Int.reduceLE, Int.reduceAdd, Int.reduceSub, Int.reduceMul, Int.reduceEq, Int.reduceBEq, Int.reduceBNe, Int.reduceNeg, T_api_Region.d, T_api_Spot.d, k31, k84, h109]
          obtain ⟨r116, h117, h⟩ := bind_some h
          refine cD'.intro (a_region_Check I hI y108 h117) (by first | rfl | (simp [List.map_append, T_api_Region.d, T_api_Spot.d]; done)) (by kernel_rfl) ?_
          simp -implicitDefEqProofs only [vt, ↓atI_fold, forall_const, reduceIte, reduceCtorEq, Nat.reduceEqDiff, Nat.reduceAdd, Nat.reduceSub, Nat.reduceMul, Nat.reduceLT, Nat.reduceLeDiff, Nat.reducePow, Int.reduceToNat, Int.reduceLT, Int.reduceLE, Int.reduceAdd, Int.reduceSub, Int.reduceMul, Int.reduceEq, Int.reduceBEq, Int.reduceBNe, Int.reduceNeg, T_api_Region.d, T_api_Spot.d, k31, k84, h109]
          obtain ⟨r118, h119, h⟩ := bind_some h
          refine cD'.intro (a_ref10_Check I hI y108 h119) (by first | rfl | (simp [List.map_append, T_api_Region.d, T_api_Spot.d]; done)) (by kernel_rfl) ?_
          simp -implicitDefEqProofs only [vt, ↓atI_fold, forall_const, reduceIte, reduceCtorEq, Nat.reduceEqDiff, Nat.reduceAdd, Nat.reduceSub, Nat.reduceMul, Nat.reduceLT, Nat.reduceLeDiff, Nat.reducePow, Int.reduceToNat, Int.reduceLT, Int.reduceLE, Int.reduceAdd, Int.reduceSub, Int.reduceMul, Int.reduceEq, Int.reduceBEq, Int.reduceBNe, Int.reduceNeg, T_api_Region.d, T_api_Spot.d, k31, k84, h109]
          subst hK115
          refine eb_seq ?_
          rcases ite_or h with ⟨k120, h⟩ | ⟨k120, h⟩
          · refine rb_true (congrArg D.bool k120) ?_
            refine rb_seq ?_
            refine rb_regionK fun K122 hK122 => ?_
            simp -implicitDefEqProofs only [vt, ↓atI_fold, forall_const, reduceIte, reduceCtorEq, Nat.reduceEqDiff, Nat.reduceAdd, Nat.reduceSub, Nat.reduceMul, Nat.reduceLT, Nat.reduceLeDiff, Nat.reducePow, Int.reduceToNat, Int.reduceLT, Int.reduceLE, Int.reduceAdd, Int.reduceSub, Int.reduceMul, Int.reduceEq, Int.reduceBEq, Int.reduceBNe, Int.reduceNeg, T_api_Region.d, T_api_Spot.d, k31, k84, h109, k120]
            subst hK122
            refine eb_seq ?_
            refine rb_ret ?_
            refine eb_blk_r ?_
            refine eb_seq_r ?_
            obtain rfl := Option.some.inj h
            exact eb_nil ⟨rfl, Wk.of (fun i => some i) _ _ _ (by simp -implicitDefEqProofs [upd_app, argL, envL_app, heapL_app, look, appEff, wkEnv, wkHeap, D.ren, D.ren1, D.idOk, D.idOk1, Blk.ren, Blk.idOk, T_api_Region.d, T_api_Spot.d, k31, k84, k120]) (by simp -implicitDefEqProofs [upd_app, argL, envL_app, heapL_app, look, appEff, wkEnv, wkHeap, D.ren, D.ren1, D.idOk, D.idOk1, Blk.ren, Blk.idOk, T_api_Region.d, T_api_Spot.d, k31, k84, k120])⟩
          · refine rb_false (congrArg D.bool k120) ?_
            refine rb_skip ?_
            refine eb_blk_n ?_
            refine eb_seq ?_
            refine rb_regionK fun K123 hK123 => ?_
            simp -implicitDefEqProofs only [vt, ↓atI_fold, forall_const, reduceIte, reduceCtorEq, Nat.reduceEqDiff, Nat.reduceAdd, Nat.reduceSub, Nat.reduceMul, Nat.reduceLT, Nat.reduceLeDiff, Nat.reducePow, Int.reduceToNat, Int.reduceLT, Int.reduceLE, Int.reduceAdd, Int.reduceSub, Int.reduceMul, Int.reduceEq, Int.reduceBEq, Int.reduceBNe, Int.reduceNeg, T_api_Region.d, T_api_Spot.d, k31, k84, h109, k120]
            subst hK123
            obtain rfl := Option.some.inj h
            exact eb_nil ⟨rfl, Wk.of (fun i => some i) _ _ _ (by simp -implicitDefEqProofs [upd_app, argL, envL_app, heapL_app, look, appEff, wkEnv, wkHeap, D.ren, D.ren1, D.idOk, D.idOk1, Blk.ren, Blk.idOk, T_api_Region.d, T_api_Spot.d, k31, k84, k120]) (by simp -implicitDefEqProofs [upd_app, argL, envL_app, heapL_app, look, appEff, wkEnv, wkHeap, D.ren, D.ren1, D.idOk, D.idOk1, Blk.ren, Blk.idOk, T_api_Region.d, T_api_Spot.d, k31, k84, k120])⟩
        · refine rb_false (congrArg D.bool k84) ?_
          refine rb_exit ?_
          refine eb_seq_e ?_
          obtain rfl := Option.some.inj h
          exact eb_nil ⟨rfl, Wk.of (fun i => some i) _ _ _ (by simp -implicitDefEqProofs [upd_app, argL, envL_app, heapL_app, look, appEff, wkEnv, wkHeap, D.ren, D.ren1, D.idOk, D.idOk1, Blk.ren, Blk.idOk, T_api_Region.d, T_api_Spot.d, k31, k84]) (by simp -implicitDefEqProofs [upd_app, argL, envL_app, heapL_app, look, appEff, wkEnv, wkHeap, D.ren, D.ren1, D.idOk, D.idOk1, Blk.ren, Blk.idOk, T_api_Region.d, T_api_Spot.d, k31, k84])⟩
      · rcases e37 with e37 | e37
        · try dsimp only at h ⊢
          refine eb_blk_r ?_
          refine eb_seq_r ?_
          obtain rfl := Option.some.inj h
          refine eb_nil ?_
          simp -implicitDefEqProofs only [vt, ↓atI_fold, forall_const, reduceIte, reduceCtorEq, Nat.reduceEqDiff, Nat.reduceAdd, Nat.reduceSub, Nat.reduceMul, Nat.reduceLT, Nat.reduceLeDiff, Nat.reducePow, Int.reduceToNat, Int.reduceLT, Int.reduceLE, Int.reduceAdd, Int.reduceSub, Int.reduceMul, Int.reduceEq, Int.reduceBEq, Int.reduceBNe, Int.reduceNeg, retQ_r, Tryd.results9, T_api_Region.d, T_api_Spot.d, k31] <;> first | rfl | (simp [List.map_append, T_api_Region.d, T_api_Spot.d]; done)
        · try dsimp only at h ⊢
          refine eb_blk_hit ?_
          refine eb_seq ?_
          refine rb_seq ?_
          refine rb_regionK fun K128 hK128 => ?_
          simp -implicitDefEqProofs only [vt, ↓atI_fold, forall_const, reduceIte, reduceCtorEq, Nat.reduceEqDiff, Nat.reduceAdd, Nat.reduceSub, Nat.reduceMul, Nat.reduceLT, Nat.reduceLeDiff, Nat.reducePow, Int.reduceToNat, Int.reduceLT, Int.reduceLE, Int.reduceAdd, Int.reduceSub, Int.reduceMul, Int.reduceEq, Int.reduceBEq, Int.reduceBNe, Int.reduceNeg, T_api_Region.d, T_api_Spot.d, k31]
          obtain ⟨r129, h130, h⟩ := bind_some h
          refine cW.intro (a_region_Find I hI l_0 name_1 h130) (by first | rfl | (simp [List.map_append, T_api_Region.d, T_api_Spot.d]; done)) ?_
          simp -implicitDefEqProofs only [vt, ↓atI_fold, forall_const, reduceIte, reduceCtorEq, Nat.reduceEqDiff, Nat.reduceAdd, Nat.reduceSub, Nat.reduceMul, Nat.reduceLT, Nat.reduceLeDiff, Nat.reducePow, Int.reduceToNat, Int.reduceLT, Int.reduceLE, Int.reduceAdd, Int.reduceSub, Int.reduceMul, Int.reduceEq, Int.reduceBEq, Int.reduceBNe, Int.reduceNeg, T_api_Region.d, T_api_Spot.d, k31]
          subst hK128
          refine eb_seq ?_
          refine rb_seq ?_
          refine rb_regionK fun K134 hK134 => ?_
          simp -implicitDefEqProofs only [vt, ↓atI_fold, forall_const, reduceIte, reduceCtorEq, Nat.reduceEqDiff, Nat.reduceAdd, Nat.reduceSub, Nat.reduceMul, Nat.reduceLT, Nat.reduceLeDiff, Nat.reducePow, Int.reduceToNat, Int.reduceLT, Int.reduceLE, Int.reduceAdd, Int.reduceSub, Int.reduceMul, Int.reduceEq, Int.reduceBEq, Int.reduceBNe, Int.reduceNeg, T_api_Region.d, T_api_Spot.d, k31]
          obtain ⟨r135, h136, h⟩ := bind_some h
          refine cW.intro (a_ref10_Find I hI l_0 name_1 h136) (by first | rfl | (simp [List.map_append, T_api_Region.d, T_api_Spot.d]; done)) ?_
          simp -implicitDefEqProofs only [vt, ↓atI_fold, forall_const, reduceIte, reduceCtorEq, Nat.reduceEqDiff, Nat.reduceAdd, Nat.reduceSub, Nat.reduceMul, Nat.reduceLT, Nat.reduceLeDiff, Nat.reducePow, Int.reduceToNat, Int.reduceLT, Int.reduceLE, Int.reduceAdd, Int.reduceSub, Int.reduceMul, Int.reduceEq, Int.reduceBEq, Int.reduceBNe, Int.reduceNeg, T_api_Region.d, T_api_Spot.d, k31]
          subst hK134
          refine eb_seq ?_
          refine rb_seq ?_
          refine rb_regionK fun K139 hK139 => ?_
          simp -implicitDefEqProofs only [vt, ↓atI_fold, forall_const, reduceIte, reduceCtorEq, Nat.reduceEqDiff, Nat.reduceAdd, Nat.reduceSub, Nat.reduceMul, Nat.reduceLT, Nat.reduceLeDiff, Nat.reducePow, Int.reduceToNat, Int.reduceLT, Int.reduceLE, Int.reduceAdd, Int.reduceSub, Int.reduceMul, Int.reduceEq, Int.reduceBEq, Int.reduceBNe, Int.reduceNeg, T_api_Region.d, T_api_Spot.d, k31]
          rcases ite_or h with ⟨k140, h⟩ | ⟨k140, h⟩
          · simp -implicitDefEqProofs only [vt, ↓atI_fold, forall_const, reduceIte, reduceCtorEq, Nat.reduceEqDiff, Nat.reduceAdd, Nat.reduceSub, Nat.reduceMul, Nat.reduceLT, Nat.reduceLeDiff, Nat.reducePow, Int.reduceToNat, Int.reduceLT, Int.reduceLE, Int.reduceAdd, Int.reduceSub, Int.reduceMul, Int.reduceEq, Int.reduceBEq, Int.reduceBNe, Int.reduceNeg, T_api_Region.d, T_api_Spot.d, k31, k140]
            subst hK139
            refine eb_seq ?_
            refine rb_ret ?_
            obtain rfl := Option.some.inj h
            refine eb_nil ?_
            simp -implicitDefEqProofs only [vt, ↓atI_fold, forall_const, reduceIte, reduceCtorEq, Nat.reduceEqDiff, Nat.reduceAdd, Nat.reduceSub, Nat.reduceMul, Nat.reduceLT, Nat.reduceLeDiff, Nat.reducePow, Int.reduceToNat, Int.reduceLT, Int.reduceLE, Int.reduceAdd, Int.reduceSub, Int.reduceMul, Int.reduceEq, Int.reduceBEq, Int.reduceBNe, Int.reduceNeg, retQ_r, Tryd.results9, T_api_Region.d, T_api_Spot.d, k31, k140] <;> first | rfl | (simp [List.map_append, T_api_Region.d, T_api_Spot.d]; done)
          · simp -implicitDefEqProofs only [vt, ↓atI_fold, forall_const, reduceIte, reduceCtorEq, Nat.reduceEqDiff, Nat.reduceAdd, Nat.reduceSub, Nat.reduceMul, Nat.reduceLT, Nat.reduceLeDiff, Nat.reducePow, Int.reduceToNat, Int.reduceLT, Int.reduceLE, Int.reduceAdd, Int.reduceSub, Int.reduceMul, Int.reduceEq, Int.reduceBEq, Int.reduceBNe, Int.reduceNeg, T_api_Region.d, T_api_Spot.d, k31, k140]
            subst hK139
            refine eb_seq ?_
            refine rb_ret ?_
            obtain rfl := Option.some.inj h
            refine eb_nil ?_
            simp -implicitDefEqProofs only [vt, ↓atI_fold, forall_const, reduceIte, reduceCtorEq, Nat.reduceEqDiff, Nat.reduceAdd, Nat.reduceSub, Nat.reduceMul, Nat.reduceLT, Nat.reduceLeDiff, Nat.reducePow, Int.reduceToNat, Int.reduceLT, Int.reduceLE, Int.reduceAdd, Int.reduceSub, Int.reduceMul, Int.reduceEq, Int.reduceBEq, Int.reduceBNe, Int.reduceNeg, retQ_r, Tryd.results9, T_api_Region.d, T_api_Spot.d, k31, k140] <;> first | rfl | (simp [List.map_append, T_api_Region.d, T_api_Spot.d]; done)
end Go.Proofs.YtncmdhkmbmkiiaaDoor
