/- Layer 10 in the abstract reading: the chapter's examples (awake). -/
import Derived.Test.YtncmdhkmbmkiiaaDoorN10e
import Derived.Test.YtncmdhkmbmkiiaaDoorN10g
set_option linter.unusedSimpArgs false
set_option linter.unusedVariables false
namespace Go.Proofs.YtncmdhkmbmkiiaaDoor
open Go.RowKit
set_option maxRecDepth 100000

theorem pl_1 : plL rgDef [5, 32] = ([⟨13, 13, 5⟩, ⟨14, 0, 32⟩], 0) := by kernel_rfl
theorem pl_2 : plL rgDef [1, 1, 1, 1, 1] = ([], 9) := by kernel_rfl
theorem pl_3 : plL rgDef [33] = ([], 11) := by kernel_rfl
theorem tx_1 : rgChk ⟨[84, 79, 80], 1, 2, 4, 24, 1, false⟩ = 0 := by kernel_rfl
theorem tx_2 : rgText ⟨[84, 79, 80], 1, 2, 4, 24, 1, false⟩ = [84, 79, 80, 32, 49, 32, 50, 32, 52, 32, 50, 52, 32, 76, 69, 70, 84, 32, 84, 79, 80] := by kernel_rfl
section
variable (I : World → Prop)
theorem a_P1 (hI : Stab I) : AFun Tryd.prog I 26 [rgDef.d, .sl [.int .i64 5, .int .i64 32]] (.tup [.sl [.agg [.int .i64 13, .int .i64 13, .int .i64 5], .agg [.int .i64 14, .int .i64 0, .int .i64 32]], .int .i64 0]) := by
  have := a_region_Place I hI rgDef [5, 32]
  rw [pl_1] at this
  exact this
theorem a_P2 (hI : Stab I) : AFun Tryd.prog I 26 [rgDef.d, .sl [.int .i64 1, .int .i64 1, .int .i64 1, .int .i64 1, .int .i64 1]] (.tup [.sl [], .int .i64 9]) := by
  have := a_region_Place I hI rgDef [1, 1, 1, 1, 1]
  rw [pl_2] at this
  exact this
theorem a_P3 (hI : Stab I) : AFun Tryd.prog I 26 [rgDef.d, .sl [.int .i64 33]] (.tup [.sl [], .int .i64 11]) := by
  have := a_region_Place I hI rgDef [33]
  rw [pl_3] at this
  exact this
end
theorem a_T1 : AFun Tryd.prog Tab 64 [.agg [.str [84, 79, 80], .int .i64 1, .int .i64 2, .int .i64 4, .int .i64 24, .int .u8 1, .bool false]] (.tup [.str [84, 79, 80, 32, 49, 32, 50, 32, 52, 32, 50, 52, 32, 76, 69, 70, 84, 32, 84, 79, 80], .int .i64 0]) := by
  have := a_region_Text ⟨[84, 79, 80], 1, 2, 4, 24, 1, false⟩
  rw [tx_1, if_pos rfl, tx_2] at this
  exact this
theorem a_awake10 : AFun Tryd.prog Tab 25 [] (.bool true) := by
  have hI := stabTab
  refine AFun.enter hI Tryd.func25 rfl (by decide) (by simp [Tryd.f25]) (by kernel_rfl) ?_
  simp -implicitDefEqProofs only [run_skip, run_label, run_exit, run_ret, run_seq, run_block, run_region, run_draw, run_loop, run_cond, condK_bool, brW_true, brW_false, ext_nil, ext_seq_n, ext_seq_e, ext_seq_r, ext_blk_n, ext_blk_e, ext_blk_r, runR_nil, runR_cons, wantK_t, wantK_f, calK_s, calK_n, purK_s, stepK_s, endK_n, endK_e, endK_r, endG_n, endG_e, endG_r, runD_nil, runD_cons, wantD_t, wantD_f, calD_s, calD_n, purKD_s, stepD_s, effOk, behind_eq, retQ_n, retQ_r, aret_eq, retK_some, retK2_s, awant, gdst, acallee, aop, abuiltin, AS.val, AS.step_mk, upd_app, rngs, cD, cD1, S0, argL, heapL_app, look, envL_app, appEff, loadD, putD, fillD, placeT, intOp, strOp, eqK, eqR, elemsD, loD, hiD, pur1, purL, purD, purDs, D.cells, D.okS, D.ok1, slOk, resD, mkRes, tys, maxLen, reduceIte, reduceCtorEq, Nat.reduceEqDiff, Nat.reduceAdd, Nat.reduceSub, Nat.reduceMul, Nat.reduceLT, Nat.reduceLeDiff, Nat.reducePow, Int.reduceToNat, Int.reduceLT, Int.reduceLE, Int.reduceAdd, Int.reduceSub, Int.reduceEq, Nat.zero_add, Nat.add_zero, Nat.zero_le, List.length_cons, List.length_nil, List.map_cons, List.map_nil, List.drop_succ_cons, List.drop_zero, List.take_succ_cons, List.take_zero, List.head?_cons, List.cons_append, List.nil_append, List.append_nil, List.getElem?_cons_zero, List.getElem?_cons_succ, List.getElem?_toArray, Option.map_some, Option.map_none, Option.isSome_some, Option.any_some, Bool.and_true, Bool.true_and, Bool.and_self, Bool.not_true, Bool.not_false, beq_self_eq_true, decide_true, decide_false, Bool.false_eq_true, Bool.true_eq_false, decide_eq_true_eq, and_true, true_and, and_self, List.mem_cons, List.not_mem_nil, or_false, forall_eq, forall_eq_or_imp, List.all_cons, List.all_nil, ite_true, ite_false, Nat.add_one_sub_one, if_true, if_false, Option.some.injEq, Prod.mk.injEq, not_true_eq_false, not_false_eq_true, forall_const, Nat.le_refl, or_self, Bool.or_false, Bool.or_true, Bool.not_not, Int.cast_ofNat_Int, Int.natCast_zero, Int.natCast_one, Nat.mul_one, inR, kLo, kHi, Int.reduceNeg, Tryd.f25]
  repeat' ((first | (with_reducible refine wantK.splitN (fun h => ?_) (fun h => ?_)) | (with_reducible refine wantK.split (fun h => ?_) (fun h => ?_)) | (with_reducible refine wantD.splitN (fun h => ?_) (fun h => ?_)) | (with_reducible refine wantD.split (fun h => ?_) (fun h => ?_)) | (with_reducible refine brW.splitN (fun h => ?_) (fun h => ?_)) | (with_reducible refine brW.split (fun h => ?_) (fun h => ?_)) | ((with_reducible refine drawW.intro hI (by kernel_rfl) (by kernel_rfl) ?_); have h := True.intro) | ((with_reducible refine heavyD.intro (by kernel_rfl) ?_); have h := True.intro) | ((refine callW.intro (a_region_Default Tab hI) ?_); have h := True.intro) | ((refine callD.intro (a_region_Default Tab hI) (by kernel_rfl) ?_); have h := True.intro) | ((refine callW.intro (a_P1 Tab hI) ?_); have h := True.intro) | ((refine callD.intro (a_P1 Tab hI) (by kernel_rfl) ?_); have h := True.intro) | ((refine callW.intro (a_P2 Tab hI) ?_); have h := True.intro) | ((refine callD.intro (a_P2 Tab hI) (by kernel_rfl) ?_); have h := True.intro) | ((refine callW.intro (a_P3 Tab hI) ?_); have h := True.intro) | ((refine callD.intro (a_P3 Tab hI) (by kernel_rfl) ?_); have h := True.intro) | ((refine callW.intro a_T1 ?_); have h := True.intro) | ((refine callD.intro a_T1 (by kernel_rfl) ?_); have h := True.intro)) <;> simp -implicitDefEqProofs only [run_skip, run_label, run_exit, run_ret, run_seq, run_block, run_region, run_draw, run_loop, run_cond, condK_bool, brW_true, brW_false, ext_nil, ext_seq_n, ext_seq_e, ext_seq_r, ext_blk_n, ext_blk_e, ext_blk_r, runR_nil, runR_cons, wantK_t, wantK_f, calK_s, calK_n, purK_s, stepK_s, endK_n, endK_e, endK_r, endG_n, endG_e, endG_r, runD_nil, runD_cons, wantD_t, wantD_f, calD_s, calD_n, purKD_s, stepD_s, effOk, behind_eq, retQ_n, retQ_r, aret_eq, retK_some, retK2_s, awant, gdst, acallee, aop, abuiltin, AS.val, AS.step_mk, upd_app, rngs, cD, cD1, S0, argL, heapL_app, look, envL_app, appEff, loadD, putD, fillD, placeT, intOp, strOp, eqK, eqR, elemsD, loD, hiD, pur1, purL, purD, purDs, D.cells, D.okS, D.ok1, slOk, resD, mkRes, tys, maxLen, reduceIte, reduceCtorEq, Nat.reduceEqDiff, Nat.reduceAdd, Nat.reduceSub, Nat.reduceMul, Nat.reduceLT, Nat.reduceLeDiff, Nat.reducePow, Int.reduceToNat, Int.reduceLT, Int.reduceLE, Int.reduceAdd, Int.reduceSub, Int.reduceEq, Nat.zero_add, Nat.add_zero, Nat.zero_le, List.length_cons, List.length_nil, List.map_cons, List.map_nil, List.drop_succ_cons, List.drop_zero, List.take_succ_cons, List.take_zero, List.head?_cons, List.cons_append, List.nil_append, List.append_nil, List.getElem?_cons_zero, List.getElem?_cons_succ, List.getElem?_toArray, Option.map_some, Option.map_none, Option.isSome_some, Option.any_some, Bool.and_true, Bool.true_and, Bool.and_self, Bool.not_true, Bool.not_false, beq_self_eq_true, decide_true, decide_false, Bool.false_eq_true, Bool.true_eq_false, decide_eq_true_eq, and_true, true_and, and_self, List.mem_cons, List.not_mem_nil, or_false, forall_eq, forall_eq_or_imp, List.all_cons, List.all_nil, ite_true, ite_false, Nat.add_one_sub_one, if_true, if_false, Option.some.injEq, Prod.mk.injEq, not_true_eq_false, not_false_eq_true, forall_const, Nat.le_refl, or_self, Bool.or_false, Bool.or_true, Bool.not_not, Int.cast_ofNat_Int, Int.natCast_zero, Int.natCast_one, Nat.mul_one, inR, kLo, kHi, Int.reduceNeg, h, Rg.d])
  all_goals (exfalso; revert h; decide)
end Go.Proofs.YtncmdhkmbmkiiaaDoor
