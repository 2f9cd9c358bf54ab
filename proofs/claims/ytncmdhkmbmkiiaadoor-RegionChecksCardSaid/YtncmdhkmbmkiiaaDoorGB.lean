/- What some functions compute, read off their texts by a program of mine (gen.py): definitions, and contracts (the text computes it). No condition but that the definition answers. -/
import Derived.Test.YtncmdhkmbmkiiaaDoorGA
namespace Go.Proofs.YtncmdhkmbmkiiaaDoor
open Go.RowKit
set_option maxRecDepth 100000
set_option linter.unusedVariables false
set_option linter.unusedSimpArgs false
set_option maxHeartbeats 10000000
structure T_api_Spot where
  Row : Int
  Col : Int
  Len : Int
  deriving DecidableEq
def T_api_Spot.d (x : T_api_Spot) : D := .agg [.int .i64 x.Row, .int .i64 x.Col, .int .i64 x.Len]
-- region.CheckList
def g_region_CheckList_s1 (l_0 : List T_api_Region) (x10 : Int) : Option (Nx (Int) (Int ⊕ Unit)) :=
  (if (decide (x10 < (l_0.length : Int))) then ((atI l_0 x10).bind fun y149 => ((g_region_Check y149).bind fun r155 => (if (r155 != 0) then (some (.out (.inl r155))) else (((if (decide (0 < x10)) then ((atI l_0 (IntKind.i64.wrap (x10 - 1))).bind fun y169 => (some (y149.Name == y169.Name))) else (some false)) : Option (Bool)).bind fun v166 => (if v166 then (some (.out (.inl 7))) else (if (decide (0 < x10)) then ((atI l_0 (IntKind.i64.wrap (x10 - 1))).bind fun y181 => (if (Op.bytesLess y149.Name y181.Name) then (some (.out (.inl 8))) else (some (.go (IntKind.i64.wrap (x10 + 1)))))) else (some (.go (IntKind.i64.wrap (x10 + 1)))))))))) else (some (.out (.inr ()))))
def g_region_CheckList (l_0 : List T_api_Region) : Option (Int) :=
  (if (decide (16 < (l_0.length : Int))) then (some 9) else ((iter (g_region_CheckList_s1 l_0) 0).bind fun e11 => (match e11 with | Sum.inl e11 => (some e11) | Sum.inr (e11) => (some 0))))
theorem a_region_CheckList (I : World → Prop) (hI : Stab I) (l_0 : List T_api_Region) {r : Int} (h : g_region_CheckList l_0 = some r) : AFun Tryd.prog I 33 [.sl (l_0.map T_api_Region.d)] (.int .i64 r) := by
  refine AFun.enterB hI Tryd.func33 rfl (by decide) (by simp [Tryd.f33]) (by kernel_rfl) ?_
  unfold g_region_CheckList at h
  simp only [S0, Tryd.ntmps33, T_api_Region.d]
  refine rb_seq ?_
  refine rb_regionK fun K2 hK2 => ?_
  simp -implicitDefEqProofs only [vt, ↓atI_fold, forall_const, reduceIte, reduceCtorEq, Nat.reduceEqDiff, Nat.reduceAdd, Nat.reduceSub, Nat.reduceMul, Nat.reduceLT, Nat.reduceLeDiff, Nat.reducePow, Int.reduceToNat, Int.reduceLT, Int.reduceLE, Int.reduceAdd, Int.reduceSub, Int.reduceMul, Int.reduceEq, Int.reduceBEq, Int.reduceBNe, Int.reduceNeg, T_api_Region.d]
  subst hK2
  refine eb_seq ?_
  refine rb_seq ?_
  refine rb_seq ?_
  refine rb_regionK fun K4 hK4 => ?_
  simp -implicitDefEqProofs only [vt, ↓atI_fold, forall_const, reduceIte, reduceCtorEq, Nat.reduceEqDiff, Nat.reduceAdd, Nat.reduceSub, Nat.reduceMul, Nat.reduceLT, Nat.reduceLeDiff, Nat.reducePow, Int.reduceToNat, Int.reduceLT, Int.reduceLE, Int.reduceAdd, Int.reduceSub, Int.reduceMul, Int.reduceEq, Int.reduceBEq, Int.reduceBNe, Int.reduceNeg, T_api_Region.d]
  subst hK4
  refine eb_seq ?_
  rcases ite_or h with ⟨k5, h⟩ | ⟨k5, h⟩
  · refine rb_true (congrArg D.bool k5) ?_
    refine rb_seq ?_
    refine rb_regionK fun K7 hK7 => ?_
    simp -implicitDefEqProofs only [vt, ↓atI_fold, forall_const, reduceIte, reduceCtorEq, Nat.reduceEqDiff, Nat.reduceAdd, Nat.reduceSub, Nat.reduceMul, Nat.reduceLT, Nat.reduceLeDiff, Nat.reducePow, Int.reduceToNat, Int.reduceLT, Int.reduceLE, Int.reduceAdd, Int.reduceSub, Int.reduceMul, Int.reduceEq, Int.reduceBEq, Int.reduceBNe, Int.reduceNeg, T_api_Region.d, k5]
    subst hK7
    refine eb_seq ?_
    refine rb_ret ?_
    refine eb_seq_r ?_
    obtain rfl := Option.some.inj h
    refine eb_nil ?_
    simp -implicitDefEqProofs only [vt, ↓atI_fold, forall_const, reduceIte, reduceCtorEq, Nat.reduceEqDiff, Nat.reduceAdd, Nat.reduceSub, Nat.reduceMul, Nat.reduceLT, Nat.reduceLeDiff, Nat.reducePow, Int.reduceToNat, Int.reduceLT, Int.reduceLE, Int.reduceAdd, Int.reduceSub, Int.reduceMul, Int.reduceEq, Int.reduceBEq, Int.reduceBNe, Int.reduceNeg, retQ_r, Tryd.results33, T_api_Region.d, k5] <;> first | rfl | (simp [List.map_append, T_api_Region.d]; done)
  · refine rb_false (congrArg D.bool k5) ?_
    refine rb_skip ?_
    refine eb_seq ?_
    refine rb_seq ?_
    refine rb_seq ?_
    refine rb_regionK fun K9 hK9 => ?_
    simp -implicitDefEqProofs only [vt, ↓atI_fold, forall_const, reduceIte, reduceCtorEq, Nat.reduceEqDiff, Nat.reduceAdd, Nat.reduceSub, Nat.reduceMul, Nat.reduceLT, Nat.reduceLeDiff, Nat.reducePow, Int.reduceToNat, Int.reduceLT, Int.reduceLE, Int.reduceAdd, Int.reduceSub, Int.reduceMul, Int.reduceEq, Int.reduceBEq, Int.reduceBNe, Int.reduceNeg, T_api_Region.d, k5]
    subst hK9
    refine eb_seq ?_
    refine rb_block ?_
    obtain ⟨e11, h188, h⟩ := bind_some h
    refine rb_loop (fun x10 => ⟨envL [(0, .sl (l_0.map T_api_Region.d)), (9, .sl (l_0.map T_api_Region.d)), (10, .int .i64 (l_0.length : Int)), (11, .int .i64 x10)], heapL [], 0, 48⟩) (fun w => match w with | Sum.inl _ => .ret | Sum.inr (_) => .exit 0) (fun w => match w with | Sum.inl e11 => ⟨envL [(2, .int .i64 e11)], heapL [], 0, 48⟩ | Sum.inr (e11) => ⟨envL [], heapL [], 0, 48⟩) h188 (Wk.of (fun i => some i) _ _ _ (by simp -implicitDefEqProofs [upd_app, argL, envL_app, heapL_app, look, appEff, wkEnv, wkHeap, D.ren, D.ren1, D.idOk, D.idOk1, Blk.ren, Blk.idOk, T_api_Region.d, k5]) (by simp -implicitDefEqProofs [upd_app, argL, envL_app, heapL_app, look, appEff, wkEnv, wkHeap, D.ren, D.ren1, D.idOk, D.idOk1, Blk.ren, Blk.idOk, T_api_Region.d, k5])) (by intro w; rcases w with w | w <;> simp) ?_ ?_
    · clear h
      intro x10 y h
      unfold g_region_CheckList_s1 at h
      refine rb_seq ?_
      refine rb_regionK fun K101 hK101 => ?_
      simp -implicitDefEqProofs only [vt, ↓atI_fold, forall_const, reduceIte, reduceCtorEq, Nat.reduceEqDiff, Nat.reduceAdd, Nat.reduceSub, Nat.reduceMul, Nat.reduceLT, Nat.reduceLeDiff, Nat.reducePow, Int.reduceToNat, Int.reduceLT, Int.reduceLE, Int.reduceAdd, Int.reduceSub, Int.reduceMul, Int.reduceEq, Int.reduceBEq, Int.reduceBNe, Int.reduceNeg, T_api_Region.d, k5]
      subst hK101
      refine eb_seq ?_
      refine rb_seq ?_
      rcases ite_or h with ⟨k103, h⟩ | ⟨k103, h⟩
      · refine rb_true (congrArg D.bool k103) ?_
        refine rb_skip ?_
        refine eb_seq ?_
        refine rb_seq ?_
        refine rb_block ?_
        refine rb_seq ?_
        refine rb_regionK fun K148 hK148 => ?_
        simp -implicitDefEqProofs only [vt, ↓atI_fold, forall_const, reduceIte, reduceCtorEq, Nat.reduceEqDiff, Nat.reduceAdd, Nat.reduceSub, Nat.reduceMul, Nat.reduceLT, Nat.reduceLeDiff, Nat.reducePow, Int.reduceToNat, Int.reduceLT, Int.reduceLE, Int.reduceAdd, Int.reduceSub, Int.reduceMul, Int.reduceEq, Int.reduceBEq, Int.reduceBNe, Int.reduceNeg, T_api_Region.d, k5, k103]
        obtain ⟨y149, h150, h⟩ := bind_some h
        simp -implicitDefEqProofs only [vt, ↓atI_fold, forall_const, reduceIte, reduceCtorEq, Nat.reduceEqDiff, Nat.reduceAdd, Nat.reduceSub, Nat.reduceMul, Nat.reduceLT, Nat.reduceLeDiff, Nat.reducePow, Int.reduceToNat, Int.reduceLT, Int.reduceLE, Int.reduceAdd, Int.reduceSub, Int.reduceMul, Int.reduceEq, Int.reduceBEq, Int.reduceBNe, Int.reduceNeg, T_api_Region.d, k5, k103, h150]
        subst hK148
        refine eb_seq ?_
        refine rb_seq ?_
        refine rb_seq ?_
        refine rb_regionK fun K154 hK154 => ?_
        simp -implicitDefEqProofs only [vt, ↓atI_fold, forall_const, reduceIte, reduceCtorEq, Nat.reduceEqDiff, Nat.reduceAdd, Nat.reduceSub, Nat.reduceMul, Nat.reduceLT, Nat.reduceLeDiff, Nat.reducePow, Int.reduceToNat, Int.reduceLT, Int.reduceLE, Int.reduceAdd, Int.reduceSub, Int.reduceMul, Int.reduceEq, Int.reduceBEq, Int.reduceBNe, Int.reduceNeg, T_api_Region.d, k5, k103, h150]
        obtain ⟨r155, h156, h⟩ := bind_some h
        refine cW.intro (a_region_Check I hI y149 h156) (by first | rfl | (simp [List.map_append, T_api_Region.d]; done)) ?_
        simp -implicitDefEqProofs only [vt, ↓atI_fold, forall_const, reduceIte, reduceCtorEq, Nat.reduceEqDiff, Nat.reduceAdd, Nat.reduceSub, Nat.reduceMul, Nat.reduceLT, Nat.reduceLeDiff, Nat.reducePow, Int.reduceToNat, Int.reduceLT, Int.reduceLE, Int.reduceAdd, Int.reduceSub, Int.reduceMul, Int.reduceEq, Int.reduceBEq, Int.reduceBNe, Int.reduceNeg, T_api_Region.d, k5, k103, h150]
        subst hK154
        refine eb_seq ?_
        refine rb_seq ?_
        refine rb_regionK fun K158 hK158 => ?_
        simp -implicitDefEqProofs only [vt, ↓atI_fold, forall_const, reduceIte, reduceCtorEq, Nat.reduceEqDiff, Nat.reduceAdd, Nat.reduceSub, Nat.reduceMul, Nat.reduceLT, Nat.reduceLeDiff, Nat.reducePow, Int.reduceToNat, Int.reduceLT, Int.reduceLE, Int.reduceAdd, Int.reduceSub, Int.reduceMul, Int.reduceEq, Int.reduceBEq, Int.reduceBNe, Int.reduceNeg, T_api_Region.d, k5, k103, h150]
        subst hK158
        refine eb_seq ?_
        rcases ite_or h with ⟨k159, h⟩ | ⟨k159, h⟩
        · refine rb_true (congrArg D.bool k159) ?_
          refine rb_seq ?_
          refine rb_regionK fun K161 hK161 => ?_
          simp -implicitDefEqProofs only [vt, ↓atI_fold, forall_const, reduceIte, reduceCtorEq, Nat.reduceEqDiff, Nat.reduceAdd, Nat.reduceSub, Nat.reduceMul, Nat.reduceLT, Nat.reduceLeDiff, Nat.reducePow, Int.reduceToNat, Int.reduceLT, Int.reduceLE, Int.reduceAdd, Int.reduceSub, Int.reduceMul, Int.reduceEq, Int.reduceBEq, Int.reduceBNe, Int.reduceNeg, T_api_Region.d, k5, k103, h150, k159]
          subst hK161
          refine eb_seq ?_
          refine rb_ret ?_
          refine eb_seq_r ?_
          refine eb_blk_r ?_
          refine eb_seq_r ?_
          obtain rfl := Option.some.inj h
          exact eb_nil ⟨rfl, Wk.of (fun i => some i) _ _ _ (by simp -implicitDefEqProofs [upd_app, argL, envL_app, heapL_app, look, appEff, wkEnv, wkHeap, D.ren, D.ren1, D.idOk, D.idOk1, Blk.ren, Blk.idOk, T_api_Region.d, k5, k103, k159]) (by simp -implicitDefEqProofs [upd_app, argL, envL_app, heapL_app, look, appEff, wkEnv, wkHeap, D.ren, D.ren1, D.idOk, D.idOk1, Blk.ren, Blk.idOk, T_api_Region.d, k5, k103, k159])⟩
        · refine rb_false (congrArg D.bool k159) ?_
          refine rb_skip ?_
          refine eb_seq ?_
          refine rb_seq ?_
          obtain ⟨v166, h171, h⟩ := bind_some h
          refine rb_cut (fun v166 => ⟨envL [(0, .sl (l_0.map T_api_Region.d)), (3, .int .i64 x10), (4, .ptr 0 0), (9, .sl (l_0.map T_api_Region.d)), (10, .int .i64 (l_0.length : Int)), (11, .int .i64 x10), (33, .bool v166)], heapL [(0, .box [.str y149.Name, .int .i64 y149.Top, .int .i64 y149.Height, .int .i64 y149.Left, .int .i64 y149.Width, .int .u8 y149.Align, .bool y149.Bottom])], 1, 48⟩) h171 ?_ ?_
          · clear h
            intro v166 h
            refine rb_drawK hI (by kernel_rfl) (by kernel_rfl) fun K167 hK167 => ?_
            simp -implicitDefEqProofs only [vt, ↓atI_fold, forall_const, reduceIte, reduceCtorEq, Nat.reduceEqDiff, Nat.reduceAdd, Nat.reduceSub, Nat.reduceMul, Nat.reduceLT, Nat.reduceLeDiff, Nat.reducePow, Int.reduceToNat, Int.reduceLT, Int.reduceLE, Int.reduceAdd, Int.reduceSub, Int.reduceMul, Int.reduceEq, Int.reduceBEq, Int.reduceBNe, Int.reduceNeg, T_api_Region.d, k5, k103, h150, k159]
            rcases ite_or h with ⟨k168, h⟩ | ⟨k168, h⟩
            · simp -implicitDefEqProofs only [vt, ↓atI_fold, forall_const, reduceIte, reduceCtorEq, Nat.reduceEqDiff, Nat.reduceAdd, Nat.reduceSub, Nat.reduceMul, Nat.reduceLT, Nat.reduceLeDiff, Nat.reducePow, Int.reduceToNat, Int.reduceLT, Int.reduceLE, Int.reduceAdd, Int.reduceSub, Int.reduceMul, Int.reduceEq, Int.reduceBEq, Int.reduceBNe, Int.reduceNeg, T_api_Region.d, k5, k103, h150, k159, k168]
              obtain ⟨y169, h170, h⟩ := bind_some h
              simp -implicitDefEqProofs only [vt, ↓atI_fold, forall_const, reduceIte, reduceCtorEq, Nat.reduceEqDiff, Nat.reduceAdd, Nat.reduceSub, Nat.reduceMul, Nat.reduceLT, Nat.reduceLeDiff, Nat.reducePow, Int.reduceToNat, Int.reduceLT, Int.reduceLE, Int.reduceAdd, Int.reduceSub, Int.reduceMul, Int.reduceEq, Int.reduceBEq, Int.reduceBNe, Int.reduceNeg, T_api_Region.d, k5, k103, h150, k159, k168, h170]
              subst hK167
              obtain rfl := Option.some.inj h
              exact eb_nil ⟨rfl, Wk.of (fun i => if i = 0 then some 4 else some i) _ _ _ (by simp -implicitDefEqProofs [upd_app, argL, envL_app, heapL_app, look, appEff, wkEnv, wkHeap, D.ren, D.ren1, D.idOk, D.idOk1, Blk.ren, Blk.idOk, T_api_Region.d, k5, k103, k159, k168]) (by simp -implicitDefEqProofs [upd_app, argL, envL_app, heapL_app, look, appEff, wkEnv, wkHeap, D.ren, D.ren1, D.idOk, D.idOk1, Blk.ren, Blk.idOk, T_api_Region.d, k5, k103, k159, k168])⟩
            · simp -implicitDefEqProofs only [vt, ↓atI_fold, forall_const, reduceIte, reduceCtorEq, Nat.reduceEqDiff, Nat.reduceAdd, Nat.reduceSub, Nat.reduceMul, Nat.reduceLT, Nat.reduceLeDiff, Nat.reducePow, Int.reduceToNat, Int.reduceLT, Int.reduceLE, Int.reduceAdd, Int.reduceSub, Int.reduceMul, Int.reduceEq, Int.reduceBEq, Int.reduceBNe, Int.reduceNeg, T_api_Region.d, k5, k103, h150, k159, k168]
              subst hK167
              obtain rfl := Option.some.inj h
              exact eb_nil ⟨rfl, Wk.of (fun i => if i = 0 then some 4 else some i) _ _ _ (by simp -implicitDefEqProofs [upd_app, argL, envL_app, heapL_app, look, appEff, wkEnv, wkHeap, D.ren, D.ren1, D.idOk, D.idOk1, Blk.ren, Blk.idOk, T_api_Region.d, k5, k103, k159, k168]) (by simp -implicitDefEqProofs [upd_app, argL, envL_app, heapL_app, look, appEff, wkEnv, wkHeap, D.ren, D.ren1, D.idOk, D.idOk1, Blk.ren, Blk.idOk, T_api_Region.d, k5, k103, k159, k168])⟩
          · rcases ite_or h with ⟨k172, h⟩ | ⟨k172, h⟩
            · refine rb_true (congrArg D.bool k172) ?_
              refine rb_seq ?_
              refine rb_regionK fun K174 hK174 => ?_
              simp -implicitDefEqProofs only [vt, ↓atI_fold, forall_const, reduceIte, reduceCtorEq, Nat.reduceEqDiff, Nat.reduceAdd, Nat.reduceSub, Nat.reduceMul, Nat.reduceLT, Nat.reduceLeDiff, Nat.reducePow, Int.reduceToNat, Int.reduceLT, Int.reduceLE, Int.reduceAdd, Int.reduceSub, Int.reduceMul, Int.reduceEq, Int.reduceBEq, Int.reduceBNe, Int.reduceNeg, T_api_Region.d, k5, k103, h150, k159, k172]
              subst hK174
              refine eb_seq ?_
              refine rb_ret ?_
              refine eb_seq_r ?_
              refine eb_blk_r ?_
              refine eb_seq_r ?_
              obtain rfl := Option.some.inj h
              exact eb_nil ⟨rfl, Wk.of (fun i => some i) _ _ _ (by simp -implicitDefEqProofs [upd_app, argL, envL_app, heapL_app, look, appEff, wkEnv, wkHeap, D.ren, D.ren1, D.idOk, D.idOk1, Blk.ren, Blk.idOk, T_api_Region.d, k5, k103, k159, k172]) (by simp -implicitDefEqProofs [upd_app, argL, envL_app, heapL_app, look, appEff, wkEnv, wkHeap, D.ren, D.ren1, D.idOk, D.idOk1, Blk.ren, Blk.idOk, T_api_Region.d, k5, k103, k159, k172])⟩
            · refine rb_false (congrArg D.bool k172) ?_
              refine rb_skip ?_
              refine eb_seq ?_
              refine rb_seq ?_
              refine rb_drawK hI (by kernel_rfl) (by kernel_rfl) fun K179 hK179 => ?_
              simp -implicitDefEqProofs only [vt, ↓atI_fold, forall_const, reduceIte, reduceCtorEq, Nat.reduceEqDiff, Nat.reduceAdd, Nat.reduceSub, Nat.reduceMul, Nat.reduceLT, Nat.reduceLeDiff, Nat.reducePow, Int.reduceToNat, Int.reduceLT, Int.reduceLE, Int.reduceAdd, Int.reduceSub, Int.reduceMul, Int.reduceEq, Int.reduceBEq, Int.reduceBNe, Int.reduceNeg, T_api_Region.d, k5, k103, h150, k159, k172]
              rcases ite_or h with ⟨k180, h⟩ | ⟨k180, h⟩
              · simp -implicitDefEqProofs only [vt, ↓atI_fold, forall_const, reduceIte, reduceCtorEq, Nat.reduceEqDiff, Nat.reduceAdd, Nat.reduceSub, Nat.reduceMul, Nat.reduceLT, Nat.reduceLeDiff, Nat.reducePow, Int.reduceToNat, Int.reduceLT, Int.reduceLE, Int.reduceAdd, Int.reduceSub, Int.reduceMul, Int.reduceEq, Int.reduceBEq, Int.reduceBNe, Int.reduceNeg, T_api_Region.d, k5, k103, h150, k159, k172, k180]
                obtain ⟨y181, h182, h⟩ := bind_some h
                simp -implicitDefEqProofs only [vt, ↓atI_fold, forall_const, reduceIte, reduceCtorEq, Nat.reduceEqDiff, Nat.reduceAdd, Nat.reduceSub, Nat.reduceMul, Nat.reduceLT, Nat.reduceLeDiff, Nat.reducePow, Int.reduceToNat, Int.reduceLT, Int.reduceLE, Int.reduceAdd, Int.reduceSub, Int.reduceMul, Int.reduceEq, Int.reduceBEq, Int.reduceBNe, Int.reduceNeg, T_api_Region.d, k5, k103, h150, k159, k172, k180, h182]
                subst hK179
                refine eb_seq ?_
                rcases ite_or h with ⟨k183, h⟩ | ⟨k183, h⟩
                · refine rb_true (congrArg D.bool k183) ?_
                  refine rb_seq ?_
                  refine rb_regionK fun K185 hK185 => ?_
                  simp -implicitDefEqProofs only [vt, ↓atI_fold, forall_const, reduceIte, reduceCtorEq, Nat.reduceEqDiff, Nat.reduceAdd, Nat.reduceSub, Nat.reduceMul, Nat.reduceLT, Nat.reduceLeDiff, Nat.reducePow, Int.reduceToNat, Int.reduceLT, Int.reduceLE, Int.reduceAdd, Int.reduceSub, Int.reduceMul, Int.reduceEq, Int.reduceBEq, Int.reduceBNe, Int.reduceNeg, T_api_Region.d, k5, k103, h150, k159, k172, k180, h182, k183]
                  subst hK185
                  refine eb_seq ?_
                  refine rb_ret ?_
                  refine eb_blk_r ?_
                  refine eb_seq_r ?_
                  obtain rfl := Option.some.inj h
                  exact eb_nil ⟨rfl, Wk.of (fun i => some i) _ _ _ (by simp -implicitDefEqProofs [upd_app, argL, envL_app, heapL_app, look, appEff, wkEnv, wkHeap, D.ren, D.ren1, D.idOk, D.idOk1, Blk.ren, Blk.idOk, T_api_Region.d, k5, k103, k159, k172, k180, k183]) (by simp -implicitDefEqProofs [upd_app, argL, envL_app, heapL_app, look, appEff, wkEnv, wkHeap, D.ren, D.ren1, D.idOk, D.idOk1, Blk.ren, Blk.idOk, T_api_Region.d, k5, k103, k159, k172, k180, k183])⟩
                · refine rb_false (congrArg D.bool k183) ?_
                  refine rb_skip ?_
                  refine eb_blk_n ?_
                  refine eb_seq ?_
                  refine rb_regionK fun K186 hK186 => ?_
                  simp -implicitDefEqProofs only [vt, ↓atI_fold, forall_const, reduceIte, reduceCtorEq, Nat.reduceEqDiff, Nat.reduceAdd, Nat.reduceSub, Nat.reduceMul, Nat.reduceLT, Nat.reduceLeDiff, Nat.reducePow, Int.reduceToNat, Int.reduceLT, Int.reduceLE, Int.reduceAdd, Int.reduceSub, Int.reduceMul, Int.reduceEq, Int.reduceBEq, Int.reduceBNe, Int.reduceNeg, T_api_Region.d, k5, k103, h150, k159, k172, k180, h182, k183]
                  subst hK186
                  obtain rfl := Option.some.inj h
                  exact eb_nil ⟨rfl, Wk.of (fun i => some i) _ _ _ (by simp -implicitDefEqProofs [upd_app, argL, envL_app, heapL_app, look, appEff, wkEnv, wkHeap, D.ren, D.ren1, D.idOk, D.idOk1, Blk.ren, Blk.idOk, T_api_Region.d, k5, k103, k159, k172, k180, k183]) (by simp -implicitDefEqProofs [upd_app, argL, envL_app, heapL_app, look, appEff, wkEnv, wkHeap, D.ren, D.ren1, D.idOk, D.idOk1, Blk.ren, Blk.idOk, T_api_Region.d, k5, k103, k159, k172, k180, k183])⟩
              · simp -implicitDefEqProofs only [vt, ↓atI_fold, forall_const, reduceIte, reduceCtorEq, Nat.reduceEqDiff, Nat.reduceAdd, Nat.reduceSub, Nat.reduceMul, Nat.reduceLT, Nat.reduceLeDiff, Nat.reducePow, Int.reduceToNat, Int.reduceLT, Int.reduceLE, Int.reduceAdd, Int.reduceSub, Int.reduceMul, Int.reduceEq, Int.reduceBEq, Int.reduceBNe, Int.reduceNeg, T_api_Region.d, k5, k103, h150, k159, k172, k180]
                subst hK179
                refine eb_seq ?_
                refine rb_false (rfl) ?_
                refine rb_skip ?_
                refine eb_blk_n ?_
                refine eb_seq ?_
                refine rb_regionK fun K187 hK187 => ?_
                simp -implicitDefEqProofs only [vt, ↓atI_fold, forall_const, reduceIte, reduceCtorEq, Nat.reduceEqDiff, Nat.reduceAdd, Nat.reduceSub, Nat.reduceMul, Nat.reduceLT, Nat.reduceLeDiff, Nat.reducePow, Int.reduceToNat, Int.reduceLT, Int.reduceLE, Int.reduceAdd, Int.reduceSub, Int.reduceMul, Int.reduceEq, Int.reduceBEq, Int.reduceBNe, Int.reduceNeg, T_api_Region.d, k5, k103, h150, k159, k172, k180]
                subst hK187
                obtain rfl := Option.some.inj h
                exact eb_nil ⟨rfl, Wk.of (fun i => some i) _ _ _ (by simp -implicitDefEqProofs [upd_app, argL, envL_app, heapL_app, look, appEff, wkEnv, wkHeap, D.ren, D.ren1, D.idOk, D.idOk1, Blk.ren, Blk.idOk, T_api_Region.d, k5, k103, k159, k172, k180]) (by simp -implicitDefEqProofs [upd_app, argL, envL_app, heapL_app, look, appEff, wkEnv, wkHeap, D.ren, D.ren1, D.idOk, D.idOk1, Blk.ren, Blk.idOk, T_api_Region.d, k5, k103, k159, k172, k180])⟩
      · refine rb_false (congrArg D.bool k103) ?_
        refine rb_exit ?_
        refine eb_seq_e ?_
        obtain rfl := Option.some.inj h
        exact eb_nil ⟨rfl, Wk.of (fun i => some i) _ _ _ (by simp -implicitDefEqProofs [upd_app, argL, envL_app, heapL_app, look, appEff, wkEnv, wkHeap, D.ren, D.ren1, D.idOk, D.idOk1, Blk.ren, Blk.idOk, T_api_Region.d, k5, k103]) (by simp -implicitDefEqProofs [upd_app, argL, envL_app, heapL_app, look, appEff, wkEnv, wkHeap, D.ren, D.ren1, D.idOk, D.idOk1, Blk.ren, Blk.idOk, T_api_Region.d, k5, k103])⟩
    · rcases e11 with e11 | e11
      · try dsimp only at h ⊢
        refine eb_blk_r ?_
        refine eb_seq_r ?_
        obtain rfl := Option.some.inj h
        refine eb_nil ?_
        simp -implicitDefEqProofs only [vt, ↓atI_fold, forall_const, reduceIte, reduceCtorEq, Nat.reduceEqDiff, Nat.reduceAdd, Nat.reduceSub, Nat.reduceMul, Nat.reduceLT, Nat.reduceLeDiff, Nat.reducePow, Int.reduceToNat, Int.reduceLT, Int.reduceLE, Int.reduceAdd, Int.reduceSub, Int.reduceMul, Int.reduceEq, Int.reduceBEq, Int.reduceBNe, Int.reduceNeg, retQ_r, Tryd.results33, T_api_Region.d, k5] <;> first | rfl | (simp [List.map_append, T_api_Region.d]; done)
      · try dsimp only at h ⊢
        refine eb_blk_hit ?_
        refine eb_seq ?_
        refine rb_seq ?_
        refine rb_regionK fun K190 hK190 => ?_
        simp -implicitDefEqProofs only [vt, ↓atI_fold, forall_const, reduceIte, reduceCtorEq, Nat.reduceEqDiff, Nat.reduceAdd, Nat.reduceSub, Nat.reduceMul, Nat.reduceLT, Nat.reduceLeDiff, Nat.reducePow, Int.reduceToNat, Int.reduceLT, Int.reduceLE, Int.reduceAdd, Int.reduceSub, Int.reduceMul, Int.reduceEq, Int.reduceBEq, Int.reduceBNe, Int.reduceNeg, T_api_Region.d, k5]
        subst hK190
        refine eb_seq ?_
        refine rb_ret ?_
        obtain rfl := Option.some.inj h
        refine eb_nil ?_
        simp -implicitDefEqProofs only [vt, ↓atI_fold, forall_const, reduceIte, reduceCtorEq, Nat.reduceEqDiff, Nat.reduceAdd, Nat.reduceSub, Nat.reduceMul, Nat.reduceLT, Nat.reduceLeDiff, Nat.reducePow, Int.reduceToNat, Int.reduceLT, Int.reduceLE, Int.reduceAdd, Int.reduceSub, Int.reduceMul, Int.reduceEq, Int.reduceBEq, Int.reduceBNe, Int.reduceNeg, retQ_r, Tryd.results33, T_api_Region.d, k5] <;> first | rfl | (simp [List.map_append, T_api_Region.d]; done)
-- captionerref10.CheckList
def g_ref10_CheckList_s1 (l_0 : List T_api_Region) (x10 : Int) : Option (Nx (Int) (Int ⊕ Unit)) :=
  (if (decide (x10 < (l_0.length : Int))) then ((atI l_0 x10).bind fun y149 => ((g_ref10_Check y149).bind fun r155 => (if (r155 != 0) then (some (.out (.inl r155))) else (((if (decide (0 < x10)) then ((atI l_0 (IntKind.i64.wrap (x10 - 1))).bind fun y169 => (some (y149.Name == y169.Name))) else (some false)) : Option (Bool)).bind fun v166 => (if v166 then (some (.out (.inl 7))) else (if (decide (0 < x10)) then ((atI l_0 (IntKind.i64.wrap (x10 - 1))).bind fun y181 => (if (Op.bytesLess y149.Name y181.Name) then (some (.out (.inl 8))) else (some (.go (IntKind.i64.wrap (x10 + 1)))))) else (some (.go (IntKind.i64.wrap (x10 + 1)))))))))) else (some (.out (.inr ()))))
def g_ref10_CheckList (l_0 : List T_api_Region) : Option (Int) :=
  (if (decide (16 < (l_0.length : Int))) then (some 9) else ((iter (g_ref10_CheckList_s1 l_0) 0).bind fun e11 => (match e11 with | Sum.inl e11 => (some e11) | Sum.inr (e11) => (some 0))))
theorem a_ref10_CheckList (I : World → Prop) (hI : Stab I) (l_0 : List T_api_Region) {r : Int} (h : g_ref10_CheckList l_0 = some r) : AFun Tryd.prog I 34 [.sl (l_0.map T_api_Region.d)] (.int .i64 r) := by
  refine AFun.enterB hI Tryd.func34 rfl (by decide) (by simp [Tryd.f34]) (by kernel_rfl) ?_
  unfold g_ref10_CheckList at h
  simp only [S0, Tryd.ntmps34, T_api_Region.d]
  refine rb_seq ?_
  refine rb_regionK fun K2 hK2 => ?_
  simp -implicitDefEqProofs only [vt, ↓atI_fold, forall_const, reduceIte, reduceCtorEq, Nat.reduceEqDiff, Nat.reduceAdd, Nat.reduceSub, Nat.reduceMul, Nat.reduceLT, Nat.reduceLeDiff, Nat.reducePow, Int.reduceToNat, Int.reduceLT, Int.reduceLE, Int.reduceAdd, Int.reduceSub, Int.reduceMul, Int.reduceEq, Int.reduceBEq, Int.reduceBNe, Int.reduceNeg, T_api_Region.d]
  subst hK2
  refine eb_seq ?_
  refine rb_seq ?_
  refine rb_seq ?_
  refine rb_regionK fun K4 hK4 => ?_
  simp -implicitDefEqProofs only [vt, ↓atI_fold, forall_const, reduceIte, reduceCtorEq, Nat.reduceEqDiff, Nat.reduceAdd, Nat.reduceSub, Nat.reduceMul, Nat.reduceLT, Nat.reduceLeDiff, Nat.reducePow, Int.reduceToNat, Int.reduceLT, Int.reduceLE, Int.reduceAdd, Int.reduceSub, Int.reduceMul, Int.reduceEq, Int.reduceBEq, Int.reduceBNe, Int.reduceNeg, T_api_Region.d]
  subst hK4
  refine eb_seq ?_
  rcases ite_or h with ⟨k5, h⟩ | ⟨k5, h⟩
  · refine rb_true (congrArg D.bool k5) ?_
    refine rb_seq ?_
    refine rb_regionK fun K7 hK7 => ?_
    simp -implicitDefEqProofs only [vt, ↓atI_fold, forall_const, reduceIte, reduceCtorEq, Nat.reduceEqDiff, Nat.reduceAdd, Nat.reduceSub, Nat.reduceMul, Nat.reduceLT, Nat.reduceLeDiff, Nat.reducePow, Int.reduceToNat, Int.reduceLT, Int.reduceLE, Int.reduceAdd, Int.reduceSub, Int.reduceMul, Int.reduceEq, Int.reduceBEq, Int.reduceBNe, Int.reduceNeg, T_api_Region.d, k5]
    subst hK7
    refine eb_seq ?_
    refine rb_ret ?_
    refine eb_seq_r ?_
    obtain rfl := Option.some.inj h
    refine eb_nil ?_
    simp -implicitDefEqProofs only [vt, ↓atI_fold, forall_const, reduceIte, reduceCtorEq, Nat.reduceEqDiff, Nat.reduceAdd, Nat.reduceSub, Nat.reduceMul, Nat.reduceLT, Nat.reduceLeDiff, Nat.reducePow, Int.reduceToNat, Int.reduceLT, Int.reduceLE, Int.reduceAdd, Int.reduceSub, Int.reduceMul, Int.reduceEq, Int.reduceBEq, Int.reduceBNe, Int.reduceNeg, retQ_r, Tryd.results34, T_api_Region.d, k5] <;> first | rfl | (simp [List.map_append, T_api_Region.d]; done)
  · refine rb_false (congrArg D.bool k5) ?_
    refine rb_skip ?_
    refine eb_seq ?_
    refine rb_seq ?_
    refine rb_seq ?_
    refine rb_regionK fun K9 hK9 => ?_
    simp -implicitDefEqProofs only [vt, ↓atI_fold, forall_const, reduceIte, reduceCtorEq, Nat.reduceEqDiff, Nat.reduceAdd, Nat.reduceSub, Nat.reduceMul, Nat.reduceLT, Nat.reduceLeDiff, Nat.reducePow, Int.reduceToNat, Int.reduceLT, Int.reduceLE, Int.reduceAdd, Int.reduceSub, Int.reduceMul, Int.reduceEq, Int.reduceBEq, Int.reduceBNe, Int.reduceNeg, T_api_Region.d, k5]
    subst hK9
    refine eb_seq ?_
    refine rb_block ?_
    obtain ⟨e11, h188, h⟩ := bind_some h
    refine rb_loop (fun x10 => ⟨envL [(0, .sl (l_0.map T_api_Region.d)), (9, .sl (l_0.map T_api_Region.d)), (10, .int .i64 (l_0.length : Int)), (11, .int .i64 x10)], heapL [], 0, 48⟩) (fun w => match w with | Sum.inl _ => .ret | Sum.inr (_) => .exit 0) (fun w => match w with | Sum.inl e11 => ⟨envL [(2, .int .i64 e11)], heapL [], 0, 48⟩ | Sum.inr (e11) => ⟨envL [], heapL [], 0, 48⟩) h188 (Wk.of (fun i => some i) _ _ _ (by simp -implicitDefEqProofs [upd_app, argL, envL_app, heapL_app, look, appEff, wkEnv, wkHeap, D.ren, D.ren1, D.idOk, D.idOk1, Blk.ren, Blk.idOk, T_api_Region.d, k5]) (by simp -implicitDefEqProofs [upd_app, argL, envL_app, heapL_app, look, appEff, wkEnv, wkHeap, D.ren, D.ren1, D.idOk, D.idOk1, Blk.ren, Blk.idOk, T_api_Region.d, k5])) (by intro w; rcases w with w | w <;> simp) ?_ ?_
    · clear h
      intro x10 y h
      unfold g_ref10_CheckList_s1 at h
      refine rb_seq ?_
      refine rb_regionK fun K101 hK101 => ?_
      simp -implicitDefEqProofs only [vt, ↓atI_fold, forall_const, reduceIte, reduceCtorEq, Nat.reduceEqDiff, Nat.reduceAdd, Nat.reduceSub, Nat.reduceMul, Nat.reduceLT, Nat.reduceLeDiff, Nat.reducePow, Int.reduceToNat, Int.reduceLT, Int.reduceLE, Int.reduceAdd, Int.reduceSub, Int.reduceMul, Int.reduceEq, Int.reduceBEq, Int.reduceBNe, Int.reduceNeg, T_api_Region.d, k5]
      subst hK101
      refine eb_seq ?_
      refine rb_seq ?_
      rcases ite_or h with ⟨k103, h⟩ | ⟨k103, h⟩
      · refine rb_true (congrArg D.bool k103) ?_
        refine rb_skip ?_
        refine eb_seq ?_
        refine rb_seq ?_
        refine rb_block ?_
        refine rb_seq ?_
        refine rb_regionK fun K148 hK148 => ?_
        simp -implicitDefEqProofs only [vt, ↓atI_fold, forall_const, reduceIte, reduceCtorEq, Nat.reduceEqDiff, Nat.reduceAdd, Nat.reduceSub, Nat.reduceMul, Nat.reduceLT, Nat.reduceLeDiff, Nat.reducePow, Int.reduceToNat, Int.reduceLT, Int.reduceLE, Int.reduceAdd, Int.reduceSub, Int.reduceMul, Int.reduceEq, Int.reduceBEq, Int.reduceBNe, Int.reduceNeg, T_api_Region.d, k5, k103]
        obtain ⟨y149, h150, h⟩ := bind_some h
        simp -implicitDefEqProofs only [vt, ↓atI_fold, forall_const, reduceIte, reduceCtorEq, Nat.reduceEqDiff, Nat.reduceAdd, Nat.reduceSub, Nat.reduceMul, Nat.reduceLT, Nat.reduceLeDiff, Nat.reducePow, Int.reduceToNat, Int.reduceLT, Int.reduceLE, Int.reduceAdd, Int.reduceSub, Int.reduceMul, Int.reduceEq, Int.reduceBEq, Int.reduceBNe, Int.reduceNeg, T_api_Region.d, k5, k103, h150]
        subst hK148
        refine eb_seq ?_
        refine rb_seq ?_
        refine rb_seq ?_
        refine rb_regionK fun K154 hK154 => ?_
        simp -implicitDefEqProofs only [vt, ↓atI_fold, forall_const, reduceIte, reduceCtorEq, Nat.reduceEqDiff, Nat.reduceAdd, Nat.reduceSub, Nat.reduceMul, Nat.reduceLT, Nat.reduceLeDiff, Nat.reducePow, Int.reduceToNat, Int.reduceLT, Int.reduceLE, Int.reduceAdd, Int.reduceSub, Int.reduceMul, Int.reduceEq, Int.reduceBEq, Int.reduceBNe, Int.reduceNeg, T_api_Region.d, k5, k103, h150]
        obtain ⟨r155, h156, h⟩ := bind_some h
        refine cW.intro (a_ref10_Check I hI y149 h156) (by first | rfl | (simp [List.map_append, T_api_Region.d]; done)) ?_
        simp -implicitDefEqProofs only [vt, ↓atI_fold, forall_const, reduceIte, reduceCtorEq, Nat.reduceEqDiff, Nat.reduceAdd, Nat.reduceSub, Nat.reduceMul, Nat.reduceLT, Nat.reduceLeDiff, Nat.reducePow, Int.reduceToNat, Int.reduceLT, Int.reduceLE, Int.reduceAdd, Int.reduceSub, Int.reduceMul, Int.reduceEq, Int.reduceBEq, Int.reduceBNe, Int.reduceNeg, T_api_Region.d, k5, k103, h150]
        subst hK154
        refine eb_seq ?_
        refine rb_seq ?_
        refine rb_regionK fun K158 hK158 => ?_
        simp -implicitDefEqProofs only [vt, ↓atI_fold, forall_const, reduceIte, reduceCtorEq, Nat.reduceEqDiff, Nat.reduceAdd, Nat.reduceSub, Nat.reduceMul, Nat.reduceLT, Nat.reduceLeDiff, Nat.reducePow, Int.reduceToNat, Int.reduceLT, Int.reduceLE, Int.reduceAdd, Int.reduceSub, Int.reduceMul, Int.reduceEq, Int.reduceBEq, Int.reduceBNe, Int.reduceNeg, T_api_Region.d, k5, k103, h150]
        subst hK158
        refine eb_seq ?_
        rcases ite_or h with ⟨k159, h⟩ | ⟨k159, h⟩
        · refine rb_true (congrArg D.bool k159) ?_
          refine rb_seq ?_
          refine rb_regionK fun K161 hK161 => ?_
          simp -implicitDefEqProofs only [vt, ↓atI_fold, forall_const, reduceIte, reduceCtorEq, Nat.reduceEqDiff, Nat.reduceAdd, Nat.reduceSub, Nat.reduceMul, Nat.reduceLT, Nat.reduceLeDiff, Nat.reducePow, Int.reduceToNat, Int.reduceLT, Int.reduceLE, Int.reduceAdd, Int.reduceSub, Int.reduceMul, Int.reduceEq, Int.reduceBEq, Int.reduceBNe, Int.reduceNeg, T_api_Region.d, k5, k103, h150, k159]
          subst hK161
          refine eb_seq ?_
          refine rb_ret ?_
          refine eb_seq_r ?_
          refine eb_blk_r ?_
          refine eb_seq_r ?_
          obtain rfl := Option.some.inj h
          exact eb_nil ⟨rfl, Wk.of (fun i => some i) _ _ _ (by simp -implicitDefEqProofs [upd_app, argL, envL_app, heapL_app, look, appEff, wkEnv, wkHeap, D.ren, D.ren1, D.idOk, D.idOk1, Blk.ren, Blk.idOk, T_api_Region.d, k5, k103, k159]) (by simp -implicitDefEqProofs [upd_app, argL, envL_app, heapL_app, look, appEff, wkEnv, wkHeap, D.ren, D.ren1, D.idOk, D.idOk1, Blk.ren, Blk.idOk, T_api_Region.d, k5, k103, k159])⟩
        · refine rb_false (congrArg D.bool k159) ?_
          refine rb_skip ?_
          refine eb_seq ?_
          refine rb_seq ?_
          obtain ⟨v166, h171, h⟩ := bind_some h
          refine rb_cut (fun v166 => ⟨envL [(0, .sl (l_0.map T_api_Region.d)), (3, .int .i64 x10), (4, .ptr 0 0), (9, .sl (l_0.map T_api_Region.d)), (10, .int .i64 (l_0.length : Int)), (11, .int .i64 x10), (33, .bool v166)], heapL [(0, .box [.str y149.Name, .int .i64 y149.Top, .int .i64 y149.Height, .int .i64 y149.Left, .int .i64 y149.Width, .int .u8 y149.Align, .bool y149.Bottom])], 1, 48⟩) h171 ?_ ?_
          · clear h
            intro v166 h
            refine rb_drawK hI (by kernel_rfl) (by kernel_rfl) fun K167 hK167 => ?_
            simp -implicitDefEqProofs only [vt, ↓atI_fold, forall_const, reduceIte, reduceCtorEq, Nat.reduceEqDiff, Nat.reduceAdd, Nat.reduceSub, Nat.reduceMul, Nat.reduceLT, Nat.reduceLeDiff, Nat.reducePow, Int.reduceToNat, Int.reduceLT, Int.reduceLE, Int.reduceAdd, Int.reduceSub, Int.reduceMul, Int.reduceEq, Int.reduceBEq, Int.reduceBNe, Int.reduceNeg, T_api_Region.d, k5, k103, h150, k159]
            rcases ite_or h with ⟨k168, h⟩ | ⟨k168, h⟩
            · simp -implicitDefEqProofs only [vt, ↓atI_fold, forall_const, reduceIte, reduceCtorEq, Nat.reduceEqDiff, Nat.reduceAdd, Nat.reduceSub, Nat.reduceMul, Nat.reduceLT, Nat.reduceLeDiff, Nat.reducePow, Int.reduceToNat, Int.reduceLT, Int.reduceLE, Int.reduceAdd, Int.reduceSub, Int.reduceMul, Int.reduceEq, Int.reduceBEq, Int.reduceBNe, Int.reduceNeg, T_api_Region.d, k5, k103, h150, k159, k168]
              obtain ⟨y169, h170, h⟩ := bind_some h
              simp -implicitDefEqProofs only [vt, ↓atI_fold, forall_const, reduceIte, reduceCtorEq, Nat.reduceEqDiff, Nat.reduceAdd, Nat.reduceSub, Nat.reduceMul, Nat.reduceLT, Nat.reduceLeDiff, Nat.reducePow, Int.reduceToNat, Int.reduceLT, Int.reduceLE, Int.reduceAdd, Int.reduceSub, Int.reduceMul, Int.reduceEq, Int.reduceBEq, Int.reduceBNe, Int.reduceNeg, T_api_Region.d, k5, k103, h150, k159, k168, h170]
              subst hK167
              obtain rfl := Option.some.inj h
              exact eb_nil ⟨rfl, Wk.of (fun i => if i = 0 then some 4 else some i) _ _ _ (by simp -implicitDefEqProofs [upd_app, argL, envL_app, heapL_app, look, appEff, wkEnv, wkHeap, D.ren, D.ren1, D.idOk, D.idOk1, Blk.ren, Blk.idOk, T_api_Region.d, k5, k103, k159, k168]) (by simp -implicitDefEqProofs [upd_app, argL, envL_app, heapL_app, look, appEff, wkEnv, wkHeap, D.ren, D.ren1, D.idOk, D.idOk1, Blk.ren, Blk.idOk, T_api_Region.d, k5, k103, k159, k168])⟩
            · simp -implicitDefEqProofs only [vt, ↓atI_fold, forall_const, reduceIte, reduceCtorEq, Nat.reduceEqDiff, Nat.reduceAdd, Nat.reduceSub, Nat.reduceMul, Nat.reduceLT, Nat.reduceLeDiff, Nat.reducePow, Int.reduceToNat, Int.reduceLT, Int.reduceLE, Int.reduceAdd, Int.reduceSub, Int.reduceMul, Int.reduceEq, Int.reduceBEq, Int.reduceBNe, Int.reduceNeg, T_api_Region.d, k5, k103, h150, k159, k168]
              subst hK167
              obtain rfl := Option.some.inj h
              exact eb_nil ⟨rfl, Wk.of (fun i => if i = 0 then some 4 else some i) _ _ _ (by simp -implicitDefEqProofs [upd_app, argL, envL_app, heapL_app, look, appEff, wkEnv, wkHeap, D.ren, D.ren1, D.idOk, D.idOk1, Blk.ren, Blk.idOk, T_api_Region.d, k5, k103, k159, k168]) (by simp -implicitDefEqProofs [upd_app, argL, envL_app, heapL_app, look, appEff, wkEnv, wkHeap, D.ren, D.ren1, D.idOk, D.idOk1, Blk.ren, Blk.idOk, T_api_Region.d, k5, k103, k159, k168])⟩
          · rcases ite_or h with ⟨k172, h⟩ | ⟨k172, h⟩
            · refine rb_true (congrArg D.bool k172) ?_
              refine rb_seq ?_
              refine rb_regionK fun K174 hK174 => ?_
              simp -implicitDefEqProofs only [vt, ↓atI_fold, forall_const, reduceIte, reduceCtorEq, Nat.reduceEqDiff, Nat.reduceAdd, Nat.reduceSub, Nat.reduceMul, Nat.reduceLT, Nat.reduceLeDiff, Nat.reducePow, Int.reduceToNat, Int.reduceLT, Int.reduceLE, Int.reduceAdd, Int.reduceSub, Int.reduceMul, Int.reduceEq, Int.reduceBEq, Int.reduceBNe, Int.reduceNeg, T_api_Region.d, k5, k103, h150, k159, k172]
              subst hK174
              refine eb_seq ?_
              refine rb_ret ?_
              refine eb_seq_r ?_
              refine eb_blk_r ?_
              refine eb_seq_r ?_
              obtain rfl := Option.some.inj h
              exact eb_nil ⟨rfl, Wk.of (fun i => some i) _ _ _ (by simp -implicitDefEqProofs [upd_app, argL, envL_app, heapL_app, look, appEff, wkEnv, wkHeap, D.ren, D.ren1, D.idOk, D.idOk1, Blk.ren, Blk.idOk, T_api_Region.d, k5, k103, k159, k172]) (by simp -implicitDefEqProofs [upd_app, argL, envL_app, heapL_app, look, appEff, wkEnv, wkHeap, D.ren, D.ren1, D.idOk, D.idOk1, Blk.ren, Blk.idOk, T_api_Region.d, k5, k103, k159, k172])⟩
            · refine rb_false (congrArg D.bool k172) ?_
              refine rb_skip ?_
              refine eb_seq ?_
              refine rb_seq ?_
              refine rb_drawK hI (by kernel_rfl) (by kernel_rfl) fun K179 hK179 => ?_
              simp -implicitDefEqProofs only [vt, ↓atI_fold, forall_const, reduceIte, reduceCtorEq, Nat.reduceEqDiff, Nat.reduceAdd, Nat.reduceSub, Nat.reduceMul, Nat.reduceLT, Nat.reduceLeDiff, Nat.reducePow, Int.reduceToNat, Int.reduceLT, Int.reduceLE, Int.reduceAdd, Int.reduceSub, Int.reduceMul, Int.reduceEq, Int.reduceBEq, Int.reduceBNe, Int.reduceNeg, T_api_Region.d, k5, k103, h150, k159, k172]
              rcases ite_or h with ⟨k180, h⟩ | ⟨k180, h⟩
              · simp -implicitDefEqProofs only [vt, ↓atI_fold, forall_const, reduceIte, reduceCtorEq, Nat.reduceEqDiff, Nat.reduceAdd, Nat.reduceSub, Nat.reduceMul, Nat.reduceLT, Nat.reduceLeDiff, Nat.reducePow, Int.reduceToNat, Int.reduceLT, Int.reduceLE, Int.reduceAdd, Int.reduceSub, Int.reduceMul, Int.reduceEq, Int.reduceBEq, Int.reduceBNe, Int.reduceNeg, T_api_Region.d, k5, k103, h150, k159, k172, k180]
                obtain ⟨y181, h182, h⟩ := bind_some h
                simp -implicitDefEqProofs only [vt, ↓atI_fold, forall_const, reduceIte, reduceCtorEq, Nat.reduceEqDiff, Nat.reduceAdd, Nat.reduceSub, Nat.reduceMul, Nat.reduceLT, Nat.reduceLeDiff, Nat.reducePow, Int.reduceToNat, Int.reduceLT, Int.reduceLE, Int.reduceAdd, Int.reduceSub, Int.reduceMul, Int.reduceEq, Int.reduceBEq, Int.reduceBNe, Int.reduceNeg, T_api_Region.d, k5, k103, h150, k159, k172, k180, h182]
                subst hK179
                refine eb_seq ?_
                rcases ite_or h with ⟨k183, h⟩ | ⟨k183, h⟩
                · refine rb_true (congrArg D.bool k183) ?_
                  refine rb_seq ?_
                  refine rb_regionK fun K185 hK185 => ?_
                  simp -implicitDefEqProofs only [vt, ↓atI_fold, forall_const, reduceIte, reduceCtorEq, Nat.reduceEqDiff, Nat.reduceAdd, Nat.reduceSub, Nat.reduceMul, Nat.reduceLT, Nat.reduceLeDiff, Nat.reducePow, Int.reduceToNat, Int.reduceLT, Int.reduceLE, Int.reduceAdd, Int.reduceSub, Int.reduceMul, Int.reduceEq, Int.reduceBEq, Int.reduceBNe, Int.reduceNeg, T_api_Region.d, k5, k103, h150, k159, k172, k180, h182, k183]
                  subst hK185
                  refine eb_seq ?_
                  refine rb_ret ?_
                  refine eb_blk_r ?_
                  refine eb_seq_r ?_
                  obtain rfl := Option.some.inj h
                  exact eb_nil ⟨rfl, Wk.of (fun i => some i) _ _ _ (by simp -implicitDefEqProofs [upd_app, argL, envL_app, heapL_app, look, appEff, wkEnv, wkHeap, D.ren, D.ren1, D.idOk, D.idOk1, Blk.ren, Blk.idOk, T_api_Region.d, k5, k103, k159, k172, k180, k183]) (by simp -implicitDefEqProofs [upd_app, argL, envL_app, heapL_app, look, appEff, wkEnv, wkHeap, D.ren, D.ren1, D.idOk, D.idOk1, Blk.ren, Blk.idOk, T_api_Region.d, k5, k103, k159, k172, k180, k183])⟩
                · refine rb_false (congrArg D.bool k183) ?_
                  refine rb_skip ?_
                  refine eb_blk_n ?_
                  refine eb_seq ?_
                  refine rb_regionK fun K186 hK186 => ?_
                  simp -implicitDefEqProofs only [vt, ↓atI_fold, forall_const, reduceIte, reduceCtorEq, Nat.reduceEqDiff, Nat.reduceAdd, Nat.reduceSub, Nat.reduceMul, Nat.reduceLT, Nat.reduceLeDiff, Nat.reducePow, Int.reduceToNat, Int.reduceLT, Int.reduceLE, Int.reduceAdd, Int.reduceSub, Int.reduceMul, Int.reduceEq, Int.reduceBEq, Int.reduceBNe, Int.reduceNeg, T_api_Region.d, k5, k103, h150, k159, k172, k180, h182, k183]
                  subst hK186
                  obtain rfl := Option.some.inj h
                  exact eb_nil ⟨rfl, Wk.of (fun i => some i) _ _ _ (by simp -implicitDefEqProofs [upd_app, argL, envL_app, heapL_app, look, appEff, wkEnv, wkHeap, D.ren, D.ren1, D.idOk, D.idOk1, Blk.ren, Blk.idOk, T_api_Region.d, k5, k103, k159, k172, k180, k183]) (by simp -implicitDefEqProofs [upd_app, argL, envL_app, heapL_app, look, appEff, wkEnv, wkHeap, D.ren, D.ren1, D.idOk, D.idOk1, Blk.ren, Blk.idOk, T_api_Region.d, k5, k103, k159, k172, k180, k183])⟩
              · simp -implicitDefEqProofs only [vt, ↓atI_fold, forall_const, reduceIte, reduceCtorEq, Nat.reduceEqDiff, Nat.reduceAdd, Nat.reduceSub, Nat.reduceMul, Nat.reduceLT, Nat.reduceLeDiff, Nat.reducePow, Int.reduceToNat, Int.reduceLT, Int.reduceLE, Int.reduceAdd, Int.reduceSub, Int.reduceMul, Int.reduceEq, Int.reduceBEq, Int.reduceBNe, Int.reduceNeg, T_api_Region.d, k5, k103, h150, k159, k172, k180]
                subst hK179
                refine eb_seq ?_
                refine rb_false (rfl) ?_
                refine rb_skip ?_
                refine eb_blk_n ?_
                refine eb_seq ?_
                refine rb_regionK fun K187 hK187 => ?_
                simp -implicitDefEqProofs only [vt, ↓atI_fold, forall_const, reduceIte, reduceCtorEq, Nat.reduceEqDiff, Nat.reduceAdd, Nat.reduceSub, Nat.reduceMul, Nat.reduceLT, Nat.reduceLeDiff, Nat.reducePow, Int.reduceToNat, Int.reduceLT, Int.reduceLE, Int.reduceAdd, Int.reduceSub, Int.reduceMul, Int.reduceEq, Int.reduceBEq, Int.reduceBNe, Int.reduceNeg, T_api_Region.d, k5, k103, h150, k159, k172, k180]
                subst hK187
                obtain rfl := Option.some.inj h
                exact eb_nil ⟨rfl, Wk.of (fun i => some i) _ _ _ (by simp -implicitDefEqProofs [upd_app, argL, envL_app, heapL_app, look, appEff, wkEnv, wkHeap, D.ren, D.ren1, D.idOk, D.idOk1, Blk.ren, Blk.idOk, T_api_Region.d, k5, k103, k159, k172, k180]) (by simp -implicitDefEqProofs [upd_app, argL, envL_app, heapL_app, look, appEff, wkEnv, wkHeap, D.ren, D.ren1, D.idOk, D.idOk1, Blk.ren, Blk.idOk, T_api_Region.d, k5, k103, k159, k172, k180])⟩
      · refine rb_false (congrArg D.bool k103) ?_
        refine rb_exit ?_
        refine eb_seq_e ?_
        obtain rfl := Option.some.inj h
        exact eb_nil ⟨rfl, Wk.of (fun i => some i) _ _ _ (by simp -implicitDefEqProofs [upd_app, argL, envL_app, heapL_app, look, appEff, wkEnv, wkHeap, D.ren, D.ren1, D.idOk, D.idOk1, Blk.ren, Blk.idOk, T_api_Region.d, k5, k103]) (by simp -implicitDefEqProofs [upd_app, argL, envL_app, heapL_app, look, appEff, wkEnv, wkHeap, D.ren, D.ren1, D.idOk, D.idOk1, Blk.ren, Blk.idOk, T_api_Region.d, k5, k103])⟩
    · rcases e11 with e11 | e11
      · try dsimp only at h ⊢
        refine eb_blk_r ?_
        refine eb_seq_r ?_
        obtain rfl := Option.some.inj h
        refine eb_nil ?_
        simp -implicitDefEqProofs only [vt, ↓atI_fold, forall_const, reduceIte, reduceCtorEq, Nat.reduceEqDiff, Nat.reduceAdd, Nat.reduceSub, Nat.reduceMul, Nat.reduceLT, Nat.reduceLeDiff, Nat.reducePow, Int.reduceToNat, Int.reduceLT, Int.reduceLE, Int.reduceAdd, Int.reduceSub, Int.reduceMul, Int.reduceEq, Int.reduceBEq, Int.reduceBNe, Int.reduceNeg, retQ_r, Tryd.results34, T_api_Region.d, k5] <;> first | rfl | (simp [List.map_append, T_api_Region.d]; done)
      · try dsimp only at h ⊢
        refine eb_blk_hit ?_
        refine eb_seq ?_
        refine rb_seq ?_
        refine rb_regionK fun K190 hK190 => ?_
        simp -implicitDefEqProofs only [vt, ↓atI_fold, forall_const, reduceIte, reduceCtorEq, Nat.reduceEqDiff, Nat.reduceAdd, Nat.reduceSub, Nat.reduceMul, Nat.reduceLT, Nat.reduceLeDiff, Nat.reducePow, Int.reduceToNat, Int.reduceLT, Int.reduceLE, Int.reduceAdd, Int.reduceSub, Int.reduceMul, Int.reduceEq, Int.reduceBEq, Int.reduceBNe, Int.reduceNeg, T_api_Region.d, k5]
        subst hK190
        refine eb_seq ?_
        refine rb_ret ?_
        obtain rfl := Option.some.inj h
        refine eb_nil ?_
        simp -implicitDefEqProofs only [vt, ↓atI_fold, forall_const, reduceIte, reduceCtorEq, Nat.reduceEqDiff, Nat.reduceAdd, Nat.reduceSub, Nat.reduceMul, Nat.reduceLT, Nat.reduceLeDiff, Nat.reducePow, Int.reduceToNat, Int.reduceLT, Int.reduceLE, Int.reduceAdd, Int.reduceSub, Int.reduceMul, Int.reduceEq, Int.reduceBEq, Int.reduceBNe, Int.reduceNeg, retQ_r, Tryd.results34, T_api_Region.d, k5] <;> first | rfl | (simp [List.map_append, T_api_Region.d]; done)
-- region.Place
def g_region_Place_s1 (r_0 : T_api_Region) (lens_1 : List Int) (x39 : (List T_api_Spot) × Int) : Option (Nx ((List T_api_Spot) × Int) (Int ⊕ ((List T_api_Spot)))) :=
  (if (decide (x39.2 < (lens_1.length : Int))) then ((atI lens_1 x39.2).bind fun y309 => (if (decide (y309 < 0)) then (some (.out (.inl 2))) else (if (decide (r_0.Width < y309)) then (some (.out (.inl 11))) else (if (r_0.Align == 3) then (if (x39.1.length + 1) * 24 ≤ 140737488355328 then (some (.go ((x39.1 ++ [(T_api_Spot.mk (IntKind.i64.wrap ((IntKind.i64.wrap (r_0.Top + (IntKind.i64.wrap (r_0.Height - (lens_1.length : Int))))) + x39.2)) (IntKind.i64.wrap (r_0.Left + (IntKind.i64.wrap (r_0.Width - y309)))) y309)]), (IntKind.i64.wrap (x39.2 + 1))))) else none) else (if (r_0.Align == 2) then (if (x39.1.length + 1) * 24 ≤ 140737488355328 then (some (.go ((x39.1 ++ [(T_api_Spot.mk (IntKind.i64.wrap ((IntKind.i64.wrap (r_0.Top + (IntKind.i64.wrap (r_0.Height - (lens_1.length : Int))))) + x39.2)) (IntKind.i64.wrap (r_0.Left + (IntKind.i64.wrap (Int.tdiv (IntKind.i64.wrap (r_0.Width - y309)) 2)))) y309)]), (IntKind.i64.wrap (x39.2 + 1))))) else none) else (if (x39.1.length + 1) * 24 ≤ 140737488355328 then (some (.go ((x39.1 ++ [(T_api_Spot.mk (IntKind.i64.wrap ((IntKind.i64.wrap (r_0.Top + (IntKind.i64.wrap (r_0.Height - (lens_1.length : Int))))) + x39.2)) r_0.Left y309)]), (IntKind.i64.wrap (x39.2 + 1))))) else none)))))) else (some (.out (.inr x39.1))))
def g_region_Place_s2 (r_0 : T_api_Region) (lens_1 : List Int) (x352 : (List T_api_Spot) × Int) : Option (Nx ((List T_api_Spot) × Int) (Int ⊕ ((List T_api_Spot)))) :=
  (if (decide (x352.2 < (lens_1.length : Int))) then ((atI lens_1 x352.2).bind fun y622 => (if (decide (y622 < 0)) then (some (.out (.inl 2))) else (if (decide (r_0.Width < y622)) then (some (.out (.inl 11))) else (if (r_0.Align == 3) then (if (x352.1.length + 1) * 24 ≤ 140737488355328 then (some (.go ((x352.1 ++ [(T_api_Spot.mk (IntKind.i64.wrap (r_0.Top + x352.2)) (IntKind.i64.wrap (r_0.Left + (IntKind.i64.wrap (r_0.Width - y622)))) y622)]), (IntKind.i64.wrap (x352.2 + 1))))) else none) else (if (r_0.Align == 2) then (if (x352.1.length + 1) * 24 ≤ 140737488355328 then (some (.go ((x352.1 ++ [(T_api_Spot.mk (IntKind.i64.wrap (r_0.Top + x352.2)) (IntKind.i64.wrap (r_0.Left + (IntKind.i64.wrap (Int.tdiv (IntKind.i64.wrap (r_0.Width - y622)) 2)))) y622)]), (IntKind.i64.wrap (x352.2 + 1))))) else none) else (if (x352.1.length + 1) * 24 ≤ 140737488355328 then (some (.go ((x352.1 ++ [(T_api_Spot.mk (IntKind.i64.wrap (r_0.Top + x352.2)) r_0.Left y622)]), (IntKind.i64.wrap (x352.2 + 1))))) else none)))))) else (some (.out (.inr x352.1))))
def g_region_Place (r_0 : T_api_Region) (lens_1 : List Int) : Option ((List T_api_Spot) × Int) :=
  ((g_region_usable r_0).bind fun r21 => (if r21 then (if (decide (r_0.Height < (lens_1.length : Int))) then (some ([], 9)) else (if r_0.Bottom then ((iter (g_region_Place_s1 r_0 lens_1) ([], 0)).bind fun e40 => (match e40 with | Sum.inl e40 => (some ([], e40)) | Sum.inr (e40) => (some (e40, 0)))) else ((iter (g_region_Place_s2 r_0 lens_1) ([], 0)).bind fun e353 => (match e353 with | Sum.inl e353 => (some ([], e353)) | Sum.inr (e353) => (some (e353, 0)))))) else (some ([], 1))))
theorem a_region_Place (I : World → Prop) (hI : Stab I) (r_0 : T_api_Region) (lens_1 : List Int) {r : (List T_api_Spot) × Int} (h : g_region_Place r_0 lens_1 = some r) : AFun Tryd.prog I 26 [T_api_Region.d r_0, .sl (lens_1.map (D.int .i64))] (.tup [.sl (r.1.map T_api_Spot.d), .int .i64 r.2]) := by
  refine AFun.enterB hI Tryd.func26 rfl (by decide) (by simp [Tryd.f26]) (by kernel_rfl) ?_
  unfold g_region_Place at h
  simp only [S0, Tryd.ntmps26, T_api_Region.d, T_api_Spot.d]
  refine rb_seq ?_
  refine rb_regionK fun K2 hK2 => ?_
  simp -implicitDefEqProofs only [vt, ↓atI_fold, forall_const, reduceIte, reduceCtorEq, Nat.reduceEqDiff, Nat.reduceAdd, Nat.reduceSub, Nat.reduceMul, Nat.reduceLT, Nat.reduceLeDiff, Nat.reducePow, Int.reduceToNat, Int.reduceLT, Int.reduceLE, Int.reduceAdd, Int.reduceSub, Int.reduceMul, Int.reduceEq, Int.reduceBEq, Int.reduceBNe, Int.reduceNeg, T_api_Region.d]
  subst hK2
  refine eb_seq ?_
  refine rb_seq ?_
  refine rb_block ?_
  refine rb_seq ?_
  refine rb_regionK fun K20 hK20 => ?_
  simp -implicitDefEqProofs only [vt, ↓atI_fold, forall_const, reduceIte, reduceCtorEq, Nat.reduceEqDiff, Nat.reduceAdd, Nat.reduceSub, Nat.reduceMul, Nat.reduceLT, Nat.reduceLeDiff, Nat.reducePow, Int.reduceToNat, Int.reduceLT, Int.reduceLE, Int.reduceAdd, Int.reduceSub, Int.reduceMul, Int.reduceEq, Int.reduceBEq, Int.reduceBNe, Int.reduceNeg, T_api_Region.d]
  obtain ⟨r21, h22, h⟩ := bind_some h
  refine cW.intro (a_region_usable I hI r_0 h22) (by first | rfl | (simp [List.map_append, T_api_Region.d]; done)) ?_
  simp -implicitDefEqProofs only [vt, ↓atI_fold, forall_const, reduceIte, reduceCtorEq, Nat.reduceEqDiff, Nat.reduceAdd, Nat.reduceSub, Nat.reduceMul, Nat.reduceLT, Nat.reduceLeDiff, Nat.reducePow, Int.reduceToNat, Int.reduceLT, Int.reduceLE, Int.reduceAdd, Int.reduceSub, Int.reduceMul, Int.reduceEq, Int.reduceBEq, Int.reduceBNe, Int.reduceNeg, T_api_Region.d]
  subst hK20
  refine eb_seq ?_
  rcases ite_or h with ⟨k23, h⟩ | ⟨k23, h⟩
  · refine rb_false (congrArg D.bool (congrArg Bool.not k23)) ?_
    refine rb_seq ?_
    refine rb_regionK fun K25 hK25 => ?_
    simp -implicitDefEqProofs only [vt, ↓atI_fold, forall_const, reduceIte, reduceCtorEq, Nat.reduceEqDiff, Nat.reduceAdd, Nat.reduceSub, Nat.reduceMul, Nat.reduceLT, Nat.reduceLeDiff, Nat.reducePow, Int.reduceToNat, Int.reduceLT, Int.reduceLE, Int.reduceAdd, Int.reduceSub, Int.reduceMul, Int.reduceEq, Int.reduceBEq, Int.reduceBNe, Int.reduceNeg, T_api_Region.d, k23]
    subst hK25
    refine eb_seq ?_
    rcases ite_or h with ⟨k26, h⟩ | ⟨k26, h⟩
    · refine rb_true (congrArg D.bool k26) ?_
      refine rb_seq ?_
      refine rb_regionK fun K28 hK28 => ?_
      simp -implicitDefEqProofs only [vt, ↓atI_fold, forall_const, reduceIte, reduceCtorEq, Nat.reduceEqDiff, Nat.reduceAdd, Nat.reduceSub, Nat.reduceMul, Nat.reduceLT, Nat.reduceLeDiff, Nat.reducePow, Int.reduceToNat, Int.reduceLT, Int.reduceLE, Int.reduceAdd, Int.reduceSub, Int.reduceMul, Int.reduceEq, Int.reduceBEq, Int.reduceBNe, Int.reduceNeg, T_api_Region.d, k23, k26]
      subst hK28
      refine eb_seq ?_
      refine rb_ret ?_
      refine eb_blk_r ?_
      refine eb_seq_r ?_
      obtain rfl := Option.some.inj h
      refine eb_nil ?_
      simp -implicitDefEqProofs only [vt, ↓atI_fold, forall_const, reduceIte, reduceCtorEq, Nat.reduceEqDiff, Nat.reduceAdd, Nat.reduceSub, Nat.reduceMul, Nat.reduceLT, Nat.reduceLeDiff, Nat.reducePow, Int.reduceToNat, Int.reduceLT, Int.reduceLE, Int.reduceAdd, Int.reduceSub, Int.reduceMul, Int.reduceEq, Int.reduceBEq, Int.reduceBNe, Int.reduceNeg, retQ_r, Tryd.results26, T_api_Region.d, k23, k26] <;> first | rfl | (simp [List.map_append, T_api_Region.d]; done)
    · refine rb_false (congrArg D.bool k26) ?_
      refine rb_skip ?_
      refine eb_blk_n ?_
      refine eb_seq ?_
      refine rb_seq ?_
      refine rb_regionK fun K30 hK30 => ?_
      simp -implicitDefEqProofs only [vt, ↓atI_fold, forall_const, reduceIte, reduceCtorEq, Nat.reduceEqDiff, Nat.reduceAdd, Nat.reduceSub, Nat.reduceMul, Nat.reduceLT, Nat.reduceLeDiff, Nat.reducePow, Int.reduceToNat, Int.reduceLT, Int.reduceLE, Int.reduceAdd, Int.reduceSub, Int.reduceMul, Int.reduceEq, Int.reduceBEq, Int.reduceBNe, Int.reduceNeg, T_api_Region.d, k23, k26]
      subst hK30
      refine eb_seq ?_
      refine rb_seq ?_
      refine rb_seq ?_
      refine rb_regionK fun K32 hK32 => ?_
      simp -implicitDefEqProofs only [vt, ↓atI_fold, forall_const, reduceIte, reduceCtorEq, Nat.reduceEqDiff, Nat.reduceAdd, Nat.reduceSub, Nat.reduceMul, Nat.reduceLT, Nat.reduceLeDiff, Nat.reducePow, Int.reduceToNat, Int.reduceLT, Int.reduceLE, Int.reduceAdd, Int.reduceSub, Int.reduceMul, Int.reduceEq, Int.reduceBEq, Int.reduceBNe, Int.reduceNeg, T_api_Region.d, k23, k26]
      subst hK32
      refine eb_seq ?_
      rcases ite_or h with ⟨k33, h⟩ | ⟨k33, h⟩
      · refine rb_true (congrArg D.bool k33) ?_
        refine rb_regionK fun K34 hK34 => ?_
        simp -implicitDefEqProofs only [vt, ↓atI_fold, forall_const, reduceIte, reduceCtorEq, Nat.reduceEqDiff, Nat.reduceAdd, Nat.reduceSub, Nat.reduceMul, Nat.reduceLT, Nat.reduceLeDiff, Nat.reducePow, Int.reduceToNat, Int.reduceLT, Int.reduceLE, Int.reduceAdd, Int.reduceSub, Int.reduceMul, Int.reduceEq, Int.reduceBEq, Int.reduceBNe, Int.reduceNeg, T_api_Region.d, k23, k26, k33]
        subst hK34
        refine eb_seq ?_
        refine rb_seq ?_
        refine rb_regionK fun K36 hK36 => ?_
        simp -implicitDefEqProofs only [vt, ↓atI_fold, forall_const, reduceIte, reduceCtorEq, Nat.reduceEqDiff, Nat.reduceAdd, Nat.reduceSub, Nat.reduceMul, Nat.reduceLT, Nat.reduceLeDiff, Nat.reducePow, Int.reduceToNat, Int.reduceLT, Int.reduceLE, Int.reduceAdd, Int.reduceSub, Int.reduceMul, Int.reduceEq, Int.reduceBEq, Int.reduceBNe, Int.reduceNeg, T_api_Region.d, k23, k26, k33]
        subst hK36
        refine eb_seq ?_
        refine rb_seq ?_
        refine rb_seq ?_
        refine rb_regionK fun K38 hK38 => ?_
        simp -implicitDefEqProofs only [vt, ↓atI_fold, forall_const, reduceIte, reduceCtorEq, Nat.reduceEqDiff, Nat.reduceAdd, Nat.reduceSub, Nat.reduceMul, Nat.reduceLT, Nat.reduceLeDiff, Nat.reducePow, Int.reduceToNat, Int.reduceLT, Int.reduceLE, Int.reduceAdd, Int.reduceSub, Int.reduceMul, Int.reduceEq, Int.reduceBEq, Int.reduceBNe, Int.reduceNeg, T_api_Region.d, k23, k26, k33]
        subst hK38
        refine eb_seq ?_
        refine rb_block ?_
        obtain ⟨e40, h345, h⟩ := bind_some h
        refine rb_loop (fun x39 => ⟨envL [(2, .ptr 0 0), (6, .int .i64 (IntKind.i64.wrap (r_0.Top + (IntKind.i64.wrap (r_0.Height - (lens_1.length : Int)))))), (7, .own 1 x39.1.length), (32, .sl (lens_1.map (D.int .i64))), (33, .int .i64 (lens_1.length : Int)), (34, .int .i64 x39.2)], heapL [(0, .box [.str r_0.Name, .int .i64 r_0.Top, .int .i64 r_0.Height, .int .i64 r_0.Left, .int .i64 r_0.Width, .int .u8 r_0.Align, .bool r_0.Bottom]), (1, .vec 55 3 (x39.1.map T_api_Spot.d) false)], 2, 81⟩) (fun w => match w with | Sum.inl _ => .ret | Sum.inr (_) => .exit 1) (fun w => match w with | Sum.inl e40 => ⟨envL [(4, .nils), (5, .int .i64 e40)], heapL [], 0, 81⟩ | Sum.inr (e40) => ⟨envL [(7, .own 0 e40.length)], heapL [(0, .vec 55 3 (e40.map T_api_Spot.d) false)], 1, 81⟩) h345 (Wk.of (fun i => if i = 1 then none else if i = 0 then some 0 else some i) _ _ _ (by simp -implicitDefEqProofs [upd_app, argL, envL_app, heapL_app, look, appEff, wkEnv, wkHeap, D.ren, D.ren1, D.idOk, D.idOk1, Blk.ren, Blk.idOk, T_api_Region.d, T_api_Spot.d, k23, k26, k33]) (by simp -implicitDefEqProofs [upd_app, argL, envL_app, heapL_app, look, appEff, wkEnv, wkHeap, D.ren, D.ren1, D.idOk, D.idOk1, Blk.ren, Blk.idOk, T_api_Region.d, T_api_Spot.d, k23, k26, k33])) (by intro w; rcases w with w | w <;> simp) ?_ ?_
        · clear h
          intro x39 y h
          unfold g_region_Place_s1 at h
          refine rb_seq ?_
          refine rb_regionK fun K265 hK265 => ?_
          simp -implicitDefEqProofs only [vt, ↓atI_fold, forall_const, reduceIte, reduceCtorEq, Nat.reduceEqDiff, Nat.reduceAdd, Nat.reduceSub, Nat.reduceMul, Nat.reduceLT, Nat.reduceLeDiff, Nat.reducePow, Int.reduceToNat, Int.reduceLT, Int.reduceLE, Int.reduceAdd, Int.reduceSub, Int.reduceMul, Int.reduceEq, Int.reduceBEq, Int.reduceBNe, Int.reduceNeg, T_api_Region.d, T_api_Spot.d, k23, k26, k33]
          subst hK265
          refine eb_seq ?_
          refine rb_seq ?_
          rcases ite_or h with ⟨k267, h⟩ | ⟨k267, h⟩
          · refine rb_true (congrArg D.bool k267) ?_
            refine rb_skip ?_
            refine eb_seq ?_
            refine rb_seq ?_
            refine rb_block ?_
            refine rb_seq ?_
            refine rb_regionK fun K308 hK308 => ?_
            simp -implicitDefEqProofs only [vt, ↓atI_fold, forall_const, reduceIte, reduceCtorEq, Nat.reduceEqDiff, Nat.reduceAdd, Nat.reduceSub, Nat.reduceMul, Nat.reduceLT, Nat.reduceLeDiff, Nat.reducePow, Int.reduceToNat, Int.reduceLT, Int.reduceLE, Int.reduceAdd, Int.reduceSub, Int.reduceMul, Int.reduceEq, Int.reduceBEq, Int.reduceBNe, Int.reduceNeg, T_api_Region.d, T_api_Spot.d, k23, k26, k33, k267]
            obtain ⟨y309, h310, h⟩ := bind_some h
            simp -implicitDefEqProofs only [vt, ↓atI_fold, forall_const, reduceIte, reduceCtorEq, Nat.reduceEqDiff, Nat.reduceAdd, Nat.reduceSub, Nat.reduceMul, Nat.reduceLT, Nat.reduceLeDiff, Nat.reducePow, Int.reduceToNat, Int.reduceLT, Int.reduceLE, Int.reduceAdd, Int.reduceSub, Int.reduceMul, Int.reduceEq, Int.reduceBEq, Int.reduceBNe, Int.reduceNeg, T_api_Region.d, T_api_Spot.d, k23, k26, k33, k267, h310]
            subst hK308
            refine eb_seq ?_
            refine rb_seq ?_
            refine rb_seq ?_
            refine rb_regionK fun K312 hK312 => ?_
            simp -implicitDefEqProofs only [vt, ↓atI_fold, forall_const, reduceIte, reduceCtorEq, Nat.reduceEqDiff, Nat.reduceAdd, Nat.reduceSub, Nat.reduceMul, Nat.reduceLT, Nat.reduceLeDiff, Nat.reducePow, Int.reduceToNat, Int.reduceLT, Int.reduceLE, Int.reduceAdd, Int.reduceSub, Int.reduceMul, Int.reduceEq, Int.reduceBEq, Int.reduceBNe, Int.reduceNeg, T_api_Region.d, T_api_Spot.d, k23, k26, k33, k267, h310]
            subst hK312
            refine eb_seq ?_
            rcases ite_or h with ⟨k313, h⟩ | ⟨k313, h⟩
            · refine rb_true (congrArg D.bool k313) ?_
              refine rb_seq ?_
              refine rb_regionK fun K315 hK315 => ?_
              simp -implicitDefEqProofs only [vt, ↓atI_fold, forall_const, reduceIte, reduceCtorEq, Nat.reduceEqDiff, Nat.reduceAdd, Nat.reduceSub, Nat.reduceMul, Nat.reduceLT, Nat.reduceLeDiff, Nat.reducePow, Int.reduceToNat, Int.reduceLT, Int.reduceLE, Int.reduceAdd, Int.reduceSub, Int.reduceMul, Int.reduceEq, Int.reduceBEq, Int.reduceBNe, Int.reduceNeg, T_api_Region.d, T_api_Spot.d, k23, k26, k33, k267, h310, k313]
              subst hK315
              refine eb_seq ?_
              refine rb_ret ?_
              refine eb_seq_r ?_
              refine eb_blk_r ?_
              refine eb_seq_r ?_
              obtain rfl := Option.some.inj h
              exact eb_nil ⟨rfl, Wk.of (fun i => some i) _ _ _ (by simp -implicitDefEqProofs [upd_app, argL, envL_app, heapL_app, look, appEff, wkEnv, wkHeap, D.ren, D.ren1, D.idOk, D.idOk1, Blk.ren, Blk.idOk, T_api_Region.d, T_api_Spot.d, k23, k26, k33, k267, k313]) (by simp -implicitDefEqProofs [upd_app, argL, envL_app, heapL_app, look, appEff, wkEnv, wkHeap, D.ren, D.ren1, D.idOk, D.idOk1, Blk.ren, Blk.idOk, T_api_Region.d, T_api_Spot.d, k23, k26, k33, k267, k313])⟩
            · refine rb_false (congrArg D.bool k313) ?_
              refine rb_skip ?_
              refine eb_seq ?_
              refine rb_seq ?_
              refine rb_seq ?_
              refine rb_regionK fun K317 hK317 => ?_
              simp -implicitDefEqProofs only [vt, ↓atI_fold, forall_const, reduceIte, reduceCtorEq, Nat.reduceEqDiff, Nat.reduceAdd, Nat.reduceSub, Nat.reduceMul, Nat.reduceLT, Nat.reduceLeDiff, Nat.reducePow, Int.reduceToNat, Int.reduceLT, Int.reduceLE, Int.reduceAdd, Int.reduceSub, Int.reduceMul, Int.reduceEq, Int.reduceBEq, Int.reduceBNe, Int.reduceNeg, T_api_Region.d, T_api_Spot.d, k23, k26, k33, k267, h310, k313]
              subst hK317
              refine eb_seq ?_
              rcases ite_or h with ⟨k318, h⟩ | ⟨k318, h⟩
              · refine rb_true (congrArg D.bool k318) ?_
                refine rb_seq ?_
                refine rb_regionK fun K320 hK320 => ?_
                simp -implicitDefEqProofs only [vt, ↓atI_fold, forall_const, reduceIte, reduceCtorEq, Nat.reduceEqDiff, Nat.reduceAdd, Nat.reduceSub, Nat.reduceMul, Nat.reduceLT, Nat.reduceLeDiff, Nat.reducePow, Int.reduceToNat, Int.reduceLT, Int.reduceLE, Int.reduceAdd, Int.reduceSub, Int.reduceMul, Int.reduceEq, Int.reduceBEq, Int.reduceBNe, Int.reduceNeg, T_api_Region.d, T_api_Spot.d, k23, k26, k33, k267, h310, k313, k318]
                subst hK320
                refine eb_seq ?_
                refine rb_ret ?_
                refine eb_seq_r ?_
                refine eb_blk_r ?_
                refine eb_seq_r ?_
                obtain rfl := Option.some.inj h
                exact eb_nil ⟨rfl, Wk.of (fun i => some i) _ _ _ (by simp -implicitDefEqProofs [upd_app, argL, envL_app, heapL_app, look, appEff, wkEnv, wkHeap, D.ren, D.ren1, D.idOk, D.idOk1, Blk.ren, Blk.idOk, T_api_Region.d, T_api_Spot.d, k23, k26, k33, k267, k313, k318]) (by simp -implicitDefEqProofs [upd_app, argL, envL_app, heapL_app, look, appEff, wkEnv, wkHeap, D.ren, D.ren1, D.idOk, D.idOk1, Blk.ren, Blk.idOk, T_api_Region.d, T_api_Spot.d, k23, k26, k33, k267, k313, k318])⟩
              · refine rb_false (congrArg D.bool k318) ?_
                refine rb_skip ?_
                refine eb_seq ?_
                refine rb_seq ?_
                refine rb_regionK fun K322 hK322 => ?_
                simp -implicitDefEqProofs only [vt, ↓atI_fold, forall_const, reduceIte, reduceCtorEq, Nat.reduceEqDiff, Nat.reduceAdd, Nat.reduceSub, Nat.reduceMul, Nat.reduceLT, Nat.reduceLeDiff, Nat.reducePow, Int.reduceToNat, Int.reduceLT, Int.reduceLE, Int.reduceAdd, Int.reduceSub, Int.reduceMul, Int.reduceEq, Int.reduceBEq, Int.reduceBNe, Int.reduceNeg, T_api_Region.d, T_api_Spot.d, k23, k26, k33, k267, h310, k313, k318]
                subst hK322
                refine eb_seq ?_
                refine rb_seq ?_
                refine rb_seq ?_
                refine rb_regionK fun K324 hK324 => ?_
                simp -implicitDefEqProofs only [vt, ↓atI_fold, forall_const, reduceIte, reduceCtorEq, Nat.reduceEqDiff, Nat.reduceAdd, Nat.reduceSub, Nat.reduceMul, Nat.reduceLT, Nat.reduceLeDiff, Nat.reducePow, Int.reduceToNat, Int.reduceLT, Int.reduceLE, Int.reduceAdd, Int.reduceSub, Int.reduceMul, Int.reduceEq, Int.reduceBEq, Int.reduceBNe, Int.reduceNeg, T_api_Region.d, T_api_Spot.d, k23, k26, k33, k267, h310, k313, k318]
                subst hK324
                refine eb_seq ?_
                refine rb_block ?_
                refine rb_seq ?_
                refine rb_regionK fun K326 hK326 => ?_
                simp -implicitDefEqProofs only [vt, ↓atI_fold, forall_const, reduceIte, reduceCtorEq, Nat.reduceEqDiff, Nat.reduceAdd, Nat.reduceSub, Nat.reduceMul, Nat.reduceLT, Nat.reduceLeDiff, Nat.reducePow, Int.reduceToNat, Int.reduceLT, Int.reduceLE, Int.reduceAdd, Int.reduceSub, Int.reduceMul, Int.reduceEq, Int.reduceBEq, Int.reduceBNe, Int.reduceNeg, T_api_Region.d, T_api_Spot.d, k23, k26, k33, k267, h310, k313, k318]
                subst hK326
                refine eb_seq ?_
                rcases ite_or h with ⟨k327, h⟩ | ⟨k327, h⟩
                · refine rb_true (congrArg D.bool k327) ?_
                  refine rb_regionK fun K328 hK328 => ?_
                  simp -implicitDefEqProofs only [vt, ↓atI_fold, forall_const, reduceIte, reduceCtorEq, Nat.reduceEqDiff, Nat.reduceAdd, Nat.reduceSub, Nat.reduceMul, Nat.reduceLT, Nat.reduceLeDiff, Nat.reducePow, Int.reduceToNat, Int.reduceLT, Int.reduceLE, Int.reduceAdd, Int.reduceSub, Int.reduceMul, Int.reduceEq, Int.reduceBEq, Int.reduceBNe, Int.reduceNeg, T_api_Region.d, T_api_Spot.d, k23, k26, k33, k267, h310, k313, k318, k327]
                  subst hK328
                  refine eb_blk_n ?_
                  refine eb_seq ?_
                  refine rb_regionK fun K329 hK329 => ?_
                  simp -implicitDefEqProofs only [vt, ↓atI_fold, forall_const, reduceIte, reduceCtorEq, Nat.reduceEqDiff, Nat.reduceAdd, Nat.reduceSub, Nat.reduceMul, Nat.reduceLT, Nat.reduceLeDiff, Nat.reducePow, Int.reduceToNat, Int.reduceLT, Int.reduceLE, Int.reduceAdd, Int.reduceSub, Int.reduceMul, Int.reduceEq, Int.reduceBEq, Int.reduceBNe, Int.reduceNeg, T_api_Region.d, T_api_Spot.d, k23, k26, k33, k267, h310, k313, k318, k327]
                  obtain ⟨h330, h⟩ := ite_on h
                  have h331 : x39.1.length + 1 ≤ 9223372036854775807 := by omega
                  try simp only [Nat.reduceLeDiff] at h331
                  simp -implicitDefEqProofs only [vt, ↓atI_fold, forall_const, reduceIte, reduceCtorEq, Nat.reduceEqDiff, Nat.reduceAdd, Nat.reduceSub, Nat.reduceMul, Nat.reduceLT, Nat.reduceLeDiff, Nat.reducePow, Int.reduceToNat, Int.reduceLT, Int.reduceLE, Int.reduceAdd, Int.reduceSub, Int.reduceMul, Int.reduceEq, Int.reduceBEq, Int.reduceBNe, Int.reduceNeg, T_api_Region.d, T_api_Spot.d, k23, k26, k33, k267, h310, k313, k318, k327, h331, h330]
                  subst hK329
                  refine eb_blk_n ?_
                  refine eb_seq ?_
                  refine rb_regionK fun K332 hK332 => ?_
                  simp -implicitDefEqProofs only [vt, ↓atI_fold, forall_const, reduceIte, reduceCtorEq, Nat.reduceEqDiff, Nat.reduceAdd, Nat.reduceSub, Nat.reduceMul, Nat.reduceLT, Nat.reduceLeDiff, Nat.reducePow, Int.reduceToNat, Int.reduceLT, Int.reduceLE, Int.reduceAdd, Int.reduceSub, Int.reduceMul, Int.reduceEq, Int.reduceBEq, Int.reduceBNe, Int.reduceNeg, T_api_Region.d, T_api_Spot.d, k23, k26, k33, k267, h310, k313, k318, k327, h331, h330]
                  subst hK332
                  obtain rfl := Option.some.inj h
                  exact eb_nil ⟨rfl, Wk.of (fun i => if i = 1 then some 39 else if i = 0 then some 0 else some i) _ _ _ (by simp -implicitDefEqProofs [upd_app, argL, envL_app, heapL_app, look, appEff, wkEnv, wkHeap, D.ren, D.ren1, D.idOk, D.idOk1, Blk.ren, Blk.idOk, T_api_Region.d, T_api_Spot.d, k23, k26, k33, k267, k313, k318, k327]) (by simp -implicitDefEqProofs [upd_app, argL, envL_app, heapL_app, look, appEff, wkEnv, wkHeap, D.ren, D.ren1, D.idOk, D.idOk1, Blk.ren, Blk.idOk, T_api_Region.d, T_api_Spot.d, k23, k26, k33, k267, k313, k318, k327])⟩
                · refine rb_false (congrArg D.bool k327) ?_
                  refine rb_seq ?_
                  refine rb_regionK fun K334 hK334 => ?_
                  simp -implicitDefEqProofs only [vt, ↓atI_fold, forall_const, reduceIte, reduceCtorEq, Nat.reduceEqDiff, Nat.reduceAdd, Nat.reduceSub, Nat.reduceMul, Nat.reduceLT, Nat.reduceLeDiff, Nat.reducePow, Int.reduceToNat, Int.reduceLT, Int.reduceLE, Int.reduceAdd, Int.reduceSub, Int.reduceMul, Int.reduceEq, Int.reduceBEq, Int.reduceBNe, Int.reduceNeg, T_api_Region.d, T_api_Spot.d, k23, k26, k33, k267, h310, k313, k318, k327]
                  subst hK334
                  refine eb_seq ?_
                  rcases ite_or h with ⟨k335, h⟩ | ⟨k335, h⟩
                  · refine rb_true (congrArg D.bool k335) ?_
                    refine rb_regionK fun K336 hK336 => ?_
                    simp -implicitDefEqProofs only [vt, ↓atI_fold, forall_const, reduceIte, reduceCtorEq, Nat.reduceEqDiff, Nat.reduceAdd, Nat.reduceSub, Nat.reduceMul, Nat.reduceLT, Nat.reduceLeDiff, Nat.reducePow, Int.reduceToNat, Int.reduceLT, Int.reduceLE, Int.reduceAdd, Int.reduceSub, Int.reduceMul, Int.reduceEq, Int.reduceBEq, Int.reduceBNe, Int.reduceNeg, T_api_Region.d, T_api_Spot.d, k23, k26, k33, k267, h310, k313, k318, k327, k335]
                    subst hK336
                    refine eb_blk_n ?_
                    refine eb_seq ?_
                    refine rb_regionK fun K337 hK337 => ?_
                    simp -implicitDefEqProofs only [vt, ↓atI_fold, forall_const, reduceIte, reduceCtorEq, Nat.reduceEqDiff, Nat.reduceAdd, Nat.reduceSub, Nat.reduceMul, Nat.reduceLT, Nat.reduceLeDiff, Nat.reducePow, Int.reduceToNat, Int.reduceLT, Int.reduceLE, Int.reduceAdd, Int.reduceSub, Int.reduceMul, Int.reduceEq, Int.reduceBEq, Int.reduceBNe, Int.reduceNeg, T_api_Region.d, T_api_Spot.d, k23, k26, k33, k267, h310, k313, k318, k327, k335]
                    obtain ⟨h338, h⟩ := ite_on h
                    have h339 : x39.1.length + 1 ≤ 9223372036854775807 := by omega
                    try simp only [Nat.reduceLeDiff] at h339
                    simp -implicitDefEqProofs only [vt, ↓atI_fold, forall_const, reduceIte, reduceCtorEq, Nat.reduceEqDiff, Nat.reduceAdd, Nat.reduceSub, Nat.reduceMul, Nat.reduceLT, Nat.reduceLeDiff, Nat.reducePow, Int.reduceToNat, Int.reduceLT, Int.reduceLE, Int.reduceAdd, Int.reduceSub, Int.reduceMul, Int.reduceEq, Int.reduceBEq, Int.reduceBNe, Int.reduceNeg, T_api_Region.d, T_api_Spot.d, k23, k26, k33, k267, h310, k313, k318, k327, k335, h339, h338]
                    subst hK337
                    refine eb_blk_n ?_
                    refine eb_seq ?_
                    refine rb_regionK fun K340 hK340 => ?_
                    simp -implicitDefEqProofs only [vt, ↓atI_fold, forall_const, reduceIte, reduceCtorEq, Nat.reduceEqDiff, Nat.reduceAdd, Nat.reduceSub, Nat.reduceMul, Nat.reduceLT, Nat.reduceLeDiff, Nat.reducePow, Int.reduceToNat, Int.reduceLT, Int.reduceLE, Int.reduceAdd, Int.reduceSub, Int.reduceMul, Int.reduceEq, Int.reduceBEq, Int.reduceBNe, Int.reduceNeg, T_api_Region.d, T_api_Spot.d, k23, k26, k33, k267, h310, k313, k318, k327, k335, h339, h338]
                    subst hK340
                    obtain rfl := Option.some.inj h
                    exact eb_nil ⟨rfl, Wk.of (fun i => if i = 1 then some 42 else if i = 0 then some 0 else some i) _ _ _ (by simp -implicitDefEqProofs [upd_app, argL, envL_app, heapL_app, look, appEff, wkEnv, wkHeap, D.ren, D.ren1, D.idOk, D.idOk1, Blk.ren, Blk.idOk, T_api_Region.d, T_api_Spot.d, k23, k26, k33, k267, k313, k318, k327, k335]) (by simp -implicitDefEqProofs [upd_app, argL, envL_app, heapL_app, look, appEff, wkEnv, wkHeap, D.ren, D.ren1, D.idOk, D.idOk1, Blk.ren, Blk.idOk, T_api_Region.d, T_api_Spot.d, k23, k26, k33, k267, k313, k318, k327, k335])⟩
                  · refine rb_false (congrArg D.bool k335) ?_
                    refine rb_skip ?_
                    refine eb_blk_n ?_
                    refine eb_seq ?_
                    refine rb_regionK fun K341 hK341 => ?_
                    simp -implicitDefEqProofs only [vt, ↓atI_fold, forall_const, reduceIte, reduceCtorEq, Nat.reduceEqDiff, Nat.reduceAdd, Nat.reduceSub, Nat.reduceMul, Nat.reduceLT, Nat.reduceLeDiff, Nat.reducePow, Int.reduceToNat, Int.reduceLT, Int.reduceLE, Int.reduceAdd, Int.reduceSub, Int.reduceMul, Int.reduceEq, Int.reduceBEq, Int.reduceBNe, Int.reduceNeg, T_api_Region.d, T_api_Spot.d, k23, k26, k33, k267, h310, k313, k318, k327, k335]
                    obtain ⟨h342, h⟩ := ite_on h
                    have h343 : x39.1.length + 1 ≤ 9223372036854775807 := by omega
                    try simp only [Nat.reduceLeDiff] at h343
                    simp -implicitDefEqProofs only [vt, ↓atI_fold, forall_const, reduceIte, reduceCtorEq, Nat.reduceEqDiff, Nat.reduceAdd, Nat.reduceSub, Nat.reduceMul, Nat.reduceLT, Nat.reduceLeDiff, Nat.reducePow, Int.reduceToNat, Int.reduceLT, Int.reduceLE, Int.reduceAdd, Int.reduceSub, Int.reduceMul, Int.reduceEq, Int.reduceBEq, Int.reduceBNe, Int.reduceNeg, T_api_Region.d, T_api_Spot.d, k23, k26, k33, k267, h310, k313, k318, k327, k335, h343, h342]
                    subst hK341
                    refine eb_blk_n ?_
                    refine eb_seq ?_
                    refine rb_regionK fun K344 hK344 => ?_
                    simp -implicitDefEqProofs only [vt, ↓atI_fold, forall_const, reduceIte, reduceCtorEq, Nat.reduceEqDiff, Nat.reduceAdd, Nat.reduceSub, Nat.reduceMul, Nat.reduceLT, Nat.reduceLeDiff, Nat.reducePow, Int.reduceToNat, Int.reduceLT, Int.reduceLE, Int.reduceAdd, Int.reduceSub, Int.reduceMul, Int.reduceEq, Int.reduceBEq, Int.reduceBNe, Int.reduceNeg, T_api_Region.d, T_api_Spot.d, k23, k26, k33, k267, h310, k313, k318, k327, k335, h343, h342]
                    subst hK344
                    obtain rfl := Option.some.inj h
                    exact eb_nil ⟨rfl, Wk.of (fun i => if i = 1 then some 32 else if i = 0 then some 0 else some i) _ _ _ (by simp -implicitDefEqProofs [upd_app, argL, envL_app, heapL_app, look, appEff, wkEnv, wkHeap, D.ren, D.ren1, D.idOk, D.idOk1, Blk.ren, Blk.idOk, T_api_Region.d, T_api_Spot.d, k23, k26, k33, k267, k313, k318, k327, k335]) (by simp -implicitDefEqProofs [upd_app, argL, envL_app, heapL_app, look, appEff, wkEnv, wkHeap, D.ren, D.ren1, D.idOk, D.idOk1, Blk.ren, Blk.idOk, T_api_Region.d, T_api_Spot.d, k23, k26, k33, k267, k313, k318, k327, k335])⟩
          · refine rb_false (congrArg D.bool k267) ?_
            refine rb_exit ?_
            refine eb_seq_e ?_
            obtain rfl := Option.some.inj h
            exact eb_nil ⟨rfl, Wk.of (fun i => if i = 0 then some 1 else some i) _ _ _ (by simp -implicitDefEqProofs [upd_app, argL, envL_app, heapL_app, look, appEff, wkEnv, wkHeap, D.ren, D.ren1, D.idOk, D.idOk1, Blk.ren, Blk.idOk, T_api_Region.d, T_api_Spot.d, k23, k26, k33, k267]) (by simp -implicitDefEqProofs [upd_app, argL, envL_app, heapL_app, look, appEff, wkEnv, wkHeap, D.ren, D.ren1, D.idOk, D.idOk1, Blk.ren, Blk.idOk, T_api_Region.d, T_api_Spot.d, k23, k26, k33, k267])⟩
        · rcases e40 with e40 | e40
          · try dsimp only at h ⊢
            refine eb_blk_r ?_
            refine eb_seq_r ?_
            obtain rfl := Option.some.inj h
            refine eb_nil ?_
            simp -implicitDefEqProofs only [vt, ↓atI_fold, forall_const, reduceIte, reduceCtorEq, Nat.reduceEqDiff, Nat.reduceAdd, Nat.reduceSub, Nat.reduceMul, Nat.reduceLT, Nat.reduceLeDiff, Nat.reducePow, Int.reduceToNat, Int.reduceLT, Int.reduceLE, Int.reduceAdd, Int.reduceSub, Int.reduceMul, Int.reduceEq, Int.reduceBEq, Int.reduceBNe, Int.reduceNeg, retQ_r, Tryd.results26, T_api_Region.d, T_api_Spot.d, k23, k26, k33] <;> first | rfl | (simp [List.map_append, T_api_Region.d, T_api_Spot.d]; done)
          · try dsimp only at h ⊢
            refine eb_blk_hit ?_
            refine eb_seq ?_
            refine rb_seq ?_
            refine rb_regionK fun K347 hK347 => ?_
            simp -implicitDefEqProofs only [vt, ↓atI_fold, forall_const, reduceIte, reduceCtorEq, Nat.reduceEqDiff, Nat.reduceAdd, Nat.reduceSub, Nat.reduceMul, Nat.reduceLT, Nat.reduceLeDiff, Nat.reducePow, Int.reduceToNat, Int.reduceLT, Int.reduceLE, Int.reduceAdd, Int.reduceSub, Int.reduceMul, Int.reduceEq, Int.reduceBEq, Int.reduceBNe, Int.reduceNeg, T_api_Region.d, T_api_Spot.d, k23, k26, k33]
            subst hK347
            refine eb_seq ?_
            refine rb_ret ?_
            obtain rfl := Option.some.inj h
            refine eb_nil ?_
            simp -implicitDefEqProofs only [vt, ↓atI_fold, forall_const, reduceIte, reduceCtorEq, Nat.reduceEqDiff, Nat.reduceAdd, Nat.reduceSub, Nat.reduceMul, Nat.reduceLT, Nat.reduceLeDiff, Nat.reducePow, Int.reduceToNat, Int.reduceLT, Int.reduceLE, Int.reduceAdd, Int.reduceSub, Int.reduceMul, Int.reduceEq, Int.reduceBEq, Int.reduceBNe, Int.reduceNeg, retQ_r, Tryd.results26, T_api_Region.d, T_api_Spot.d, k23, k26, k33] <;> first | rfl | (simp [List.map_append, T_api_Region.d, T_api_Spot.d]; done)
      · refine rb_false (congrArg D.bool k33) ?_
        refine rb_skip ?_
        refine eb_seq ?_
        refine rb_seq ?_
        refine rb_regionK fun K349 hK349 => ?_
        simp -implicitDefEqProofs only [vt, ↓atI_fold, forall_const, reduceIte, reduceCtorEq, Nat.reduceEqDiff, Nat.reduceAdd, Nat.reduceSub, Nat.reduceMul, Nat.reduceLT, Nat.reduceLeDiff, Nat.reducePow, Int.reduceToNat, Int.reduceLT, Int.reduceLE, Int.reduceAdd, Int.reduceSub, Int.reduceMul, Int.reduceEq, Int.reduceBEq, Int.reduceBNe, Int.reduceNeg, T_api_Region.d, T_api_Spot.d, k23, k26, k33]
        subst hK349
        refine eb_seq ?_
        refine rb_seq ?_
        refine rb_seq ?_
        refine rb_regionK fun K351 hK351 => ?_
        simp -implicitDefEqProofs only [vt, ↓atI_fold, forall_const, reduceIte, reduceCtorEq, Nat.reduceEqDiff, Nat.reduceAdd, Nat.reduceSub, Nat.reduceMul, Nat.reduceLT, Nat.reduceLeDiff, Nat.reducePow, Int.reduceToNat, Int.reduceLT, Int.reduceLE, Int.reduceAdd, Int.reduceSub, Int.reduceMul, Int.reduceEq, Int.reduceBEq, Int.reduceBNe, Int.reduceNeg, T_api_Region.d, T_api_Spot.d, k23, k26, k33]
        subst hK351
        refine eb_seq ?_
        refine rb_block ?_
        obtain ⟨e353, h658, h⟩ := bind_some h
        refine rb_loop (fun x352 => ⟨envL [(2, .ptr 0 0), (6, .int .i64 r_0.Top), (7, .own 1 x352.1.length), (32, .sl (lens_1.map (D.int .i64))), (33, .int .i64 (lens_1.length : Int)), (34, .int .i64 x352.2)], heapL [(0, .box [.str r_0.Name, .int .i64 r_0.Top, .int .i64 r_0.Height, .int .i64 r_0.Left, .int .i64 r_0.Width, .int .u8 r_0.Align, .bool r_0.Bottom]), (1, .vec 55 3 (x352.1.map T_api_Spot.d) false)], 2, 81⟩) (fun w => match w with | Sum.inl _ => .ret | Sum.inr (_) => .exit 1) (fun w => match w with | Sum.inl e353 => ⟨envL [(4, .nils), (5, .int .i64 e353)], heapL [], 0, 81⟩ | Sum.inr (e353) => ⟨envL [(7, .own 0 e353.length)], heapL [(0, .vec 55 3 (e353.map T_api_Spot.d) false)], 1, 81⟩) h658 (Wk.of (fun i => if i = 1 then none else if i = 0 then some 0 else some i) _ _ _ (by simp -implicitDefEqProofs [upd_app, argL, envL_app, heapL_app, look, appEff, wkEnv, wkHeap, D.ren, D.ren1, D.idOk, D.idOk1, Blk.ren, Blk.idOk, T_api_Region.d, T_api_Spot.d, k23, k26, k33]) (by simp -implicitDefEqProofs [upd_app, argL, envL_app, heapL_app, look, appEff, wkEnv, wkHeap, D.ren, D.ren1, D.idOk, D.idOk1, Blk.ren, Blk.idOk, T_api_Region.d, T_api_Spot.d, k23, k26, k33])) (by intro w; rcases w with w | w <;> simp) ?_ ?_
        · clear h
          intro x352 y h
          unfold g_region_Place_s2 at h
          refine rb_seq ?_
          refine rb_regionK fun K578 hK578 => ?_
          simp -implicitDefEqProofs only [vt, ↓atI_fold, forall_const, reduceIte, reduceCtorEq, Nat.reduceEqDiff, Nat.reduceAdd, Nat.reduceSub, Nat.reduceMul, Nat.reduceLT, Nat.reduceLeDiff, Nat.reducePow, Int.reduceToNat, Int.reduceLT, Int.reduceLE, Int.reduceAdd, Int.reduceSub, Int.reduceMul, Int.reduceEq, Int.reduceBEq, Int.reduceBNe, Int.reduceNeg, T_api_Region.d, T_api_Spot.d, k23, k26, k33]
          subst hK578
          refine eb_seq ?_
          refine rb_seq ?_
          rcases ite_or h with ⟨k580, h⟩ | ⟨k580, h⟩
          · refine rb_true (congrArg D.bool k580) ?_
            refine rb_skip ?_
            refine eb_seq ?_
            refine rb_seq ?_
            refine rb_block ?_
            refine rb_seq ?_
            refine rb_regionK fun K621 hK621 => ?_
            simp -implicitDefEqProofs only [vt, ↓atI_fold, forall_const, reduceIte, reduceCtorEq, Nat.reduceEqDiff, Nat.reduceAdd, Nat.reduceSub, Nat.reduceMul, Nat.reduceLT, Nat.reduceLeDiff, Nat.reducePow, Int.reduceToNat, Int.reduceLT, Int.reduceLE, Int.reduceAdd, Int.reduceSub, Int.reduceMul, Int.reduceEq, Int.reduceBEq, Int.reduceBNe, Int.reduceNeg, T_api_Region.d, T_api_Spot.d, k23, k26, k33, k580]
            obtain ⟨y622, h623, h⟩ := bind_some h
            simp -implicitDefEqProofs only [vt, ↓atI_fold, forall_const, reduceIte, reduceCtorEq, Nat.reduceEqDiff, Nat.reduceAdd, Nat.reduceSub, Nat.reduceMul, Nat.reduceLT, Nat.reduceLeDiff, Nat.reducePow, Int.reduceToNat, Int.reduceLT, Int.reduceLE, Int.reduceAdd, Int.reduceSub, Int.reduceMul, Int.reduceEq, Int.reduceBEq, Int.reduceBNe, Int.reduceNeg, T_api_Region.d, T_api_Spot.d, k23, k26, k33, k580, h623]
            subst hK621
            refine eb_seq ?_
            refine rb_seq ?_
            refine rb_seq ?_
            refine rb_regionK fun K625 hK625 => ?_
            simp -implicitDefEqProofs only [vt, ↓atI_fold, forall_const, reduceIte, reduceCtorEq, Nat.reduceEqDiff, Nat.reduceAdd, Nat.reduceSub, Nat.reduceMul, Nat.reduceLT, Nat.reduceLeDiff, Nat.reducePow, Int.reduceToNat, Int.reduceLT, Int.reduceLE, Int.reduceAdd, Int.reduceSub, Int.reduceMul, Int.reduceEq, Int.reduceBEq, Int.reduceBNe, Int.reduceNeg, T_api_Region.d, T_api_Spot.d, k23, k26, k33, k580, h623]
            subst hK625
            refine eb_seq ?_
            rcases ite_or h with ⟨k626, h⟩ | ⟨k626, h⟩
            · refine rb_true (congrArg D.bool k626) ?_
              refine rb_seq ?_
              refine rb_regionK fun K628 hK628 => ?_
              simp -implicitDefEqProofs only [vt, ↓atI_fold, forall_const, reduceIte, reduceCtorEq, Nat.reduceEqDiff, Nat.reduceAdd, Nat.reduceSub, Nat.reduceMul, Nat.reduceLT, Nat.reduceLeDiff, Nat.reducePow, Int.reduceToNat, Int.reduceLT, Int.reduceLE, Int.reduceAdd, Int.reduceSub, Int.reduceMul, Int.reduceEq, Int.reduceBEq, Int.reduceBNe, Int.reduceNeg, T_api_Region.d, T_api_Spot.d, k23, k26, k33, k580, h623, k626]
              subst hK628
              refine eb_seq ?_
              refine rb_ret ?_
              refine eb_seq_r ?_
              refine eb_blk_r ?_
              refine eb_seq_r ?_
              obtain rfl := Option.some.inj h
              exact eb_nil ⟨rfl, Wk.of (fun i => some i) _ _ _ (by simp -implicitDefEqProofs [upd_app, argL, envL_app, heapL_app, look, appEff, wkEnv, wkHeap, D.ren, D.ren1, D.idOk, D.idOk1, Blk.ren, Blk.idOk, T_api_Region.d, T_api_Spot.d, k23, k26, k33, k580, k626]) (by simp -implicitDefEqProofs [upd_app, argL, envL_app, heapL_app, look, appEff, wkEnv, wkHeap, D.ren, D.ren1, D.idOk, D.idOk1, Blk.ren, Blk.idOk, T_api_Region.d, T_api_Spot.d, k23, k26, k33, k580, k626])⟩
            · refine rb_false (congrArg D.bool k626) ?_
              refine rb_skip ?_
              refine eb_seq ?_
              refine rb_seq ?_
              refine rb_seq ?_
              refine rb_regionK fun K630 hK630 => ?_
              simp -implicitDefEqProofs only [vt, ↓atI_fold, forall_const, reduceIte, reduceCtorEq, Nat.reduceEqDiff, Nat.reduceAdd, Nat.reduceSub, Nat.reduceMul, Nat.reduceLT, Nat.reduceLeDiff, Nat.reducePow, Int.reduceToNat, Int.reduceLT, Int.reduceLE, Int.reduceAdd, Int.reduceSub, Int.reduceMul, Int.reduceEq, Int.reduceBEq, Int.reduceBNe, Int.reduceNeg, T_api_Region.d, T_api_Spot.d, k23, k26, k33, k580, h623, k626]
              subst hK630
              refine eb_seq ?_
              rcases ite_or h with ⟨k631, h⟩ | ⟨k631, h⟩
              · refine rb_true (congrArg D.bool k631) ?_
                refine rb_seq ?_
                refine rb_regionK fun K633 hK633 => ?_
                simp -implicitDefEqProofs only [vt, ↓atI_fold, forall_const, reduceIte, reduceCtorEq, Nat.reduceEqDiff, Nat.reduceAdd, Nat.reduceSub, Nat.reduceMul, Nat.reduceLT, Nat.reduceLeDiff, Nat.reducePow, Int.reduceToNat, Int.reduceLT, Int.reduceLE, Int.reduceAdd, Int.reduceSub, Int.reduceMul, Int.reduceEq, Int.reduceBEq, Int.reduceBNe, Int.reduceNeg, T_api_Region.d, T_api_Spot.d, k23, k26, k33, k580, h623, k626, k631]
                subst hK633
                refine eb_seq ?_
                refine rb_ret ?_
                refine eb_seq_r ?_
                refine eb_blk_r ?_
                refine eb_seq_r ?_
                obtain rfl := Option.some.inj h
                exact eb_nil ⟨rfl, Wk.of (fun i => some i) _ _ _ (by simp -implicitDefEqProofs [upd_app, argL, envL_app, heapL_app, look, appEff, wkEnv, wkHeap, D.ren, D.ren1, D.idOk, D.idOk1, Blk.ren, Blk.idOk, T_api_Region.d, T_api_Spot.d, k23, k26, k33, k580, k626, k631]) (by simp -implicitDefEqProofs [upd_app, argL, envL_app, heapL_app, look, appEff, wkEnv, wkHeap, D.ren, D.ren1, D.idOk, D.idOk1, Blk.ren, Blk.idOk, T_api_Region.d, T_api_Spot.d, k23, k26, k33, k580, k626, k631])⟩
              · refine rb_false (congrArg D.bool k631) ?_
                refine rb_skip ?_
                refine eb_seq ?_
                refine rb_seq ?_
                refine rb_regionK fun K635 hK635 => ?_
                simp -implicitDefEqProofs only [vt, ↓atI_fold, forall_const, reduceIte, reduceCtorEq, Nat.reduceEqDiff, Nat.reduceAdd, Nat.reduceSub, Nat.reduceMul, Nat.reduceLT, Nat.reduceLeDiff, Nat.reducePow, Int.reduceToNat, Int.reduceLT, Int.reduceLE, Int.reduceAdd, Int.reduceSub, Int.reduceMul, Int.reduceEq, Int.reduceBEq, Int.reduceBNe, Int.reduceNeg, T_api_Region.d, T_api_Spot.d, k23, k26, k33, k580, h623, k626, k631]
                subst hK635
                refine eb_seq ?_
                refine rb_seq ?_
                refine rb_seq ?_
                refine rb_regionK fun K637 hK637 => ?_
                simp -implicitDefEqProofs only [vt, ↓atI_fold, forall_const, reduceIte, reduceCtorEq, Nat.reduceEqDiff, Nat.reduceAdd, Nat.reduceSub, Nat.reduceMul, Nat.reduceLT, Nat.reduceLeDiff, Nat.reducePow, Int.reduceToNat, Int.reduceLT, Int.reduceLE, Int.reduceAdd, Int.reduceSub, Int.reduceMul, Int.reduceEq, Int.reduceBEq, Int.reduceBNe, Int.reduceNeg, T_api_Region.d, T_api_Spot.d, k23, k26, k33, k580, h623, k626, k631]
                subst hK637
                refine eb_seq ?_
                refine rb_block ?_
                refine rb_seq ?_
                refine rb_regionK fun K639 hK639 => ?_
                simp -implicitDefEqProofs only [vt, ↓atI_fold, forall_const, reduceIte, reduceCtorEq, Nat.reduceEqDiff, Nat.reduceAdd, Nat.reduceSub, Nat.reduceMul, Nat.reduceLT, Nat.reduceLeDiff, Nat.reducePow, Int.reduceToNat, Int.reduceLT, Int.reduceLE, Int.reduceAdd, Int.reduceSub, Int.reduceMul, Int.reduceEq, Int.reduceBEq, Int.reduceBNe, Int.reduceNeg, T_api_Region.d, T_api_Spot.d, k23, k26, k33, k580, h623, k626, k631]
                subst hK639
                refine eb_seq ?_
                rcases ite_or h with ⟨k640, h⟩ | ⟨k640, h⟩
                · refine rb_true (congrArg D.bool k640) ?_
                  refine rb_regionK fun K641 hK641 => ?_
                  simp -implicitDefEqProofs only [vt, ↓atI_fold, forall_const, reduceIte, reduceCtorEq, Nat.reduceEqDiff, Nat.reduceAdd, Nat.reduceSub, Nat.reduceMul, Nat.reduceLT, Nat.reduceLeDiff, Nat.reducePow, Int.reduceToNat, Int.reduceLT, Int.reduceLE, Int.reduceAdd, Int.reduceSub, Int.reduceMul, Int.reduceEq, Int.reduceBEq, Int.reduceBNe, Int.reduceNeg, T_api_Region.d, T_api_Spot.d, k23, k26, k33, k580, h623, k626, k631, k640]
                  subst hK641
                  refine eb_blk_n ?_
                  refine eb_seq ?_
                  refine rb_regionK fun K642 hK642 => ?_
                  simp -implicitDefEqProofs only [vt, ↓atI_fold, forall_const, reduceIte, reduceCtorEq, Nat.reduceEqDiff, Nat.reduceAdd, Nat.reduceSub, Nat.reduceMul, Nat.reduceLT, Nat.reduceLeDiff, Nat.reducePow, Int.reduceToNat, Int.reduceLT, Int.reduceLE, Int.reduceAdd, Int.reduceSub, Int.reduceMul, Int.reduceEq, Int.reduceBEq, Int.reduceBNe, Int.reduceNeg, T_api_Region.d, T_api_Spot.d, k23, k26, k33, k580, h623, k626, k631, k640]
                  obtain ⟨h643, h⟩ := ite_on h
                  have h644 : x352.1.length + 1 ≤ 9223372036854775807 := by omega
                  try simp only [Nat.reduceLeDiff] at h644
                  simp -implicitDefEqProofs only [vt, ↓atI_fold, forall_const, reduceIte, reduceCtorEq, Nat.reduceEqDiff, Nat.reduceAdd, Nat.reduceSub, Nat.reduceMul, Nat.reduceLT, Nat.reduceLeDiff, Nat.reducePow, Int.reduceToNat, Int.reduceLT, Int.reduceLE, Int.reduceAdd, Int.reduceSub, Int.reduceMul, Int.reduceEq, Int.reduceBEq, Int.reduceBNe, Int.reduceNeg, T_api_Region.d, T_api_Spot.d, k23, k26, k33, k580, h623, k626, k631, k640, h644, h643]
                  subst hK642
                  refine eb_blk_n ?_
                  refine eb_seq ?_
                  refine rb_regionK fun K645 hK645 => ?_
                  simp -implicitDefEqProofs only [vt, ↓atI_fold, forall_const, reduceIte, reduceCtorEq, Nat.reduceEqDiff, Nat.reduceAdd, Nat.reduceSub, Nat.reduceMul, Nat.reduceLT, Nat.reduceLeDiff, Nat.reducePow, Int.reduceToNat, Int.reduceLT, Int.reduceLE, Int.reduceAdd, Int.reduceSub, Int.reduceMul, Int.reduceEq, Int.reduceBEq, Int.reduceBNe, Int.reduceNeg, T_api_Region.d, T_api_Spot.d, k23, k26, k33, k580, h623, k626, k631, k640, h644, h643]
                  subst hK645
                  obtain rfl := Option.some.inj h
                  exact eb_nil ⟨rfl, Wk.of (fun i => if i = 1 then some 39 else if i = 0 then some 0 else some i) _ _ _ (by simp -implicitDefEqProofs [upd_app, argL, envL_app, heapL_app, look, appEff, wkEnv, wkHeap, D.ren, D.ren1, D.idOk, D.idOk1, Blk.ren, Blk.idOk, T_api_Region.d, T_api_Spot.d, k23, k26, k33, k580, k626, k631, k640]) (by simp -implicitDefEqProofs [upd_app, argL, envL_app, heapL_app, look, appEff, wkEnv, wkHeap, D.ren, D.ren1, D.idOk, D.idOk1, Blk.ren, Blk.idOk, T_api_Region.d, T_api_Spot.d, k23, k26, k33, k580, k626, k631, k640])⟩
                · refine rb_false (congrArg D.bool k640) ?_
                  refine rb_seq ?_
                  refine rb_regionK fun K647 hK647 => ?_
                  simp -implicitDefEqProofs only [vt, ↓atI_fold, forall_const, reduceIte, reduceCtorEq, Nat.reduceEqDiff, Nat.reduceAdd, Nat.reduceSub, Nat.reduceMul, Nat.reduceLT, Nat.reduceLeDiff, Nat.reducePow, Int.reduceToNat, Int.reduceLT, Int.reduceLE, Int.reduceAdd, Int.reduceSub, Int.reduceMul, Int.reduceEq, Int.reduceBEq, Int.reduceBNe, Int.reduceNeg, T_api_Region.d, T_api_Spot.d, k23, k26, k33, k580, h623, k626, k631, k640]
                  subst hK647
                  refine eb_seq ?_
                  rcases ite_or h with ⟨k648, h⟩ | ⟨k648, h⟩
                  · refine rb_true (congrArg D.bool k648) ?_
                    refine rb_regionK fun K649 hK649 => ?_
                    simp -implicitDefEqProofs only [vt, ↓atI_fold, forall_const, reduceIte, reduceCtorEq, Nat.reduceEqDiff, Nat.reduceAdd, Nat.reduceSub, Nat.reduceMul, Nat.reduceLT, Nat.reduceLeDiff, Nat.reducePow, Int.reduceToNat, Int.reduceLT, Int.reduceLE, Int.reduceAdd, Int.reduceSub, Int.reduceMul, Int.reduceEq, Int.reduceBEq, Int.reduceBNe, Int.reduceNeg, T_api_Region.d, T_api_Spot.d, k23, k26, k33, k580, h623, k626, k631, k640, k648]
                    subst hK649
                    refine eb_blk_n ?_
                    refine eb_seq ?_
                    refine rb_regionK fun K650 hK650 => ?_
                    simp -implicitDefEqProofs only [vt, ↓atI_fold, forall_const, reduceIte, reduceCtorEq, Nat.reduceEqDiff, Nat.reduceAdd, Nat.reduceSub, Nat.reduceMul, Nat.reduceLT, Nat.reduceLeDiff, Nat.reducePow, Int.reduceToNat, Int.reduceLT, Int.reduceLE, Int.reduceAdd, Int.reduceSub, Int.reduceMul, Int.reduceEq, Int.reduceBEq, Int.reduceBNe, Int.reduceNeg, T_api_Region.d, T_api_Spot.d, k23, k26, k33, k580, h623, k626, k631, k640, k648]
                    obtain ⟨h651, h⟩ := ite_on h
                    have h652 : x352.1.length + 1 ≤ 9223372036854775807 := by omega
                    try simp only [Nat.reduceLeDiff] at h652
                    simp -implicitDefEqProofs only [vt, ↓atI_fold, forall_const, reduceIte, reduceCtorEq, Nat.reduceEqDiff, Nat.reduceAdd, Nat.reduceSub, Nat.reduceMul, Nat.reduceLT, Nat.reduceLeDiff, Nat.reducePow, Int.reduceToNat, Int.reduceLT, Int.reduceLE, Int.reduceAdd, Int.reduceSub, Int.reduceMul, Int.reduceEq, Int.reduceBEq, Int.reduceBNe, Int.reduceNeg, T_api_Region.d, T_api_Spot.d, k23, k26, k33, k580, h623, k626, k631, k640, k648, h652, h651]
                    subst hK650
                    refine eb_blk_n ?_
                    refine eb_seq ?_
                    refine rb_regionK fun K653 hK653 => ?_
                    simp -implicitDefEqProofs only [vt, ↓atI_fold, forall_const, reduceIte, reduceCtorEq, Nat.reduceEqDiff, Nat.reduceAdd, Nat.reduceSub, Nat.reduceMul, Nat.reduceLT, Nat.reduceLeDiff, Nat.reducePow, Int.reduceToNat, Int.reduceLT, Int.reduceLE, Int.reduceAdd, Int.reduceSub, Int.reduceMul, Int.reduceEq, Int.reduceBEq, Int.reduceBNe, Int.reduceNeg, T_api_Region.d, T_api_Spot.d, k23, k26, k33, k580, h623, k626, k631, k640, k648, h652, h651]
                    subst hK653
                    obtain rfl := Option.some.inj h
                    exact eb_nil ⟨rfl, Wk.of (fun i => if i = 1 then some 42 else if i = 0 then some 0 else some i) _ _ _ (by simp -implicitDefEqProofs [upd_app, argL, envL_app, heapL_app, look, appEff, wkEnv, wkHeap, D.ren, D.ren1, D.idOk, D.idOk1, Blk.ren, Blk.idOk, T_api_Region.d, T_api_Spot.d, k23, k26, k33, k580, k626, k631, k640, k648]) (by simp -implicitDefEqProofs [upd_app, argL, envL_app, heapL_app, look, appEff, wkEnv, wkHeap, D.ren, D.ren1, D.idOk, D.idOk1, Blk.ren, Blk.idOk, T_api_Region.d, T_api_Spot.d, k23, k26, k33, k580, k626, k631, k640, k648])⟩
                  · refine rb_false (congrArg D.bool k648) ?_
                    refine rb_skip ?_
                    refine eb_blk_n ?_
                    refine eb_seq ?_
                    refine rb_regionK fun K654 hK654 => ?_
                    simp -implicitDefEqProofs only [vt, ↓atI_fold, forall_const, reduceIte, reduceCtorEq, Nat.reduceEqDiff, Nat.reduceAdd, Nat.reduceSub, Nat.reduceMul, Nat.reduceLT, Nat.reduceLeDiff, Nat.reducePow, Int.reduceToNat, Int.reduceLT, Int.reduceLE, Int.reduceAdd, Int.reduceSub, Int.reduceMul, Int.reduceEq, Int.reduceBEq, Int.reduceBNe, Int.reduceNeg, T_api_Region.d, T_api_Spot.d, k23, k26, k33, k580, h623, k626, k631, k640, k648]
                    obtain ⟨h655, h⟩ := ite_on h
                    have h656 : x352.1.length + 1 ≤ 9223372036854775807 := by omega
                    try simp only [Nat.reduceLeDiff] at h656
                    simp -implicitDefEqProofs only [vt, ↓atI_fold, forall_const, reduceIte, reduceCtorEq, Nat.reduceEqDiff, Nat.reduceAdd, Nat.reduceSub, Nat.reduceMul, Nat.reduceLT, Nat.reduceLeDiff, Nat.reducePow, Int.reduceToNat, Int.reduceLT, Int.reduceLE, Int.reduceAdd, Int.reduceSub, Int.reduceMul, Int.reduceEq, Int.reduceBEq, Int.reduceBNe, Int.reduceNeg, T_api_Region.d, T_api_Spot.d, k23, k26, k33, k580, h623, k626, k631, k640, k648, h656, h655]
                    subst hK654
                    refine eb_blk_n ?_
                    refine eb_seq ?_
                    refine rb_regionK fun K657 hK657 => ?_
                    simp -implicitDefEqProofs only [vt, ↓atI_fold, forall_const, reduceIte, reduceCtorEq, Nat.reduceEqDiff, Nat.reduceAdd, Nat.reduceSub, Nat.reduceMul, Nat.reduceLT, Nat.reduceLeDiff, Nat.reducePow, Int.reduceToNat, Int.reduceLT, Int.reduceLE, Int.reduceAdd, Int.reduceSub, Int.reduceMul, Int.reduceEq, Int.reduceBEq, Int.reduceBNe, Int.reduceNeg, T_api_Region.d, T_api_Spot.d, k23, k26, k33, k580, h623, k626, k631, k640, k648, h656, h655]
                    subst hK657
                    obtain rfl := Option.some.inj h
                    exact eb_nil ⟨rfl, Wk.of (fun i => if i = 1 then some 32 else if i = 0 then some 0 else some i) _ _ _ (by simp -implicitDefEqProofs [upd_app, argL, envL_app, heapL_app, look, appEff, wkEnv, wkHeap, D.ren, D.ren1, D.idOk, D.idOk1, Blk.ren, Blk.idOk, T_api_Region.d, T_api_Spot.d, k23, k26, k33, k580, k626, k631, k640, k648]) (by simp -implicitDefEqProofs [upd_app, argL, envL_app, heapL_app, look, appEff, wkEnv, wkHeap, D.ren, D.ren1, D.idOk, D.idOk1, Blk.ren, Blk.idOk, T_api_Region.d, T_api_Spot.d, k23, k26, k33, k580, k626, k631, k640, k648])⟩
          · refine rb_false (congrArg D.bool k580) ?_
            refine rb_exit ?_
            refine eb_seq_e ?_
            obtain rfl := Option.some.inj h
            exact eb_nil ⟨rfl, Wk.of (fun i => if i = 0 then some 1 else some i) _ _ _ (by simp -implicitDefEqProofs [upd_app, argL, envL_app, heapL_app, look, appEff, wkEnv, wkHeap, D.ren, D.ren1, D.idOk, D.idOk1, Blk.ren, Blk.idOk, T_api_Region.d, T_api_Spot.d, k23, k26, k33, k580]) (by simp -implicitDefEqProofs [upd_app, argL, envL_app, heapL_app, look, appEff, wkEnv, wkHeap, D.ren, D.ren1, D.idOk, D.idOk1, Blk.ren, Blk.idOk, T_api_Region.d, T_api_Spot.d, k23, k26, k33, k580])⟩
        · rcases e353 with e353 | e353
          · try dsimp only at h ⊢
            refine eb_blk_r ?_
            refine eb_seq_r ?_
            obtain rfl := Option.some.inj h
            refine eb_nil ?_
            simp -implicitDefEqProofs only [vt, ↓atI_fold, forall_const, reduceIte, reduceCtorEq, Nat.reduceEqDiff, Nat.reduceAdd, Nat.reduceSub, Nat.reduceMul, Nat.reduceLT, Nat.reduceLeDiff, Nat.reducePow, Int.reduceToNat, Int.reduceLT, Int.reduceLE, Int.reduceAdd, Int.reduceSub, Int.reduceMul, Int.reduceEq, Int.reduceBEq, Int.reduceBNe, Int.reduceNeg, retQ_r, Tryd.results26, T_api_Region.d, T_api_Spot.d, k23, k26, k33] <;> first | rfl | (simp [List.map_append, T_api_Region.d, T_api_Spot.d]; done)
          · try dsimp only at h ⊢
            refine eb_blk_hit ?_
            refine eb_seq ?_
            refine rb_seq ?_
            refine rb_regionK fun K660 hK660 => ?_
            simp -implicitDefEqProofs only [vt, ↓atI_fold, forall_const, reduceIte, reduceCtorEq, Nat.reduceEqDiff, Nat.reduceAdd, Nat.reduceSub, Nat.reduceMul, Nat.reduceLT, Nat.reduceLeDiff, Nat.reducePow, Int.reduceToNat, Int.reduceLT, Int.reduceLE, Int.reduceAdd, Int.reduceSub, Int.reduceMul, Int.reduceEq, Int.reduceBEq, Int.reduceBNe, Int.reduceNeg, T_api_Region.d, T_api_Spot.d, k23, k26, k33]
            subst hK660
            refine eb_seq ?_
            refine rb_ret ?_
            obtain rfl := Option.some.inj h
            refine eb_nil ?_
            simp -implicitDefEqProofs only [vt, ↓atI_fold, forall_const, reduceIte, reduceCtorEq, Nat.reduceEqDiff, Nat.reduceAdd, Nat.reduceSub, Nat.reduceMul, Nat.reduceLT, Nat.reduceLeDiff, Nat.reducePow, Int.reduceToNat, Int.reduceLT, Int.reduceLE, Int.reduceAdd, Int.reduceSub, Int.reduceMul, Int.reduceEq, Int.reduceBEq, Int.reduceBNe, Int.reduceNeg, retQ_r, Tryd.results26, T_api_Region.d, T_api_Spot.d, k23, k26, k33] <;> first | rfl | (simp [List.map_append, T_api_Region.d, T_api_Spot.d]; done)
  · refine rb_true (congrArg D.bool (congrArg Bool.not k23)) ?_
    refine rb_seq ?_
    refine rb_regionK fun K662 hK662 => ?_
    simp -implicitDefEqProofs only [vt, ↓atI_fold, forall_const, reduceIte, reduceCtorEq, Nat.reduceEqDiff, Nat.reduceAdd, Nat.reduceSub, Nat.reduceMul, Nat.reduceLT, Nat.reduceLeDiff, Nat.reducePow, Int.reduceToNat, Int.reduceLT, Int.reduceLE, Int.reduceAdd, Int.reduceSub, Int.reduceMul, Int.reduceEq, Int.reduceBEq, Int.reduceBNe, Int.reduceNeg, T_api_Region.d, T_api_Spot.d, k23]
    subst hK662
    refine eb_seq ?_
    refine rb_ret ?_
    refine eb_blk_r ?_
    refine eb_seq_r ?_
    obtain rfl := Option.some.inj h
    refine eb_nil ?_
    simp -implicitDefEqProofs only [vt, ↓atI_fold, forall_const, reduceIte, reduceCtorEq, Nat.reduceEqDiff, Nat.reduceAdd, Nat.reduceSub, Nat.reduceMul, Nat.reduceLT, Nat.reduceLeDiff, Nat.reducePow, Int.reduceToNat, Int.reduceLT, Int.reduceLE, Int.reduceAdd, Int.reduceSub, Int.reduceMul, Int.reduceEq, Int.reduceBEq, Int.reduceBNe, Int.reduceNeg, retQ_r, Tryd.results26, T_api_Region.d, T_api_Spot.d, k23] <;> first | rfl | (simp [List.map_append, T_api_Region.d, T_api_Spot.d]; done)
-- captionerref10.Place
def g_ref10_Place_s1 (r_0 : T_api_Region) (lens_1 : List Int) (x19 : (List T_api_Spot) × Int) : Option (Nx ((List T_api_Spot) × Int) (Int ⊕ ((List T_api_Spot)))) :=
  (if (decide (x19.2 < (lens_1.length : Int))) then ((((atI lens_1 x19.2).bind fun y453 => (if (decide (y453 < 0)) then (some (.out 2)) else (if (decide (r_0.Width < y453)) then (some (.out 11)) else (if r_0.Bottom then (if (r_0.Align == 3) then (if (x19.1.length + 1) * 24 ≤ 140737488355328 then (some (.go (x19.1 ++ [(T_api_Spot.mk (IntKind.i64.wrap ((IntKind.i64.wrap (r_0.Top + x19.2)) + (IntKind.i64.wrap (r_0.Height - (lens_1.length : Int))))) (IntKind.i64.wrap (r_0.Left + (IntKind.i64.wrap (r_0.Width - y453)))) y453)]))) else none) else (if (r_0.Align == 2) then (if (x19.1.length + 1) * 24 ≤ 140737488355328 then (some (.go (x19.1 ++ [(T_api_Spot.mk (IntKind.i64.wrap ((IntKind.i64.wrap (r_0.Top + x19.2)) + (IntKind.i64.wrap (r_0.Height - (lens_1.length : Int))))) (IntKind.i64.wrap (r_0.Left + (IntKind.i64.wrap (Int.tdiv (IntKind.i64.wrap (r_0.Width - y453)) 2)))) y453)]))) else none) else (if (x19.1.length + 1) * 24 ≤ 140737488355328 then (some (.go (x19.1 ++ [(T_api_Spot.mk (IntKind.i64.wrap ((IntKind.i64.wrap (r_0.Top + x19.2)) + (IntKind.i64.wrap (r_0.Height - (lens_1.length : Int))))) r_0.Left y453)]))) else none))) else (if (r_0.Align == 3) then (if (x19.1.length + 1) * 24 ≤ 140737488355328 then (some (.go (x19.1 ++ [(T_api_Spot.mk (IntKind.i64.wrap (r_0.Top + x19.2)) (IntKind.i64.wrap (r_0.Left + (IntKind.i64.wrap (r_0.Width - y453)))) y453)]))) else none) else (if (r_0.Align == 2) then (if (x19.1.length + 1) * 24 ≤ 140737488355328 then (some (.go (x19.1 ++ [(T_api_Spot.mk (IntKind.i64.wrap (r_0.Top + x19.2)) (IntKind.i64.wrap (r_0.Left + (IntKind.i64.wrap (Int.tdiv (IntKind.i64.wrap (r_0.Width - y453)) 2)))) y453)]))) else none) else (if (x19.1.length + 1) * 24 ≤ 140737488355328 then (some (.go (x19.1 ++ [(T_api_Spot.mk (IntKind.i64.wrap (r_0.Top + x19.2)) r_0.Left y453)]))) else none))))))) : Option (Nx ((List T_api_Spot)) (Int))).bind fun w510 => match w510 with | .go v448 => (some (.go (v448, (IntKind.i64.wrap (x19.2 + 1))))) | .out e511 => (some (.out (.inl e511)))) else (some (.out (.inr x19.1))))
def g_ref10_Place (r_0 : T_api_Region) (lens_1 : List Int) : Option ((List T_api_Spot) × Int) :=
  ((g_ref10_usable r_0).bind fun r7 => (if r7 then (if (decide (r_0.Height < (lens_1.length : Int))) then (some ([], 9)) else ((iter (g_ref10_Place_s1 r_0 lens_1) ([], 0)).bind fun e20 => (match e20 with | Sum.inl e20 => (some ([], e20)) | Sum.inr (e20) => (some (e20, 0))))) else (some ([], 1))))
theorem a_ref10_Place (I : World → Prop) (hI : Stab I) (r_0 : T_api_Region) (lens_1 : List Int) {r : (List T_api_Spot) × Int} (h : g_ref10_Place r_0 lens_1 = some r) : AFun Tryd.prog I 27 [T_api_Region.d r_0, .sl (lens_1.map (D.int .i64))] (.tup [.sl (r.1.map T_api_Spot.d), .int .i64 r.2]) := by
  refine AFun.enterB hI Tryd.func27 rfl (by decide) (by simp [Tryd.f27]) (by kernel_rfl) ?_
  unfold g_ref10_Place at h
  simp only [S0, Tryd.ntmps27, T_api_Region.d, T_api_Spot.d]
  refine rb_seq ?_
  refine rb_regionK fun K2 hK2 => ?_
  simp -implicitDefEqProofs only [vt, ↓atI_fold, forall_const, reduceIte, reduceCtorEq, Nat.reduceEqDiff, Nat.reduceAdd, Nat.reduceSub, Nat.reduceMul, Nat.reduceLT, Nat.reduceLeDiff, Nat.reducePow, Int.reduceToNat, Int.reduceLT, Int.reduceLE, Int.reduceAdd, Int.reduceSub, Int.reduceMul, Int.reduceEq, Int.reduceBEq, Int.reduceBNe, Int.reduceNeg, T_api_Region.d, T_api_Spot.d]
  subst hK2
  refine eb_seq ?_
  refine rb_seq ?_
  refine rb_seq ?_
  refine rb_regionK fun K6 hK6 => ?_
  simp -implicitDefEqProofs only [vt, ↓atI_fold, forall_const, reduceIte, reduceCtorEq, Nat.reduceEqDiff, Nat.reduceAdd, Nat.reduceSub, Nat.reduceMul, Nat.reduceLT, Nat.reduceLeDiff, Nat.reducePow, Int.reduceToNat, Int.reduceLT, Int.reduceLE, Int.reduceAdd, Int.reduceSub, Int.reduceMul, Int.reduceEq, Int.reduceBEq, Int.reduceBNe, Int.reduceNeg, T_api_Region.d, T_api_Spot.d]
  obtain ⟨r7, h8, h⟩ := bind_some h
  refine cW.intro (a_ref10_usable I hI r_0 h8) (by first | rfl | (simp [List.map_append, T_api_Region.d, T_api_Spot.d]; done)) ?_
  simp -implicitDefEqProofs only [vt, ↓atI_fold, forall_const, reduceIte, reduceCtorEq, Nat.reduceEqDiff, Nat.reduceAdd, Nat.reduceSub, Nat.reduceMul, Nat.reduceLT, Nat.reduceLeDiff, Nat.reducePow, Int.reduceToNat, Int.reduceLT, Int.reduceLE, Int.reduceAdd, Int.reduceSub, Int.reduceMul, Int.reduceEq, Int.reduceBEq, Int.reduceBNe, Int.reduceNeg, T_api_Region.d, T_api_Spot.d]
  subst hK6
  refine eb_seq ?_
  rcases ite_or h with ⟨k9, h⟩ | ⟨k9, h⟩
  · refine rb_false (congrArg D.bool (congrArg Bool.not k9)) ?_
    refine rb_skip ?_
    refine eb_seq ?_
    refine rb_seq ?_
    refine rb_seq ?_
    refine rb_regionK fun K11 hK11 => ?_
    simp -implicitDefEqProofs only [vt, ↓atI_fold, forall_const, reduceIte, reduceCtorEq, Nat.reduceEqDiff, Nat.reduceAdd, Nat.reduceSub, Nat.reduceMul, Nat.reduceLT, Nat.reduceLeDiff, Nat.reducePow, Int.reduceToNat, Int.reduceLT, Int.reduceLE, Int.reduceAdd, Int.reduceSub, Int.reduceMul, Int.reduceEq, Int.reduceBEq, Int.reduceBNe, Int.reduceNeg, T_api_Region.d, T_api_Spot.d, k9]
    subst hK11
    refine eb_seq ?_
    rcases ite_or h with ⟨k12, h⟩ | ⟨k12, h⟩
    · refine rb_true (congrArg D.bool k12) ?_
      refine rb_seq ?_
      refine rb_regionK fun K14 hK14 => ?_
      simp -implicitDefEqProofs only [vt, ↓atI_fold, forall_const, reduceIte, reduceCtorEq, Nat.reduceEqDiff, Nat.reduceAdd, Nat.reduceSub, Nat.reduceMul, Nat.reduceLT, Nat.reduceLeDiff, Nat.reducePow, Int.reduceToNat, Int.reduceLT, Int.reduceLE, Int.reduceAdd, Int.reduceSub, Int.reduceMul, Int.reduceEq, Int.reduceBEq, Int.reduceBNe, Int.reduceNeg, T_api_Region.d, T_api_Spot.d, k9, k12]
      subst hK14
      refine eb_seq ?_
      refine rb_ret ?_
      refine eb_seq_r ?_
      obtain rfl := Option.some.inj h
      refine eb_nil ?_
      simp -implicitDefEqProofs only [vt, ↓atI_fold, forall_const, reduceIte, reduceCtorEq, Nat.reduceEqDiff, Nat.reduceAdd, Nat.reduceSub, Nat.reduceMul, Nat.reduceLT, Nat.reduceLeDiff, Nat.reducePow, Int.reduceToNat, Int.reduceLT, Int.reduceLE, Int.reduceAdd, Int.reduceSub, Int.reduceMul, Int.reduceEq, Int.reduceBEq, Int.reduceBNe, Int.reduceNeg, retQ_r, Tryd.results27, T_api_Region.d, T_api_Spot.d, k9, k12] <;> first | rfl | (simp [List.map_append, T_api_Region.d, T_api_Spot.d]; done)
    · refine rb_false (congrArg D.bool k12) ?_
      refine rb_skip ?_
      refine eb_seq ?_
      refine rb_seq ?_
      refine rb_regionK fun K16 hK16 => ?_
      simp -implicitDefEqProofs only [vt, ↓atI_fold, forall_const, reduceIte, reduceCtorEq, Nat.reduceEqDiff, Nat.reduceAdd, Nat.reduceSub, Nat.reduceMul, Nat.reduceLT, Nat.reduceLeDiff, Nat.reducePow, Int.reduceToNat, Int.reduceLT, Int.reduceLE, Int.reduceAdd, Int.reduceSub, Int.reduceMul, Int.reduceEq, Int.reduceBEq, Int.reduceBNe, Int.reduceNeg, T_api_Region.d, T_api_Spot.d, k9, k12]
      subst hK16
      refine eb_seq ?_
      refine rb_seq ?_
      refine rb_seq ?_
      refine rb_regionK fun K18 hK18 => ?_
      simp -implicitDefEqProofs only [vt, ↓atI_fold, forall_const, reduceIte, reduceCtorEq, Nat.reduceEqDiff, Nat.reduceAdd, Nat.reduceSub, Nat.reduceMul, Nat.reduceLT, Nat.reduceLeDiff, Nat.reducePow, Int.reduceToNat, Int.reduceLT, Int.reduceLE, Int.reduceAdd, Int.reduceSub, Int.reduceMul, Int.reduceEq, Int.reduceBEq, Int.reduceBNe, Int.reduceNeg, T_api_Region.d, T_api_Spot.d, k9, k12]
      subst hK18
      refine eb_seq ?_
      refine rb_block ?_
      obtain ⟨e20, h513, h⟩ := bind_some h
      refine rb_loop (fun x19 => ⟨envL [(1, .sl (lens_1.map (D.int .i64))), (2, .ptr 0 0), (6, .own 1 x19.1.length), (18, .sl (lens_1.map (D.int .i64))), (19, .int .i64 (lens_1.length : Int)), (20, .int .i64 x19.2)], heapL [(0, .box [.str r_0.Name, .int .i64 r_0.Top, .int .i64 r_0.Height, .int .i64 r_0.Left, .int .i64 r_0.Width, .int .u8 r_0.Align, .bool r_0.Bottom]), (1, .vec 55 3 (x19.1.map T_api_Spot.d) false)], 2, 79⟩) (fun w => match w with | Sum.inl _ => .ret | Sum.inr (_) => .exit 0) (fun w => match w with | Sum.inl e20 => ⟨envL [(4, .nils), (5, .int .i64 e20)], heapL [], 0, 79⟩ | Sum.inr (e20) => ⟨envL [(6, .own 0 e20.length)], heapL [(0, .vec 55 3 (e20.map T_api_Spot.d) false)], 1, 79⟩) h513 (Wk.of (fun i => if i = 1 then none else if i = 0 then some 0 else some i) _ _ _ (by simp -implicitDefEqProofs [upd_app, argL, envL_app, heapL_app, look, appEff, wkEnv, wkHeap, D.ren, D.ren1, D.idOk, D.idOk1, Blk.ren, Blk.idOk, T_api_Region.d, T_api_Spot.d, k9, k12]) (by simp -implicitDefEqProofs [upd_app, argL, envL_app, heapL_app, look, appEff, wkEnv, wkHeap, D.ren, D.ren1, D.idOk, D.idOk1, Blk.ren, Blk.idOk, T_api_Region.d, T_api_Spot.d, k9, k12])) (by intro w; rcases w with w | w <;> simp) ?_ ?_
      · clear h
        intro x19 y h
        unfold g_ref10_Place_s1 at h
        refine rb_seq ?_
        refine rb_regionK fun K385 hK385 => ?_
        simp -implicitDefEqProofs only [vt, ↓atI_fold, forall_const, reduceIte, reduceCtorEq, Nat.reduceEqDiff, Nat.reduceAdd, Nat.reduceSub, Nat.reduceMul, Nat.reduceLT, Nat.reduceLeDiff, Nat.reducePow, Int.reduceToNat, Int.reduceLT, Int.reduceLE, Int.reduceAdd, Int.reduceSub, Int.reduceMul, Int.reduceEq, Int.reduceBEq, Int.reduceBNe, Int.reduceNeg, T_api_Region.d, T_api_Spot.d, k9, k12]
        subst hK385
        refine eb_seq ?_
        refine rb_seq ?_
        rcases ite_or h with ⟨k387, h⟩ | ⟨k387, h⟩
        · refine rb_true (congrArg D.bool k387) ?_
          refine rb_skip ?_
          refine eb_seq ?_
          obtain ⟨w510, h509, h⟩ := bind_some h
          refine rb_seg (fun v448 => ⟨envL [(1, .sl (lens_1.map (D.int .i64))), (2, .ptr 0 0), (6, .own 1 v448.length), (18, .sl (lens_1.map (D.int .i64))), (19, .int .i64 (lens_1.length : Int)), (20, .int .i64 x19.2)], heapL [(0, .box [.str r_0.Name, .int .i64 r_0.Top, .int .i64 r_0.Height, .int .i64 r_0.Left, .int .i64 r_0.Width, .int .u8 r_0.Align, .bool r_0.Bottom]), (1, .vec 55 3 (v448.map T_api_Spot.d) false)], 2, 79⟩) (fun _ => .ret) (fun e511 => ⟨envL [(4, .nils), (5, .int .i64 e511)], heapL [], 0, 79⟩) h509 (by intro w; simp) ?_ ?_ ?_
          · clear h
            intro w510 h
            refine rb_block ?_
            refine rb_seq ?_
            refine rb_regionK fun K452 hK452 => ?_
            simp -implicitDefEqProofs only [vt, ↓atI_fold, forall_const, reduceIte, reduceCtorEq, Nat.reduceEqDiff, Nat.reduceAdd, Nat.reduceSub, Nat.reduceMul, Nat.reduceLT, Nat.reduceLeDiff, Nat.reducePow, Int.reduceToNat, Int.reduceLT, Int.reduceLE, Int.reduceAdd, Int.reduceSub, Int.reduceMul, Int.reduceEq, Int.reduceBEq, Int.reduceBNe, Int.reduceNeg, T_api_Region.d, T_api_Spot.d, k9, k12, k387]
            obtain ⟨y453, h454, h⟩ := bind_some h
            simp -implicitDefEqProofs only [vt, ↓atI_fold, forall_const, reduceIte, reduceCtorEq, Nat.reduceEqDiff, Nat.reduceAdd, Nat.reduceSub, Nat.reduceMul, Nat.reduceLT, Nat.reduceLeDiff, Nat.reducePow, Int.reduceToNat, Int.reduceLT, Int.reduceLE, Int.reduceAdd, Int.reduceSub, Int.reduceMul, Int.reduceEq, Int.reduceBEq, Int.reduceBNe, Int.reduceNeg, T_api_Region.d, T_api_Spot.d, k9, k12, k387, h454]
            subst hK452
            refine eb_seq ?_
            refine rb_seq ?_
            refine rb_seq ?_
            refine rb_regionK fun K456 hK456 => ?_
            simp -implicitDefEqProofs only [vt, ↓atI_fold, forall_const, reduceIte, reduceCtorEq, Nat.reduceEqDiff, Nat.reduceAdd, Nat.reduceSub, Nat.reduceMul, Nat.reduceLT, Nat.reduceLeDiff, Nat.reducePow, Int.reduceToNat, Int.reduceLT, Int.reduceLE, Int.reduceAdd, Int.reduceSub, Int.reduceMul, Int.reduceEq, Int.reduceBEq, Int.reduceBNe, Int.reduceNeg, T_api_Region.d, T_api_Spot.d, k9, k12, k387, h454]
            subst hK456
            refine eb_seq ?_
            rcases ite_or h with ⟨k457, h⟩ | ⟨k457, h⟩
            · refine rb_true (congrArg D.bool k457) ?_
              refine rb_seq ?_
              refine rb_regionK fun K459 hK459 => ?_
              simp -implicitDefEqProofs only [vt, ↓atI_fold, forall_const, reduceIte, reduceCtorEq, Nat.reduceEqDiff, Nat.reduceAdd, Nat.reduceSub, Nat.reduceMul, Nat.reduceLT, Nat.reduceLeDiff, Nat.reducePow, Int.reduceToNat, Int.reduceLT, Int.reduceLE, Int.reduceAdd, Int.reduceSub, Int.reduceMul, Int.reduceEq, Int.reduceBEq, Int.reduceBNe, Int.reduceNeg, T_api_Region.d, T_api_Spot.d, k9, k12, k387, h454, k457]
              subst hK459
              refine eb_seq ?_
              refine rb_ret ?_
              refine eb_seq_r ?_
              refine eb_blk_r ?_
              obtain rfl := Option.some.inj h
              exact eb_nil ⟨rfl, Wk.of (fun i => some i) _ _ _ (by simp -implicitDefEqProofs [upd_app, argL, envL_app, heapL_app, look, appEff, wkEnv, wkHeap, D.ren, D.ren1, D.idOk, D.idOk1, Blk.ren, Blk.idOk, T_api_Region.d, T_api_Spot.d, k9, k12, k387, k457]) (by simp -implicitDefEqProofs [upd_app, argL, envL_app, heapL_app, look, appEff, wkEnv, wkHeap, D.ren, D.ren1, D.idOk, D.idOk1, Blk.ren, Blk.idOk, T_api_Region.d, T_api_Spot.d, k9, k12, k387, k457])⟩
            · refine rb_false (congrArg D.bool k457) ?_
              refine rb_skip ?_
              refine eb_seq ?_
              refine rb_seq ?_
              refine rb_seq ?_
              refine rb_regionK fun K461 hK461 => ?_
              simp -implicitDefEqProofs only [vt, ↓atI_fold, forall_const, reduceIte, reduceCtorEq, Nat.reduceEqDiff, Nat.reduceAdd, Nat.reduceSub, Nat.reduceMul, Nat.reduceLT, Nat.reduceLeDiff, Nat.reducePow, Int.reduceToNat, Int.reduceLT, Int.reduceLE, Int.reduceAdd, Int.reduceSub, Int.reduceMul, Int.reduceEq, Int.reduceBEq, Int.reduceBNe, Int.reduceNeg, T_api_Region.d, T_api_Spot.d, k9, k12, k387, h454, k457]
              subst hK461
              refine eb_seq ?_
              rcases ite_or h with ⟨k462, h⟩ | ⟨k462, h⟩
              · refine rb_true (congrArg D.bool k462) ?_
                refine rb_seq ?_
                refine rb_regionK fun K464 hK464 => ?_
                simp -implicitDefEqProofs only [vt, ↓atI_fold, forall_const, reduceIte, reduceCtorEq, Nat.reduceEqDiff, Nat.reduceAdd, Nat.reduceSub, Nat.reduceMul, Nat.reduceLT, Nat.reduceLeDiff, Nat.reducePow, Int.reduceToNat, Int.reduceLT, Int.reduceLE, Int.reduceAdd, Int.reduceSub, Int.reduceMul, Int.reduceEq, Int.reduceBEq, Int.reduceBNe, Int.reduceNeg, T_api_Region.d, T_api_Spot.d, k9, k12, k387, h454, k457, k462]
                subst hK464
                refine eb_seq ?_
                refine rb_ret ?_
                refine eb_seq_r ?_
                refine eb_blk_r ?_
                obtain rfl := Option.some.inj h
                exact eb_nil ⟨rfl, Wk.of (fun i => some i) _ _ _ (by simp -implicitDefEqProofs [upd_app, argL, envL_app, heapL_app, look, appEff, wkEnv, wkHeap, D.ren, D.ren1, D.idOk, D.idOk1, Blk.ren, Blk.idOk, T_api_Region.d, T_api_Spot.d, k9, k12, k387, k457, k462]) (by simp -implicitDefEqProofs [upd_app, argL, envL_app, heapL_app, look, appEff, wkEnv, wkHeap, D.ren, D.ren1, D.idOk, D.idOk1, Blk.ren, Blk.idOk, T_api_Region.d, T_api_Spot.d, k9, k12, k387, k457, k462])⟩
              · refine rb_false (congrArg D.bool k462) ?_
                refine rb_skip ?_
                refine eb_seq ?_
                refine rb_seq ?_
                refine rb_regionK fun K466 hK466 => ?_
                simp -implicitDefEqProofs only [vt, ↓atI_fold, forall_const, reduceIte, reduceCtorEq, Nat.reduceEqDiff, Nat.reduceAdd, Nat.reduceSub, Nat.reduceMul, Nat.reduceLT, Nat.reduceLeDiff, Nat.reducePow, Int.reduceToNat, Int.reduceLT, Int.reduceLE, Int.reduceAdd, Int.reduceSub, Int.reduceMul, Int.reduceEq, Int.reduceBEq, Int.reduceBNe, Int.reduceNeg, T_api_Region.d, T_api_Spot.d, k9, k12, k387, h454, k457, k462]
                subst hK466
                refine eb_seq ?_
                refine rb_seq ?_
                refine rb_seq ?_
                refine rb_regionK fun K468 hK468 => ?_
                simp -implicitDefEqProofs only [vt, ↓atI_fold, forall_const, reduceIte, reduceCtorEq, Nat.reduceEqDiff, Nat.reduceAdd, Nat.reduceSub, Nat.reduceMul, Nat.reduceLT, Nat.reduceLeDiff, Nat.reducePow, Int.reduceToNat, Int.reduceLT, Int.reduceLE, Int.reduceAdd, Int.reduceSub, Int.reduceMul, Int.reduceEq, Int.reduceBEq, Int.reduceBNe, Int.reduceNeg, T_api_Region.d, T_api_Spot.d, k9, k12, k387, h454, k457, k462]
                subst hK468
                refine eb_seq ?_
                rcases ite_or h with ⟨k469, h⟩ | ⟨k469, h⟩
                · refine rb_true (congrArg D.bool k469) ?_
                  refine rb_regionK fun K470 hK470 => ?_
                  simp -implicitDefEqProofs only [vt, ↓atI_fold, forall_const, reduceIte, reduceCtorEq, Nat.reduceEqDiff, Nat.reduceAdd, Nat.reduceSub, Nat.reduceMul, Nat.reduceLT, Nat.reduceLeDiff, Nat.reducePow, Int.reduceToNat, Int.reduceLT, Int.reduceLE, Int.reduceAdd, Int.reduceSub, Int.reduceMul, Int.reduceEq, Int.reduceBEq, Int.reduceBNe, Int.reduceNeg, T_api_Region.d, T_api_Spot.d, k9, k12, k387, h454, k457, k462, k469]
                  subst hK470
                  refine eb_seq ?_
                  refine rb_seq ?_
                  refine rb_seq ?_
                  refine rb_regionK fun K472 hK472 => ?_
                  simp -implicitDefEqProofs only [vt, ↓atI_fold, forall_const, reduceIte, reduceCtorEq, Nat.reduceEqDiff, Nat.reduceAdd, Nat.reduceSub, Nat.reduceMul, Nat.reduceLT, Nat.reduceLeDiff, Nat.reducePow, Int.reduceToNat, Int.reduceLT, Int.reduceLE, Int.reduceAdd, Int.reduceSub, Int.reduceMul, Int.reduceEq, Int.reduceBEq, Int.reduceBNe, Int.reduceNeg, T_api_Region.d, T_api_Spot.d, k9, k12, k387, h454, k457, k462, k469]
                  subst hK472
                  refine eb_seq ?_
                  refine rb_block ?_
                  refine rb_seq ?_
                  refine rb_regionK fun K474 hK474 => ?_
                  simp -implicitDefEqProofs only [vt, ↓atI_fold, forall_const, reduceIte, reduceCtorEq, Nat.reduceEqDiff, Nat.reduceAdd, Nat.reduceSub, Nat.reduceMul, Nat.reduceLT, Nat.reduceLeDiff, Nat.reducePow, Int.reduceToNat, Int.reduceLT, Int.reduceLE, Int.reduceAdd, Int.reduceSub, Int.reduceMul, Int.reduceEq, Int.reduceBEq, Int.reduceBNe, Int.reduceNeg, T_api_Region.d, T_api_Spot.d, k9, k12, k387, h454, k457, k462, k469]
                  subst hK474
                  refine eb_seq ?_
                  rcases ite_or h with ⟨k475, h⟩ | ⟨k475, h⟩
                  · refine rb_true (congrArg D.bool k475) ?_
                    refine rb_regionK fun K476 hK476 => ?_
                    simp -implicitDefEqProofs only [vt, ↓atI_fold, forall_const, reduceIte, reduceCtorEq, Nat.reduceEqDiff, Nat.reduceAdd, Nat.reduceSub, Nat.reduceMul, Nat.reduceLT, Nat.reduceLeDiff, Nat.reducePow, Int.reduceToNat, Int.reduceLT, Int.reduceLE, Int.reduceAdd, Int.reduceSub, Int.reduceMul, Int.reduceEq, Int.reduceBEq, Int.reduceBNe, Int.reduceNeg, T_api_Region.d, T_api_Spot.d, k9, k12, k387, h454, k457, k462, k469, k475]
                    subst hK476
                    refine eb_blk_n ?_
                    refine eb_seq ?_
                    refine rb_regionK fun K477 hK477 => ?_
                    simp -implicitDefEqProofs only [vt, ↓atI_fold, forall_const, reduceIte, reduceCtorEq, Nat.reduceEqDiff, Nat.reduceAdd, Nat.reduceSub, Nat.reduceMul, Nat.reduceLT, Nat.reduceLeDiff, Nat.reducePow, Int.reduceToNat, Int.reduceLT, Int.reduceLE, Int.reduceAdd, Int.reduceSub, Int.reduceMul, Int.reduceEq, Int.reduceBEq, Int.reduceBNe, Int.reduceNeg, T_api_Region.d, T_api_Spot.d, k9, k12, k387, h454, k457, k462, k469, k475]
                    obtain ⟨h478, h⟩ := ite_on h
                    have h479 : x19.1.length + 1 ≤ 9223372036854775807 := by omega
                    try simp only [Nat.reduceLeDiff] at h479
                    simp -implicitDefEqProofs only [vt, ↓atI_fold, forall_const, reduceIte, reduceCtorEq, Nat.reduceEqDiff, Nat.reduceAdd, Nat.reduceSub, Nat.reduceMul, Nat.reduceLT, Nat.reduceLeDiff, Nat.reducePow, Int.reduceToNat, Int.reduceLT, Int.reduceLE, Int.reduceAdd, Int.reduceSub, Int.reduceMul, Int.reduceEq, Int.reduceBEq, Int.reduceBNe, Int.reduceNeg, T_api_Region.d, T_api_Spot.d, k9, k12, k387, h454, k457, k462, k469, k475, h479, h478]
                    subst hK477
                    refine eb_blk_n ?_
                    obtain rfl := Option.some.inj h
                    exact eb_nil ⟨rfl, Wk.of (fun i => if i = 1 then some 52 else if i = 0 then some 0 else some i) _ _ _ (by simp -implicitDefEqProofs [upd_app, argL, envL_app, heapL_app, look, appEff, wkEnv, wkHeap, D.ren, D.ren1, D.idOk, D.idOk1, Blk.ren, Blk.idOk, T_api_Region.d, T_api_Spot.d, k9, k12, k387, k457, k462, k469, k475]) (by simp -implicitDefEqProofs [upd_app, argL, envL_app, heapL_app, look, appEff, wkEnv, wkHeap, D.ren, D.ren1, D.idOk, D.idOk1, Blk.ren, Blk.idOk, T_api_Region.d, T_api_Spot.d, k9, k12, k387, k457, k462, k469, k475])⟩
                  · refine rb_false (congrArg D.bool k475) ?_
                    refine rb_seq ?_
                    refine rb_regionK fun K481 hK481 => ?_
                    simp -implicitDefEqProofs only [vt, ↓atI_fold, forall_const, reduceIte, reduceCtorEq, Nat.reduceEqDiff, Nat.reduceAdd, Nat.reduceSub, Nat.reduceMul, Nat.reduceLT, Nat.reduceLeDiff, Nat.reducePow, Int.reduceToNat, Int.reduceLT, Int.reduceLE, Int.reduceAdd, Int.reduceSub, Int.reduceMul, Int.reduceEq, Int.reduceBEq, Int.reduceBNe, Int.reduceNeg, T_api_Region.d, T_api_Spot.d, k9, k12, k387, h454, k457, k462, k469, k475]
                    subst hK481
                    refine eb_seq ?_
                    rcases ite_or h with ⟨k482, h⟩ | ⟨k482, h⟩
                    · refine rb_true (congrArg D.bool k482) ?_
                      refine rb_regionK fun K483 hK483 => ?_
                      simp -implicitDefEqProofs only [vt, ↓atI_fold, forall_const, reduceIte, reduceCtorEq, Nat.reduceEqDiff, Nat.reduceAdd, Nat.reduceSub, Nat.reduceMul, Nat.reduceLT, Nat.reduceLeDiff, Nat.reducePow, Int.reduceToNat, Int.reduceLT, Int.reduceLE, Int.reduceAdd, Int.reduceSub, Int.reduceMul, Int.reduceEq, Int.reduceBEq, Int.reduceBNe, Int.reduceNeg, T_api_Region.d, T_api_Spot.d, k9, k12, k387, h454, k457, k462, k469, k475, k482]
                      subst hK483
                      refine eb_blk_n ?_
                      refine eb_seq ?_
                      refine rb_regionK fun K484 hK484 => ?_
                      simp -implicitDefEqProofs only [vt, ↓atI_fold, forall_const, reduceIte, reduceCtorEq, Nat.reduceEqDiff, Nat.reduceAdd, Nat.reduceSub, Nat.reduceMul, Nat.reduceLT, Nat.reduceLeDiff, Nat.reducePow, Int.reduceToNat, Int.reduceLT, Int.reduceLE, Int.reduceAdd, Int.reduceSub, Int.reduceMul, Int.reduceEq, Int.reduceBEq, Int.reduceBNe, Int.reduceNeg, T_api_Region.d, T_api_Spot.d, k9, k12, k387, h454, k457, k462, k469, k475, k482]
                      obtain ⟨h485, h⟩ := ite_on h
                      have h486 : x19.1.length + 1 ≤ 9223372036854775807 := by omega
                      try simp only [Nat.reduceLeDiff] at h486
                      simp -implicitDefEqProofs only [vt, ↓atI_fold, forall_const, reduceIte, reduceCtorEq, Nat.reduceEqDiff, Nat.reduceAdd, Nat.reduceSub, Nat.reduceMul, Nat.reduceLT, Nat.reduceLeDiff, Nat.reducePow, Int.reduceToNat, Int.reduceLT, Int.reduceLE, Int.reduceAdd, Int.reduceSub, Int.reduceMul, Int.reduceEq, Int.reduceBEq, Int.reduceBNe, Int.reduceNeg, T_api_Region.d, T_api_Spot.d, k9, k12, k387, h454, k457, k462, k469, k475, k482, h486, h485]
                      subst hK484
                      refine eb_blk_n ?_
                      obtain rfl := Option.some.inj h
                      exact eb_nil ⟨rfl, Wk.of (fun i => if i = 1 then some 55 else if i = 0 then some 0 else some i) _ _ _ (by simp -implicitDefEqProofs [upd_app, argL, envL_app, heapL_app, look, appEff, wkEnv, wkHeap, D.ren, D.ren1, D.idOk, D.idOk1, Blk.ren, Blk.idOk, T_api_Region.d, T_api_Spot.d, k9, k12, k387, k457, k462, k469, k475, k482]) (by simp -implicitDefEqProofs [upd_app, argL, envL_app, heapL_app, look, appEff, wkEnv, wkHeap, D.ren, D.ren1, D.idOk, D.idOk1, Blk.ren, Blk.idOk, T_api_Region.d, T_api_Spot.d, k9, k12, k387, k457, k462, k469, k475, k482])⟩
                    · refine rb_false (congrArg D.bool k482) ?_
                      refine rb_skip ?_
                      refine eb_blk_n ?_
                      refine eb_seq ?_
                      refine rb_regionK fun K487 hK487 => ?_
                      simp -implicitDefEqProofs only [vt, ↓atI_fold, forall_const, reduceIte, reduceCtorEq, Nat.reduceEqDiff, Nat.reduceAdd, Nat.reduceSub, Nat.reduceMul, Nat.reduceLT, Nat.reduceLeDiff, Nat.reducePow, Int.reduceToNat, Int.reduceLT, Int.reduceLE, Int.reduceAdd, Int.reduceSub, Int.reduceMul, Int.reduceEq, Int.reduceBEq, Int.reduceBNe, Int.reduceNeg, T_api_Region.d, T_api_Spot.d, k9, k12, k387, h454, k457, k462, k469, k475, k482]
                      obtain ⟨h488, h⟩ := ite_on h
                      have h489 : x19.1.length + 1 ≤ 9223372036854775807 := by omega
                      try simp only [Nat.reduceLeDiff] at h489
                      simp -implicitDefEqProofs only [vt, ↓atI_fold, forall_const, reduceIte, reduceCtorEq, Nat.reduceEqDiff, Nat.reduceAdd, Nat.reduceSub, Nat.reduceMul, Nat.reduceLT, Nat.reduceLeDiff, Nat.reducePow, Int.reduceToNat, Int.reduceLT, Int.reduceLE, Int.reduceAdd, Int.reduceSub, Int.reduceMul, Int.reduceEq, Int.reduceBEq, Int.reduceBNe, Int.reduceNeg, T_api_Region.d, T_api_Spot.d, k9, k12, k387, h454, k457, k462, k469, k475, k482, h489, h488]
                      subst hK487
                      refine eb_blk_n ?_
                      obtain rfl := Option.some.inj h
                      exact eb_nil ⟨rfl, Wk.of (fun i => if i = 1 then some 45 else if i = 0 then some 0 else some i) _ _ _ (by simp -implicitDefEqProofs [upd_app, argL, envL_app, heapL_app, look, appEff, wkEnv, wkHeap, D.ren, D.ren1, D.idOk, D.idOk1, Blk.ren, Blk.idOk, T_api_Region.d, T_api_Spot.d, k9, k12, k387, k457, k462, k469, k475, k482]) (by simp -implicitDefEqProofs [upd_app, argL, envL_app, heapL_app, look, appEff, wkEnv, wkHeap, D.ren, D.ren1, D.idOk, D.idOk1, Blk.ren, Blk.idOk, T_api_Region.d, T_api_Spot.d, k9, k12, k387, k457, k462, k469, k475, k482])⟩
                · refine rb_false (congrArg D.bool k469) ?_
                  refine rb_skip ?_
                  refine eb_seq ?_
                  refine rb_seq ?_
                  refine rb_seq ?_
                  refine rb_regionK fun K491 hK491 => ?_
                  simp -implicitDefEqProofs only [vt, ↓atI_fold, forall_const, reduceIte, reduceCtorEq, Nat.reduceEqDiff, Nat.reduceAdd, Nat.reduceSub, Nat.reduceMul, Nat.reduceLT, Nat.reduceLeDiff, Nat.reducePow, Int.reduceToNat, Int.reduceLT, Int.reduceLE, Int.reduceAdd, Int.reduceSub, Int.reduceMul, Int.reduceEq, Int.reduceBEq, Int.reduceBNe, Int.reduceNeg, T_api_Region.d, T_api_Spot.d, k9, k12, k387, h454, k457, k462, k469]
                  subst hK491
                  refine eb_seq ?_
                  refine rb_block ?_
                  refine rb_seq ?_
                  refine rb_regionK fun K493 hK493 => ?_
                  simp -implicitDefEqProofs only [vt, ↓atI_fold, forall_const, reduceIte, reduceCtorEq, Nat.reduceEqDiff, Nat.reduceAdd, Nat.reduceSub, Nat.reduceMul, Nat.reduceLT, Nat.reduceLeDiff, Nat.reducePow, Int.reduceToNat, Int.reduceLT, Int.reduceLE, Int.reduceAdd, Int.reduceSub, Int.reduceMul, Int.reduceEq, Int.reduceBEq, Int.reduceBNe, Int.reduceNeg, T_api_Region.d, T_api_Spot.d, k9, k12, k387, h454, k457, k462, k469]
                  subst hK493
                  refine eb_seq ?_
                  rcases ite_or h with ⟨k494, h⟩ | ⟨k494, h⟩
                  · refine rb_true (congrArg D.bool k494) ?_
                    refine rb_regionK fun K495 hK495 => ?_
                    simp -implicitDefEqProofs only [vt, ↓atI_fold, forall_const, reduceIte, reduceCtorEq, Nat.reduceEqDiff, Nat.reduceAdd, Nat.reduceSub, Nat.reduceMul, Nat.reduceLT, Nat.reduceLeDiff, Nat.reducePow, Int.reduceToNat, Int.reduceLT, Int.reduceLE, Int.reduceAdd, Int.reduceSub, Int.reduceMul, Int.reduceEq, Int.reduceBEq, Int.reduceBNe, Int.reduceNeg, T_api_Region.d, T_api_Spot.d, k9, k12, k387, h454, k457, k462, k469, k494]
                    subst hK495
                    refine eb_blk_n ?_
                    refine eb_seq ?_
                    refine rb_regionK fun K496 hK496 => ?_
                    simp -implicitDefEqProofs only [vt, ↓atI_fold, forall_const, reduceIte, reduceCtorEq, Nat.reduceEqDiff, Nat.reduceAdd, Nat.reduceSub, Nat.reduceMul, Nat.reduceLT, Nat.reduceLeDiff, Nat.reducePow, Int.reduceToNat, Int.reduceLT, Int.reduceLE, Int.reduceAdd, Int.reduceSub, Int.reduceMul, Int.reduceEq, Int.reduceBEq, Int.reduceBNe, Int.reduceNeg, T_api_Region.d, T_api_Spot.d, k9, k12, k387, h454, k457, k462, k469, k494]
                    obtain ⟨h497, h⟩ := ite_on h
                    have h498 : x19.1.length + 1 ≤ 9223372036854775807 := by omega
                    try simp only [Nat.reduceLeDiff] at h498
                    simp -implicitDefEqProofs only [vt, ↓atI_fold, forall_const, reduceIte, reduceCtorEq, Nat.reduceEqDiff, Nat.reduceAdd, Nat.reduceSub, Nat.reduceMul, Nat.reduceLT, Nat.reduceLeDiff, Nat.reducePow, Int.reduceToNat, Int.reduceLT, Int.reduceLE, Int.reduceAdd, Int.reduceSub, Int.reduceMul, Int.reduceEq, Int.reduceBEq, Int.reduceBNe, Int.reduceNeg, T_api_Region.d, T_api_Spot.d, k9, k12, k387, h454, k457, k462, k469, k494, h498, h497]
                    subst hK496
                    refine eb_blk_n ?_
                    obtain rfl := Option.some.inj h
                    exact eb_nil ⟨rfl, Wk.of (fun i => if i = 1 then some 42 else if i = 0 then some 0 else some i) _ _ _ (by simp -implicitDefEqProofs [upd_app, argL, envL_app, heapL_app, look, appEff, wkEnv, wkHeap, D.ren, D.ren1, D.idOk, D.idOk1, Blk.ren, Blk.idOk, T_api_Region.d, T_api_Spot.d, k9, k12, k387, k457, k462, k469, k494]) (by simp -implicitDefEqProofs [upd_app, argL, envL_app, heapL_app, look, appEff, wkEnv, wkHeap, D.ren, D.ren1, D.idOk, D.idOk1, Blk.ren, Blk.idOk, T_api_Region.d, T_api_Spot.d, k9, k12, k387, k457, k462, k469, k494])⟩
                  · refine rb_false (congrArg D.bool k494) ?_
                    refine rb_seq ?_
                    refine rb_regionK fun K500 hK500 => ?_
                    simp -implicitDefEqProofs only [vt, ↓atI_fold, forall_const, reduceIte, reduceCtorEq, Nat.reduceEqDiff, Nat.reduceAdd, Nat.reduceSub, Nat.reduceMul, Nat.reduceLT, Nat.reduceLeDiff, Nat.reducePow, Int.reduceToNat, Int.reduceLT, Int.reduceLE, Int.reduceAdd, Int.reduceSub, Int.reduceMul, Int.reduceEq, Int.reduceBEq, Int.reduceBNe, Int.reduceNeg, T_api_Region.d, T_api_Spot.d, k9, k12, k387, h454, k457, k462, k469, k494]
                    subst hK500
                    refine eb_seq ?_
                    rcases ite_or h with ⟨k501, h⟩ | ⟨k501, h⟩
                    · refine rb_true (congrArg D.bool k501) ?_
                      refine rb_regionK fun K502 hK502 => ?_
                      simp -implicitDefEqProofs only [vt, ↓atI_fold, forall_const, reduceIte, reduceCtorEq, Nat.reduceEqDiff, Nat.reduceAdd, Nat.reduceSub, Nat.reduceMul, Nat.reduceLT, Nat.reduceLeDiff, Nat.reducePow, Int.reduceToNat, Int.reduceLT, Int.reduceLE, Int.reduceAdd, Int.reduceSub, Int.reduceMul, Int.reduceEq, Int.reduceBEq, Int.reduceBNe, Int.reduceNeg, T_api_Region.d, T_api_Spot.d, k9, k12, k387, h454, k457, k462, k469, k494, k501]
                      subst hK502
                      refine eb_blk_n ?_
                      refine eb_seq ?_
                      refine rb_regionK fun K503 hK503 => ?_
                      simp -implicitDefEqProofs only [vt, ↓atI_fold, forall_const, reduceIte, reduceCtorEq, Nat.reduceEqDiff, Nat.reduceAdd, Nat.reduceSub, Nat.reduceMul, Nat.reduceLT, Nat.reduceLeDiff, Nat.reducePow, Int.reduceToNat, Int.reduceLT, Int.reduceLE, Int.reduceAdd, Int.reduceSub, Int.reduceMul, Int.reduceEq, Int.reduceBEq, Int.reduceBNe, Int.reduceNeg, T_api_Region.d, T_api_Spot.d, k9, k12, k387, h454, k457, k462, k469, k494, k501]
                      obtain ⟨h504, h⟩ := ite_on h
                      have h505 : x19.1.length + 1 ≤ 9223372036854775807 := by omega
                      try simp only [Nat.reduceLeDiff] at h505
                      simp -implicitDefEqProofs only [vt, ↓atI_fold, forall_const, reduceIte, reduceCtorEq, Nat.reduceEqDiff, Nat.reduceAdd, Nat.reduceSub, Nat.reduceMul, Nat.reduceLT, Nat.reduceLeDiff, Nat.reducePow, Int.reduceToNat, Int.reduceLT, Int.reduceLE, Int.reduceAdd, Int.reduceSub, Int.reduceMul, Int.reduceEq, Int.reduceBEq, Int.reduceBNe, Int.reduceNeg, T_api_Region.d, T_api_Spot.d, k9, k12, k387, h454, k457, k462, k469, k494, k501, h505, h504]
                      subst hK503
                      refine eb_blk_n ?_
                      obtain rfl := Option.some.inj h
                      exact eb_nil ⟨rfl, Wk.of (fun i => if i = 1 then some 45 else if i = 0 then some 0 else some i) _ _ _ (by simp -implicitDefEqProofs [upd_app, argL, envL_app, heapL_app, look, appEff, wkEnv, wkHeap, D.ren, D.ren1, D.idOk, D.idOk1, Blk.ren, Blk.idOk, T_api_Region.d, T_api_Spot.d, k9, k12, k387, k457, k462, k469, k494, k501]) (by simp -implicitDefEqProofs [upd_app, argL, envL_app, heapL_app, look, appEff, wkEnv, wkHeap, D.ren, D.ren1, D.idOk, D.idOk1, Blk.ren, Blk.idOk, T_api_Region.d, T_api_Spot.d, k9, k12, k387, k457, k462, k469, k494, k501])⟩
                    · refine rb_false (congrArg D.bool k501) ?_
                      refine rb_skip ?_
                      refine eb_blk_n ?_
                      refine eb_seq ?_
                      refine rb_regionK fun K506 hK506 => ?_
                      simp -implicitDefEqProofs only [vt, ↓atI_fold, forall_const, reduceIte, reduceCtorEq, Nat.reduceEqDiff, Nat.reduceAdd, Nat.reduceSub, Nat.reduceMul, Nat.reduceLT, Nat.reduceLeDiff, Nat.reducePow, Int.reduceToNat, Int.reduceLT, Int.reduceLE, Int.reduceAdd, Int.reduceSub, Int.reduceMul, Int.reduceEq, Int.reduceBEq, Int.reduceBNe, Int.reduceNeg, T_api_Region.d, T_api_Spot.d, k9, k12, k387, h454, k457, k462, k469, k494, k501]
                      obtain ⟨h507, h⟩ := ite_on h
                      have h508 : x19.1.length + 1 ≤ 9223372036854775807 := by omega
                      try simp only [Nat.reduceLeDiff] at h508
                      simp -implicitDefEqProofs only [vt, ↓atI_fold, forall_const, reduceIte, reduceCtorEq, Nat.reduceEqDiff, Nat.reduceAdd, Nat.reduceSub, Nat.reduceMul, Nat.reduceLT, Nat.reduceLeDiff, Nat.reducePow, Int.reduceToNat, Int.reduceLT, Int.reduceLE, Int.reduceAdd, Int.reduceSub, Int.reduceMul, Int.reduceEq, Int.reduceBEq, Int.reduceBNe, Int.reduceNeg, T_api_Region.d, T_api_Spot.d, k9, k12, k387, h454, k457, k462, k469, k494, k501, h508, h507]
                      subst hK506
                      refine eb_blk_n ?_
                      obtain rfl := Option.some.inj h
                      exact eb_nil ⟨rfl, Wk.of (fun i => if i = 1 then some 35 else if i = 0 then some 0 else some i) _ _ _ (by simp -implicitDefEqProofs [upd_app, argL, envL_app, heapL_app, look, appEff, wkEnv, wkHeap, D.ren, D.ren1, D.idOk, D.idOk1, Blk.ren, Blk.idOk, T_api_Region.d, T_api_Spot.d, k9, k12, k387, k457, k462, k469, k494, k501]) (by simp -implicitDefEqProofs [upd_app, argL, envL_app, heapL_app, look, appEff, wkEnv, wkHeap, D.ren, D.ren1, D.idOk, D.idOk1, Blk.ren, Blk.idOk, T_api_Region.d, T_api_Spot.d, k9, k12, k387, k457, k462, k469, k494, k501])⟩
          · rintro v448 rfl
            dsimp only at h
            refine rb_regionK fun K512 hK512 => ?_
            simp -implicitDefEqProofs only [vt, ↓atI_fold, forall_const, reduceIte, reduceCtorEq, Nat.reduceEqDiff, Nat.reduceAdd, Nat.reduceSub, Nat.reduceMul, Nat.reduceLT, Nat.reduceLeDiff, Nat.reducePow, Int.reduceToNat, Int.reduceLT, Int.reduceLE, Int.reduceAdd, Int.reduceSub, Int.reduceMul, Int.reduceEq, Int.reduceBEq, Int.reduceBNe, Int.reduceNeg, T_api_Region.d, T_api_Spot.d, k9, k12, k387]
            subst hK512
            obtain rfl := Option.some.inj h
            exact eb_nil ⟨rfl, Wk.of (fun i => if i = 1 then some 1 else if i = 0 then some 0 else some i) _ _ _ (by simp -implicitDefEqProofs [upd_app, argL, envL_app, heapL_app, look, appEff, wkEnv, wkHeap, D.ren, D.ren1, D.idOk, D.idOk1, Blk.ren, Blk.idOk, T_api_Region.d, T_api_Spot.d, k9, k12, k387]) (by simp -implicitDefEqProofs [upd_app, argL, envL_app, heapL_app, look, appEff, wkEnv, wkHeap, D.ren, D.ren1, D.idOk, D.idOk1, Blk.ren, Blk.idOk, T_api_Region.d, T_api_Spot.d, k9, k12, k387])⟩
          · rintro e511 rfl
            dsimp only at h
            obtain rfl := Option.some.inj h
            exact eb_nil ⟨rfl, Wk.of (fun i => some i) _ _ _ (by simp -implicitDefEqProofs [upd_app, argL, envL_app, heapL_app, look, appEff, wkEnv, wkHeap, D.ren, D.ren1, D.idOk, D.idOk1, Blk.ren, Blk.idOk, T_api_Region.d, T_api_Spot.d, k9, k12, k387]) (by simp -implicitDefEqProofs [upd_app, argL, envL_app, heapL_app, look, appEff, wkEnv, wkHeap, D.ren, D.ren1, D.idOk, D.idOk1, Blk.ren, Blk.idOk, T_api_Region.d, T_api_Spot.d, k9, k12, k387])⟩
        · refine rb_false (congrArg D.bool k387) ?_
          refine rb_exit ?_
          refine eb_seq_e ?_
          obtain rfl := Option.some.inj h
          exact eb_nil ⟨rfl, Wk.of (fun i => if i = 0 then some 1 else some i) _ _ _ (by simp -implicitDefEqProofs [upd_app, argL, envL_app, heapL_app, look, appEff, wkEnv, wkHeap, D.ren, D.ren1, D.idOk, D.idOk1, Blk.ren, Blk.idOk, T_api_Region.d, T_api_Spot.d, k9, k12, k387]) (by simp -implicitDefEqProofs [upd_app, argL, envL_app, heapL_app, look, appEff, wkEnv, wkHeap, D.ren, D.ren1, D.idOk, D.idOk1, Blk.ren, Blk.idOk, T_api_Region.d, T_api_Spot.d, k9, k12, k387])⟩
      · rcases e20 with e20 | e20
        · try dsimp only at h ⊢
          refine eb_blk_r ?_
          refine eb_seq_r ?_
          obtain rfl := Option.some.inj h
          refine eb_nil ?_
          simp -implicitDefEqProofs only [vt, ↓atI_fold, forall_const, reduceIte, reduceCtorEq, Nat.reduceEqDiff, Nat.reduceAdd, Nat.reduceSub, Nat.reduceMul, Nat.reduceLT, Nat.reduceLeDiff, Nat.reducePow, Int.reduceToNat, Int.reduceLT, Int.reduceLE, Int.reduceAdd, Int.reduceSub, Int.reduceMul, Int.reduceEq, Int.reduceBEq, Int.reduceBNe, Int.reduceNeg, retQ_r, Tryd.results27, T_api_Region.d, T_api_Spot.d, k9, k12] <;> first | rfl | (simp [List.map_append, T_api_Region.d, T_api_Spot.d]; done)
        · try dsimp only at h ⊢
          refine eb_blk_hit ?_
          refine eb_seq ?_
          refine rb_seq ?_
          refine rb_regionK fun K515 hK515 => ?_
          simp -implicitDefEqProofs only [vt, ↓atI_fold, forall_const, reduceIte, reduceCtorEq, Nat.reduceEqDiff, Nat.reduceAdd, Nat.reduceSub, Nat.reduceMul, Nat.reduceLT, Nat.reduceLeDiff, Nat.reducePow, Int.reduceToNat, Int.reduceLT, Int.reduceLE, Int.reduceAdd, Int.reduceSub, Int.reduceMul, Int.reduceEq, Int.reduceBEq, Int.reduceBNe, Int.reduceNeg, T_api_Region.d, T_api_Spot.d, k9, k12]
          subst hK515
          refine eb_seq ?_
          refine rb_ret ?_
          obtain rfl := Option.some.inj h
          refine eb_nil ?_
          simp -implicitDefEqProofs only [vt, ↓atI_fold, forall_const, reduceIte, reduceCtorEq, Nat.reduceEqDiff, Nat.reduceAdd, Nat.reduceSub, Nat.reduceMul, Nat.reduceLT, Nat.reduceLeDiff, Nat.reducePow, Int.reduceToNat, Int.reduceLT, Int.reduceLE, Int.reduceAdd, Int.reduceSub, Int.reduceMul, Int.reduceEq, Int.reduceBEq, Int.reduceBNe, Int.reduceNeg, retQ_r, Tryd.results27, T_api_Region.d, T_api_Spot.d, k9, k12] <;> first | rfl | (simp [List.map_append, T_api_Region.d, T_api_Spot.d]; done)
  · refine rb_true (congrArg D.bool (congrArg Bool.not k9)) ?_
    refine rb_seq ?_
    refine rb_regionK fun K517 hK517 => ?_
    simp -implicitDefEqProofs only [vt, ↓atI_fold, forall_const, reduceIte, reduceCtorEq, Nat.reduceEqDiff, Nat.reduceAdd, Nat.reduceSub, Nat.reduceMul, Nat.reduceLT, Nat.reduceLeDiff, Nat.reducePow, Int.reduceToNat, Int.reduceLT, Int.reduceLE, Int.reduceAdd, Int.reduceSub, Int.reduceMul, Int.reduceEq, Int.reduceBEq, Int.reduceBNe, Int.reduceNeg, T_api_Region.d, T_api_Spot.d, k9]
    subst hK517
    refine eb_seq ?_
    refine rb_ret ?_
    refine eb_seq_r ?_
    obtain rfl := Option.some.inj h
    refine eb_nil ?_
    simp -implicitDefEqProofs only [vt, ↓atI_fold, forall_const, reduceIte, reduceCtorEq, Nat.reduceEqDiff, Nat.reduceAdd, Nat.reduceSub, Nat.reduceMul, Nat.reduceLT, Nat.reduceLeDiff, Nat.reducePow, Int.reduceToNat, Int.reduceLT, Int.reduceLE, Int.reduceAdd, Int.reduceSub, Int.reduceMul, Int.reduceEq, Int.reduceBEq, Int.reduceBNe, Int.reduceNeg, retQ_r, Tryd.results27, T_api_Region.d, T_api_Spot.d, k9] <;> first | rfl | (simp [List.map_append, T_api_Region.d, T_api_Spot.d]; done)
end Go.Proofs.YtncmdhkmbmkiiaaDoor
