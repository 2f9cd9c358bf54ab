/- What some functions compute, read off their texts by a program of mine (gen.py): definitions, and contracts (the text computes it). No condition but that the definition answers. -/
import Derived.Test.YtncmdhkmbmkiiaaDoorGM
namespace Go.Proofs.YtncmdhkmbmkiiaaDoor
open Go.RowKit
set_option maxRecDepth 100000
set_option linter.unusedVariables false
set_option linter.unusedSimpArgs false
set_option maxHeartbeats 10000000
structure T_api_Region where
  Name : List UInt8
  Top : Int
  Height : Int
  Left : Int
  Width : Int
  Align : Int
  Bottom : Bool
  deriving DecidableEq
def T_api_Region.d (x : T_api_Region) : D := .agg [.str x.Name, .int .i64 x.Top, .int .i64 x.Height, .int .i64 x.Left, .int .i64 x.Width, .int .u8 x.Align, .bool x.Bottom]
-- lines.Name
def g_lines_Name_s1 (s_0 : List UInt8) (x22 : Int) : Option (Nx (Int) (Unit ⊕ Unit)) :=
  (if (decide (x22 < (s_0.length : Int))) then ((atI s_0 x22).bind fun b144 => (((if (decide ((b144.toNat : Int) < 65)) then (if (decide ((b144.toNat : Int) < 48)) then (if ((b144.toNat : Int) != 95) then (some ((b144.toNat : Int) != 45)) else (some false)) else (if (decide (57 < (b144.toNat : Int))) then (if ((b144.toNat : Int) != 95) then (some ((b144.toNat : Int) != 45)) else (some false)) else (some false))) else (if (decide (90 < (b144.toNat : Int))) then (if (decide ((b144.toNat : Int) < 48)) then (if ((b144.toNat : Int) != 95) then (some ((b144.toNat : Int) != 45)) else (some false)) else (if (decide (57 < (b144.toNat : Int))) then (if ((b144.toNat : Int) != 95) then (some ((b144.toNat : Int) != 45)) else (some false)) else (some false))) else (some false))) : Option (Bool)).bind fun v157 => (if v157 then (some (.out (.inl ()))) else (some (.go (IntKind.i64.wrap (x22 + 1))))))) else (some (.out (.inr ()))))
def g_lines_Name (s_0 : List UInt8) : Option (Bool) :=
  (((if (decide ((s_0.length : Int) < 1)) then (some true) else (if (decide (16 < (s_0.length : Int))) then (some true) else ((atI s_0 0).bind fun b13 => (if (decide ((b13.toNat : Int) < 65)) then (some true) else (some (decide (90 < (b13.toNat : Int)))))))) : Option (Bool)).bind fun v9 => (if v9 then (some false) else ((iter (g_lines_Name_s1 s_0) 0).bind fun e23 => (match e23 with | Sum.inl e23 => (some false) | Sum.inr (e23) => (some true)))))
theorem a_lines_Name (I : World → Prop) (hI : Stab I) (s_0 : List UInt8) {r : Bool} (h : g_lines_Name s_0 = some r) : AFun Tryd.prog I 51 [.str s_0] (.bool r) := by
  refine AFun.enterB hI Tryd.func51 rfl (by decide) (by simp [Tryd.f51]) (by kernel_rfl) ?_
  unfold g_lines_Name at h
  simp only [S0, Tryd.ntmps51]
  refine rb_seq ?_
  refine rb_regionK fun K2 hK2 => ?_
  simp -implicitDefEqProofs only [vt, ↓atI_fold, forall_const, reduceIte, reduceCtorEq, Nat.reduceEqDiff, Nat.reduceAdd, Nat.reduceSub, Nat.reduceMul, Nat.reduceLT, Nat.reduceLeDiff, Nat.reducePow, Int.reduceToNat, Int.reduceLT, Int.reduceLE, Int.reduceAdd, Int.reduceSub, Int.reduceMul, Int.reduceEq, Int.reduceBEq, Int.reduceBNe, Int.reduceNeg]
  subst hK2
  refine eb_seq ?_
  refine rb_seq ?_
  obtain ⟨v9, h16, h⟩ := bind_some h
  refine rb_cut (fun v9 => ⟨envL [(0, .str s_0), (22, .bool v9)], heapL [], 0, 54⟩) h16 ?_ ?_
  · clear h
    intro v9 h
    refine rb_regionK fun K10 hK10 => ?_
    simp -implicitDefEqProofs only [vt, ↓atI_fold, forall_const, reduceIte, reduceCtorEq, Nat.reduceEqDiff, Nat.reduceAdd, Nat.reduceSub, Nat.reduceMul, Nat.reduceLT, Nat.reduceLeDiff, Nat.reducePow, Int.reduceToNat, Int.reduceLT, Int.reduceLE, Int.reduceAdd, Int.reduceSub, Int.reduceMul, Int.reduceEq, Int.reduceBEq, Int.reduceBNe, Int.reduceNeg]
    rcases ite_or h with ⟨k11, h⟩ | ⟨k11, h⟩
    · simp -implicitDefEqProofs only [vt, ↓atI_fold, forall_const, reduceIte, reduceCtorEq, Nat.reduceEqDiff, Nat.reduceAdd, Nat.reduceSub, Nat.reduceMul, Nat.reduceLT, Nat.reduceLeDiff, Nat.reducePow, Int.reduceToNat, Int.reduceLT, Int.reduceLE, Int.reduceAdd, Int.reduceSub, Int.reduceMul, Int.reduceEq, Int.reduceBEq, Int.reduceBNe, Int.reduceNeg, k11]
      subst hK10
      obtain rfl := Option.some.inj h
      exact eb_nil ⟨rfl, Wk.of (fun i => some i) _ _ _ (by simp -implicitDefEqProofs [upd_app, argL, envL_app, heapL_app, look, appEff, wkEnv, wkHeap, D.ren, D.ren1, D.idOk, D.idOk1, Blk.ren, Blk.idOk, k11]) (by simp -implicitDefEqProofs [upd_app, argL, envL_app, heapL_app, look, appEff, wkEnv, wkHeap, D.ren, D.ren1, D.idOk, D.idOk1, Blk.ren, Blk.idOk, k11])⟩
    · simp -implicitDefEqProofs only [vt, ↓atI_fold, forall_const, reduceIte, reduceCtorEq, Nat.reduceEqDiff, Nat.reduceAdd, Nat.reduceSub, Nat.reduceMul, Nat.reduceLT, Nat.reduceLeDiff, Nat.reducePow, Int.reduceToNat, Int.reduceLT, Int.reduceLE, Int.reduceAdd, Int.reduceSub, Int.reduceMul, Int.reduceEq, Int.reduceBEq, Int.reduceBNe, Int.reduceNeg, k11]
      rcases ite_or h with ⟨k12, h⟩ | ⟨k12, h⟩
      · simp -implicitDefEqProofs only [vt, ↓atI_fold, forall_const, reduceIte, reduceCtorEq, Nat.reduceEqDiff, Nat.reduceAdd, Nat.reduceSub, Nat.reduceMul, Nat.reduceLT, Nat.reduceLeDiff, Nat.reducePow, Int.reduceToNat, Int.reduceLT, Int.reduceLE, Int.reduceAdd, Int.reduceSub, Int.reduceMul, Int.reduceEq, Int.reduceBEq, Int.reduceBNe, Int.reduceNeg, k11, k12]
        subst hK10
        obtain rfl := Option.some.inj h
        exact eb_nil ⟨rfl, Wk.of (fun i => some i) _ _ _ (by simp -implicitDefEqProofs [upd_app, argL, envL_app, heapL_app, look, appEff, wkEnv, wkHeap, D.ren, D.ren1, D.idOk, D.idOk1, Blk.ren, Blk.idOk, k11, k12]) (by simp -implicitDefEqProofs [upd_app, argL, envL_app, heapL_app, look, appEff, wkEnv, wkHeap, D.ren, D.ren1, D.idOk, D.idOk1, Blk.ren, Blk.idOk, k11, k12])⟩
      · simp -implicitDefEqProofs only [vt, ↓atI_fold, forall_const, reduceIte, reduceCtorEq, Nat.reduceEqDiff, Nat.reduceAdd, Nat.reduceSub, Nat.reduceMul, Nat.reduceLT, Nat.reduceLeDiff, Nat.reducePow, Int.reduceToNat, Int.reduceLT, Int.reduceLE, Int.reduceAdd, Int.reduceSub, Int.reduceMul, Int.reduceEq, Int.reduceBEq, Int.reduceBNe, Int.reduceNeg, k11, k12]
        obtain ⟨b13, h14, h⟩ := bind_some h
        simp -implicitDefEqProofs only [vt, ↓atI_fold, forall_const, reduceIte, reduceCtorEq, Nat.reduceEqDiff, Nat.reduceAdd, Nat.reduceSub, Nat.reduceMul, Nat.reduceLT, Nat.reduceLeDiff, Nat.reducePow, Int.reduceToNat, Int.reduceLT, Int.reduceLE, Int.reduceAdd, Int.reduceSub, Int.reduceMul, Int.reduceEq, Int.reduceBEq, Int.reduceBNe, Int.reduceNeg, k11, k12, h14]
        rcases ite_or h with ⟨k15, h⟩ | ⟨k15, h⟩
        · simp -implicitDefEqProofs only [vt, ↓atI_fold, forall_const, reduceIte, reduceCtorEq, Nat.reduceEqDiff, Nat.reduceAdd, Nat.reduceSub, Nat.reduceMul, Nat.reduceLT, Nat.reduceLeDiff, Nat.reducePow, Int.reduceToNat, Int.reduceLT, Int.reduceLE, Int.reduceAdd, Int.reduceSub, Int.reduceMul, Int.reduceEq, Int.reduceBEq, Int.reduceBNe, Int.reduceNeg, k11, k12, h14, k15]
          subst hK10
          obtain rfl := Option.some.inj h
          exact eb_nil ⟨rfl, Wk.of (fun i => some i) _ _ _ (by simp -implicitDefEqProofs [upd_app, argL, envL_app, heapL_app, look, appEff, wkEnv, wkHeap, D.ren, D.ren1, D.idOk, D.idOk1, Blk.ren, Blk.idOk, k11, k12, k15]) (by simp -implicitDefEqProofs [upd_app, argL, envL_app, heapL_app, look, appEff, wkEnv, wkHeap, D.ren, D.ren1, D.idOk, D.idOk1, Blk.ren, Blk.idOk, k11, k12, k15])⟩
        · simp -implicitDefEqProofs only [vt, ↓atI_fold, forall_const, reduceIte, reduceCtorEq, Nat.reduceEqDiff, Nat.reduceAdd, Nat.reduceSub, Nat.reduceMul, Nat.reduceLT, Nat.reduceLeDiff, Nat.reducePow, Int.reduceToNat, Int.reduceLT, Int.reduceLE, Int.reduceAdd, Int.reduceSub, Int.reduceMul, Int.reduceEq, Int.reduceBEq, Int.reduceBNe, Int.reduceNeg, k11, k12, h14, k15]
          subst hK10
          obtain rfl := Option.some.inj h
          exact eb_nil ⟨rfl, Wk.of (fun i => some i) _ _ _ (by simp -implicitDefEqProofs [upd_app, argL, envL_app, heapL_app, look, appEff, wkEnv, wkHeap, D.ren, D.ren1, D.idOk, D.idOk1, Blk.ren, Blk.idOk, k11, k12, k15]) (by simp -implicitDefEqProofs [upd_app, argL, envL_app, heapL_app, look, appEff, wkEnv, wkHeap, D.ren, D.ren1, D.idOk, D.idOk1, Blk.ren, Blk.idOk, k11, k12, k15])⟩
  · rcases ite_or h with ⟨k17, h⟩ | ⟨k17, h⟩
    · refine rb_true (congrArg D.bool k17) ?_
      refine rb_seq ?_
      refine rb_regionK fun K19 hK19 => ?_
      simp -implicitDefEqProofs only [vt, ↓atI_fold, forall_const, reduceIte, reduceCtorEq, Nat.reduceEqDiff, Nat.reduceAdd, Nat.reduceSub, Nat.reduceMul, Nat.reduceLT, Nat.reduceLeDiff, Nat.reducePow, Int.reduceToNat, Int.reduceLT, Int.reduceLE, Int.reduceAdd, Int.reduceSub, Int.reduceMul, Int.reduceEq, Int.reduceBEq, Int.reduceBNe, Int.reduceNeg, k17]
      subst hK19
      refine eb_seq ?_
      refine rb_ret ?_
      refine eb_seq_r ?_
      obtain rfl := Option.some.inj h
      refine eb_nil ?_
      simp -implicitDefEqProofs only [vt, ↓atI_fold, forall_const, reduceIte, reduceCtorEq, Nat.reduceEqDiff, Nat.reduceAdd, Nat.reduceSub, Nat.reduceMul, Nat.reduceLT, Nat.reduceLeDiff, Nat.reducePow, Int.reduceToNat, Int.reduceLT, Int.reduceLE, Int.reduceAdd, Int.reduceSub, Int.reduceMul, Int.reduceEq, Int.reduceBEq, Int.reduceBNe, Int.reduceNeg, retQ_r, Tryd.results51, k17] <;> first | rfl | (simp [List.map_append]; done)
    · refine rb_false (congrArg D.bool k17) ?_
      refine rb_skip ?_
      refine eb_seq ?_
      refine rb_seq ?_
      refine rb_seq ?_
      refine rb_regionK fun K21 hK21 => ?_
      simp -implicitDefEqProofs only [vt, ↓atI_fold, forall_const, reduceIte, reduceCtorEq, Nat.reduceEqDiff, Nat.reduceAdd, Nat.reduceSub, Nat.reduceMul, Nat.reduceLT, Nat.reduceLeDiff, Nat.reducePow, Int.reduceToNat, Int.reduceLT, Int.reduceLE, Int.reduceAdd, Int.reduceSub, Int.reduceMul, Int.reduceEq, Int.reduceBEq, Int.reduceBNe, Int.reduceNeg, k17]
      subst hK21
      refine eb_seq ?_
      refine rb_block ?_
      obtain ⟨e23, h174, h⟩ := bind_some h
      refine rb_loop (fun x22 => ⟨envL [(0, .str s_0), (24, .int .i64 (s_0.length : Int)), (25, .int .i64 x22)], heapL [], 0, 54⟩) (fun w => match w with | Sum.inl _ => .ret | Sum.inr (_) => .exit 0) (fun w => match w with | Sum.inl e23 => ⟨envL [(2, .bool false)], heapL [], 0, 54⟩ | Sum.inr (e23) => ⟨envL [], heapL [], 0, 54⟩) h174 (Wk.of (fun i => some i) _ _ _ (by simp -implicitDefEqProofs [upd_app, argL, envL_app, heapL_app, look, appEff, wkEnv, wkHeap, D.ren, D.ren1, D.idOk, D.idOk1, Blk.ren, Blk.idOk, k17]) (by simp -implicitDefEqProofs [upd_app, argL, envL_app, heapL_app, look, appEff, wkEnv, wkHeap, D.ren, D.ren1, D.idOk, D.idOk1, Blk.ren, Blk.idOk, k17])) (by intro w; rcases w with w | w <;> simp) ?_ ?_
      · clear h
        intro x22 y h
        unfold g_lines_Name_s1 at h
        refine rb_seq ?_
        refine rb_regionK fun K100 hK100 => ?_
        simp -implicitDefEqProofs only [vt, ↓atI_fold, forall_const, reduceIte, reduceCtorEq, Nat.reduceEqDiff, Nat.reduceAdd, Nat.reduceSub, Nat.reduceMul, Nat.reduceLT, Nat.reduceLeDiff, Nat.reducePow, Int.reduceToNat, Int.reduceLT, Int.reduceLE, Int.reduceAdd, Int.reduceSub, Int.reduceMul, Int.reduceEq, Int.reduceBEq, Int.reduceBNe, Int.reduceNeg, k17]
        subst hK100
        refine eb_seq ?_
        refine rb_seq ?_
        rcases ite_or h with ⟨k102, h⟩ | ⟨k102, h⟩
        · refine rb_true (congrArg D.bool k102) ?_
          refine rb_skip ?_
          refine eb_seq ?_
          refine rb_seq ?_
          refine rb_block ?_
          refine rb_seq ?_
          refine rb_regionK fun K139 hK139 => ?_
          simp -implicitDefEqProofs only [vt, ↓atI_fold, forall_const, reduceIte, reduceCtorEq, Nat.reduceEqDiff, Nat.reduceAdd, Nat.reduceSub, Nat.reduceMul, Nat.reduceLT, Nat.reduceLeDiff, Nat.reducePow, Int.reduceToNat, Int.reduceLT, Int.reduceLE, Int.reduceAdd, Int.reduceSub, Int.reduceMul, Int.reduceEq, Int.reduceBEq, Int.reduceBNe, Int.reduceNeg, k17, k102]
          subst hK139
          refine eb_seq ?_
          refine rb_seq ?_
          refine rb_regionK fun K143 hK143 => ?_
          simp -implicitDefEqProofs only [vt, ↓atI_fold, forall_const, reduceIte, reduceCtorEq, Nat.reduceEqDiff, Nat.reduceAdd, Nat.reduceSub, Nat.reduceMul, Nat.reduceLT, Nat.reduceLeDiff, Nat.reducePow, Int.reduceToNat, Int.reduceLT, Int.reduceLE, Int.reduceAdd, Int.reduceSub, Int.reduceMul, Int.reduceEq, Int.reduceBEq, Int.reduceBNe, Int.reduceNeg, k17, k102]
          obtain ⟨b144, h145, h⟩ := bind_some h
          simp -implicitDefEqProofs only [vt, ↓atI_fold, forall_const, reduceIte, reduceCtorEq, Nat.reduceEqDiff, Nat.reduceAdd, Nat.reduceSub, Nat.reduceMul, Nat.reduceLT, Nat.reduceLeDiff, Nat.reducePow, Int.reduceToNat, Int.reduceLT, Int.reduceLE, Int.reduceAdd, Int.reduceSub, Int.reduceMul, Int.reduceEq, Int.reduceBEq, Int.reduceBNe, Int.reduceNeg, k17, k102, h145]
          subst hK143
          refine eb_seq ?_
          obtain ⟨v157, h169, h⟩ := bind_some h
          refine rb_cut (fun v157 => ⟨envL [(0, .str s_0), (24, .int .i64 (s_0.length : Int)), (25, .int .i64 x22), (52, .bool v157)], heapL [], 0, 54⟩) h169 ?_ ?_
          · clear h
            intro v157 h
            refine rb_regionK fun K158 hK158 => ?_
            simp -implicitDefEqProofs only [vt, ↓atI_fold, forall_const, reduceIte, reduceCtorEq, Nat.reduceEqDiff, Nat.reduceAdd, Nat.reduceSub, Nat.reduceMul, Nat.reduceLT, Nat.reduceLeDiff, Nat.reducePow, Int.reduceToNat, Int.reduceLT, Int.reduceLE, Int.reduceAdd, Int.reduceSub, Int.reduceMul, Int.reduceEq, Int.reduceBEq, Int.reduceBNe, Int.reduceNeg, k17, k102, h145]
            rcases ite_or h with ⟨k159, h⟩ | ⟨k159, h⟩
            · simp -implicitDefEqProofs only [vt, ↓atI_fold, forall_const, reduceIte, reduceCtorEq, Nat.reduceEqDiff, Nat.reduceAdd, Nat.reduceSub, Nat.reduceMul, Nat.reduceLT, Nat.reduceLeDiff, Nat.reducePow, Int.reduceToNat, Int.reduceLT, Int.reduceLE, Int.reduceAdd, Int.reduceSub, Int.reduceMul, Int.reduceEq, Int.reduceBEq, Int.reduceBNe, Int.reduceNeg, k17, k102, h145, k159]
              rcases ite_or h with ⟨k160, h⟩ | ⟨k160, h⟩
              · simp -implicitDefEqProofs only [vt, ↓atI_fold, forall_const, reduceIte, reduceCtorEq, Nat.reduceEqDiff, Nat.reduceAdd, Nat.reduceSub, Nat.reduceMul, Nat.reduceLT, Nat.reduceLeDiff, Nat.reducePow, Int.reduceToNat, Int.reduceLT, Int.reduceLE, Int.reduceAdd, Int.reduceSub, Int.reduceMul, Int.reduceEq, Int.reduceBEq, Int.reduceBNe, Int.reduceNeg, k17, k102, h145, k159, k160]
                rcases ite_or h with ⟨k161, h⟩ | ⟨k161, h⟩
                · simp -implicitDefEqProofs only [vt, ↓atI_fold, forall_const, reduceIte, reduceCtorEq, Nat.reduceEqDiff, Nat.reduceAdd, Nat.reduceSub, Nat.reduceMul, Nat.reduceLT, Nat.reduceLeDiff, Nat.reducePow, Int.reduceToNat, Int.reduceLT, Int.reduceLE, Int.reduceAdd, Int.reduceSub, Int.reduceMul, Int.reduceEq, Int.reduceBEq, Int.reduceBNe, Int.reduceNeg, k17, k102, h145, k159, k160, k161]
                  subst hK158
                  obtain rfl := Option.some.inj h
                  exact eb_nil ⟨rfl, Wk.of (fun i => some i) _ _ _ (by simp -implicitDefEqProofs [upd_app, argL, envL_app, heapL_app, look, appEff, wkEnv, wkHeap, D.ren, D.ren1, D.idOk, D.idOk1, Blk.ren, Blk.idOk, k17, k102, k159, k160, k161]) (by simp -implicitDefEqProofs [upd_app, argL, envL_app, heapL_app, look, appEff, wkEnv, wkHeap, D.ren, D.ren1, D.idOk, D.idOk1, Blk.ren, Blk.idOk, k17, k102, k159, k160, k161])⟩
                · simp -implicitDefEqProofs only [vt, ↓atI_fold, forall_const, reduceIte, reduceCtorEq, Nat.reduceEqDiff, Nat.reduceAdd, Nat.reduceSub, Nat.reduceMul, Nat.reduceLT, Nat.reduceLeDiff, Nat.reducePow, Int.reduceToNat, Int.reduceLT, Int.reduceLE, Int.reduceAdd, Int.reduceSub, Int.reduceMul, Int.reduceEq, Int.reduceBEq, Int.reduceBNe, Int.reduceNeg, k17, k102, h145, k159, k160, k161]
                  subst hK158
                  obtain rfl := Option.some.inj h
                  exact eb_nil ⟨rfl, Wk.of (fun i => some i) _ _ _ (by simp -implicitDefEqProofs [upd_app, argL, envL_app, heapL_app, look, appEff, wkEnv, wkHeap, D.ren, D.ren1, D.idOk, D.idOk1, Blk.ren, Blk.idOk, k17, k102, k159, k160, k161]) (by simp -implicitDefEqProofs [upd_app, argL, envL_app, heapL_app, look, appEff, wkEnv, wkHeap, D.ren, D.ren1, D.idOk, D.idOk1, Blk.ren, Blk.idOk, k17, k102, k159, k160, k161])⟩
              · simp -implicitDefEqProofs only [vt, ↓atI_fold, forall_const, reduceIte, reduceCtorEq, Nat.reduceEqDiff, Nat.reduceAdd, Nat.reduceSub, Nat.reduceMul, Nat.reduceLT, Nat.reduceLeDiff, Nat.reducePow, Int.reduceToNat, Int.reduceLT, Int.reduceLE, Int.reduceAdd, Int.reduceSub, Int.reduceMul, Int.reduceEq, Int.reduceBEq, Int.reduceBNe, Int.reduceNeg, k17, k102, h145, k159, k160]
                rcases ite_or h with ⟨k162, h⟩ | ⟨k162, h⟩
                · simp -implicitDefEqProofs only [vt, ↓atI_fold, forall_const, reduceIte, reduceCtorEq, Nat.reduceEqDiff, Nat.reduceAdd, Nat.reduceSub, Nat.reduceMul, Nat.reduceLT, Nat.reduceLeDiff, Nat.reducePow, Int.reduceToNat, Int.reduceLT, Int.reduceLE, Int.reduceAdd, Int.reduceSub, Int.reduceMul, Int.reduceEq, Int.reduceBEq, Int.reduceBNe, Int.reduceNeg, k17, k102, h145, k159, k160, k162]
                  rcases ite_or h with ⟨k163, h⟩ | ⟨k163, h⟩
                  · simp -implicitDefEqProofs only [vt, ↓atI_fold, forall_const, reduceIte, reduceCtorEq, Nat.reduceEqDiff, Nat.reduceAdd, Nat.reduceSub, Nat.reduceMul, Nat.reduceLT, Nat.reduceLeDiff, Nat.reducePow, Int.reduceToNat, Int.reduceLT, Int.reduceLE, Int.reduceAdd, Int.reduceSub, Int.reduceMul, Int.reduceEq, Int.reduceBEq, Int.reduceBNe, Int.reduceNeg, k17, k102, h145, k159, k160, k162, k163]
                    subst hK158
                    obtain rfl := Option.some.inj h
                    exact eb_nil ⟨rfl, Wk.of (fun i => some i) _ _ _ (by simp -implicitDefEqProofs [upd_app, argL, envL_app, heapL_app, look, appEff, wkEnv, wkHeap, D.ren, D.ren1, D.idOk, D.idOk1, Blk.ren, Blk.idOk, k17, k102, k159, k160, k162, k163]) (by simp -implicitDefEqProofs [upd_app, argL, envL_app, heapL_app, look, appEff, wkEnv, wkHeap, D.ren, D.ren1, D.idOk, D.idOk1, Blk.ren, Blk.idOk, k17, k102, k159, k160, k162, k163])⟩
                  · simp -implicitDefEqProofs only [vt, ↓atI_fold, forall_const, reduceIte, reduceCtorEq, Nat.reduceEqDiff, Nat.reduceAdd, Nat.reduceSub, Nat.reduceMul, Nat.reduceLT, Nat.reduceLeDiff, Nat.reducePow, Int.reduceToNat, Int.reduceLT, Int.reduceLE, Int.reduceAdd, Int.reduceSub, Int.reduceMul, Int.reduceEq, Int.reduceBEq, Int.reduceBNe, Int.reduceNeg, k17, k102, h145, k159, k160, k162, k163]
                    subst hK158
                    obtain rfl := Option.some.inj h
                    exact eb_nil ⟨rfl, Wk.of (fun i => some i) _ _ _ (by simp -implicitDefEqProofs [upd_app, argL, envL_app, heapL_app, look, appEff, wkEnv, wkHeap, D.ren, D.ren1, D.idOk, D.idOk1, Blk.ren, Blk.idOk, k17, k102, k159, k160, k162, k163]) (by simp -implicitDefEqProofs [upd_app, argL, envL_app, heapL_app, look, appEff, wkEnv, wkHeap, D.ren, D.ren1, D.idOk, D.idOk1, Blk.ren, Blk.idOk, k17, k102, k159, k160, k162, k163])⟩
                · simp -implicitDefEqProofs only [vt, ↓atI_fold, forall_const, reduceIte, reduceCtorEq, Nat.reduceEqDiff, Nat.reduceAdd, Nat.reduceSub, Nat.reduceMul, Nat.reduceLT, Nat.reduceLeDiff, Nat.reducePow, Int.reduceToNat, Int.reduceLT, Int.reduceLE, Int.reduceAdd, Int.reduceSub, Int.reduceMul, Int.reduceEq, Int.reduceBEq, Int.reduceBNe, Int.reduceNeg, k17, k102, h145, k159, k160, k162]
                  subst hK158
                  obtain rfl := Option.some.inj h
                  exact eb_nil ⟨rfl, Wk.of (fun i => some i) _ _ _ (by simp -implicitDefEqProofs [upd_app, argL, envL_app, heapL_app, look, appEff, wkEnv, wkHeap, D.ren, D.ren1, D.idOk, D.idOk1, Blk.ren, Blk.idOk, k17, k102, k159, k160, k162]) (by simp -implicitDefEqProofs [upd_app, argL, envL_app, heapL_app, look, appEff, wkEnv, wkHeap, D.ren, D.ren1, D.idOk, D.idOk1, Blk.ren, Blk.idOk, k17, k102, k159, k160, k162])⟩
            · simp -implicitDefEqProofs only [vt, ↓atI_fold, forall_const, reduceIte, reduceCtorEq, Nat.reduceEqDiff, Nat.reduceAdd, Nat.reduceSub, Nat.reduceMul, Nat.reduceLT, Nat.reduceLeDiff, Nat.reducePow, Int.reduceToNat, Int.reduceLT, Int.reduceLE, Int.reduceAdd, Int.reduceSub, Int.reduceMul, Int.reduceEq, Int.reduceBEq, Int.reduceBNe, Int.reduceNeg, k17, k102, h145, k159]
              rcases ite_or h with ⟨k164, h⟩ | ⟨k164, h⟩
              · simp -implicitDefEqProofs only [vt, ↓atI_fold, forall_const, reduceIte, reduceCtorEq, Nat.reduceEqDiff, Nat.reduceAdd, Nat.reduceSub, Nat.reduceMul, Nat.reduceLT, Nat.reduceLeDiff, Nat.reducePow, Int.reduceToNat, Int.reduceLT, Int.reduceLE, Int.reduceAdd, Int.reduceSub, Int.reduceMul, Int.reduceEq, Int.reduceBEq, Int.reduceBNe, Int.reduceNeg, k17, k102, h145, k159, k164]
                rcases ite_or h with ⟨k165, h⟩ | ⟨k165, h⟩
                · simp -implicitDefEqProofs only [vt, ↓atI_fold, forall_const, reduceIte, reduceCtorEq, Nat.reduceEqDiff, Nat.reduceAdd, Nat.reduceSub, Nat.reduceMul, Nat.reduceLT, Nat.reduceLeDiff, Nat.reducePow, Int.reduceToNat, Int.reduceLT, Int.reduceLE, Int.reduceAdd, Int.reduceSub, Int.reduceMul, Int.reduceEq, Int.reduceBEq, Int.reduceBNe, Int.reduceNeg, k17, k102, h145, k159, k164, k165]
                  rcases ite_or h with ⟨k166, h⟩ | ⟨k166, h⟩
                  · simp -implicitDefEqProofs only [vt, ↓atI_fold, forall_const, reduceIte, reduceCtorEq, Nat.reduceEqDiff, Nat.reduceAdd, Nat.reduceSub, Nat.reduceMul, Nat.reduceLT, Nat.reduceLeDiff, Nat.reducePow, Int.reduceToNat, Int.reduceLT, Int.reduceLE, Int.reduceAdd, Int.reduceSub, Int.reduceMul, Int.reduceEq, Int.reduceBEq, Int.reduceBNe, Int.reduceNeg, k17, k102, h145, k159, k164, k165, k166]
                    subst hK158
                    obtain rfl := Option.some.inj h
                    exact eb_nil ⟨rfl, Wk.of (fun i => some i) _ _ _ (by simp -implicitDefEqProofs [upd_app, argL, envL_app, heapL_app, look, appEff, wkEnv, wkHeap, D.ren, D.ren1, D.idOk, D.idOk1, Blk.ren, Blk.idOk, k17, k102, k159, k164, k165, k166]) (by simp -implicitDefEqProofs [upd_app, argL, envL_app, heapL_app, look, appEff, wkEnv, wkHeap, D.ren, D.ren1, D.idOk, D.idOk1, Blk.ren, Blk.idOk, k17, k102, k159, k164, k165, k166])⟩
                  · simp -implicitDefEqProofs only [vt, ↓atI_fold, forall_const, reduceIte, reduceCtorEq, Nat.reduceEqDiff, Nat.reduceAdd, Nat.reduceSub, Nat.reduceMul, Nat.reduceLT, Nat.reduceLeDiff, Nat.reducePow, Int.reduceToNat, Int.reduceLT, Int.reduceLE, Int.reduceAdd, Int.reduceSub, Int.reduceMul, Int.reduceEq, Int.reduceBEq, Int.reduceBNe, Int.reduceNeg, k17, k102, h145, k159, k164, k165, k166]
                    subst hK158
                    obtain rfl := Option.some.inj h
                    exact eb_nil ⟨rfl, Wk.of (fun i => some i) _ _ _ (by simp -implicitDefEqProofs [upd_app, argL, envL_app, heapL_app, look, appEff, wkEnv, wkHeap, D.ren, D.ren1, D.idOk, D.idOk1, Blk.ren, Blk.idOk, k17, k102, k159, k164, k165, k166]) (by simp -implicitDefEqProofs [upd_app, argL, envL_app, heapL_app, look, appEff, wkEnv, wkHeap, D.ren, D.ren1, D.idOk, D.idOk1, Blk.ren, Blk.idOk, k17, k102, k159, k164, k165, k166])⟩
                · simp -implicitDefEqProofs only [vt, ↓atI_fold, forall_const, reduceIte, reduceCtorEq, Nat.reduceEqDiff, Nat.reduceAdd, Nat.reduceSub, Nat.reduceMul, Nat.reduceLT, Nat.reduceLeDiff, Nat.reducePow, Int.reduceToNat, Int.reduceLT, Int.reduceLE, Int.reduceAdd, Int.reduceSub, Int.reduceMul, Int.reduceEq, Int.reduceBEq, Int.reduceBNe, Int.reduceNeg, k17, k102, h145, k159, k164, k165]
                  rcases ite_or h with ⟨k167, h⟩ | ⟨k167, h⟩
                  · simp -implicitDefEqProofs only [vt, ↓atI_fold, forall_const, reduceIte, reduceCtorEq, Nat.reduceEqDiff, Nat.reduceAdd, Nat.reduceSub, Nat.reduceMul, Nat.reduceLT, Nat.reduceLeDiff, Nat.reducePow, Int.reduceToNat, Int.reduceLT, Int.reduceLE, Int.reduceAdd, Int.reduceSub, Int.reduceMul, Int.reduceEq, Int.reduceBEq, Int.reduceBNe, Int.reduceNeg, k17, k102, h145, k159, k164, k165, k167]
                    rcases ite_or h with ⟨k168, h⟩ | ⟨k168, h⟩
                    · simp -implicitDefEqProofs only [vt, ↓atI_fold, forall_const, reduceIte, reduceCtorEq, Nat.reduceEqDiff, Nat.reduceAdd, Nat.reduceSub, Nat.reduceMul, Nat.reduceLT, Nat.reduceLeDiff, Nat.reducePow, Int.reduceToNat, Int.reduceLT, Int.reduceLE, Int.reduceAdd, Int.reduceSub, Int.reduceMul, Int.reduceEq, Int.reduceBEq, Int.reduceBNe, Int.reduceNeg, k17, k102, h145, k159, k164, k165, k167, k168]
                      subst hK158
                      obtain rfl := Option.some.inj h
                      exact eb_nil ⟨rfl, Wk.of (fun i => some i) _ _ _ (by simp -implicitDefEqProofs [upd_app, argL, envL_app, heapL_app, look, appEff, wkEnv, wkHeap, D.ren, D.ren1, D.idOk, D.idOk1, Blk.ren, Blk.idOk, k17, k102, k159, k164, k165, k167, k168]) (by simp -implicitDefEqProofs [upd_app, argL, envL_app, heapL_app, look, appEff, wkEnv, wkHeap, D.ren, D.ren1, D.idOk, D.idOk1, Blk.ren, Blk.idOk, k17, k102, k159, k164, k165, k167, k168])⟩
                    · simp -implicitDefEqProofs only [vt, ↓atI_fold, forall_const, reduceIte, reduceCtorEq, Nat.reduceEqDiff, Nat.reduceAdd, Nat.reduceSub, Nat.reduceMul, Nat.reduceLT, Nat.reduceLeDiff, Nat.reducePow, Int.reduceToNat, Int.reduceLT, Int.reduceLE, Int.reduceAdd, Int.reduceSub, Int.reduceMul, Int.reduceEq, Int.reduceBEq, Int.reduceBNe, Int.reduceNeg, k17, k102, h145, k159, k164, k165, k167, k168]
                      subst hK158
                      obtain rfl := Option.some.inj h
                      exact eb_nil ⟨rfl, Wk.of (fun i => some i) _ _ _ (by simp -implicitDefEqProofs [upd_app, argL, envL_app, heapL_app, look, appEff, wkEnv, wkHeap, D.ren, D.ren1, D.idOk, D.idOk1, Blk.ren, Blk.idOk, k17, k102, k159, k164, k165, k167, k168]) (by simp -implicitDefEqProofs [upd_app, argL, envL_app, heapL_app, look, appEff, wkEnv, wkHeap, D.ren, D.ren1, D.idOk, D.idOk1, Blk.ren, Blk.idOk, k17, k102, k159, k164, k165, k167, k168])⟩
                  · simp -implicitDefEqProofs only [vt, ↓atI_fold, forall_const, reduceIte, reduceCtorEq, Nat.reduceEqDiff, Nat.reduceAdd, Nat.reduceSub, Nat.reduceMul, Nat.reduceLT, Nat.reduceLeDiff, Nat.reducePow, Int.reduceToNat, Int.reduceLT, Int.reduceLE, Int.reduceAdd, Int.reduceSub, Int.reduceMul, Int.reduceEq, Int.reduceBEq, Int.reduceBNe, Int.reduceNeg, k17, k102, h145, k159, k164, k165, k167]
                    subst hK158
                    obtain rfl := Option.some.inj h
                    exact eb_nil ⟨rfl, Wk.of (fun i => some i) _ _ _ (by simp -implicitDefEqProofs [upd_app, argL, envL_app, heapL_app, look, appEff, wkEnv, wkHeap, D.ren, D.ren1, D.idOk, D.idOk1, Blk.ren, Blk.idOk, k17, k102, k159, k164, k165, k167]) (by simp -implicitDefEqProofs [upd_app, argL, envL_app, heapL_app, look, appEff, wkEnv, wkHeap, D.ren, D.ren1, D.idOk, D.idOk1, Blk.ren, Blk.idOk, k17, k102, k159, k164, k165, k167])⟩
              · simp -implicitDefEqProofs only [vt, ↓atI_fold, forall_const, reduceIte, reduceCtorEq, Nat.reduceEqDiff, Nat.reduceAdd, Nat.reduceSub, Nat.reduceMul, Nat.reduceLT, Nat.reduceLeDiff, Nat.reducePow, Int.reduceToNat, Int.reduceLT, Int.reduceLE, Int.reduceAdd, Int.reduceSub, Int.reduceMul, Int.reduceEq, Int.reduceBEq, Int.reduceBNe, Int.reduceNeg, k17, k102, h145, k159, k164]
                subst hK158
                obtain rfl := Option.some.inj h
                exact eb_nil ⟨rfl, Wk.of (fun i => some i) _ _ _ (by simp -implicitDefEqProofs [upd_app, argL, envL_app, heapL_app, look, appEff, wkEnv, wkHeap, D.ren, D.ren1, D.idOk, D.idOk1, Blk.ren, Blk.idOk, k17, k102, k159, k164]) (by simp -implicitDefEqProofs [upd_app, argL, envL_app, heapL_app, look, appEff, wkEnv, wkHeap, D.ren, D.ren1, D.idOk, D.idOk1, Blk.ren, Blk.idOk, k17, k102, k159, k164])⟩
          · rcases ite_or h with ⟨k170, h⟩ | ⟨k170, h⟩
            · refine rb_true (congrArg D.bool k170) ?_
              refine rb_seq ?_
              refine rb_regionK fun K172 hK172 => ?_
              simp -implicitDefEqProofs only [vt, ↓atI_fold, forall_const, reduceIte, reduceCtorEq, Nat.reduceEqDiff, Nat.reduceAdd, Nat.reduceSub, Nat.reduceMul, Nat.reduceLT, Nat.reduceLeDiff, Nat.reducePow, Int.reduceToNat, Int.reduceLT, Int.reduceLE, Int.reduceAdd, Int.reduceSub, Int.reduceMul, Int.reduceEq, Int.reduceBEq, Int.reduceBNe, Int.reduceNeg, k17, k102, h145, k170]
              subst hK172
              refine eb_seq ?_
              refine rb_ret ?_
              refine eb_blk_r ?_
              refine eb_seq_r ?_
              obtain rfl := Option.some.inj h
              exact eb_nil ⟨rfl, Wk.of (fun i => some i) _ _ _ (by simp -implicitDefEqProofs [upd_app, argL, envL_app, heapL_app, look, appEff, wkEnv, wkHeap, D.ren, D.ren1, D.idOk, D.idOk1, Blk.ren, Blk.idOk, k17, k102, k170]) (by simp -implicitDefEqProofs [upd_app, argL, envL_app, heapL_app, look, appEff, wkEnv, wkHeap, D.ren, D.ren1, D.idOk, D.idOk1, Blk.ren, Blk.idOk, k17, k102, k170])⟩
            · refine rb_false (congrArg D.bool k170) ?_
              refine rb_skip ?_
              refine eb_blk_n ?_
              refine eb_seq ?_
              refine rb_regionK fun K173 hK173 => ?_
              simp -implicitDefEqProofs only [vt, ↓atI_fold, forall_const, reduceIte, reduceCtorEq, Nat.reduceEqDiff, Nat.reduceAdd, Nat.reduceSub, Nat.reduceMul, Nat.reduceLT, Nat.reduceLeDiff, Nat.reducePow, Int.reduceToNat, Int.reduceLT, Int.reduceLE, Int.reduceAdd, Int.reduceSub, Int.reduceMul, Int.reduceEq, Int.reduceBEq, Int.reduceBNe, Int.reduceNeg, k17, k102, h145, k170]
              subst hK173
              obtain rfl := Option.some.inj h
              exact eb_nil ⟨rfl, Wk.of (fun i => some i) _ _ _ (by simp -implicitDefEqProofs [upd_app, argL, envL_app, heapL_app, look, appEff, wkEnv, wkHeap, D.ren, D.ren1, D.idOk, D.idOk1, Blk.ren, Blk.idOk, k17, k102, k170]) (by simp -implicitDefEqProofs [upd_app, argL, envL_app, heapL_app, look, appEff, wkEnv, wkHeap, D.ren, D.ren1, D.idOk, D.idOk1, Blk.ren, Blk.idOk, k17, k102, k170])⟩
        · refine rb_false (congrArg D.bool k102) ?_
          refine rb_exit ?_
          refine eb_seq_e ?_
          obtain rfl := Option.some.inj h
          exact eb_nil ⟨rfl, Wk.of (fun i => some i) _ _ _ (by simp -implicitDefEqProofs [upd_app, argL, envL_app, heapL_app, look, appEff, wkEnv, wkHeap, D.ren, D.ren1, D.idOk, D.idOk1, Blk.ren, Blk.idOk, k17, k102]) (by simp -implicitDefEqProofs [upd_app, argL, envL_app, heapL_app, look, appEff, wkEnv, wkHeap, D.ren, D.ren1, D.idOk, D.idOk1, Blk.ren, Blk.idOk, k17, k102])⟩
      · rcases e23 with e23 | e23
        · try dsimp only at h ⊢
          refine eb_blk_r ?_
          refine eb_seq_r ?_
          obtain rfl := Option.some.inj h
          refine eb_nil ?_
          simp -implicitDefEqProofs only [vt, ↓atI_fold, forall_const, reduceIte, reduceCtorEq, Nat.reduceEqDiff, Nat.reduceAdd, Nat.reduceSub, Nat.reduceMul, Nat.reduceLT, Nat.reduceLeDiff, Nat.reducePow, Int.reduceToNat, Int.reduceLT, Int.reduceLE, Int.reduceAdd, Int.reduceSub, Int.reduceMul, Int.reduceEq, Int.reduceBEq, Int.reduceBNe, Int.reduceNeg, retQ_r, Tryd.results51, k17] <;> first | rfl | (simp [List.map_append]; done)
        · try dsimp only at h ⊢
          refine eb_blk_hit ?_
          refine eb_seq ?_
          refine rb_seq ?_
          refine rb_regionK fun K176 hK176 => ?_
          simp -implicitDefEqProofs only [vt, ↓atI_fold, forall_const, reduceIte, reduceCtorEq, Nat.reduceEqDiff, Nat.reduceAdd, Nat.reduceSub, Nat.reduceMul, Nat.reduceLT, Nat.reduceLeDiff, Nat.reducePow, Int.reduceToNat, Int.reduceLT, Int.reduceLE, Int.reduceAdd, Int.reduceSub, Int.reduceMul, Int.reduceEq, Int.reduceBEq, Int.reduceBNe, Int.reduceNeg, k17]
          subst hK176
          refine eb_seq ?_
          refine rb_ret ?_
          obtain rfl := Option.some.inj h
          refine eb_nil ?_
          simp -implicitDefEqProofs only [vt, ↓atI_fold, forall_const, reduceIte, reduceCtorEq, Nat.reduceEqDiff, Nat.reduceAdd, Nat.reduceSub, Nat.reduceMul, Nat.reduceLT, Nat.reduceLeDiff, Nat.reducePow, Int.reduceToNat, Int.reduceLT, Int.reduceLE, Int.reduceAdd, Int.reduceSub, Int.reduceMul, Int.reduceEq, Int.reduceBEq, Int.reduceBNe, Int.reduceNeg, retQ_r, Tryd.results51, k17] <;> first | rfl | (simp [List.map_append]; done)
-- captionerref07.digit
def g_ref07_digit (c_0 : Int) : Option (Bool) :=
  (if (decide (48 ≤ c_0)) then (some (decide (c_0 ≤ 57))) else (some false))
theorem a_ref07_digit (I : World → Prop) (hI : Stab I) (c_0 : Int) {r : Bool} (h : g_ref07_digit c_0 = some r) : AFun Tryd.prog I 76 [.int .u8 c_0] (.bool r) := by
  refine AFun.enterB hI Tryd.func76 rfl (by decide) (by simp [Tryd.f76]) (by kernel_rfl) ?_
  unfold g_ref07_digit at h
  simp only [S0, Tryd.ntmps76]
  refine rb_seq ?_
  refine rb_regionK fun K2 hK2 => ?_
  simp -implicitDefEqProofs only [vt, ↓atI_fold, forall_const, reduceIte, reduceCtorEq, Nat.reduceEqDiff, Nat.reduceAdd, Nat.reduceSub, Nat.reduceMul, Nat.reduceLT, Nat.reduceLeDiff, Nat.reducePow, Int.reduceToNat, Int.reduceLT, Int.reduceLE, Int.reduceAdd, Int.reduceSub, Int.reduceMul, Int.reduceEq, Int.reduceBEq, Int.reduceBNe, Int.reduceNeg]
  subst hK2
  refine eb_seq ?_
  refine rb_seq ?_
  refine rb_regionK fun K5 hK5 => ?_
  simp -implicitDefEqProofs only [vt, ↓atI_fold, forall_const, reduceIte, reduceCtorEq, Nat.reduceEqDiff, Nat.reduceAdd, Nat.reduceSub, Nat.reduceMul, Nat.reduceLT, Nat.reduceLeDiff, Nat.reducePow, Int.reduceToNat, Int.reduceLT, Int.reduceLE, Int.reduceAdd, Int.reduceSub, Int.reduceMul, Int.reduceEq, Int.reduceBEq, Int.reduceBNe, Int.reduceNeg]
  rcases ite_or h with ⟨k6, h⟩ | ⟨k6, h⟩
  · simp -implicitDefEqProofs only [vt, ↓atI_fold, forall_const, reduceIte, reduceCtorEq, Nat.reduceEqDiff, Nat.reduceAdd, Nat.reduceSub, Nat.reduceMul, Nat.reduceLT, Nat.reduceLeDiff, Nat.reducePow, Int.reduceToNat, Int.reduceLT, Int.reduceLE, Int.reduceAdd, Int.reduceSub, Int.reduceMul, Int.reduceEq, Int.reduceBEq, Int.reduceBNe, Int.reduceNeg, k6]
    subst hK5
    refine eb_seq ?_
    refine rb_ret ?_
    obtain rfl := Option.some.inj h
    refine eb_nil ?_
    simp -implicitDefEqProofs only [vt, ↓atI_fold, forall_const, reduceIte, reduceCtorEq, Nat.reduceEqDiff, Nat.reduceAdd, Nat.reduceSub, Nat.reduceMul, Nat.reduceLT, Nat.reduceLeDiff, Nat.reducePow, Int.reduceToNat, Int.reduceLT, Int.reduceLE, Int.reduceAdd, Int.reduceSub, Int.reduceMul, Int.reduceEq, Int.reduceBEq, Int.reduceBNe, Int.reduceNeg, retQ_r, Tryd.results76, k6] <;> first | rfl | (simp [List.map_append]; done)
  · simp -implicitDefEqProofs only [vt, ↓atI_fold, forall_const, reduceIte, reduceCtorEq, Nat.reduceEqDiff, Nat.reduceAdd, Nat.reduceSub, Nat.reduceMul, Nat.reduceLT, Nat.reduceLeDiff, Nat.reducePow, Int.reduceToNat, Int.reduceLT, Int.reduceLE, Int.reduceAdd, Int.reduceSub, Int.reduceMul, Int.reduceEq, Int.reduceBEq, Int.reduceBNe, Int.reduceNeg, k6]
    subst hK5
    refine eb_seq ?_
    refine rb_ret ?_
    obtain rfl := Option.some.inj h
    refine eb_nil ?_
    simp -implicitDefEqProofs only [vt, ↓atI_fold, forall_const, reduceIte, reduceCtorEq, Nat.reduceEqDiff, Nat.reduceAdd, Nat.reduceSub, Nat.reduceMul, Nat.reduceLT, Nat.reduceLeDiff, Nat.reducePow, Int.reduceToNat, Int.reduceLT, Int.reduceLE, Int.reduceAdd, Int.reduceSub, Int.reduceMul, Int.reduceEq, Int.reduceBEq, Int.reduceBNe, Int.reduceNeg, retQ_r, Tryd.results76, k6] <;> first | rfl | (simp [List.map_append]; done)
-- captionerref07.Name
def g_ref07_Name_s1 (s_0 : List UInt8) (x14 : Int) : Option (Nx (Int) (Unit ⊕ Unit)) :=
  (if (decide (x14 < (s_0.length : Int))) then ((((((atI s_0 x14).bind fun b133 => (if (decide (65 ≤ (b133.toNat : Int))) then (some (decide ((b133.toNat : Int) ≤ 90))) else (some false))) : Option (Bool)).bind fun v131 => (if v131 then (some (.go ())) else (if (x14 == 0) then (some (.out ())) else ((atI s_0 x14).bind fun b151 => ((g_ref07_digit (b151.toNat : Int)).bind fun r153 => (if r153 then (some (.go ())) else (if ((b151.toNat : Int) != 95) then (if ((b151.toNat : Int) != 45) then (some (.out ())) else (some (.go ()))) else (some (.go ()))))))))) : Option (Nx (Unit) (Unit))).bind fun w161 => match w161 with | .go v126 => (some (.go (IntKind.i64.wrap (x14 + 1)))) | .out e162 => (some (.out (.inl ())))) else (some (.out (.inr ()))))
def g_ref07_Name (s_0 : List UInt8) : Option (Bool) :=
  (((if (decide ((s_0.length : Int) < 1)) then (some true) else (some (decide (16 < (s_0.length : Int))))) : Option (Bool)).bind fun v5 => (if v5 then (some false) else ((iter (g_ref07_Name_s1 s_0) 0).bind fun e15 => (match e15 with | Sum.inl e15 => (some false) | Sum.inr (e15) => (some true)))))
theorem a_ref07_Name (I : World → Prop) (hI : Stab I) (s_0 : List UInt8) {r : Bool} (h : g_ref07_Name s_0 = some r) : AFun Tryd.prog I 52 [.str s_0] (.bool r) := by
  refine AFun.enterB hI Tryd.func52 rfl (by decide) (by simp [Tryd.f52]) (by kernel_rfl) ?_
  unfold g_ref07_Name at h
  simp only [S0, Tryd.ntmps52]
  refine rb_seq ?_
  refine rb_regionK fun K2 hK2 => ?_
  simp -implicitDefEqProofs only [vt, ↓atI_fold, forall_const, reduceIte, reduceCtorEq, Nat.reduceEqDiff, Nat.reduceAdd, Nat.reduceSub, Nat.reduceMul, Nat.reduceLT, Nat.reduceLeDiff, Nat.reducePow, Int.reduceToNat, Int.reduceLT, Int.reduceLE, Int.reduceAdd, Int.reduceSub, Int.reduceMul, Int.reduceEq, Int.reduceBEq, Int.reduceBNe, Int.reduceNeg]
  subst hK2
  refine eb_seq ?_
  refine rb_seq ?_
  obtain ⟨v5, h8, h⟩ := bind_some h
  refine rb_cut (fun v5 => ⟨envL [(0, .str s_0), (12, .bool v5)], heapL [], 0, 54⟩) h8 ?_ ?_
  · clear h
    intro v5 h
    refine rb_regionK fun K6 hK6 => ?_
    simp -implicitDefEqProofs only [vt, ↓atI_fold, forall_const, reduceIte, reduceCtorEq, Nat.reduceEqDiff, Nat.reduceAdd, Nat.reduceSub, Nat.reduceMul, Nat.reduceLT, Nat.reduceLeDiff, Nat.reducePow, Int.reduceToNat, Int.reduceLT, Int.reduceLE, Int.reduceAdd, Int.reduceSub, Int.reduceMul, Int.reduceEq, Int.reduceBEq, Int.reduceBNe, Int.reduceNeg]
    rcases ite_or h with ⟨k7, h⟩ | ⟨k7, h⟩
    · simp -implicitDefEqProofs only [vt, ↓atI_fold, forall_const, reduceIte, reduceCtorEq, Nat.reduceEqDiff, Nat.reduceAdd, Nat.reduceSub, Nat.reduceMul, Nat.reduceLT, Nat.reduceLeDiff, Nat.reducePow, Int.reduceToNat, Int.reduceLT, Int.reduceLE, Int.reduceAdd, Int.reduceSub, Int.reduceMul, Int.reduceEq, Int.reduceBEq, Int.reduceBNe, Int.reduceNeg, k7]
      subst hK6
      obtain rfl := Option.some.inj h
      exact eb_nil ⟨rfl, Wk.of (fun i => some i) _ _ _ (by simp -implicitDefEqProofs [upd_app, argL, envL_app, heapL_app, look, appEff, wkEnv, wkHeap, D.ren, D.ren1, D.idOk, D.idOk1, Blk.ren, Blk.idOk, k7]) (by simp -implicitDefEqProofs [upd_app, argL, envL_app, heapL_app, look, appEff, wkEnv, wkHeap, D.ren, D.ren1, D.idOk, D.idOk1, Blk.ren, Blk.idOk, k7])⟩
    · simp -implicitDefEqProofs only [vt, ↓atI_fold, forall_const, reduceIte, reduceCtorEq, Nat.reduceEqDiff, Nat.reduceAdd, Nat.reduceSub, Nat.reduceMul, Nat.reduceLT, Nat.reduceLeDiff, Nat.reducePow, Int.reduceToNat, Int.reduceLT, Int.reduceLE, Int.reduceAdd, Int.reduceSub, Int.reduceMul, Int.reduceEq, Int.reduceBEq, Int.reduceBNe, Int.reduceNeg, k7]
      subst hK6
      obtain rfl := Option.some.inj h
      exact eb_nil ⟨rfl, Wk.of (fun i => some i) _ _ _ (by simp -implicitDefEqProofs [upd_app, argL, envL_app, heapL_app, look, appEff, wkEnv, wkHeap, D.ren, D.ren1, D.idOk, D.idOk1, Blk.ren, Blk.idOk, k7]) (by simp -implicitDefEqProofs [upd_app, argL, envL_app, heapL_app, look, appEff, wkEnv, wkHeap, D.ren, D.ren1, D.idOk, D.idOk1, Blk.ren, Blk.idOk, k7])⟩
  · rcases ite_or h with ⟨k9, h⟩ | ⟨k9, h⟩
    · refine rb_true (congrArg D.bool k9) ?_
      refine rb_seq ?_
      refine rb_regionK fun K11 hK11 => ?_
      simp -implicitDefEqProofs only [vt, ↓atI_fold, forall_const, reduceIte, reduceCtorEq, Nat.reduceEqDiff, Nat.reduceAdd, Nat.reduceSub, Nat.reduceMul, Nat.reduceLT, Nat.reduceLeDiff, Nat.reducePow, Int.reduceToNat, Int.reduceLT, Int.reduceLE, Int.reduceAdd, Int.reduceSub, Int.reduceMul, Int.reduceEq, Int.reduceBEq, Int.reduceBNe, Int.reduceNeg, k9]
      subst hK11
      refine eb_seq ?_
      refine rb_ret ?_
      refine eb_seq_r ?_
      obtain rfl := Option.some.inj h
      refine eb_nil ?_
      simp -implicitDefEqProofs only [vt, ↓atI_fold, forall_const, reduceIte, reduceCtorEq, Nat.reduceEqDiff, Nat.reduceAdd, Nat.reduceSub, Nat.reduceMul, Nat.reduceLT, Nat.reduceLeDiff, Nat.reducePow, Int.reduceToNat, Int.reduceLT, Int.reduceLE, Int.reduceAdd, Int.reduceSub, Int.reduceMul, Int.reduceEq, Int.reduceBEq, Int.reduceBNe, Int.reduceNeg, retQ_r, Tryd.results52, k9] <;> first | rfl | (simp [List.map_append]; done)
    · refine rb_false (congrArg D.bool k9) ?_
      refine rb_skip ?_
      refine eb_seq ?_
      refine rb_seq ?_
      refine rb_seq ?_
      refine rb_regionK fun K13 hK13 => ?_
      simp -implicitDefEqProofs only [vt, ↓atI_fold, forall_const, reduceIte, reduceCtorEq, Nat.reduceEqDiff, Nat.reduceAdd, Nat.reduceSub, Nat.reduceMul, Nat.reduceLT, Nat.reduceLeDiff, Nat.reducePow, Int.reduceToNat, Int.reduceLT, Int.reduceLE, Int.reduceAdd, Int.reduceSub, Int.reduceMul, Int.reduceEq, Int.reduceBEq, Int.reduceBNe, Int.reduceNeg, k9]
      subst hK13
      refine eb_seq ?_
      refine rb_block ?_
      obtain ⟨e15, h164, h⟩ := bind_some h
      refine rb_loop (fun x14 => ⟨envL [(0, .str s_0), (3, .int .i64 x14)], heapL [], 0, 54⟩) (fun w => match w with | Sum.inl _ => .ret | Sum.inr (_) => .exit 0) (fun w => match w with | Sum.inl e15 => ⟨envL [(2, .bool false)], heapL [], 0, 54⟩ | Sum.inr (e15) => ⟨envL [], heapL [], 0, 54⟩) h164 (Wk.of (fun i => some i) _ _ _ (by simp -implicitDefEqProofs [upd_app, argL, envL_app, heapL_app, look, appEff, wkEnv, wkHeap, D.ren, D.ren1, D.idOk, D.idOk1, Blk.ren, Blk.idOk, k9]) (by simp -implicitDefEqProofs [upd_app, argL, envL_app, heapL_app, look, appEff, wkEnv, wkHeap, D.ren, D.ren1, D.idOk, D.idOk1, Blk.ren, Blk.idOk, k9])) (by intro w; rcases w with w | w <;> simp) ?_ ?_
      · clear h
        intro x14 y h
        unfold g_ref07_Name_s1 at h
        refine rb_seq ?_
        refine rb_seq ?_
        refine rb_regionK fun K91 hK91 => ?_
        simp -implicitDefEqProofs only [vt, ↓atI_fold, forall_const, reduceIte, reduceCtorEq, Nat.reduceEqDiff, Nat.reduceAdd, Nat.reduceSub, Nat.reduceMul, Nat.reduceLT, Nat.reduceLeDiff, Nat.reducePow, Int.reduceToNat, Int.reduceLT, Int.reduceLE, Int.reduceAdd, Int.reduceSub, Int.reduceMul, Int.reduceEq, Int.reduceBEq, Int.reduceBNe, Int.reduceNeg, k9]
        subst hK91
        refine eb_seq ?_
        rcases ite_or h with ⟨k92, h⟩ | ⟨k92, h⟩
        · refine rb_true (congrArg D.bool k92) ?_
          refine rb_skip ?_
          refine eb_seq ?_
          obtain ⟨w161, h160, h⟩ := bind_some h
          refine rb_seg (fun v126 => ⟨envL [(0, .str s_0), (3, .int .i64 x14)], heapL [], 0, 54⟩) (fun _ => .ret) (fun e162 => ⟨envL [(2, .bool false)], heapL [], 0, 54⟩) h160 (by intro w; simp) ?_ ?_ ?_
          · clear h
            intro w161 h
            refine rb_block ?_
            obtain ⟨v131, h136, h⟩ := bind_some h
            refine rb_cut (fun v131 => ⟨envL [(0, .str s_0), (3, .int .i64 x14), (4, .bool v131)], heapL [], 0, 54⟩) h136 ?_ ?_
            · clear h
              intro v131 h
              refine rb_regionK fun K132 hK132 => ?_
              simp -implicitDefEqProofs only [vt, ↓atI_fold, forall_const, reduceIte, reduceCtorEq, Nat.reduceEqDiff, Nat.reduceAdd, Nat.reduceSub, Nat.reduceMul, Nat.reduceLT, Nat.reduceLeDiff, Nat.reducePow, Int.reduceToNat, Int.reduceLT, Int.reduceLE, Int.reduceAdd, Int.reduceSub, Int.reduceMul, Int.reduceEq, Int.reduceBEq, Int.reduceBNe, Int.reduceNeg, k9, k92]
              obtain ⟨b133, h134, h⟩ := bind_some h
              simp -implicitDefEqProofs only [vt, ↓atI_fold, forall_const, reduceIte, reduceCtorEq, Nat.reduceEqDiff, Nat.reduceAdd, Nat.reduceSub, Nat.reduceMul, Nat.reduceLT, Nat.reduceLeDiff, Nat.reducePow, Int.reduceToNat, Int.reduceLT, Int.reduceLE, Int.reduceAdd, Int.reduceSub, Int.reduceMul, Int.reduceEq, Int.reduceBEq, Int.reduceBNe, Int.reduceNeg, k9, k92, h134]
              rcases ite_or h with ⟨k135, h⟩ | ⟨k135, h⟩
              · simp -implicitDefEqProofs only [vt, ↓atI_fold, forall_const, reduceIte, reduceCtorEq, Nat.reduceEqDiff, Nat.reduceAdd, Nat.reduceSub, Nat.reduceMul, Nat.reduceLT, Nat.reduceLeDiff, Nat.reducePow, Int.reduceToNat, Int.reduceLT, Int.reduceLE, Int.reduceAdd, Int.reduceSub, Int.reduceMul, Int.reduceEq, Int.reduceBEq, Int.reduceBNe, Int.reduceNeg, k9, k92, h134, k135]
                subst hK132
                obtain rfl := Option.some.inj h
                exact eb_nil ⟨rfl, Wk.of (fun i => some i) _ _ _ (by simp -implicitDefEqProofs [upd_app, argL, envL_app, heapL_app, look, appEff, wkEnv, wkHeap, D.ren, D.ren1, D.idOk, D.idOk1, Blk.ren, Blk.idOk, k9, k92, k135]) (by simp -implicitDefEqProofs [upd_app, argL, envL_app, heapL_app, look, appEff, wkEnv, wkHeap, D.ren, D.ren1, D.idOk, D.idOk1, Blk.ren, Blk.idOk, k9, k92, k135])⟩
              · simp -implicitDefEqProofs only [vt, ↓atI_fold, forall_const, reduceIte, reduceCtorEq, Nat.reduceEqDiff, Nat.reduceAdd, Nat.reduceSub, Nat.reduceMul, Nat.reduceLT, Nat.reduceLeDiff, Nat.reducePow, Int.reduceToNat, Int.reduceLT, Int.reduceLE, Int.reduceAdd, Int.reduceSub, Int.reduceMul, Int.reduceEq, Int.reduceBEq, Int.reduceBNe, Int.reduceNeg, k9, k92, h134, k135]
                subst hK132
                obtain rfl := Option.some.inj h
                exact eb_nil ⟨rfl, Wk.of (fun i => some i) _ _ _ (by simp -implicitDefEqProofs [upd_app, argL, envL_app, heapL_app, look, appEff, wkEnv, wkHeap, D.ren, D.ren1, D.idOk, D.idOk1, Blk.ren, Blk.idOk, k9, k92, k135]) (by simp -implicitDefEqProofs [upd_app, argL, envL_app, heapL_app, look, appEff, wkEnv, wkHeap, D.ren, D.ren1, D.idOk, D.idOk1, Blk.ren, Blk.idOk, k9, k92, k135])⟩
            · refine rb_seq ?_
              refine rb_regionK fun K146 hK146 => ?_
              simp -implicitDefEqProofs only [vt, ↓atI_fold, forall_const, reduceIte, reduceCtorEq, Nat.reduceEqDiff, Nat.reduceAdd, Nat.reduceSub, Nat.reduceMul, Nat.reduceLT, Nat.reduceLeDiff, Nat.reducePow, Int.reduceToNat, Int.reduceLT, Int.reduceLE, Int.reduceAdd, Int.reduceSub, Int.reduceMul, Int.reduceEq, Int.reduceBEq, Int.reduceBNe, Int.reduceNeg, k9, k92]
              rcases ite_or h with ⟨k147, h⟩ | ⟨k147, h⟩
              · simp -implicitDefEqProofs only [vt, ↓atI_fold, forall_const, reduceIte, reduceCtorEq, Nat.reduceEqDiff, Nat.reduceAdd, Nat.reduceSub, Nat.reduceMul, Nat.reduceLT, Nat.reduceLeDiff, Nat.reducePow, Int.reduceToNat, Int.reduceLT, Int.reduceLE, Int.reduceAdd, Int.reduceSub, Int.reduceMul, Int.reduceEq, Int.reduceBEq, Int.reduceBNe, Int.reduceNeg, k9, k92, k147]
                subst hK146
                refine eb_seq ?_
                refine rb_false (rfl) ?_
                refine rb_skip ?_
                refine eb_blk_n ?_
                obtain rfl := Option.some.inj h
                exact eb_nil ⟨rfl, Wk.of (fun i => some i) _ _ _ (by simp -implicitDefEqProofs [upd_app, argL, envL_app, heapL_app, look, appEff, wkEnv, wkHeap, D.ren, D.ren1, D.idOk, D.idOk1, Blk.ren, Blk.idOk, k9, k92, k147]) (by simp -implicitDefEqProofs [upd_app, argL, envL_app, heapL_app, look, appEff, wkEnv, wkHeap, D.ren, D.ren1, D.idOk, D.idOk1, Blk.ren, Blk.idOk, k9, k92, k147])⟩
              · simp -implicitDefEqProofs only [vt, ↓atI_fold, forall_const, reduceIte, reduceCtorEq, Nat.reduceEqDiff, Nat.reduceAdd, Nat.reduceSub, Nat.reduceMul, Nat.reduceLT, Nat.reduceLeDiff, Nat.reducePow, Int.reduceToNat, Int.reduceLT, Int.reduceLE, Int.reduceAdd, Int.reduceSub, Int.reduceMul, Int.reduceEq, Int.reduceBEq, Int.reduceBNe, Int.reduceNeg, k9, k92, k147]
                rcases ite_or h with ⟨k148, h⟩ | ⟨k148, h⟩
                · simp -implicitDefEqProofs only [vt, ↓atI_fold, forall_const, reduceIte, reduceCtorEq, Nat.reduceEqDiff, Nat.reduceAdd, Nat.reduceSub, Nat.reduceMul, Nat.reduceLT, Nat.reduceLeDiff, Nat.reducePow, Int.reduceToNat, Int.reduceLT, Int.reduceLE, Int.reduceAdd, Int.reduceSub, Int.reduceMul, Int.reduceEq, Int.reduceBEq, Int.reduceBNe, Int.reduceNeg, k9, k92, k147, k148]
                  subst hK146
                  refine eb_seq ?_
                  refine rb_true (rfl) ?_
                  refine rb_seq ?_
                  refine rb_regionK fun K150 hK150 => ?_
                  simp -implicitDefEqProofs only [vt, ↓atI_fold, forall_const, reduceIte, reduceCtorEq, Nat.reduceEqDiff, Nat.reduceAdd, Nat.reduceSub, Nat.reduceMul, Nat.reduceLT, Nat.reduceLeDiff, Nat.reducePow, Int.reduceToNat, Int.reduceLT, Int.reduceLE, Int.reduceAdd, Int.reduceSub, Int.reduceMul, Int.reduceEq, Int.reduceBEq, Int.reduceBNe, Int.reduceNeg, k9, k92, k147, k148]
                  subst hK150
                  refine eb_seq ?_
                  refine rb_ret ?_
                  refine eb_blk_r ?_
                  obtain rfl := Option.some.inj h
                  exact eb_nil ⟨rfl, Wk.of (fun i => some i) _ _ _ (by simp -implicitDefEqProofs [upd_app, argL, envL_app, heapL_app, look, appEff, wkEnv, wkHeap, D.ren, D.ren1, D.idOk, D.idOk1, Blk.ren, Blk.idOk, k9, k92, k147, k148]) (by simp -implicitDefEqProofs [upd_app, argL, envL_app, heapL_app, look, appEff, wkEnv, wkHeap, D.ren, D.ren1, D.idOk, D.idOk1, Blk.ren, Blk.idOk, k9, k92, k147, k148])⟩
                · simp -implicitDefEqProofs only [vt, ↓atI_fold, forall_const, reduceIte, reduceCtorEq, Nat.reduceEqDiff, Nat.reduceAdd, Nat.reduceSub, Nat.reduceMul, Nat.reduceLT, Nat.reduceLeDiff, Nat.reducePow, Int.reduceToNat, Int.reduceLT, Int.reduceLE, Int.reduceAdd, Int.reduceSub, Int.reduceMul, Int.reduceEq, Int.reduceBEq, Int.reduceBNe, Int.reduceNeg, k9, k92, k147, k148]
                  obtain ⟨b151, h152, h⟩ := bind_some h
                  simp -implicitDefEqProofs only [vt, ↓atI_fold, forall_const, reduceIte, reduceCtorEq, Nat.reduceEqDiff, Nat.reduceAdd, Nat.reduceSub, Nat.reduceMul, Nat.reduceLT, Nat.reduceLeDiff, Nat.reducePow, Int.reduceToNat, Int.reduceLT, Int.reduceLE, Int.reduceAdd, Int.reduceSub, Int.reduceMul, Int.reduceEq, Int.reduceBEq, Int.reduceBNe, Int.reduceNeg, k9, k92, k147, k148, h152]
                  obtain ⟨r153, h154, h⟩ := bind_some h
                  refine cW.intro (a_ref07_digit I hI (b151.toNat : Int) h154) (by first | rfl | (simp [List.map_append]; done)) ?_
                  simp -implicitDefEqProofs only [vt, ↓atI_fold, forall_const, reduceIte, reduceCtorEq, Nat.reduceEqDiff, Nat.reduceAdd, Nat.reduceSub, Nat.reduceMul, Nat.reduceLT, Nat.reduceLeDiff, Nat.reducePow, Int.reduceToNat, Int.reduceLT, Int.reduceLE, Int.reduceAdd, Int.reduceSub, Int.reduceMul, Int.reduceEq, Int.reduceBEq, Int.reduceBNe, Int.reduceNeg, k9, k92, k147, k148, h152]
                  rcases ite_or h with ⟨k155, h⟩ | ⟨k155, h⟩
                  · simp -implicitDefEqProofs only [vt, ↓atI_fold, forall_const, reduceIte, reduceCtorEq, Nat.reduceEqDiff, Nat.reduceAdd, Nat.reduceSub, Nat.reduceMul, Nat.reduceLT, Nat.reduceLeDiff, Nat.reducePow, Int.reduceToNat, Int.reduceLT, Int.reduceLE, Int.reduceAdd, Int.reduceSub, Int.reduceMul, Int.reduceEq, Int.reduceBEq, Int.reduceBNe, Int.reduceNeg, k9, k92, k147, k148, h152, k155]
                    subst hK146
                    refine eb_seq ?_
                    refine rb_false (rfl) ?_
                    refine rb_skip ?_
                    refine eb_blk_n ?_
                    obtain rfl := Option.some.inj h
                    exact eb_nil ⟨rfl, Wk.of (fun i => some i) _ _ _ (by simp -implicitDefEqProofs [upd_app, argL, envL_app, heapL_app, look, appEff, wkEnv, wkHeap, D.ren, D.ren1, D.idOk, D.idOk1, Blk.ren, Blk.idOk, k9, k92, k147, k148, k155]) (by simp -implicitDefEqProofs [upd_app, argL, envL_app, heapL_app, look, appEff, wkEnv, wkHeap, D.ren, D.ren1, D.idOk, D.idOk1, Blk.ren, Blk.idOk, k9, k92, k147, k148, k155])⟩
                  · simp -implicitDefEqProofs only [vt, ↓atI_fold, forall_const, reduceIte, reduceCtorEq, Nat.reduceEqDiff, Nat.reduceAdd, Nat.reduceSub, Nat.reduceMul, Nat.reduceLT, Nat.reduceLeDiff, Nat.reducePow, Int.reduceToNat, Int.reduceLT, Int.reduceLE, Int.reduceAdd, Int.reduceSub, Int.reduceMul, Int.reduceEq, Int.reduceBEq, Int.reduceBNe, Int.reduceNeg, k9, k92, k147, k148, h152, k155]
                    rcases ite_or h with ⟨k156, h⟩ | ⟨k156, h⟩
                    · simp -implicitDefEqProofs only [vt, ↓atI_fold, forall_const, reduceIte, reduceCtorEq, Nat.reduceEqDiff, Nat.reduceAdd, Nat.reduceSub, Nat.reduceMul, Nat.reduceLT, Nat.reduceLeDiff, Nat.reducePow, Int.reduceToNat, Int.reduceLT, Int.reduceLE, Int.reduceAdd, Int.reduceSub, Int.reduceMul, Int.reduceEq, Int.reduceBEq, Int.reduceBNe, Int.reduceNeg, k9, k92, k147, k148, h152, k155, k156]
                      subst hK146
                      refine eb_seq ?_
                      rcases ite_or h with ⟨k157, h⟩ | ⟨k157, h⟩
                      · refine rb_true (congrArg D.bool k157) ?_
                        refine rb_seq ?_
                        refine rb_regionK fun K159 hK159 => ?_
                        simp -implicitDefEqProofs only [vt, ↓atI_fold, forall_const, reduceIte, reduceCtorEq, Nat.reduceEqDiff, Nat.reduceAdd, Nat.reduceSub, Nat.reduceMul, Nat.reduceLT, Nat.reduceLeDiff, Nat.reducePow, Int.reduceToNat, Int.reduceLT, Int.reduceLE, Int.reduceAdd, Int.reduceSub, Int.reduceMul, Int.reduceEq, Int.reduceBEq, Int.reduceBNe, Int.reduceNeg, k9, k92, k147, k148, h152, k155, k156, k157]
                        subst hK159
                        refine eb_seq ?_
                        refine rb_ret ?_
                        refine eb_blk_r ?_
                        obtain rfl := Option.some.inj h
                        exact eb_nil ⟨rfl, Wk.of (fun i => some i) _ _ _ (by simp -implicitDefEqProofs [upd_app, argL, envL_app, heapL_app, look, appEff, wkEnv, wkHeap, D.ren, D.ren1, D.idOk, D.idOk1, Blk.ren, Blk.idOk, k9, k92, k147, k148, k155, k156, k157]) (by simp -implicitDefEqProofs [upd_app, argL, envL_app, heapL_app, look, appEff, wkEnv, wkHeap, D.ren, D.ren1, D.idOk, D.idOk1, Blk.ren, Blk.idOk, k9, k92, k147, k148, k155, k156, k157])⟩
                      · refine rb_false (congrArg D.bool k157) ?_
                        refine rb_skip ?_
                        refine eb_blk_n ?_
                        obtain rfl := Option.some.inj h
                        exact eb_nil ⟨rfl, Wk.of (fun i => some i) _ _ _ (by simp -implicitDefEqProofs [upd_app, argL, envL_app, heapL_app, look, appEff, wkEnv, wkHeap, D.ren, D.ren1, D.idOk, D.idOk1, Blk.ren, Blk.idOk, k9, k92, k147, k148, k155, k156, k157]) (by simp -implicitDefEqProofs [upd_app, argL, envL_app, heapL_app, look, appEff, wkEnv, wkHeap, D.ren, D.ren1, D.idOk, D.idOk1, Blk.ren, Blk.idOk, k9, k92, k147, k148, k155, k156, k157])⟩
                    · simp -implicitDefEqProofs only [vt, ↓atI_fold, forall_const, reduceIte, reduceCtorEq, Nat.reduceEqDiff, Nat.reduceAdd, Nat.reduceSub, Nat.reduceMul, Nat.reduceLT, Nat.reduceLeDiff, Nat.reducePow, Int.reduceToNat, Int.reduceLT, Int.reduceLE, Int.reduceAdd, Int.reduceSub, Int.reduceMul, Int.reduceEq, Int.reduceBEq, Int.reduceBNe, Int.reduceNeg, k9, k92, k147, k148, h152, k155, k156]
                      subst hK146
                      refine eb_seq ?_
                      refine rb_false (rfl) ?_
                      refine rb_skip ?_
                      refine eb_blk_n ?_
                      obtain rfl := Option.some.inj h
                      exact eb_nil ⟨rfl, Wk.of (fun i => some i) _ _ _ (by simp -implicitDefEqProofs [upd_app, argL, envL_app, heapL_app, look, appEff, wkEnv, wkHeap, D.ren, D.ren1, D.idOk, D.idOk1, Blk.ren, Blk.idOk, k9, k92, k147, k148, k155, k156]) (by simp -implicitDefEqProofs [upd_app, argL, envL_app, heapL_app, look, appEff, wkEnv, wkHeap, D.ren, D.ren1, D.idOk, D.idOk1, Blk.ren, Blk.idOk, k9, k92, k147, k148, k155, k156])⟩
          · rintro v126 rfl
            dsimp only at h
            refine rb_regionK fun K163 hK163 => ?_
            simp -implicitDefEqProofs only [vt, ↓atI_fold, forall_const, reduceIte, reduceCtorEq, Nat.reduceEqDiff, Nat.reduceAdd, Nat.reduceSub, Nat.reduceMul, Nat.reduceLT, Nat.reduceLeDiff, Nat.reducePow, Int.reduceToNat, Int.reduceLT, Int.reduceLE, Int.reduceAdd, Int.reduceSub, Int.reduceMul, Int.reduceEq, Int.reduceBEq, Int.reduceBNe, Int.reduceNeg, k9, k92]
            subst hK163
            obtain rfl := Option.some.inj h
            exact eb_nil ⟨rfl, Wk.of (fun i => some i) _ _ _ (by simp -implicitDefEqProofs [upd_app, argL, envL_app, heapL_app, look, appEff, wkEnv, wkHeap, D.ren, D.ren1, D.idOk, D.idOk1, Blk.ren, Blk.idOk, k9, k92]) (by simp -implicitDefEqProofs [upd_app, argL, envL_app, heapL_app, look, appEff, wkEnv, wkHeap, D.ren, D.ren1, D.idOk, D.idOk1, Blk.ren, Blk.idOk, k9, k92])⟩
          · rintro e162 rfl
            dsimp only at h
            obtain rfl := Option.some.inj h
            exact eb_nil ⟨rfl, Wk.of (fun i => some i) _ _ _ (by simp -implicitDefEqProofs [upd_app, argL, envL_app, heapL_app, look, appEff, wkEnv, wkHeap, D.ren, D.ren1, D.idOk, D.idOk1, Blk.ren, Blk.idOk, k9, k92]) (by simp -implicitDefEqProofs [upd_app, argL, envL_app, heapL_app, look, appEff, wkEnv, wkHeap, D.ren, D.ren1, D.idOk, D.idOk1, Blk.ren, Blk.idOk, k9, k92])⟩
        · refine rb_false (congrArg D.bool k92) ?_
          refine rb_exit ?_
          refine eb_seq_e ?_
          obtain rfl := Option.some.inj h
          exact eb_nil ⟨rfl, Wk.of (fun i => some i) _ _ _ (by simp -implicitDefEqProofs [upd_app, argL, envL_app, heapL_app, look, appEff, wkEnv, wkHeap, D.ren, D.ren1, D.idOk, D.idOk1, Blk.ren, Blk.idOk, k9, k92]) (by simp -implicitDefEqProofs [upd_app, argL, envL_app, heapL_app, look, appEff, wkEnv, wkHeap, D.ren, D.ren1, D.idOk, D.idOk1, Blk.ren, Blk.idOk, k9, k92])⟩
      · rcases e15 with e15 | e15
        · try dsimp only at h ⊢
          refine eb_blk_r ?_
          refine eb_seq_r ?_
          obtain rfl := Option.some.inj h
          refine eb_nil ?_
          simp -implicitDefEqProofs only [vt, ↓atI_fold, forall_const, reduceIte, reduceCtorEq, Nat.reduceEqDiff, Nat.reduceAdd, Nat.reduceSub, Nat.reduceMul, Nat.reduceLT, Nat.reduceLeDiff, Nat.reducePow, Int.reduceToNat, Int.reduceLT, Int.reduceLE, Int.reduceAdd, Int.reduceSub, Int.reduceMul, Int.reduceEq, Int.reduceBEq, Int.reduceBNe, Int.reduceNeg, retQ_r, Tryd.results52, k9] <;> first | rfl | (simp [List.map_append]; done)
        · try dsimp only at h ⊢
          refine eb_blk_hit ?_
          refine eb_seq ?_
          refine rb_seq ?_
          refine rb_regionK fun K166 hK166 => ?_
          simp -implicitDefEqProofs only [vt, ↓atI_fold, forall_const, reduceIte, reduceCtorEq, Nat.reduceEqDiff, Nat.reduceAdd, Nat.reduceSub, Nat.reduceMul, Nat.reduceLT, Nat.reduceLeDiff, Nat.reducePow, Int.reduceToNat, Int.reduceLT, Int.reduceLE, Int.reduceAdd, Int.reduceSub, Int.reduceMul, Int.reduceEq, Int.reduceBEq, Int.reduceBNe, Int.reduceNeg, k9]
          subst hK166
          refine eb_seq ?_
          refine rb_ret ?_
          obtain rfl := Option.some.inj h
          refine eb_nil ?_
          simp -implicitDefEqProofs only [vt, ↓atI_fold, forall_const, reduceIte, reduceCtorEq, Nat.reduceEqDiff, Nat.reduceAdd, Nat.reduceSub, Nat.reduceMul, Nat.reduceLT, Nat.reduceLeDiff, Nat.reducePow, Int.reduceToNat, Int.reduceLT, Int.reduceLE, Int.reduceAdd, Int.reduceSub, Int.reduceMul, Int.reduceEq, Int.reduceBEq, Int.reduceBNe, Int.reduceNeg, retQ_r, Tryd.results52, k9] <;> first | rfl | (simp [List.map_append]; done)
-- region.from
def g_region_from (n_0 : Int) (low_1 : Int) (high_2 : Int) : Option (Bool) :=
  (if (decide (low_1 ≤ n_0)) then (some (decide (n_0 ≤ high_2))) else (some false))
theorem a_region_from (I : World → Prop) (hI : Stab I) (n_0 : Int) (low_1 : Int) (high_2 : Int) {r : Bool} (h : g_region_from n_0 low_1 high_2 = some r) : AFun Tryd.prog I 67 [.int .i64 n_0, .int .i64 low_1, .int .i64 high_2] (.bool r) := by
  refine AFun.enterB hI Tryd.func67 rfl (by decide) (by simp [Tryd.f67]) (by kernel_rfl) ?_
  unfold g_region_from at h
  simp only [S0, Tryd.ntmps67]
  refine rb_seq ?_
  refine rb_regionK fun K2 hK2 => ?_
  simp -implicitDefEqProofs only [vt, ↓atI_fold, forall_const, reduceIte, reduceCtorEq, Nat.reduceEqDiff, Nat.reduceAdd, Nat.reduceSub, Nat.reduceMul, Nat.reduceLT, Nat.reduceLeDiff, Nat.reducePow, Int.reduceToNat, Int.reduceLT, Int.reduceLE, Int.reduceAdd, Int.reduceSub, Int.reduceMul, Int.reduceEq, Int.reduceBEq, Int.reduceBNe, Int.reduceNeg]
  subst hK2
  refine eb_seq ?_
  refine rb_seq ?_
  refine rb_regionK fun K5 hK5 => ?_
  simp -implicitDefEqProofs only [vt, ↓atI_fold, forall_const, reduceIte, reduceCtorEq, Nat.reduceEqDiff, Nat.reduceAdd, Nat.reduceSub, Nat.reduceMul, Nat.reduceLT, Nat.reduceLeDiff, Nat.reducePow, Int.reduceToNat, Int.reduceLT, Int.reduceLE, Int.reduceAdd, Int.reduceSub, Int.reduceMul, Int.reduceEq, Int.reduceBEq, Int.reduceBNe, Int.reduceNeg]
  rcases ite_or h with ⟨k6, h⟩ | ⟨k6, h⟩
  · simp -implicitDefEqProofs only [vt, ↓atI_fold, forall_const, reduceIte, reduceCtorEq, Nat.reduceEqDiff, Nat.reduceAdd, Nat.reduceSub, Nat.reduceMul, Nat.reduceLT, Nat.reduceLeDiff, Nat.reducePow, Int.reduceToNat, Int.reduceLT, Int.reduceLE, Int.reduceAdd, Int.reduceSub, Int.reduceMul, Int.reduceEq, Int.reduceBEq, Int.reduceBNe, Int.reduceNeg, k6]
    subst hK5
    refine eb_seq ?_
    refine rb_ret ?_
    obtain rfl := Option.some.inj h
    refine eb_nil ?_
    simp -implicitDefEqProofs only [vt, ↓atI_fold, forall_const, reduceIte, reduceCtorEq, Nat.reduceEqDiff, Nat.reduceAdd, Nat.reduceSub, Nat.reduceMul, Nat.reduceLT, Nat.reduceLeDiff, Nat.reducePow, Int.reduceToNat, Int.reduceLT, Int.reduceLE, Int.reduceAdd, Int.reduceSub, Int.reduceMul, Int.reduceEq, Int.reduceBEq, Int.reduceBNe, Int.reduceNeg, retQ_r, Tryd.results67, k6] <;> first | rfl | (simp [List.map_append]; done)
  · simp -implicitDefEqProofs only [vt, ↓atI_fold, forall_const, reduceIte, reduceCtorEq, Nat.reduceEqDiff, Nat.reduceAdd, Nat.reduceSub, Nat.reduceMul, Nat.reduceLT, Nat.reduceLeDiff, Nat.reducePow, Int.reduceToNat, Int.reduceLT, Int.reduceLE, Int.reduceAdd, Int.reduceSub, Int.reduceMul, Int.reduceEq, Int.reduceBEq, Int.reduceBNe, Int.reduceNeg, k6]
    subst hK5
    refine eb_seq ?_
    refine rb_ret ?_
    obtain rfl := Option.some.inj h
    refine eb_nil ?_
    simp -implicitDefEqProofs only [vt, ↓atI_fold, forall_const, reduceIte, reduceCtorEq, Nat.reduceEqDiff, Nat.reduceAdd, Nat.reduceSub, Nat.reduceMul, Nat.reduceLT, Nat.reduceLeDiff, Nat.reducePow, Int.reduceToNat, Int.reduceLT, Int.reduceLE, Int.reduceAdd, Int.reduceSub, Int.reduceMul, Int.reduceEq, Int.reduceBEq, Int.reduceBNe, Int.reduceNeg, retQ_r, Tryd.results67, k6] <;> first | rfl | (simp [List.map_append]; done)
-- captionerref10.margin
def g_ref10_margin (n_0 : Int) : Option (Bool) :=
  (if (decide (0 ≤ n_0)) then (some (decide (n_0 ≤ 32))) else (some false))
theorem a_ref10_margin (I : World → Prop) (hI : Stab I) (n_0 : Int) {r : Bool} (h : g_ref10_margin n_0 = some r) : AFun Tryd.prog I 68 [.int .i64 n_0] (.bool r) := by
  refine AFun.enterB hI Tryd.func68 rfl (by decide) (by simp [Tryd.f68]) (by kernel_rfl) ?_
  unfold g_ref10_margin at h
  simp only [S0, Tryd.ntmps68]
  refine rb_seq ?_
  refine rb_regionK fun K2 hK2 => ?_
  simp -implicitDefEqProofs only [vt, ↓atI_fold, forall_const, reduceIte, reduceCtorEq, Nat.reduceEqDiff, Nat.reduceAdd, Nat.reduceSub, Nat.reduceMul, Nat.reduceLT, Nat.reduceLeDiff, Nat.reducePow, Int.reduceToNat, Int.reduceLT, Int.reduceLE, Int.reduceAdd, Int.reduceSub, Int.reduceMul, Int.reduceEq, Int.reduceBEq, Int.reduceBNe, Int.reduceNeg]
  subst hK2
  refine eb_seq ?_
  refine rb_seq ?_
  refine rb_regionK fun K5 hK5 => ?_
  simp -implicitDefEqProofs only [vt, ↓atI_fold, forall_const, reduceIte, reduceCtorEq, Nat.reduceEqDiff, Nat.reduceAdd, Nat.reduceSub, Nat.reduceMul, Nat.reduceLT, Nat.reduceLeDiff, Nat.reducePow, Int.reduceToNat, Int.reduceLT, Int.reduceLE, Int.reduceAdd, Int.reduceSub, Int.reduceMul, Int.reduceEq, Int.reduceBEq, Int.reduceBNe, Int.reduceNeg]
  rcases ite_or h with ⟨k6, h⟩ | ⟨k6, h⟩
  · simp -implicitDefEqProofs only [vt, ↓atI_fold, forall_const, reduceIte, reduceCtorEq, Nat.reduceEqDiff, Nat.reduceAdd, Nat.reduceSub, Nat.reduceMul, Nat.reduceLT, Nat.reduceLeDiff, Nat.reducePow, Int.reduceToNat, Int.reduceLT, Int.reduceLE, Int.reduceAdd, Int.reduceSub, Int.reduceMul, Int.reduceEq, Int.reduceBEq, Int.reduceBNe, Int.reduceNeg, k6]
    subst hK5
    refine eb_seq ?_
    refine rb_ret ?_
    obtain rfl := Option.some.inj h
    refine eb_nil ?_
    simp -implicitDefEqProofs only [vt, ↓atI_fold, forall_const, reduceIte, reduceCtorEq, Nat.reduceEqDiff, Nat.reduceAdd, Nat.reduceSub, Nat.reduceMul, Nat.reduceLT, Nat.reduceLeDiff, Nat.reducePow, Int.reduceToNat, Int.reduceLT, Int.reduceLE, Int.reduceAdd, Int.reduceSub, Int.reduceMul, Int.reduceEq, Int.reduceBEq, Int.reduceBNe, Int.reduceNeg, retQ_r, Tryd.results68, k6] <;> first | rfl | (simp [List.map_append]; done)
  · simp -implicitDefEqProofs only [vt, ↓atI_fold, forall_const, reduceIte, reduceCtorEq, Nat.reduceEqDiff, Nat.reduceAdd, Nat.reduceSub, Nat.reduceMul, Nat.reduceLT, Nat.reduceLeDiff, Nat.reducePow, Int.reduceToNat, Int.reduceLT, Int.reduceLE, Int.reduceAdd, Int.reduceSub, Int.reduceMul, Int.reduceEq, Int.reduceBEq, Int.reduceBNe, Int.reduceNeg, k6]
    subst hK5
    refine eb_seq ?_
    refine rb_ret ?_
    obtain rfl := Option.some.inj h
    refine eb_nil ?_
    simp -implicitDefEqProofs only [vt, ↓atI_fold, forall_const, reduceIte, reduceCtorEq, Nat.reduceEqDiff, Nat.reduceAdd, Nat.reduceSub, Nat.reduceMul, Nat.reduceLT, Nat.reduceLeDiff, Nat.reducePow, Int.reduceToNat, Int.reduceLT, Int.reduceLE, Int.reduceAdd, Int.reduceSub, Int.reduceMul, Int.reduceEq, Int.reduceBEq, Int.reduceBNe, Int.reduceNeg, retQ_r, Tryd.results68, k6] <;> first | rfl | (simp [List.map_append]; done)
-- region.Default
def g_region_Default  : Option (T_api_Region) :=
  (some (T_api_Region.mk [] 11 4 0 32 2 true))
theorem a_region_Default (I : World → Prop) (hI : Stab I)  {r : T_api_Region} (h : g_region_Default  = some r) : AFun Tryd.prog I 35 [] (T_api_Region.d r) := by
  refine AFun.enterB hI Tryd.func35 rfl (by decide) (by simp [Tryd.f35]) (by kernel_rfl) ?_
  unfold g_region_Default at h
  simp only [S0, Tryd.ntmps35, T_api_Region.d]
  refine rb_seq ?_
  refine rb_regionK fun K2 hK2 => ?_
  simp -implicitDefEqProofs only [vt, ↓atI_fold, forall_const, reduceIte, reduceCtorEq, Nat.reduceEqDiff, Nat.reduceAdd, Nat.reduceSub, Nat.reduceMul, Nat.reduceLT, Nat.reduceLeDiff, Nat.reducePow, Int.reduceToNat, Int.reduceLT, Int.reduceLE, Int.reduceAdd, Int.reduceSub, Int.reduceMul, Int.reduceEq, Int.reduceBEq, Int.reduceBNe, Int.reduceNeg]
  subst hK2
  refine eb_seq ?_
  refine rb_seq ?_
  refine rb_regionK fun K4 hK4 => ?_
  simp -implicitDefEqProofs only [vt, ↓atI_fold, forall_const, reduceIte, reduceCtorEq, Nat.reduceEqDiff, Nat.reduceAdd, Nat.reduceSub, Nat.reduceMul, Nat.reduceLT, Nat.reduceLeDiff, Nat.reducePow, Int.reduceToNat, Int.reduceLT, Int.reduceLE, Int.reduceAdd, Int.reduceSub, Int.reduceMul, Int.reduceEq, Int.reduceBEq, Int.reduceBNe, Int.reduceNeg]
  subst hK4
  refine eb_seq ?_
  refine rb_ret ?_
  obtain rfl := Option.some.inj h
  refine eb_nil ?_
  simp -implicitDefEqProofs only [vt, ↓atI_fold, forall_const, reduceIte, reduceCtorEq, Nat.reduceEqDiff, Nat.reduceAdd, Nat.reduceSub, Nat.reduceMul, Nat.reduceLT, Nat.reduceLeDiff, Nat.reducePow, Int.reduceToNat, Int.reduceLT, Int.reduceLE, Int.reduceAdd, Int.reduceSub, Int.reduceMul, Int.reduceEq, Int.reduceBEq, Int.reduceBNe, Int.reduceNeg, retQ_r, Tryd.results35, T_api_Region.d] <;> first | rfl | (simp [List.map_append, T_api_Region.d]; done)
-- captionerref10.Default
def g_ref10_Default  : Option (T_api_Region) :=
  (some (T_api_Region.mk [] 11 4 0 32 2 true))
theorem a_ref10_Default (I : World → Prop) (hI : Stab I)  {r : T_api_Region} (h : g_ref10_Default  = some r) : AFun Tryd.prog I 36 [] (T_api_Region.d r) := by
  refine AFun.enterB hI Tryd.func36 rfl (by decide) (by simp [Tryd.f36]) (by kernel_rfl) ?_
  unfold g_ref10_Default at h
  simp only [S0, Tryd.ntmps36, T_api_Region.d]
  refine rb_seq ?_
  refine rb_regionK fun K2 hK2 => ?_
  simp -implicitDefEqProofs only [vt, ↓atI_fold, forall_const, reduceIte, reduceCtorEq, Nat.reduceEqDiff, Nat.reduceAdd, Nat.reduceSub, Nat.reduceMul, Nat.reduceLT, Nat.reduceLeDiff, Nat.reducePow, Int.reduceToNat, Int.reduceLT, Int.reduceLE, Int.reduceAdd, Int.reduceSub, Int.reduceMul, Int.reduceEq, Int.reduceBEq, Int.reduceBNe, Int.reduceNeg, T_api_Region.d]
  subst hK2
  refine eb_seq ?_
  refine rb_seq ?_
  refine rb_regionK fun K4 hK4 => ?_
  simp -implicitDefEqProofs only [vt, ↓atI_fold, forall_const, reduceIte, reduceCtorEq, Nat.reduceEqDiff, Nat.reduceAdd, Nat.reduceSub, Nat.reduceMul, Nat.reduceLT, Nat.reduceLeDiff, Nat.reducePow, Int.reduceToNat, Int.reduceLT, Int.reduceLE, Int.reduceAdd, Int.reduceSub, Int.reduceMul, Int.reduceEq, Int.reduceBEq, Int.reduceBNe, Int.reduceNeg, T_api_Region.d]
  subst hK4
  refine eb_seq ?_
  refine rb_ret ?_
  obtain rfl := Option.some.inj h
  refine eb_nil ?_
  simp -implicitDefEqProofs only [vt, ↓atI_fold, forall_const, reduceIte, reduceCtorEq, Nat.reduceEqDiff, Nat.reduceAdd, Nat.reduceSub, Nat.reduceMul, Nat.reduceLT, Nat.reduceLeDiff, Nat.reducePow, Int.reduceToNat, Int.reduceLT, Int.reduceLE, Int.reduceAdd, Int.reduceSub, Int.reduceMul, Int.reduceEq, Int.reduceBEq, Int.reduceBNe, Int.reduceNeg, retQ_r, Tryd.results36, T_api_Region.d] <;> first | rfl | (simp [List.map_append, T_api_Region.d]; done)
-- region.Check
def g_region_Check (r_0 : T_api_Region) : Option (Int) :=
  ((g_lines_Name r_0.Name).bind fun r54 => (if r54 then ((((g_region_from r_0.Top 0 14).bind fun r71 => (if r71 then ((g_region_from r_0.Height 1 (IntKind.i64.wrap (15 - r_0.Top))).bind fun r74 => (if r74 then ((g_region_from r_0.Left 0 31).bind fun r77 => (if r77 then ((g_region_from r_0.Width 1 (IntKind.i64.wrap (32 - r_0.Left))).bind fun r80 => (some (!r80))) else (some true))) else (some true))) else (some true))) : Option (Bool)).bind fun v69 => (if v69 then (some 2) else (if (decide (r_0.Align < 1)) then (some 3) else (if (decide (3 < r_0.Align)) then (some 3) else (some 0))))) else (some 5)))
theorem a_region_Check (I : World → Prop) (hI : Stab I) (r_0 : T_api_Region) {r : Int} (h : g_region_Check r_0 = some r) : AFun Tryd.prog I 32 [T_api_Region.d r_0] (.int .i64 r) := by
  refine AFun.enterB hI Tryd.func32 rfl (by decide) (by simp [Tryd.f32]) (by kernel_rfl) ?_
  unfold g_region_Check at h
  simp only [S0, Tryd.ntmps32, T_api_Region.d]
  refine rb_seq ?_
  refine rb_regionK fun K2 hK2 => ?_
  simp -implicitDefEqProofs only [vt, ↓atI_fold, forall_const, reduceIte, reduceCtorEq, Nat.reduceEqDiff, Nat.reduceAdd, Nat.reduceSub, Nat.reduceMul, Nat.reduceLT, Nat.reduceLeDiff, Nat.reducePow, Int.reduceToNat, Int.reduceLT, Int.reduceLE, Int.reduceAdd, Int.reduceSub, Int.reduceMul, Int.reduceEq, Int.reduceBEq, Int.reduceBNe, Int.reduceNeg, T_api_Region.d]
  subst hK2
  refine eb_seq ?_
  refine rb_seq ?_
  refine rb_block ?_
  refine rb_seq ?_
  refine rb_regionK fun K53 hK53 => ?_
  simp -implicitDefEqProofs only [vt, ↓atI_fold, forall_const, reduceIte, reduceCtorEq, Nat.reduceEqDiff, Nat.reduceAdd, Nat.reduceSub, Nat.reduceMul, Nat.reduceLT, Nat.reduceLeDiff, Nat.reducePow, Int.reduceToNat, Int.reduceLT, Int.reduceLE, Int.reduceAdd, Int.reduceSub, Int.reduceMul, Int.reduceEq, Int.reduceBEq, Int.reduceBNe, Int.reduceNeg, T_api_Region.d]
  obtain ⟨r54, h55, h⟩ := bind_some h
  refine cW.intro (a_lines_Name I hI r_0.Name h55) (by first | rfl | (simp [List.map_append, T_api_Region.d]; done)) ?_
  simp -implicitDefEqProofs only [vt, ↓atI_fold, forall_const, reduceIte, reduceCtorEq, Nat.reduceEqDiff, Nat.reduceAdd, Nat.reduceSub, Nat.reduceMul, Nat.reduceLT, Nat.reduceLeDiff, Nat.reducePow, Int.reduceToNat, Int.reduceLT, Int.reduceLE, Int.reduceAdd, Int.reduceSub, Int.reduceMul, Int.reduceEq, Int.reduceBEq, Int.reduceBNe, Int.reduceNeg, T_api_Region.d]
  subst hK53
  refine eb_seq ?_
  rcases ite_or h with ⟨k56, h⟩ | ⟨k56, h⟩
  · refine rb_false (congrArg D.bool (congrArg Bool.not k56)) ?_
    obtain ⟨v69, h82, h⟩ := bind_some h
    refine rb_cut (fun v69 => ⟨envL [(1, .ptr 0 0), (8, .bool v69)], heapL [(0, .box [.str r_0.Name, .int .i64 r_0.Top, .int .i64 r_0.Height, .int .i64 r_0.Left, .int .i64 r_0.Width, .int .u8 r_0.Align, .bool r_0.Bottom])], 1, 46⟩) h82 ?_ ?_
    · clear h
      intro v69 h
      refine rb_regionK fun K70 hK70 => ?_
      simp -implicitDefEqProofs only [vt, ↓atI_fold, forall_const, reduceIte, reduceCtorEq, Nat.reduceEqDiff, Nat.reduceAdd, Nat.reduceSub, Nat.reduceMul, Nat.reduceLT, Nat.reduceLeDiff, Nat.reducePow, Int.reduceToNat, Int.reduceLT, Int.reduceLE, Int.reduceAdd, Int.reduceSub, Int.reduceMul, Int.reduceEq, Int.reduceBEq, Int.reduceBNe, Int.reduceNeg, T_api_Region.d, k56]
      obtain ⟨r71, h72, h⟩ := bind_some h
      refine cW.intro (a_region_from I hI r_0.Top 0 14 h72) (by first | rfl | (simp [List.map_append, T_api_Region.d]; done)) ?_
      simp -implicitDefEqProofs only [vt, ↓atI_fold, forall_const, reduceIte, reduceCtorEq, Nat.reduceEqDiff, Nat.reduceAdd, Nat.reduceSub, Nat.reduceMul, Nat.reduceLT, Nat.reduceLeDiff, Nat.reducePow, Int.reduceToNat, Int.reduceLT, Int.reduceLE, Int.reduceAdd, Int.reduceSub, Int.reduceMul, Int.reduceEq, Int.reduceBEq, Int.reduceBNe, Int.reduceNeg, T_api_Region.d, k56]
      rcases ite_or h with ⟨k73, h⟩ | ⟨k73, h⟩
      · simp -implicitDefEqProofs only [vt, ↓atI_fold, forall_const, reduceIte, reduceCtorEq, Nat.reduceEqDiff, Nat.reduceAdd, Nat.reduceSub, Nat.reduceMul, Nat.reduceLT, Nat.reduceLeDiff, Nat.reducePow, Int.reduceToNat, Int.reduceLT, Int.reduceLE, Int.reduceAdd, Int.reduceSub, Int.reduceMul, Int.reduceEq, Int.reduceBEq, Int.reduceBNe, Int.reduceNeg, T_api_Region.d, k56, k73]
        obtain ⟨r74, h75, h⟩ := bind_some h
        refine cW.intro (a_region_from I hI r_0.Height 1 (IntKind.i64.wrap (15 - r_0.Top)) h75) (by first | rfl | (simp [List.map_append, T_api_Region.d]; done)) ?_
        simp -implicitDefEqProofs only [vt, ↓atI_fold, forall_const, reduceIte, reduceCtorEq, Nat.reduceEqDiff, Nat.reduceAdd, Nat.reduceSub, Nat.reduceMul, Nat.reduceLT, Nat.reduceLeDiff, Nat.reducePow, Int.reduceToNat, Int.reduceLT, Int.reduceLE, Int.reduceAdd, Int.reduceSub, Int.reduceMul, Int.reduceEq, Int.reduceBEq, Int.reduceBNe, Int.reduceNeg, T_api_Region.d, k56, k73]
        rcases ite_or h with ⟨k76, h⟩ | ⟨k76, h⟩
        · simp -implicitDefEqProofs only [vt, ↓atI_fold, forall_const, reduceIte, reduceCtorEq, Nat.reduceEqDiff, Nat.reduceAdd, Nat.reduceSub, Nat.reduceMul, Nat.reduceLT, Nat.reduceLeDiff, Nat.reducePow, Int.reduceToNat, Int.reduceLT, Int.reduceLE, Int.reduceAdd, Int.reduceSub, Int.reduceMul, Int.reduceEq, Int.reduceBEq, Int.reduceBNe, Int.reduceNeg, T_api_Region.d, k56, k73, k76]
          obtain ⟨r77, h78, h⟩ := bind_some h
          refine cW.intro (a_region_from I hI r_0.Left 0 31 h78) (by first | rfl | (simp [List.map_append, T_api_Region.d]; done)) ?_
          simp -implicitDefEqProofs only [vt, ↓atI_fold, forall_const, reduceIte, reduceCtorEq, Nat.reduceEqDiff, Nat.reduceAdd, Nat.reduceSub, Nat.reduceMul, Nat.reduceLT, Nat.reduceLeDiff, Nat.reducePow, Int.reduceToNat, Int.reduceLT, Int.reduceLE, Int.reduceAdd, Int.reduceSub, Int.reduceMul, Int.reduceEq, Int.reduceBEq, Int.reduceBNe, Int.reduceNeg, T_api_Region.d, k56, k73, k76]
          rcases ite_or h with ⟨k79, h⟩ | ⟨k79, h⟩
          · simp -implicitDefEqProofs only [vt, ↓atI_fold, forall_const, reduceIte, reduceCtorEq, Nat.reduceEqDiff, Nat.reduceAdd, Nat.reduceSub, Nat.reduceMul, Nat.reduceLT, Nat.reduceLeDiff, Nat.reducePow, Int.reduceToNat, Int.reduceLT, Int.reduceLE, Int.reduceAdd, Int.reduceSub, Int.reduceMul, Int.reduceEq, Int.reduceBEq, Int.reduceBNe, Int.reduceNeg, T_api_Region.d, k56, k73, k76, k79]
            obtain ⟨r80, h81, h⟩ := bind_some h
            refine cW.intro (a_region_from I hI r_0.Width 1 (IntKind.i64.wrap (32 - r_0.Left)) h81) (by first | rfl | (simp [List.map_append, T_api_Region.d]; done)) ?_
            simp -implicitDefEqProofs only [vt, ↓atI_fold, forall_const, reduceIte, reduceCtorEq, Nat.reduceEqDiff, Nat.reduceAdd, Nat.reduceSub, Nat.reduceMul, Nat.reduceLT, Nat.reduceLeDiff, Nat.reducePow, Int.reduceToNat, Int.reduceLT, Int.reduceLE, Int.reduceAdd, Int.reduceSub, Int.reduceMul, Int.reduceEq, Int.reduceBEq, Int.reduceBNe, Int.reduceNeg, T_api_Region.d, k56, k73, k76, k79]
            subst hK70
            obtain rfl := Option.some.inj h
            exact eb_nil ⟨rfl, Wk.of (fun i => if i = 0 then some 0 else some i) _ _ _ (by simp -implicitDefEqProofs [upd_app, argL, envL_app, heapL_app, look, appEff, wkEnv, wkHeap, D.ren, D.ren1, D.idOk, D.idOk1, Blk.ren, Blk.idOk, T_api_Region.d, k56, k73, k76, k79]) (by simp -implicitDefEqProofs [upd_app, argL, envL_app, heapL_app, look, appEff, wkEnv, wkHeap, D.ren, D.ren1, D.idOk, D.idOk1, Blk.ren, Blk.idOk, T_api_Region.d, k56, k73, k76, k79])⟩
          · simp -implicitDefEqProofs only [vt, ↓atI_fold, forall_const, reduceIte, reduceCtorEq, Nat.reduceEqDiff, Nat.reduceAdd, Nat.reduceSub, Nat.reduceMul, Nat.reduceLT, Nat.reduceLeDiff, Nat.reducePow, Int.reduceToNat, Int.reduceLT, Int.reduceLE, Int.reduceAdd, Int.reduceSub, Int.reduceMul, Int.reduceEq, Int.reduceBEq, Int.reduceBNe, Int.reduceNeg, T_api_Region.d, k56, k73, k76, k79]
            subst hK70
            obtain rfl := Option.some.inj h
            exact eb_nil ⟨rfl, Wk.of (fun i => if i = 0 then some 0 else some i) _ _ _ (by simp -implicitDefEqProofs [upd_app, argL, envL_app, heapL_app, look, appEff, wkEnv, wkHeap, D.ren, D.ren1, D.idOk, D.idOk1, Blk.ren, Blk.idOk, T_api_Region.d, k56, k73, k76, k79]) (by simp -implicitDefEqProofs [upd_app, argL, envL_app, heapL_app, look, appEff, wkEnv, wkHeap, D.ren, D.ren1, D.idOk, D.idOk1, Blk.ren, Blk.idOk, T_api_Region.d, k56, k73, k76, k79])⟩
        · simp -implicitDefEqProofs only [vt, ↓atI_fold, forall_const, reduceIte, reduceCtorEq, Nat.reduceEqDiff, Nat.reduceAdd, Nat.reduceSub, Nat.reduceMul, Nat.reduceLT, Nat.reduceLeDiff, Nat.reducePow, Int.reduceToNat, Int.reduceLT, Int.reduceLE, Int.reduceAdd, Int.reduceSub, Int.reduceMul, Int.reduceEq, Int.reduceBEq, Int.reduceBNe, Int.reduceNeg, T_api_Region.d, k56, k73, k76]
          subst hK70
          obtain rfl := Option.some.inj h
          exact eb_nil ⟨rfl, Wk.of (fun i => if i = 0 then some 0 else some i) _ _ _ (by simp -implicitDefEqProofs [upd_app, argL, envL_app, heapL_app, look, appEff, wkEnv, wkHeap, D.ren, D.ren1, D.idOk, D.idOk1, Blk.ren, Blk.idOk, T_api_Region.d, k56, k73, k76]) (by simp -implicitDefEqProofs [upd_app, argL, envL_app, heapL_app, look, appEff, wkEnv, wkHeap, D.ren, D.ren1, D.idOk, D.idOk1, Blk.ren, Blk.idOk, T_api_Region.d, k56, k73, k76])⟩
      · simp -implicitDefEqProofs only [vt, ↓atI_fold, forall_const, reduceIte, reduceCtorEq, Nat.reduceEqDiff, Nat.reduceAdd, Nat.reduceSub, Nat.reduceMul, Nat.reduceLT, Nat.reduceLeDiff, Nat.reducePow, Int.reduceToNat, Int.reduceLT, Int.reduceLE, Int.reduceAdd, Int.reduceSub, Int.reduceMul, Int.reduceEq, Int.reduceBEq, Int.reduceBNe, Int.reduceNeg, T_api_Region.d, k56, k73]
        subst hK70
        obtain rfl := Option.some.inj h
        exact eb_nil ⟨rfl, Wk.of (fun i => if i = 0 then some 0 else some i) _ _ _ (by simp -implicitDefEqProofs [upd_app, argL, envL_app, heapL_app, look, appEff, wkEnv, wkHeap, D.ren, D.ren1, D.idOk, D.idOk1, Blk.ren, Blk.idOk, T_api_Region.d, k56, k73]) (by simp -implicitDefEqProofs [upd_app, argL, envL_app, heapL_app, look, appEff, wkEnv, wkHeap, D.ren, D.ren1, D.idOk, D.idOk1, Blk.ren, Blk.idOk, T_api_Region.d, k56, k73])⟩
    · rcases ite_or h with ⟨k83, h⟩ | ⟨k83, h⟩
      · refine rb_true (congrArg D.bool k83) ?_
        refine rb_seq ?_
        refine rb_regionK fun K85 hK85 => ?_
        simp -implicitDefEqProofs only [vt, ↓atI_fold, forall_const, reduceIte, reduceCtorEq, Nat.reduceEqDiff, Nat.reduceAdd, Nat.reduceSub, Nat.reduceMul, Nat.reduceLT, Nat.reduceLeDiff, Nat.reducePow, Int.reduceToNat, Int.reduceLT, Int.reduceLE, Int.reduceAdd, Int.reduceSub, Int.reduceMul, Int.reduceEq, Int.reduceBEq, Int.reduceBNe, Int.reduceNeg, T_api_Region.d, k56, k83]
        subst hK85
        refine eb_seq ?_
        refine rb_ret ?_
        refine eb_blk_r ?_
        refine eb_seq_r ?_
        obtain rfl := Option.some.inj h
        refine eb_nil ?_
        simp -implicitDefEqProofs only [vt, ↓atI_fold, forall_const, reduceIte, reduceCtorEq, Nat.reduceEqDiff, Nat.reduceAdd, Nat.reduceSub, Nat.reduceMul, Nat.reduceLT, Nat.reduceLeDiff, Nat.reducePow, Int.reduceToNat, Int.reduceLT, Int.reduceLE, Int.reduceAdd, Int.reduceSub, Int.reduceMul, Int.reduceEq, Int.reduceBEq, Int.reduceBNe, Int.reduceNeg, retQ_r, Tryd.results32, T_api_Region.d, k56, k83] <;> first | rfl | (simp [List.map_append, T_api_Region.d]; done)
      · refine rb_false (congrArg D.bool k83) ?_
        refine rb_seq ?_
        refine rb_regionK fun K88 hK88 => ?_
        simp -implicitDefEqProofs only [vt, ↓atI_fold, forall_const, reduceIte, reduceCtorEq, Nat.reduceEqDiff, Nat.reduceAdd, Nat.reduceSub, Nat.reduceMul, Nat.reduceLT, Nat.reduceLeDiff, Nat.reducePow, Int.reduceToNat, Int.reduceLT, Int.reduceLE, Int.reduceAdd, Int.reduceSub, Int.reduceMul, Int.reduceEq, Int.reduceBEq, Int.reduceBNe, Int.reduceNeg, T_api_Region.d, k56, k83]
        rcases ite_or h with ⟨k89, h⟩ | ⟨k89, h⟩
        · simp -implicitDefEqProofs only [vt, ↓atI_fold, forall_const, reduceIte, reduceCtorEq, Nat.reduceEqDiff, Nat.reduceAdd, Nat.reduceSub, Nat.reduceMul, Nat.reduceLT, Nat.reduceLeDiff, Nat.reducePow, Int.reduceToNat, Int.reduceLT, Int.reduceLE, Int.reduceAdd, Int.reduceSub, Int.reduceMul, Int.reduceEq, Int.reduceBEq, Int.reduceBNe, Int.reduceNeg, T_api_Region.d, k56, k83, k89]
          subst hK88
          refine eb_seq ?_
          refine rb_true (rfl) ?_
          refine rb_seq ?_
          refine rb_regionK fun K91 hK91 => ?_
          simp -implicitDefEqProofs only [vt, ↓atI_fold, forall_const, reduceIte, reduceCtorEq, Nat.reduceEqDiff, Nat.reduceAdd, Nat.reduceSub, Nat.reduceMul, Nat.reduceLT, Nat.reduceLeDiff, Nat.reducePow, Int.reduceToNat, Int.reduceLT, Int.reduceLE, Int.reduceAdd, Int.reduceSub, Int.reduceMul, Int.reduceEq, Int.reduceBEq, Int.reduceBNe, Int.reduceNeg, T_api_Region.d, k56, k83, k89]
          subst hK91
          refine eb_seq ?_
          refine rb_ret ?_
          refine eb_blk_r ?_
          refine eb_seq_r ?_
          obtain rfl := Option.some.inj h
          refine eb_nil ?_
          simp -implicitDefEqProofs only [vt, ↓atI_fold, forall_const, reduceIte, reduceCtorEq, Nat.reduceEqDiff, Nat.reduceAdd, Nat.reduceSub, Nat.reduceMul, Nat.reduceLT, Nat.reduceLeDiff, Nat.reducePow, Int.reduceToNat, Int.reduceLT, Int.reduceLE, Int.reduceAdd, Int.reduceSub, Int.reduceMul, Int.reduceEq, Int.reduceBEq, Int.reduceBNe, Int.reduceNeg, retQ_r, Tryd.results32, T_api_Region.d, k56, k83, k89] <;> first | rfl | (simp [List.map_append, T_api_Region.d]; done)
        · simp -implicitDefEqProofs only [vt, ↓atI_fold, forall_const, reduceIte, reduceCtorEq, Nat.reduceEqDiff, Nat.reduceAdd, Nat.reduceSub, Nat.reduceMul, Nat.reduceLT, Nat.reduceLeDiff, Nat.reducePow, Int.reduceToNat, Int.reduceLT, Int.reduceLE, Int.reduceAdd, Int.reduceSub, Int.reduceMul, Int.reduceEq, Int.reduceBEq, Int.reduceBNe, Int.reduceNeg, T_api_Region.d, k56, k83, k89]
          subst hK88
          refine eb_seq ?_
          rcases ite_or h with ⟨k92, h⟩ | ⟨k92, h⟩
          · refine rb_true (congrArg D.bool k92) ?_
            refine rb_seq ?_
            refine rb_regionK fun K94 hK94 => ?_
            simp -implicitDefEqProofs only [vt, ↓atI_fold, forall_const, reduceIte, reduceCtorEq, Nat.reduceEqDiff, Nat.reduceAdd, Nat.reduceSub, Nat.reduceMul, Nat.reduceLT, Nat.reduceLeDiff, Nat.reducePow, Int.reduceToNat, Int.reduceLT, Int.reduceLE, Int.reduceAdd, Int.reduceSub, Int.reduceMul, Int.reduceEq, Int.reduceBEq, Int.reduceBNe, Int.reduceNeg, T_api_Region.d, k56, k83, k89, k92]
            subst hK94
            refine eb_seq ?_
            refine rb_ret ?_
            refine eb_blk_r ?_
            refine eb_seq_r ?_
            obtain rfl := Option.some.inj h
            refine eb_nil ?_
            simp -implicitDefEqProofs only [vt, ↓atI_fold, forall_const, reduceIte, reduceCtorEq, Nat.reduceEqDiff, Nat.reduceAdd, Nat.reduceSub, Nat.reduceMul, Nat.reduceLT, Nat.reduceLeDiff, Nat.reducePow, Int.reduceToNat, Int.reduceLT, Int.reduceLE, Int.reduceAdd, Int.reduceSub, Int.reduceMul, Int.reduceEq, Int.reduceBEq, Int.reduceBNe, Int.reduceNeg, retQ_r, Tryd.results32, T_api_Region.d, k56, k83, k89, k92] <;> first | rfl | (simp [List.map_append, T_api_Region.d]; done)
          · refine rb_false (congrArg D.bool k92) ?_
            refine rb_skip ?_
            refine eb_blk_n ?_
            refine eb_seq ?_
            refine rb_seq ?_
            refine rb_regionK fun K96 hK96 => ?_
            simp -implicitDefEqProofs only [vt, ↓atI_fold, forall_const, reduceIte, reduceCtorEq, Nat.reduceEqDiff, Nat.reduceAdd, Nat.reduceSub, Nat.reduceMul, Nat.reduceLT, Nat.reduceLeDiff, Nat.reducePow, Int.reduceToNat, Int.reduceLT, Int.reduceLE, Int.reduceAdd, Int.reduceSub, Int.reduceMul, Int.reduceEq, Int.reduceBEq, Int.reduceBNe, Int.reduceNeg, T_api_Region.d, k56, k83, k89, k92]
            subst hK96
            refine eb_seq ?_
            refine rb_ret ?_
            obtain rfl := Option.some.inj h
            refine eb_nil ?_
            simp -implicitDefEqProofs only [vt, ↓atI_fold, forall_const, reduceIte, reduceCtorEq, Nat.reduceEqDiff, Nat.reduceAdd, Nat.reduceSub, Nat.reduceMul, Nat.reduceLT, Nat.reduceLeDiff, Nat.reducePow, Int.reduceToNat, Int.reduceLT, Int.reduceLE, Int.reduceAdd, Int.reduceSub, Int.reduceMul, Int.reduceEq, Int.reduceBEq, Int.reduceBNe, Int.reduceNeg, retQ_r, Tryd.results32, T_api_Region.d, k56, k83, k89, k92] <;> first | rfl | (simp [List.map_append, T_api_Region.d]; done)
  · refine rb_true (congrArg D.bool (congrArg Bool.not k56)) ?_
    refine rb_seq ?_
    refine rb_regionK fun K98 hK98 => ?_
    simp -implicitDefEqProofs only [vt, ↓atI_fold, forall_const, reduceIte, reduceCtorEq, Nat.reduceEqDiff, Nat.reduceAdd, Nat.reduceSub, Nat.reduceMul, Nat.reduceLT, Nat.reduceLeDiff, Nat.reducePow, Int.reduceToNat, Int.reduceLT, Int.reduceLE, Int.reduceAdd, Int.reduceSub, Int.reduceMul, Int.reduceEq, Int.reduceBEq, Int.reduceBNe, Int.reduceNeg, T_api_Region.d, k56]
    subst hK98
    refine eb_seq ?_
    refine rb_ret ?_
    refine eb_blk_r ?_
    refine eb_seq_r ?_
    obtain rfl := Option.some.inj h
    refine eb_nil ?_
    simp -implicitDefEqProofs only [vt, ↓atI_fold, forall_const, reduceIte, reduceCtorEq, Nat.reduceEqDiff, Nat.reduceAdd, Nat.reduceSub, Nat.reduceMul, Nat.reduceLT, Nat.reduceLeDiff, Nat.reducePow, Int.reduceToNat, Int.reduceLT, Int.reduceLE, Int.reduceAdd, Int.reduceSub, Int.reduceMul, Int.reduceEq, Int.reduceBEq, Int.reduceBNe, Int.reduceNeg, retQ_r, Tryd.results32, T_api_Region.d, k56] <;> first | rfl | (simp [List.map_append, T_api_Region.d]; done)
-- captionerref10.Check
def g_ref10_Check (r_0 : T_api_Region) : Option (Int) :=
  ((g_ref07_Name r_0.Name).bind fun r46 => (if r46 then (((if (decide (r_0.Top < 0)) then (some true) else (if (decide (14 < r_0.Top)) then (some true) else (if (decide (r_0.Height < 1)) then (some true) else (if (decide ((IntKind.i64.wrap (15 - r_0.Top)) < r_0.Height)) then (some true) else (if (decide (r_0.Left < 0)) then (some true) else (if (decide (31 < r_0.Left)) then (some true) else (if (decide (r_0.Width < 1)) then (some true) else (some (decide ((IntKind.i64.wrap (32 - r_0.Left)) < r_0.Width)))))))))) : Option (Bool)).bind fun v57 => (if v57 then (some 2) else (if (r_0.Align != 1) then (if (r_0.Align != 2) then (if (r_0.Align != 3) then (some 3) else (some 0)) else (some 0)) else (some 0)))) else (some 5)))
theorem a_ref10_Check (I : World → Prop) (hI : Stab I) (r_0 : T_api_Region) {r : Int} (h : g_ref10_Check r_0 = some r) : AFun Tryd.prog I 37 [T_api_Region.d r_0] (.int .i64 r) := by
  refine AFun.enterB hI Tryd.func37 rfl (by decide) (by simp [Tryd.f37]) (by kernel_rfl) ?_
  unfold g_ref10_Check at h
  simp only [S0, Tryd.ntmps37, T_api_Region.d]
  refine rb_seq ?_
  refine rb_regionK fun K2 hK2 => ?_
  simp -implicitDefEqProofs only [vt, ↓atI_fold, forall_const, reduceIte, reduceCtorEq, Nat.reduceEqDiff, Nat.reduceAdd, Nat.reduceSub, Nat.reduceMul, Nat.reduceLT, Nat.reduceLeDiff, Nat.reducePow, Int.reduceToNat, Int.reduceLT, Int.reduceLE, Int.reduceAdd, Int.reduceSub, Int.reduceMul, Int.reduceEq, Int.reduceBEq, Int.reduceBNe, Int.reduceNeg, T_api_Region.d]
  subst hK2
  refine eb_seq ?_
  refine rb_seq ?_
  refine rb_block ?_
  refine rb_seq ?_
  refine rb_regionK fun K45 hK45 => ?_
  simp -implicitDefEqProofs only [vt, ↓atI_fold, forall_const, reduceIte, reduceCtorEq, Nat.reduceEqDiff, Nat.reduceAdd, Nat.reduceSub, Nat.reduceMul, Nat.reduceLT, Nat.reduceLeDiff, Nat.reducePow, Int.reduceToNat, Int.reduceLT, Int.reduceLE, Int.reduceAdd, Int.reduceSub, Int.reduceMul, Int.reduceEq, Int.reduceBEq, Int.reduceBNe, Int.reduceNeg, T_api_Region.d]
  obtain ⟨r46, h47, h⟩ := bind_some h
  refine cW.intro (a_ref07_Name I hI r_0.Name h47) (by first | rfl | (simp [List.map_append, T_api_Region.d]; done)) ?_
  simp -implicitDefEqProofs only [vt, ↓atI_fold, forall_const, reduceIte, reduceCtorEq, Nat.reduceEqDiff, Nat.reduceAdd, Nat.reduceSub, Nat.reduceMul, Nat.reduceLT, Nat.reduceLeDiff, Nat.reducePow, Int.reduceToNat, Int.reduceLT, Int.reduceLE, Int.reduceAdd, Int.reduceSub, Int.reduceMul, Int.reduceEq, Int.reduceBEq, Int.reduceBNe, Int.reduceNeg, T_api_Region.d]
  subst hK45
  refine eb_seq ?_
  rcases ite_or h with ⟨k48, h⟩ | ⟨k48, h⟩
  · refine rb_false (congrArg D.bool (congrArg Bool.not k48)) ?_
    obtain ⟨v57, h66, h⟩ := bind_some h
    refine rb_cut (fun v57 => ⟨envL [(1, .ptr 0 0), (8, .bool v57)], heapL [(0, .box [.str r_0.Name, .int .i64 r_0.Top, .int .i64 r_0.Height, .int .i64 r_0.Left, .int .i64 r_0.Width, .int .u8 r_0.Align, .bool r_0.Bottom])], 1, 67⟩) h66 ?_ ?_
    · clear h
      intro v57 h
      refine rb_regionK fun K58 hK58 => ?_
      simp -implicitDefEqProofs only [vt, ↓atI_fold, forall_const, reduceIte, reduceCtorEq, Nat.reduceEqDiff, Nat.reduceAdd, Nat.reduceSub, Nat.reduceMul, Nat.reduceLT, Nat.reduceLeDiff, Nat.reducePow, Int.reduceToNat, Int.reduceLT, Int.reduceLE, Int.reduceAdd, Int.reduceSub, Int.reduceMul, Int.reduceEq, Int.reduceBEq, Int.reduceBNe, Int.reduceNeg, T_api_Region.d, k48]
      rcases ite_or h with ⟨k59, h⟩ | ⟨k59, h⟩
      · simp -implicitDefEqProofs only [vt, ↓atI_fold, forall_const, reduceIte, reduceCtorEq, Nat.reduceEqDiff, Nat.reduceAdd, Nat.reduceSub, Nat.reduceMul, Nat.reduceLT, Nat.reduceLeDiff, Nat.reducePow, Int.reduceToNat, Int.reduceLT, Int.reduceLE, Int.reduceAdd, Int.reduceSub, Int.reduceMul, Int.reduceEq, Int.reduceBEq, Int.reduceBNe, Int.reduceNeg, T_api_Region.d, k48, k59]
        subst hK58
        obtain rfl := Option.some.inj h
        exact eb_nil ⟨rfl, Wk.of (fun i => if i = 0 then some 0 else some i) _ _ _ (by simp -implicitDefEqProofs [upd_app, argL, envL_app, heapL_app, look, appEff, wkEnv, wkHeap, D.ren, D.ren1, D.idOk, D.idOk1, Blk.ren, Blk.idOk, T_api_Region.d, k48, k59]) (by simp -implicitDefEqProofs [upd_app, argL, envL_app, heapL_app, look, appEff, wkEnv, wkHeap, D.ren, D.ren1, D.idOk, D.idOk1, Blk.ren, Blk.idOk, T_api_Region.d, k48, k59])⟩
      · simp -implicitDefEqProofs only [vt, ↓atI_fold, forall_const, reduceIte, reduceCtorEq, Nat.reduceEqDiff, Nat.reduceAdd, Nat.reduceSub, Nat.reduceMul, Nat.reduceLT, Nat.reduceLeDiff, Nat.reducePow, Int.reduceToNat, Int.reduceLT, Int.reduceLE, Int.reduceAdd, Int.reduceSub, Int.reduceMul, Int.reduceEq, Int.reduceBEq, Int.reduceBNe, Int.reduceNeg, T_api_Region.d, k48, k59]
        rcases ite_or h with ⟨k60, h⟩ | ⟨k60, h⟩
        · simp -implicitDefEqProofs only [vt, ↓atI_fold, forall_const, reduceIte, reduceCtorEq, Nat.reduceEqDiff, Nat.reduceAdd, Nat.reduceSub, Nat.reduceMul, Nat.reduceLT, Nat.reduceLeDiff, Nat.reducePow, Int.reduceToNat, Int.reduceLT, Int.reduceLE, Int.reduceAdd, Int.reduceSub, Int.reduceMul, Int.reduceEq, Int.reduceBEq, Int.reduceBNe, Int.reduceNeg, T_api_Region.d, k48, k59, k60]
          subst hK58
          obtain rfl := Option.some.inj h
          exact eb_nil ⟨rfl, Wk.of (fun i => if i = 0 then some 0 else some i) _ _ _ (by simp -implicitDefEqProofs [upd_app, argL, envL_app, heapL_app, look, appEff, wkEnv, wkHeap, D.ren, D.ren1, D.idOk, D.idOk1, Blk.ren, Blk.idOk, T_api_Region.d, k48, k59, k60]) (by simp -implicitDefEqProofs [upd_app, argL, envL_app, heapL_app, look, appEff, wkEnv, wkHeap, D.ren, D.ren1, D.idOk, D.idOk1, Blk.ren, Blk.idOk, T_api_Region.d, k48, k59, k60])⟩
        · simp -implicitDefEqProofs only [vt, ↓atI_fold, forall_const, reduceIte, reduceCtorEq, Nat.reduceEqDiff, Nat.reduceAdd, Nat.reduceSub, Nat.reduceMul, Nat.reduceLT, Nat.reduceLeDiff, Nat.reducePow, Int.reduceToNat, Int.reduceLT, Int.reduceLE, Int.reduceAdd, Int.reduceSub, Int.reduceMul, Int.reduceEq, Int.reduceBEq, Int.reduceBNe, Int.reduceNeg, T_api_Region.d, k48, k59, k60]
          rcases ite_or h with ⟨k61, h⟩ | ⟨k61, h⟩
          · simp -implicitDefEqProofs only [vt, ↓atI_fold, forall_const, reduceIte, reduceCtorEq, Nat.reduceEqDiff, Nat.reduceAdd, Nat.reduceSub, Nat.reduceMul, Nat.reduceLT, Nat.reduceLeDiff, Nat.reducePow, Int.reduceToNat, Int.reduceLT, Int.reduceLE, Int.reduceAdd, Int.reduceSub, Int.reduceMul, Int.reduceEq, Int.reduceBEq, Int.reduceBNe, Int.reduceNeg, T_api_Region.d, k48, k59, k60, k61]
            subst hK58
            obtain rfl := Option.some.inj h
            exact eb_nil ⟨rfl, Wk.of (fun i => if i = 0 then some 0 else some i) _ _ _ (by simp -implicitDefEqProofs [upd_app, argL, envL_app, heapL_app, look, appEff, wkEnv, wkHeap, D.ren, D.ren1, D.idOk, D.idOk1, Blk.ren, Blk.idOk, T_api_Region.d, k48, k59, k60, k61]) (by simp -implicitDefEqProofs [upd_app, argL, envL_app, heapL_app, look, appEff, wkEnv, wkHeap, D.ren, D.ren1, D.idOk, D.idOk1, Blk.ren, Blk.idOk, T_api_Region.d, k48, k59, k60, k61])⟩
          · simp -implicitDefEqProofs only [vt, ↓atI_fold, forall_const, reduceIte, reduceCtorEq, Nat.reduceEqDiff, Nat.reduceAdd, Nat.reduceSub, Nat.reduceMul, Nat.reduceLT, Nat.reduceLeDiff, Nat.reducePow, Int.reduceToNat, Int.reduceLT, Int.reduceLE, Int.reduceAdd, Int.reduceSub, Int.reduceMul, Int.reduceEq, Int.reduceBEq, Int.reduceBNe, Int.reduceNeg, T_api_Region.d, k48, k59, k60, k61]
            rcases ite_or h with ⟨k62, h⟩ | ⟨k62, h⟩
            · simp -implicitDefEqProofs only [vt, ↓atI_fold, forall_const, reduceIte, reduceCtorEq, Nat.reduceEqDiff, Nat.reduceAdd, Nat.reduceSub, Nat.reduceMul, Nat.reduceLT, Nat.reduceLeDiff, Nat.reducePow, Int.reduceToNat, Int.reduceLT, Int.reduceLE, Int.reduceAdd, Int.reduceSub, Int.reduceMul, Int.reduceEq, Int.reduceBEq, Int.reduceBNe, Int.reduceNeg, T_api_Region.d, k48, k59, k60, k61, k62]
              subst hK58
              obtain rfl := Option.some.inj h
              exact eb_nil ⟨rfl, Wk.of (fun i => if i = 0 then some 0 else some i) _ _ _ (by simp -implicitDefEqProofs [upd_app, argL, envL_app, heapL_app, look, appEff, wkEnv, wkHeap, D.ren, D.ren1, D.idOk, D.idOk1, Blk.ren, Blk.idOk, T_api_Region.d, k48, k59, k60, k61, k62]) (by simp -implicitDefEqProofs [upd_app, argL, envL_app, heapL_app, look, appEff, wkEnv, wkHeap, D.ren, D.ren1, D.idOk, D.idOk1, Blk.ren, Blk.idOk, T_api_Region.d, k48, k59, k60, k61, k62])⟩
            · simp -implicitDefEqProofs only [vt, ↓atI_fold, forall_const, reduceIte, reduceCtorEq, Nat.reduceEqDiff, Nat.reduceAdd, Nat.reduceSub, Nat.reduceMul, Nat.reduceLT, Nat.reduceLeDiff, Nat.reducePow, Int.reduceToNat, Int.reduceLT, Int.reduceLE, Int.reduceAdd, Int.reduceSub, Int.reduceMul, Int.reduceEq, Int.reduceBEq, Int.reduceBNe, Int.reduceNeg, T_api_Region.d, k48, k59, k60, k61, k62]
              rcases ite_or h with ⟨k63, h⟩ | ⟨k63, h⟩
              · simp -implicitDefEqProofs only [vt, ↓atI_fold, forall_const, reduceIte, reduceCtorEq, Nat.reduceEqDiff, Nat.reduceAdd, Nat.reduceSub, Nat.reduceMul, Nat.reduceLT, Nat.reduceLeDiff, Nat.reducePow, Int.reduceToNat, Int.reduceLT, Int.reduceLE, Int.reduceAdd, Int.reduceSub, Int.reduceMul, Int.reduceEq, Int.reduceBEq, Int.reduceBNe, Int.reduceNeg, T_api_Region.d, k48, k59, k60, k61, k62, k63]
                subst hK58
                obtain rfl := Option.some.inj h
                exact eb_nil ⟨rfl, Wk.of (fun i => if i = 0 then some 0 else some i) _ _ _ (by simp -implicitDefEqProofs [upd_app, argL, envL_app, heapL_app, look, appEff, wkEnv, wkHeap, D.ren, D.ren1, D.idOk, D.idOk1, Blk.ren, Blk.idOk, T_api_Region.d, k48, k59, k60, k61, k62, k63]) (by simp -implicitDefEqProofs [upd_app, argL, envL_app, heapL_app, look, appEff, wkEnv, wkHeap, D.ren, D.ren1, D.idOk, D.idOk1, Blk.ren, Blk.idOk, T_api_Region.d, k48, k59, k60, k61, k62, k63])⟩
              · simp -implicitDefEqProofs only [vt, ↓atI_fold, forall_const, reduceIte, reduceCtorEq, Nat.reduceEqDiff, Nat.reduceAdd, Nat.reduceSub, Nat.reduceMul, Nat.reduceLT, Nat.reduceLeDiff, Nat.reducePow, Int.reduceToNat, Int.reduceLT, Int.reduceLE, Int.reduceAdd, Int.reduceSub, Int.reduceMul, Int.reduceEq, Int.reduceBEq, Int.reduceBNe, Int.reduceNeg, T_api_Region.d, k48, k59, k60, k61, k62, k63]
                rcases ite_or h with ⟨k64, h⟩ | ⟨k64, h⟩
                · simp -implicitDefEqProofs only [vt, ↓atI_fold, forall_const, reduceIte, reduceCtorEq, Nat.reduceEqDiff, Nat.reduceAdd, Nat.reduceSub, Nat.reduceMul, Nat.reduceLT, Nat.reduceLeDiff, Nat.reducePow, Int.reduceToNat, Int.reduceLT, Int.reduceLE, Int.reduceAdd, Int.reduceSub, Int.reduceMul, Int.reduceEq, Int.reduceBEq, Int.reduceBNe, Int.reduceNeg, T_api_Region.d, k48, k59, k60, k61, k62, k63, k64]
                  subst hK58
                  obtain rfl := Option.some.inj h
                  exact eb_nil ⟨rfl, Wk.of (fun i => if i = 0 then some 0 else some i) _ _ _ (by simp -implicitDefEqProofs [upd_app, argL, envL_app, heapL_app, look, appEff, wkEnv, wkHeap, D.ren, D.ren1, D.idOk, D.idOk1, Blk.ren, Blk.idOk, T_api_Region.d, k48, k59, k60, k61, k62, k63, k64]) (by simp -implicitDefEqProofs [upd_app, argL, envL_app, heapL_app, look, appEff, wkEnv, wkHeap, D.ren, D.ren1, D.idOk, D.idOk1, Blk.ren, Blk.idOk, T_api_Region.d, k48, k59, k60, k61, k62, k63, k64])⟩
                · simp -implicitDefEqProofs only [vt, ↓atI_fold, forall_const, reduceIte, reduceCtorEq, Nat.reduceEqDiff, Nat.reduceAdd, Nat.reduceSub, Nat.reduceMul, Nat.reduceLT, Nat.reduceLeDiff, Nat.reducePow, Int.reduceToNat, Int.reduceLT, Int.reduceLE, Int.reduceAdd, Int.reduceSub, Int.reduceMul, Int.reduceEq, Int.reduceBEq, Int.reduceBNe, Int.reduceNeg, T_api_Region.d, k48, k59, k60, k61, k62, k63, k64]
                  rcases ite_or h with ⟨k65, h⟩ | ⟨k65, h⟩
                  · simp -implicitDefEqProofs only [vt, ↓atI_fold, forall_const, reduceIte, reduceCtorEq, Nat.reduceEqDiff, Nat.reduceAdd, Nat.reduceSub, Nat.reduceMul, Nat.reduceLT, Nat.reduceLeDiff, Nat.reducePow, Int.reduceToNat, Int.reduceLT, Int.reduceLE, Int.reduceAdd, Int.reduceSub, Int.reduceMul, Int.reduceEq, Int.reduceBEq, Int.reduceBNe, Int.reduceNeg, T_api_Region.d, k48, k59, k60, k61, k62, k63, k64, k65]
                    subst hK58
                    obtain rfl := Option.some.inj h
                    exact eb_nil ⟨rfl, Wk.of (fun i => if i = 0 then some 0 else some i) _ _ _ (by simp -implicitDefEqProofs [upd_app, argL, envL_app, heapL_app, look, appEff, wkEnv, wkHeap, D.ren, D.ren1, D.idOk, D.idOk1, Blk.ren, Blk.idOk, T_api_Region.d, k48, k59, k60, k61, k62, k63, k64, k65]) (by simp -implicitDefEqProofs [upd_app, argL, envL_app, heapL_app, look, appEff, wkEnv, wkHeap, D.ren, D.ren1, D.idOk, D.idOk1, Blk.ren, Blk.idOk, T_api_Region.d, k48, k59, k60, k61, k62, k63, k64, k65])⟩
                  · simp -implicitDefEqProofs only [vt, ↓atI_fold, forall_const, reduceIte, reduceCtorEq, Nat.reduceEqDiff, Nat.reduceAdd, Nat.reduceSub, Nat.reduceMul, Nat.reduceLT, Nat.reduceLeDiff, Nat.reducePow, Int.reduceToNat, Int.reduceLT, Int.reduceLE, Int.reduceAdd, Int.reduceSub, Int.reduceMul, Int.reduceEq, Int.reduceBEq, Int.reduceBNe, Int.reduceNeg, T_api_Region.d, k48, k59, k60, k61, k62, k63, k64, k65]
                    subst hK58
                    obtain rfl := Option.some.inj h
                    exact eb_nil ⟨rfl, Wk.of (fun i => if i = 0 then some 0 else some i) _ _ _ (by simp -implicitDefEqProofs [upd_app, argL, envL_app, heapL_app, look, appEff, wkEnv, wkHeap, D.ren, D.ren1, D.idOk, D.idOk1, Blk.ren, Blk.idOk, T_api_Region.d, k48, k59, k60, k61, k62, k63, k64, k65]) (by simp -implicitDefEqProofs [upd_app, argL, envL_app, heapL_app, look, appEff, wkEnv, wkHeap, D.ren, D.ren1, D.idOk, D.idOk1, Blk.ren, Blk.idOk, T_api_Region.d, k48, k59, k60, k61, k62, k63, k64, k65])⟩
    · rcases ite_or h with ⟨k67, h⟩ | ⟨k67, h⟩
      · refine rb_true (congrArg D.bool k67) ?_
        refine rb_seq ?_
        refine rb_regionK fun K69 hK69 => ?_
        simp -implicitDefEqProofs only [vt, ↓atI_fold, forall_const, reduceIte, reduceCtorEq, Nat.reduceEqDiff, Nat.reduceAdd, Nat.reduceSub, Nat.reduceMul, Nat.reduceLT, Nat.reduceLeDiff, Nat.reducePow, Int.reduceToNat, Int.reduceLT, Int.reduceLE, Int.reduceAdd, Int.reduceSub, Int.reduceMul, Int.reduceEq, Int.reduceBEq, Int.reduceBNe, Int.reduceNeg, T_api_Region.d, k48, k67]
        subst hK69
        refine eb_seq ?_
        refine rb_ret ?_
        refine eb_blk_r ?_
        refine eb_seq_r ?_
        obtain rfl := Option.some.inj h
        refine eb_nil ?_
        simp -implicitDefEqProofs only [vt, ↓atI_fold, forall_const, reduceIte, reduceCtorEq, Nat.reduceEqDiff, Nat.reduceAdd, Nat.reduceSub, Nat.reduceMul, Nat.reduceLT, Nat.reduceLeDiff, Nat.reducePow, Int.reduceToNat, Int.reduceLT, Int.reduceLE, Int.reduceAdd, Int.reduceSub, Int.reduceMul, Int.reduceEq, Int.reduceBEq, Int.reduceBNe, Int.reduceNeg, retQ_r, Tryd.results37, T_api_Region.d, k48, k67] <;> first | rfl | (simp [List.map_append, T_api_Region.d]; done)
      · refine rb_false (congrArg D.bool k67) ?_
        refine rb_seq ?_
        refine rb_regionK fun K73 hK73 => ?_
        simp -implicitDefEqProofs only [vt, ↓atI_fold, forall_const, reduceIte, reduceCtorEq, Nat.reduceEqDiff, Nat.reduceAdd, Nat.reduceSub, Nat.reduceMul, Nat.reduceLT, Nat.reduceLeDiff, Nat.reducePow, Int.reduceToNat, Int.reduceLT, Int.reduceLE, Int.reduceAdd, Int.reduceSub, Int.reduceMul, Int.reduceEq, Int.reduceBEq, Int.reduceBNe, Int.reduceNeg, T_api_Region.d, k48, k67]
        rcases ite_or h with ⟨k74, h⟩ | ⟨k74, h⟩
        · simp -implicitDefEqProofs only [vt, ↓atI_fold, forall_const, reduceIte, reduceCtorEq, Nat.reduceEqDiff, Nat.reduceAdd, Nat.reduceSub, Nat.reduceMul, Nat.reduceLT, Nat.reduceLeDiff, Nat.reducePow, Int.reduceToNat, Int.reduceLT, Int.reduceLE, Int.reduceAdd, Int.reduceSub, Int.reduceMul, Int.reduceEq, Int.reduceBEq, Int.reduceBNe, Int.reduceNeg, T_api_Region.d, k48, k67, k74]
          rcases ite_or h with ⟨k75, h⟩ | ⟨k75, h⟩
          · simp -implicitDefEqProofs only [vt, ↓atI_fold, forall_const, reduceIte, reduceCtorEq, Nat.reduceEqDiff, Nat.reduceAdd, Nat.reduceSub, Nat.reduceMul, Nat.reduceLT, Nat.reduceLeDiff, Nat.reducePow, Int.reduceToNat, Int.reduceLT, Int.reduceLE, Int.reduceAdd, Int.reduceSub, Int.reduceMul, Int.reduceEq, Int.reduceBEq, Int.reduceBNe, Int.reduceNeg, T_api_Region.d, k48, k67, k74, k75]
            subst hK73
            refine eb_seq ?_
            rcases ite_or h with ⟨k76, h⟩ | ⟨k76, h⟩
            · refine rb_true (congrArg D.bool k76) ?_
              refine rb_seq ?_
              refine rb_regionK fun K78 hK78 => ?_
              simp -implicitDefEqProofs only [vt, ↓atI_fold, forall_const, reduceIte, reduceCtorEq, Nat.reduceEqDiff, Nat.reduceAdd, Nat.reduceSub, Nat.reduceMul, Nat.reduceLT, Nat.reduceLeDiff, Nat.reducePow, Int.reduceToNat, Int.reduceLT, Int.reduceLE, Int.reduceAdd, Int.reduceSub, Int.reduceMul, Int.reduceEq, Int.reduceBEq, Int.reduceBNe, Int.reduceNeg, T_api_Region.d, k48, k67, k74, k75, k76]
              subst hK78
              refine eb_seq ?_
              refine rb_ret ?_
              refine eb_blk_r ?_
              refine eb_seq_r ?_
              obtain rfl := Option.some.inj h
              refine eb_nil ?_
              simp -implicitDefEqProofs only [vt, ↓atI_fold, forall_const, reduceIte, reduceCtorEq, Nat.reduceEqDiff, Nat.reduceAdd, Nat.reduceSub, Nat.reduceMul, Nat.reduceLT, Nat.reduceLeDiff, Nat.reducePow, Int.reduceToNat, Int.reduceLT, Int.reduceLE, Int.reduceAdd, Int.reduceSub, Int.reduceMul, Int.reduceEq, Int.reduceBEq, Int.reduceBNe, Int.reduceNeg, retQ_r, Tryd.results37, T_api_Region.d, k48, k67, k74, k75, k76] <;> first | rfl | (simp [List.map_append, T_api_Region.d]; done)
            · refine rb_false (congrArg D.bool k76) ?_
              refine rb_skip ?_
              refine eb_blk_n ?_
              refine eb_seq ?_
              refine rb_seq ?_
              refine rb_regionK fun K80 hK80 => ?_
              simp -implicitDefEqProofs only [vt, ↓atI_fold, forall_const, reduceIte, reduceCtorEq, Nat.reduceEqDiff, Nat.reduceAdd, Nat.reduceSub, Nat.reduceMul, Nat.reduceLT, Nat.reduceLeDiff, Nat.reducePow, Int.reduceToNat, Int.reduceLT, Int.reduceLE, Int.reduceAdd, Int.reduceSub, Int.reduceMul, Int.reduceEq, Int.reduceBEq, Int.reduceBNe, Int.reduceNeg, T_api_Region.d, k48, k67, k74, k75, k76]
              subst hK80
              refine eb_seq ?_
              refine rb_ret ?_
              obtain rfl := Option.some.inj h
              refine eb_nil ?_
              simp -implicitDefEqProofs only [vt, ↓atI_fold, forall_const, reduceIte, reduceCtorEq, Nat.reduceEqDiff, Nat.reduceAdd, Nat.reduceSub, Nat.reduceMul, Nat.reduceLT, Nat.reduceLeDiff, Nat.reducePow, Int.reduceToNat, Int.reduceLT, Int.reduceLE, Int.reduceAdd, Int.reduceSub, Int.reduceMul, Int.reduceEq, Int.reduceBEq, Int.reduceBNe, Int.reduceNeg, retQ_r, Tryd.results37, T_api_Region.d, k48, k67, k74, k75, k76] <;> first | rfl | (simp [List.map_append, T_api_Region.d]; done)
          · simp -implicitDefEqProofs only [vt, ↓atI_fold, forall_const, reduceIte, reduceCtorEq, Nat.reduceEqDiff, Nat.reduceAdd, Nat.reduceSub, Nat.reduceMul, Nat.reduceLT, Nat.reduceLeDiff, Nat.reducePow, Int.reduceToNat, Int.reduceLT, Int.reduceLE, Int.reduceAdd, Int.reduceSub, Int.reduceMul, Int.reduceEq, Int.reduceBEq, Int.reduceBNe, Int.reduceNeg, T_api_Region.d, k48, k67, k74, k75]
            subst hK73
            refine eb_seq ?_
            refine rb_false (rfl) ?_
            refine rb_skip ?_
            refine eb_blk_n ?_
            refine eb_seq ?_
            refine rb_seq ?_
            refine rb_regionK fun K82 hK82 => ?_
            simp -implicitDefEqProofs only [vt, ↓atI_fold, forall_const, reduceIte, reduceCtorEq, Nat.reduceEqDiff, Nat.reduceAdd, Nat.reduceSub, Nat.reduceMul, Nat.reduceLT, Nat.reduceLeDiff, Nat.reducePow, Int.reduceToNat, Int.reduceLT, Int.reduceLE, Int.reduceAdd, Int.reduceSub, Int.reduceMul, Int.reduceEq, Int.reduceBEq, Int.reduceBNe, Int.reduceNeg, T_api_Region.d, k48, k67, k74, k75]
            subst hK82
            refine eb_seq ?_
            refine rb_ret ?_
            obtain rfl := Option.some.inj h
            refine eb_nil ?_
            simp -implicitDefEqProofs only [vt, ↓atI_fold, forall_const, reduceIte, reduceCtorEq, Nat.reduceEqDiff, Nat.reduceAdd, Nat.reduceSub, Nat.reduceMul, Nat.reduceLT, Nat.reduceLeDiff, Nat.reducePow, Int.reduceToNat, Int.reduceLT, Int.reduceLE, Int.reduceAdd, Int.reduceSub, Int.reduceMul, Int.reduceEq, Int.reduceBEq, Int.reduceBNe, Int.reduceNeg, retQ_r, Tryd.results37, T_api_Region.d, k48, k67, k74, k75] <;> first | rfl | (simp [List.map_append, T_api_Region.d]; done)
        · simp -implicitDefEqProofs only [vt, ↓atI_fold, forall_const, reduceIte, reduceCtorEq, Nat.reduceEqDiff, Nat.reduceAdd, Nat.reduceSub, Nat.reduceMul, Nat.reduceLT, Nat.reduceLeDiff, Nat.reducePow, Int.reduceToNat, Int.reduceLT, Int.reduceLE, Int.reduceAdd, Int.reduceSub, Int.reduceMul, Int.reduceEq, Int.reduceBEq, Int.reduceBNe, Int.reduceNeg, T_api_Region.d, k48, k67, k74]
          subst hK73
          refine eb_seq ?_
          refine rb_false (rfl) ?_
          refine rb_skip ?_
          refine eb_blk_n ?_
          refine eb_seq ?_
          refine rb_seq ?_
          refine rb_regionK fun K84 hK84 => ?_
          simp -implicitDefEqProofs only [vt, ↓atI_fold, forall_const, reduceIte, reduceCtorEq, Nat.reduceEqDiff, Nat.reduceAdd, Nat.reduceSub, Nat.reduceMul, Nat.reduceLT, Nat.reduceLeDiff, Nat.reducePow, Int.reduceToNat, Int.reduceLT, Int.reduceLE, Int.reduceAdd, Int.reduceSub, Int.reduceMul, Int.reduceEq, Int.reduceBEq, Int.reduceBNe, Int.reduceNeg, T_api_Region.d, k48, k67, k74]
          subst hK84
          refine eb_seq ?_
          refine rb_ret ?_
          obtain rfl := Option.some.inj h
          refine eb_nil ?_
          simp -implicitDefEqProofs only [vt, ↓atI_fold, forall_const, reduceIte, reduceCtorEq, Nat.reduceEqDiff, Nat.reduceAdd, Nat.reduceSub, Nat.reduceMul, Nat.reduceLT, Nat.reduceLeDiff, Nat.reducePow, Int.reduceToNat, Int.reduceLT, Int.reduceLE, Int.reduceAdd, Int.reduceSub, Int.reduceMul, Int.reduceEq, Int.reduceBEq, Int.reduceBNe, Int.reduceNeg, retQ_r, Tryd.results37, T_api_Region.d, k48, k67, k74] <;> first | rfl | (simp [List.map_append, T_api_Region.d]; done)
  · refine rb_true (congrArg D.bool (congrArg Bool.not k48)) ?_
    refine rb_seq ?_
    refine rb_regionK fun K86 hK86 => ?_
    simp -implicitDefEqProofs only [vt, ↓atI_fold, forall_const, reduceIte, reduceCtorEq, Nat.reduceEqDiff, Nat.reduceAdd, Nat.reduceSub, Nat.reduceMul, Nat.reduceLT, Nat.reduceLeDiff, Nat.reducePow, Int.reduceToNat, Int.reduceLT, Int.reduceLE, Int.reduceAdd, Int.reduceSub, Int.reduceMul, Int.reduceEq, Int.reduceBEq, Int.reduceBNe, Int.reduceNeg, T_api_Region.d, k48]
    subst hK86
    refine eb_seq ?_
    refine rb_ret ?_
    refine eb_blk_r ?_
    refine eb_seq_r ?_
    obtain rfl := Option.some.inj h
    refine eb_nil ?_
    simp -implicitDefEqProofs only [vt, ↓atI_fold, forall_const, reduceIte, reduceCtorEq, Nat.reduceEqDiff, Nat.reduceAdd, Nat.reduceSub, Nat.reduceMul, Nat.reduceLT, Nat.reduceLeDiff, Nat.reducePow, Int.reduceToNat, Int.reduceLT, Int.reduceLE, Int.reduceAdd, Int.reduceSub, Int.reduceMul, Int.reduceEq, Int.reduceBEq, Int.reduceBNe, Int.reduceNeg, retQ_r, Tryd.results37, T_api_Region.d, k48] <;> first | rfl | (simp [List.map_append, T_api_Region.d]; done)
-- region.usable
def g_region_usable (r_0 : T_api_Region) : Option (Bool) :=
  ((g_region_Default).bind fun r10 => (if ((r_0.Name == r10.Name) && ((r_0.Top == r10.Top) && ((r_0.Height == r10.Height) && ((r_0.Left == r10.Left) && ((r_0.Width == r10.Width) && ((r_0.Align == r10.Align) && (r_0.Bottom == r10.Bottom))))))) then (some true) else ((g_region_Check r_0).bind fun r13 => (some (r13 == 0)))))
theorem a_region_usable (I : World → Prop) (hI : Stab I) (r_0 : T_api_Region) {r : Bool} (h : g_region_usable r_0 = some r) : AFun Tryd.prog I 65 [T_api_Region.d r_0] (.bool r) := by
  refine AFun.enterB hI Tryd.func65 rfl (by decide) (by simp [Tryd.f65]) (by kernel_rfl) ?_
  unfold g_region_usable at h
  simp only [S0, Tryd.ntmps65, T_api_Region.d]
  refine rb_seq ?_
  refine rb_regionK fun K2 hK2 => ?_
  simp -implicitDefEqProofs only [vt, ↓atI_fold, forall_const, reduceIte, reduceCtorEq, Nat.reduceEqDiff, Nat.reduceAdd, Nat.reduceSub, Nat.reduceMul, Nat.reduceLT, Nat.reduceLeDiff, Nat.reducePow, Int.reduceToNat, Int.reduceLT, Int.reduceLE, Int.reduceAdd, Int.reduceSub, Int.reduceMul, Int.reduceEq, Int.reduceBEq, Int.reduceBNe, Int.reduceNeg, T_api_Region.d]
  subst hK2
  refine eb_seq ?_
  refine rb_seq ?_
  refine rb_drawK hI (by kernel_rfl) (by kernel_rfl) fun K9 hK9 => ?_
  simp -implicitDefEqProofs only [vt, ↓atI_fold, forall_const, reduceIte, reduceCtorEq, Nat.reduceEqDiff, Nat.reduceAdd, Nat.reduceSub, Nat.reduceMul, Nat.reduceLT, Nat.reduceLeDiff, Nat.reducePow, Int.reduceToNat, Int.reduceLT, Int.reduceLE, Int.reduceAdd, Int.reduceSub, Int.reduceMul, Int.reduceEq, Int.reduceBEq, Int.reduceBNe, Int.reduceNeg, T_api_Region.d]
  obtain ⟨r10, h11, h⟩ := bind_some h
  refine cD'.intro (a_region_Default I hI h11) (by first | rfl | (simp [List.map_append, T_api_Region.d]; done)) (by kernel_rfl) ?_
  simp -implicitDefEqProofs only [vt, ↓atI_fold, forall_const, reduceIte, reduceCtorEq, Nat.reduceEqDiff, Nat.reduceAdd, Nat.reduceSub, Nat.reduceMul, Nat.reduceLT, Nat.reduceLeDiff, Nat.reducePow, Int.reduceToNat, Int.reduceLT, Int.reduceLE, Int.reduceAdd, Int.reduceSub, Int.reduceMul, Int.reduceEq, Int.reduceBEq, Int.reduceBNe, Int.reduceNeg, T_api_Region.d]
  rcases ite_or h with ⟨k12, h⟩ | ⟨k12, h⟩
  · simp -implicitDefEqProofs only [vt, ↓atI_fold, forall_const, reduceIte, reduceCtorEq, Nat.reduceEqDiff, Nat.reduceAdd, Nat.reduceSub, Nat.reduceMul, Nat.reduceLT, Nat.reduceLeDiff, Nat.reducePow, Int.reduceToNat, Int.reduceLT, Int.reduceLE, Int.reduceAdd, Int.reduceSub, Int.reduceMul, Int.reduceEq, Int.reduceBEq, Int.reduceBNe, Int.reduceNeg, T_api_Region.d, k12]
    subst hK9
    refine eb_seq ?_
    refine rb_ret ?_
    obtain rfl := Option.some.inj h
    refine eb_nil ?_
    simp -implicitDefEqProofs only [vt, ↓atI_fold, forall_const, reduceIte, reduceCtorEq, Nat.reduceEqDiff, Nat.reduceAdd, Nat.reduceSub, Nat.reduceMul, Nat.reduceLT, Nat.reduceLeDiff, Nat.reducePow, Int.reduceToNat, Int.reduceLT, Int.reduceLE, Int.reduceAdd, Int.reduceSub, Int.reduceMul, Int.reduceEq, Int.reduceBEq, Int.reduceBNe, Int.reduceNeg, retQ_r, Tryd.results65, T_api_Region.d, k12] <;> first | rfl | (simp [List.map_append, T_api_Region.d]; done)
  · simp -implicitDefEqProofs only [vt, ↓atI_fold, forall_const, reduceIte, reduceCtorEq, Nat.reduceEqDiff, Nat.reduceAdd, Nat.reduceSub, Nat.reduceMul, Nat.reduceLT, Nat.reduceLeDiff, Nat.reducePow, Int.reduceToNat, Int.reduceLT, Int.reduceLE, Int.reduceAdd, Int.reduceSub, Int.reduceMul, Int.reduceEq, Int.reduceBEq, Int.reduceBNe, Int.reduceNeg, T_api_Region.d, k12]
    obtain ⟨r13, h14, h⟩ := bind_some h
    refine cD'.intro (a_region_Check I hI r_0 h14) (by first | rfl | (simp [List.map_append, T_api_Region.d]; done)) (by kernel_rfl) ?_
    simp -implicitDefEqProofs only [vt, ↓atI_fold, forall_const, reduceIte, reduceCtorEq, Nat.reduceEqDiff, Nat.reduceAdd, Nat.reduceSub, Nat.reduceMul, Nat.reduceLT, Nat.reduceLeDiff, Nat.reducePow, Int.reduceToNat, Int.reduceLT, Int.reduceLE, Int.reduceAdd, Int.reduceSub, Int.reduceMul, Int.reduceEq, Int.reduceBEq, Int.reduceBNe, Int.reduceNeg, T_api_Region.d, k12]
    subst hK9
    refine eb_seq ?_
    refine rb_ret ?_
    obtain rfl := Option.some.inj h
    refine eb_nil ?_
    simp -implicitDefEqProofs only [vt, ↓atI_fold, forall_const, reduceIte, reduceCtorEq, Nat.reduceEqDiff, Nat.reduceAdd, Nat.reduceSub, Nat.reduceMul, Nat.reduceLT, Nat.reduceLeDiff, Nat.reducePow, Int.reduceToNat, Int.reduceLT, Int.reduceLE, Int.reduceAdd, Int.reduceSub, Int.reduceMul, Int.reduceEq, Int.reduceBEq, Int.reduceBNe, Int.reduceNeg, retQ_r, Tryd.results65, T_api_Region.d, k12] <;> first | rfl | (simp [List.map_append, T_api_Region.d]; done)
-- captionerref10.usable
def g_ref10_usable (r_0 : T_api_Region) : Option (Bool) :=
  ((g_ref10_Check r_0).bind fun r10 => (if (r10 == 0) then (some true) else ((g_ref10_Default).bind fun r13 => (some ((r_0.Name == r13.Name) && ((r_0.Top == r13.Top) && ((r_0.Height == r13.Height) && ((r_0.Left == r13.Left) && ((r_0.Width == r13.Width) && ((r_0.Align == r13.Align) && (r_0.Bottom == r13.Bottom)))))))))))
theorem a_ref10_usable (I : World → Prop) (hI : Stab I) (r_0 : T_api_Region) {r : Bool} (h : g_ref10_usable r_0 = some r) : AFun Tryd.prog I 66 [T_api_Region.d r_0] (.bool r) := by
  refine AFun.enterB hI Tryd.func66 rfl (by decide) (by simp [Tryd.f66]) (by kernel_rfl) ?_
  unfold g_ref10_usable at h
  simp only [S0, Tryd.ntmps66, T_api_Region.d]
  refine rb_seq ?_
  refine rb_regionK fun K2 hK2 => ?_
  simp -implicitDefEqProofs only [vt, ↓atI_fold, forall_const, reduceIte, reduceCtorEq, Nat.reduceEqDiff, Nat.reduceAdd, Nat.reduceSub, Nat.reduceMul, Nat.reduceLT, Nat.reduceLeDiff, Nat.reducePow, Int.reduceToNat, Int.reduceLT, Int.reduceLE, Int.reduceAdd, Int.reduceSub, Int.reduceMul, Int.reduceEq, Int.reduceBEq, Int.reduceBNe, Int.reduceNeg, T_api_Region.d]
  subst hK2
  refine eb_seq ?_
  refine rb_seq ?_
  refine rb_drawK hI (by kernel_rfl) (by kernel_rfl) fun K9 hK9 => ?_
  simp -implicitDefEqProofs only [vt, ↓atI_fold, forall_const, reduceIte, reduceCtorEq, Nat.reduceEqDiff, Nat.reduceAdd, Nat.reduceSub, Nat.reduceMul, Nat.reduceLT, Nat.reduceLeDiff, Nat.reducePow, Int.reduceToNat, Int.reduceLT, Int.reduceLE, Int.reduceAdd, Int.reduceSub, Int.reduceMul, Int.reduceEq, Int.reduceBEq, Int.reduceBNe, Int.reduceNeg, T_api_Region.d]
  obtain ⟨r10, h11, h⟩ := bind_some h
  refine cD'.intro (a_ref10_Check I hI r_0 h11) (by first | rfl | (simp [List.map_append, T_api_Region.d]; done)) (by kernel_rfl) ?_
  simp -implicitDefEqProofs only [vt, ↓atI_fold, forall_const, reduceIte, reduceCtorEq, Nat.reduceEqDiff, Nat.reduceAdd, Nat.reduceSub, Nat.reduceMul, Nat.reduceLT, Nat.reduceLeDiff, Nat.reducePow, Int.reduceToNat, Int.reduceLT, Int.reduceLE, Int.reduceAdd, Int.reduceSub, Int.reduceMul, Int.reduceEq, Int.reduceBEq, Int.reduceBNe, Int.reduceNeg, T_api_Region.d]
  rcases ite_or h with ⟨k12, h⟩ | ⟨k12, h⟩
  · simp -implicitDefEqProofs only [vt, ↓atI_fold, forall_const, reduceIte, reduceCtorEq, Nat.reduceEqDiff, Nat.reduceAdd, Nat.reduceSub, Nat.reduceMul, Nat.reduceLT, Nat.reduceLeDiff, Nat.reducePow, Int.reduceToNat, Int.reduceLT, Int.reduceLE, Int.reduceAdd, Int.reduceSub, Int.reduceMul, Int.reduceEq, Int.reduceBEq, Int.reduceBNe, Int.reduceNeg, T_api_Region.d, k12]
    subst hK9
    refine eb_seq ?_
    refine rb_ret ?_
    obtain rfl := Option.some.inj h
    refine eb_nil ?_
    simp -implicitDefEqProofs only [vt, ↓atI_fold, forall_const, reduceIte, reduceCtorEq, Nat.reduceEqDiff, Nat.reduceAdd, Nat.reduceSub, Nat.reduceMul, Nat.reduceLT, Nat.reduceLeDiff, Nat.reducePow, Int.reduceToNat, Int.reduceLT, Int.reduceLE, Int.reduceAdd, Int.reduceSub, Int.reduceMul, Int.reduceEq, Int.reduceBEq, Int.reduceBNe, Int.reduceNeg, retQ_r, Tryd.results66, T_api_Region.d, k12] <;> first | rfl | (simp [List.map_append, T_api_Region.d]; done)
  · simp -implicitDefEqProofs only [vt, ↓atI_fold, forall_const, reduceIte, reduceCtorEq, Nat.reduceEqDiff, Nat.reduceAdd, Nat.reduceSub, Nat.reduceMul, Nat.reduceLT, Nat.reduceLeDiff, Nat.reducePow, Int.reduceToNat, Int.reduceLT, Int.reduceLE, Int.reduceAdd, Int.reduceSub, Int.reduceMul, Int.reduceEq, Int.reduceBEq, Int.reduceBNe, Int.reduceNeg, T_api_Region.d, k12]
    obtain ⟨r13, h14, h⟩ := bind_some h
    refine cD'.intro (a_ref10_Default I hI h14) (by first | rfl | (simp [List.map_append, T_api_Region.d]; done)) (by kernel_rfl) ?_
    simp -implicitDefEqProofs only [vt, ↓atI_fold, forall_const, reduceIte, reduceCtorEq, Nat.reduceEqDiff, Nat.reduceAdd, Nat.reduceSub, Nat.reduceMul, Nat.reduceLT, Nat.reduceLeDiff, Nat.reducePow, Int.reduceToNat, Int.reduceLT, Int.reduceLE, Int.reduceAdd, Int.reduceSub, Int.reduceMul, Int.reduceEq, Int.reduceBEq, Int.reduceBNe, Int.reduceNeg, T_api_Region.d, k12]
    subst hK9
    refine eb_seq ?_
    refine rb_ret ?_
    obtain rfl := Option.some.inj h
    refine eb_nil ?_
    simp -implicitDefEqProofs only [vt, ↓atI_fold, forall_const, reduceIte, reduceCtorEq, Nat.reduceEqDiff, Nat.reduceAdd, Nat.reduceSub, Nat.reduceMul, Nat.reduceLT, Nat.reduceLeDiff, Nat.reducePow, Int.reduceToNat, Int.reduceLT, Int.reduceLE, Int.reduceAdd, Int.reduceSub, Int.reduceMul, Int.reduceEq, Int.reduceBEq, Int.reduceBNe, Int.reduceNeg, retQ_r, Tryd.results66, T_api_Region.d, k12] <;> first | rfl | (simp [List.map_append, T_api_Region.d]; done)
-- region.Overlap
def g_region_Overlap (a_0 : T_api_Region) (b_1 : T_api_Region) : Option (Bool) :=
  ((g_region_usable a_0).bind fun r14 => (if r14 then ((g_region_usable b_1).bind fun r17 => (if r17 then (if (decide (a_0.Top < (IntKind.i64.wrap (b_1.Top + b_1.Height)))) then (if (decide (b_1.Top < (IntKind.i64.wrap (a_0.Top + a_0.Height)))) then (if (decide (a_0.Left < (IntKind.i64.wrap (b_1.Left + b_1.Width)))) then (some (decide (b_1.Left < (IntKind.i64.wrap (a_0.Left + a_0.Width))))) else (some false)) else (some false)) else (some false)) else (some false))) else (some false)))
theorem a_region_Overlap (I : World → Prop) (hI : Stab I) (a_0 : T_api_Region) (b_1 : T_api_Region) {r : Bool} (h : g_region_Overlap a_0 b_1 = some r) : AFun Tryd.prog I 28 [T_api_Region.d a_0, T_api_Region.d b_1] (.bool r) := by
  refine AFun.enterB hI Tryd.func28 rfl (by decide) (by simp [Tryd.f28]) (by kernel_rfl) ?_
  unfold g_region_Overlap at h
  simp only [S0, Tryd.ntmps28, T_api_Region.d]
  refine rb_seq ?_
  refine rb_regionK fun K2 hK2 => ?_
  simp -implicitDefEqProofs only [vt, ↓atI_fold, forall_const, reduceIte, reduceCtorEq, Nat.reduceEqDiff, Nat.reduceAdd, Nat.reduceSub, Nat.reduceMul, Nat.reduceLT, Nat.reduceLeDiff, Nat.reducePow, Int.reduceToNat, Int.reduceLT, Int.reduceLE, Int.reduceAdd, Int.reduceSub, Int.reduceMul, Int.reduceEq, Int.reduceBEq, Int.reduceBNe, Int.reduceNeg, T_api_Region.d]
  subst hK2
  refine eb_seq ?_
  refine rb_seq ?_
  refine rb_regionK fun K13 hK13 => ?_
  simp -implicitDefEqProofs only [vt, ↓atI_fold, forall_const, reduceIte, reduceCtorEq, Nat.reduceEqDiff, Nat.reduceAdd, Nat.reduceSub, Nat.reduceMul, Nat.reduceLT, Nat.reduceLeDiff, Nat.reducePow, Int.reduceToNat, Int.reduceLT, Int.reduceLE, Int.reduceAdd, Int.reduceSub, Int.reduceMul, Int.reduceEq, Int.reduceBEq, Int.reduceBNe, Int.reduceNeg, T_api_Region.d]
  obtain ⟨r14, h15, h⟩ := bind_some h
  refine cW.intro (a_region_usable I hI a_0 h15) (by first | rfl | (simp [List.map_append, T_api_Region.d]; done)) ?_
  simp -implicitDefEqProofs only [vt, ↓atI_fold, forall_const, reduceIte, reduceCtorEq, Nat.reduceEqDiff, Nat.reduceAdd, Nat.reduceSub, Nat.reduceMul, Nat.reduceLT, Nat.reduceLeDiff, Nat.reducePow, Int.reduceToNat, Int.reduceLT, Int.reduceLE, Int.reduceAdd, Int.reduceSub, Int.reduceMul, Int.reduceEq, Int.reduceBEq, Int.reduceBNe, Int.reduceNeg, T_api_Region.d]
  rcases ite_or h with ⟨k16, h⟩ | ⟨k16, h⟩
  · simp -implicitDefEqProofs only [vt, ↓atI_fold, forall_const, reduceIte, reduceCtorEq, Nat.reduceEqDiff, Nat.reduceAdd, Nat.reduceSub, Nat.reduceMul, Nat.reduceLT, Nat.reduceLeDiff, Nat.reducePow, Int.reduceToNat, Int.reduceLT, Int.reduceLE, Int.reduceAdd, Int.reduceSub, Int.reduceMul, Int.reduceEq, Int.reduceBEq, Int.reduceBNe, Int.reduceNeg, T_api_Region.d, k16]
    obtain ⟨r17, h18, h⟩ := bind_some h
    refine cW.intro (a_region_usable I hI b_1 h18) (by first | rfl | (simp [List.map_append, T_api_Region.d]; done)) ?_
    simp -implicitDefEqProofs only [vt, ↓atI_fold, forall_const, reduceIte, reduceCtorEq, Nat.reduceEqDiff, Nat.reduceAdd, Nat.reduceSub, Nat.reduceMul, Nat.reduceLT, Nat.reduceLeDiff, Nat.reducePow, Int.reduceToNat, Int.reduceLT, Int.reduceLE, Int.reduceAdd, Int.reduceSub, Int.reduceMul, Int.reduceEq, Int.reduceBEq, Int.reduceBNe, Int.reduceNeg, T_api_Region.d, k16]
    rcases ite_or h with ⟨k19, h⟩ | ⟨k19, h⟩
    · simp -implicitDefEqProofs only [vt, ↓atI_fold, forall_const, reduceIte, reduceCtorEq, Nat.reduceEqDiff, Nat.reduceAdd, Nat.reduceSub, Nat.reduceMul, Nat.reduceLT, Nat.reduceLeDiff, Nat.reducePow, Int.reduceToNat, Int.reduceLT, Int.reduceLE, Int.reduceAdd, Int.reduceSub, Int.reduceMul, Int.reduceEq, Int.reduceBEq, Int.reduceBNe, Int.reduceNeg, T_api_Region.d, k16, k19]
      rcases ite_or h with ⟨k20, h⟩ | ⟨k20, h⟩
      · simp -implicitDefEqProofs only [vt, ↓atI_fold, forall_const, reduceIte, reduceCtorEq, Nat.reduceEqDiff, Nat.reduceAdd, Nat.reduceSub, Nat.reduceMul, Nat.reduceLT, Nat.reduceLeDiff, Nat.reducePow, Int.reduceToNat, Int.reduceLT, Int.reduceLE, Int.reduceAdd, Int.reduceSub, Int.reduceMul, Int.reduceEq, Int.reduceBEq, Int.reduceBNe, Int.reduceNeg, T_api_Region.d, k16, k19, k20]
        rcases ite_or h with ⟨k21, h⟩ | ⟨k21, h⟩
        · simp -implicitDefEqProofs only [vt, ↓atI_fold, forall_const, reduceIte, reduceCtorEq, Nat.reduceEqDiff, Nat.reduceAdd, Nat.reduceSub, Nat.reduceMul, Nat.reduceLT, Nat.reduceLeDiff, Nat.reducePow, Int.reduceToNat, Int.reduceLT, Int.reduceLE, Int.reduceAdd, Int.reduceSub, Int.reduceMul, Int.reduceEq, Int.reduceBEq, Int.reduceBNe, Int.reduceNeg, T_api_Region.d, k16, k19, k20, k21]
          rcases ite_or h with ⟨k22, h⟩ | ⟨k22, h⟩
          · simp -implicitDefEqProofs only [vt, ↓atI_fold, forall_const, reduceIte, reduceCtorEq, Nat.reduceEqDiff, Nat.reduceAdd, Nat.reduceSub, Nat.reduceMul, Nat.reduceLT, Nat.reduceLeDiff, Nat.reducePow, Int.reduceToNat, Int.reduceLT, Int.reduceLE, Int.reduceAdd, Int.reduceSub, Int.reduceMul, Int.reduceEq, Int.reduceBEq, Int.reduceBNe, Int.reduceNeg, T_api_Region.d, k16, k19, k20, k21, k22]
            subst hK13
            refine eb_seq ?_
            refine rb_ret ?_
            obtain rfl := Option.some.inj h
            refine eb_nil ?_
            simp -implicitDefEqProofs only [vt, ↓atI_fold, forall_const, reduceIte, reduceCtorEq, Nat.reduceEqDiff, Nat.reduceAdd, Nat.reduceSub, Nat.reduceMul, Nat.reduceLT, Nat.reduceLeDiff, Nat.reducePow, Int.reduceToNat, Int.reduceLT, Int.reduceLE, Int.reduceAdd, Int.reduceSub, Int.reduceMul, Int.reduceEq, Int.reduceBEq, Int.reduceBNe, Int.reduceNeg, retQ_r, Tryd.results28, T_api_Region.d, k16, k19, k20, k21, k22] <;> first | rfl | (simp [List.map_append, T_api_Region.d]; done)
          · simp -implicitDefEqProofs only [vt, ↓atI_fold, forall_const, reduceIte, reduceCtorEq, Nat.reduceEqDiff, Nat.reduceAdd, Nat.reduceSub, Nat.reduceMul, Nat.reduceLT, Nat.reduceLeDiff, Nat.reducePow, Int.reduceToNat, Int.reduceLT, Int.reduceLE, Int.reduceAdd, Int.reduceSub, Int.reduceMul, Int.reduceEq, Int.reduceBEq, Int.reduceBNe, Int.reduceNeg, T_api_Region.d, k16, k19, k20, k21, k22]
            subst hK13
            refine eb_seq ?_
            refine rb_ret ?_
            obtain rfl := Option.some.inj h
            refine eb_nil ?_
            simp -implicitDefEqProofs only [vt, ↓atI_fold, forall_const, reduceIte, reduceCtorEq, Nat.reduceEqDiff, Nat.reduceAdd, Nat.reduceSub, Nat.reduceMul, Nat.reduceLT, Nat.reduceLeDiff, Nat.reducePow, Int.reduceToNat, Int.reduceLT, Int.reduceLE, Int.reduceAdd, Int.reduceSub, Int.reduceMul, Int.reduceEq, Int.reduceBEq, Int.reduceBNe, Int.reduceNeg, retQ_r, Tryd.results28, T_api_Region.d, k16, k19, k20, k21, k22] <;> first | rfl | (simp [List.map_append, T_api_Region.d]; done)
        · simp -implicitDefEqProofs only [vt, ↓atI_fold, forall_const, reduceIte, reduceCtorEq, Nat.reduceEqDiff, Nat.reduceAdd, Nat.reduceSub, Nat.reduceMul, Nat.reduceLT, Nat.reduceLeDiff, Nat.reducePow, Int.reduceToNat, Int.reduceLT, Int.reduceLE, Int.reduceAdd, Int.reduceSub, Int.reduceMul, Int.reduceEq, Int.reduceBEq, Int.reduceBNe, Int.reduceNeg, T_api_Region.d, k16, k19, k20, k21]
          subst hK13
          refine eb_seq ?_
          refine rb_ret ?_
          obtain rfl := Option.some.inj h
          refine eb_nil ?_
          simp -implicitDefEqProofs only [vt, ↓atI_fold, forall_const, reduceIte, reduceCtorEq, Nat.reduceEqDiff, Nat.reduceAdd, Nat.reduceSub, Nat.reduceMul, Nat.reduceLT, Nat.reduceLeDiff, Nat.reducePow, Int.reduceToNat, Int.reduceLT, Int.reduceLE, Int.reduceAdd, Int.reduceSub, Int.reduceMul, Int.reduceEq, Int.reduceBEq, Int.reduceBNe, Int.reduceNeg, retQ_r, Tryd.results28, T_api_Region.d, k16, k19, k20, k21] <;> first | rfl | (simp [List.map_append, T_api_Region.d]; done)
      · simp -implicitDefEqProofs only [vt, ↓atI_fold, forall_const, reduceIte, reduceCtorEq, Nat.reduceEqDiff, Nat.reduceAdd, Nat.reduceSub, Nat.reduceMul, Nat.reduceLT, Nat.reduceLeDiff, Nat.reducePow, Int.reduceToNat, Int.reduceLT, Int.reduceLE, Int.reduceAdd, Int.reduceSub, Int.reduceMul, Int.reduceEq, Int.reduceBEq, Int.reduceBNe, Int.reduceNeg, T_api_Region.d, k16, k19, k20]
        subst hK13
        refine eb_seq ?_
        refine rb_ret ?_
        obtain rfl := Option.some.inj h
        refine eb_nil ?_
        simp -implicitDefEqProofs only [vt, ↓atI_fold, forall_const, reduceIte, reduceCtorEq, Nat.reduceEqDiff, Nat.reduceAdd, Nat.reduceSub, Nat.reduceMul, Nat.reduceLT, Nat.reduceLeDiff, Nat.reducePow, Int.reduceToNat, Int.reduceLT, Int.reduceLE, Int.reduceAdd, Int.reduceSub, Int.reduceMul, Int.reduceEq, Int.reduceBEq, Int.reduceBNe, Int.reduceNeg, retQ_r, Tryd.results28, T_api_Region.d, k16, k19, k20] <;> first | rfl | (simp [List.map_append, T_api_Region.d]; done)
    · simp -implicitDefEqProofs only [vt, ↓atI_fold, forall_const, reduceIte, reduceCtorEq, Nat.reduceEqDiff, Nat.reduceAdd, Nat.reduceSub, Nat.reduceMul, Nat.reduceLT, Nat.reduceLeDiff, Nat.reducePow, Int.reduceToNat, Int.reduceLT, Int.reduceLE, Int.reduceAdd, Int.reduceSub, Int.reduceMul, Int.reduceEq, Int.reduceBEq, Int.reduceBNe, Int.reduceNeg, T_api_Region.d, k16, k19]
      subst hK13
      refine eb_seq ?_
      refine rb_ret ?_
      obtain rfl := Option.some.inj h
      refine eb_nil ?_
      simp -implicitDefEqProofs only [vt, ↓atI_fold, forall_const, reduceIte, reduceCtorEq, Nat.reduceEqDiff, Nat.reduceAdd, Nat.reduceSub, Nat.reduceMul, Nat.reduceLT, Nat.reduceLeDiff, Nat.reducePow, Int.reduceToNat, Int.reduceLT, Int.reduceLE, Int.reduceAdd, Int.reduceSub, Int.reduceMul, Int.reduceEq, Int.reduceBEq, Int.reduceBNe, Int.reduceNeg, retQ_r, Tryd.results28, T_api_Region.d, k16, k19] <;> first | rfl | (simp [List.map_append, T_api_Region.d]; done)
  · simp -implicitDefEqProofs only [vt, ↓atI_fold, forall_const, reduceIte, reduceCtorEq, Nat.reduceEqDiff, Nat.reduceAdd, Nat.reduceSub, Nat.reduceMul, Nat.reduceLT, Nat.reduceLeDiff, Nat.reducePow, Int.reduceToNat, Int.reduceLT, Int.reduceLE, Int.reduceAdd, Int.reduceSub, Int.reduceMul, Int.reduceEq, Int.reduceBEq, Int.reduceBNe, Int.reduceNeg, T_api_Region.d, k16]
    subst hK13
    refine eb_seq ?_
    refine rb_ret ?_
    obtain rfl := Option.some.inj h
    refine eb_nil ?_
    simp -implicitDefEqProofs only [vt, ↓atI_fold, forall_const, reduceIte, reduceCtorEq, Nat.reduceEqDiff, Nat.reduceAdd, Nat.reduceSub, Nat.reduceMul, Nat.reduceLT, Nat.reduceLeDiff, Nat.reducePow, Int.reduceToNat, Int.reduceLT, Int.reduceLE, Int.reduceAdd, Int.reduceSub, Int.reduceMul, Int.reduceEq, Int.reduceBEq, Int.reduceBNe, Int.reduceNeg, retQ_r, Tryd.results28, T_api_Region.d, k16] <;> first | rfl | (simp [List.map_append, T_api_Region.d]; done)
-- captionerref10.Overlap
def g_ref10_Overlap (a_0 : T_api_Region) (b_1 : T_api_Region) : Option (Bool) :=
  ((g_ref10_usable a_0).bind fun r14 => (if r14 then ((g_ref10_usable b_1).bind fun r17 => (if r17 then (if (decide (a_0.Top < (IntKind.i64.wrap (b_1.Top + b_1.Height)))) then (if (decide (b_1.Top < (IntKind.i64.wrap (a_0.Top + a_0.Height)))) then (if (decide (a_0.Left < (IntKind.i64.wrap (b_1.Left + b_1.Width)))) then (some (decide (b_1.Left < (IntKind.i64.wrap (a_0.Left + a_0.Width))))) else (some false)) else (some false)) else (some false)) else (some false))) else (some false)))
theorem a_ref10_Overlap (I : World → Prop) (hI : Stab I) (a_0 : T_api_Region) (b_1 : T_api_Region) {r : Bool} (h : g_ref10_Overlap a_0 b_1 = some r) : AFun Tryd.prog I 29 [T_api_Region.d a_0, T_api_Region.d b_1] (.bool r) := by
  refine AFun.enterB hI Tryd.func29 rfl (by decide) (by simp [Tryd.f29]) (by kernel_rfl) ?_
  unfold g_ref10_Overlap at h
  simp only [S0, Tryd.ntmps29, T_api_Region.d]
  refine rb_seq ?_
  refine rb_regionK fun K2 hK2 => ?_
  simp -implicitDefEqProofs only [vt, ↓atI_fold, forall_const, reduceIte, reduceCtorEq, Nat.reduceEqDiff, Nat.reduceAdd, Nat.reduceSub, Nat.reduceMul, Nat.reduceLT, Nat.reduceLeDiff, Nat.reducePow, Int.reduceToNat, Int.reduceLT, Int.reduceLE, Int.reduceAdd, Int.reduceSub, Int.reduceMul, Int.reduceEq, Int.reduceBEq, Int.reduceBNe, Int.reduceNeg, T_api_Region.d]
  subst hK2
  refine eb_seq ?_
  refine rb_seq ?_
  refine rb_regionK fun K13 hK13 => ?_
  simp -implicitDefEqProofs only [vt, ↓atI_fold, forall_const, reduceIte, reduceCtorEq, Nat.reduceEqDiff, Nat.reduceAdd, Nat.reduceSub, Nat.reduceMul, Nat.reduceLT, Nat.reduceLeDiff, Nat.reducePow, Int.reduceToNat, Int.reduceLT, Int.reduceLE, Int.reduceAdd, Int.reduceSub, Int.reduceMul, Int.reduceEq, Int.reduceBEq, Int.reduceBNe, Int.reduceNeg, T_api_Region.d]
  obtain ⟨r14, h15, h⟩ := bind_some h
  refine cW.intro (a_ref10_usable I hI a_0 h15) (by first | rfl | (simp [List.map_append, T_api_Region.d]; done)) ?_
  simp -implicitDefEqProofs only [vt, ↓atI_fold, forall_const, reduceIte, reduceCtorEq, Nat.reduceEqDiff, Nat.reduceAdd, Nat.reduceSub, Nat.reduceMul, Nat.reduceLT, Nat.reduceLeDiff, Nat.reducePow, Int.reduceToNat, Int.reduceLT, Int.reduceLE, Int.reduceAdd, Int.reduceSub, Int.reduceMul, Int.reduceEq, Int.reduceBEq, Int.reduceBNe, Int.reduceNeg, T_api_Region.d]
  rcases ite_or h with ⟨k16, h⟩ | ⟨k16, h⟩
  · simp -implicitDefEqProofs only [vt, ↓atI_fold, forall_const, reduceIte, reduceCtorEq, Nat.reduceEqDiff, Nat.reduceAdd, Nat.reduceSub, Nat.reduceMul, Nat.reduceLT, Nat.reduceLeDiff, Nat.reducePow, Int.reduceToNat, Int.reduceLT, Int.reduceLE, Int.reduceAdd, Int.reduceSub, Int.reduceMul, Int.reduceEq, Int.reduceBEq, Int.reduceBNe, Int.reduceNeg, T_api_Region.d, k16]
    obtain ⟨r17, h18, h⟩ := bind_some h
    refine cW.intro (a_ref10_usable I hI b_1 h18) (by first | rfl | (simp [List.map_append, T_api_Region.d]; done)) ?_
    simp -implicitDefEqProofs only [vt, ↓atI_fold, forall_const, reduceIte, reduceCtorEq, Nat.reduceEqDiff, Nat.reduceAdd, Nat.reduceSub, Nat.reduceMul, Nat.reduceLT, Nat.reduceLeDiff, Nat.reducePow, Int.reduceToNat, Int.reduceLT, Int.reduceLE, Int.reduceAdd, Int.reduceSub, Int.reduceMul, Int.reduceEq, Int.reduceBEq, Int.reduceBNe, Int.reduceNeg, T_api_Region.d, k16]
    rcases ite_or h with ⟨k19, h⟩ | ⟨k19, h⟩
    · simp -implicitDefEqProofs only [vt, ↓atI_fold, forall_const, reduceIte, reduceCtorEq, Nat.reduceEqDiff, Nat.reduceAdd, Nat.reduceSub, Nat.reduceMul, Nat.reduceLT, Nat.reduceLeDiff, Nat.reducePow, Int.reduceToNat, Int.reduceLT, Int.reduceLE, Int.reduceAdd, Int.reduceSub, Int.reduceMul, Int.reduceEq, Int.reduceBEq, Int.reduceBNe, Int.reduceNeg, T_api_Region.d, k16, k19]
      rcases ite_or h with ⟨k20, h⟩ | ⟨k20, h⟩
      · simp -implicitDefEqProofs only [vt, ↓atI_fold, forall_const, reduceIte, reduceCtorEq, Nat.reduceEqDiff, Nat.reduceAdd, Nat.reduceSub, Nat.reduceMul, Nat.reduceLT, Nat.reduceLeDiff, Nat.reducePow, Int.reduceToNat, Int.reduceLT, Int.reduceLE, Int.reduceAdd, Int.reduceSub, Int.reduceMul, Int.reduceEq, Int.reduceBEq, Int.reduceBNe, Int.reduceNeg, T_api_Region.d, k16, k19, k20]
        rcases ite_or h with ⟨k21, h⟩ | ⟨k21, h⟩
        · simp -implicitDefEqProofs only [vt, ↓atI_fold, forall_const, reduceIte, reduceCtorEq, Nat.reduceEqDiff, Nat.reduceAdd, Nat.reduceSub, Nat.reduceMul, Nat.reduceLT, Nat.reduceLeDiff, Nat.reducePow, Int.reduceToNat, Int.reduceLT, Int.reduceLE, Int.reduceAdd, Int.reduceSub, Int.reduceMul, Int.reduceEq, Int.reduceBEq, Int.reduceBNe, Int.reduceNeg, T_api_Region.d, k16, k19, k20, k21]
          rcases ite_or h with ⟨k22, h⟩ | ⟨k22, h⟩
          · simp -implicitDefEqProofs only [vt, ↓atI_fold, forall_const, reduceIte, reduceCtorEq, Nat.reduceEqDiff, Nat.reduceAdd, Nat.reduceSub, Nat.reduceMul, Nat.reduceLT, Nat.reduceLeDiff, Nat.reducePow, Int.reduceToNat, Int.reduceLT, Int.reduceLE, Int.reduceAdd, Int.reduceSub, Int.reduceMul, Int.reduceEq, Int.reduceBEq, Int.reduceBNe, Int.reduceNeg, T_api_Region.d, k16, k19, k20, k21, k22]
            subst hK13
            refine eb_seq ?_
            refine rb_ret ?_
            obtain rfl := Option.some.inj h
            refine eb_nil ?_
            simp -implicitDefEqProofs only [vt, ↓atI_fold, forall_const, reduceIte, reduceCtorEq, Nat.reduceEqDiff, Nat.reduceAdd, Nat.reduceSub, Nat.reduceMul, Nat.reduceLT, Nat.reduceLeDiff, Nat.reducePow, Int.reduceToNat, Int.reduceLT, Int.reduceLE, Int.reduceAdd, Int.reduceSub, Int.reduceMul, Int.reduceEq, Int.reduceBEq, Int.reduceBNe, Int.reduceNeg, retQ_r, Tryd.results29, T_api_Region.d, k16, k19, k20, k21, k22] <;> first | rfl | (simp [List.map_append, T_api_Region.d]; done)
          · simp -implicitDefEqProofs only [vt, ↓atI_fold, forall_const, reduceIte, reduceCtorEq, Nat.reduceEqDiff, Nat.reduceAdd, Nat.reduceSub, Nat.reduceMul, Nat.reduceLT, Nat.reduceLeDiff, Nat.reducePow, Int.reduceToNat, Int.reduceLT, Int.reduceLE, Int.reduceAdd, Int.reduceSub, Int.reduceMul, Int.reduceEq, Int.reduceBEq, Int.reduceBNe, Int.reduceNeg, T_api_Region.d, k16, k19, k20, k21, k22]
            subst hK13
            refine eb_seq ?_
            refine rb_ret ?_
            obtain rfl := Option.some.inj h
            refine eb_nil ?_
            simp -implicitDefEqProofs only [vt, ↓atI_fold, forall_const, reduceIte, reduceCtorEq, Nat.reduceEqDiff, Nat.reduceAdd, Nat.reduceSub, Nat.reduceMul, Nat.reduceLT, Nat.reduceLeDiff, Nat.reducePow, Int.reduceToNat, Int.reduceLT, Int.reduceLE, Int.reduceAdd, Int.reduceSub, Int.reduceMul, Int.reduceEq, Int.reduceBEq, Int.reduceBNe, Int.reduceNeg, retQ_r, Tryd.results29, T_api_Region.d, k16, k19, k20, k21, k22] <;> first | rfl | (simp [List.map_append, T_api_Region.d]; done)
        · simp -implicitDefEqProofs only [vt, ↓atI_fold, forall_const, reduceIte, reduceCtorEq, Nat.reduceEqDiff, Nat.reduceAdd, Nat.reduceSub, Nat.reduceMul, Nat.reduceLT, Nat.reduceLeDiff, Nat.reducePow, Int.reduceToNat, Int.reduceLT, Int.reduceLE, Int.reduceAdd, Int.reduceSub, Int.reduceMul, Int.reduceEq, Int.reduceBEq, Int.reduceBNe, Int.reduceNeg, T_api_Region.d, k16, k19, k20, k21]
          subst hK13
          refine eb_seq ?_
          refine rb_ret ?_
          obtain rfl := Option.some.inj h
          refine eb_nil ?_
          simp -implicitDefEqProofs only [vt, ↓atI_fold, forall_const, reduceIte, reduceCtorEq, Nat.reduceEqDiff, Nat.reduceAdd, Nat.reduceSub, Nat.reduceMul, Nat.reduceLT, Nat.reduceLeDiff, Nat.reducePow, Int.reduceToNat, Int.reduceLT, Int.reduceLE, Int.reduceAdd, Int.reduceSub, Int.reduceMul, Int.reduceEq, Int.reduceBEq, Int.reduceBNe, Int.reduceNeg, retQ_r, Tryd.results29, T_api_Region.d, k16, k19, k20, k21] <;> first | rfl | (simp [List.map_append, T_api_Region.d]; done)
      · simp -implicitDefEqProofs only [vt, ↓atI_fold, forall_const, reduceIte, reduceCtorEq, Nat.reduceEqDiff, Nat.reduceAdd, Nat.reduceSub, Nat.reduceMul, Nat.reduceLT, Nat.reduceLeDiff, Nat.reducePow, Int.reduceToNat, Int.reduceLT, Int.reduceLE, Int.reduceAdd, Int.reduceSub, Int.reduceMul, Int.reduceEq, Int.reduceBEq, Int.reduceBNe, Int.reduceNeg, T_api_Region.d, k16, k19, k20]
        subst hK13
        refine eb_seq ?_
        refine rb_ret ?_
        obtain rfl := Option.some.inj h
        refine eb_nil ?_
        simp -implicitDefEqProofs only [vt, ↓atI_fold, forall_const, reduceIte, reduceCtorEq, Nat.reduceEqDiff, Nat.reduceAdd, Nat.reduceSub, Nat.reduceMul, Nat.reduceLT, Nat.reduceLeDiff, Nat.reducePow, Int.reduceToNat, Int.reduceLT, Int.reduceLE, Int.reduceAdd, Int.reduceSub, Int.reduceMul, Int.reduceEq, Int.reduceBEq, Int.reduceBNe, Int.reduceNeg, retQ_r, Tryd.results29, T_api_Region.d, k16, k19, k20] <;> first | rfl | (simp [List.map_append, T_api_Region.d]; done)
    · simp -implicitDefEqProofs only [vt, ↓atI_fold, forall_const, reduceIte, reduceCtorEq, Nat.reduceEqDiff, Nat.reduceAdd, Nat.reduceSub, Nat.reduceMul, Nat.reduceLT, Nat.reduceLeDiff, Nat.reducePow, Int.reduceToNat, Int.reduceLT, Int.reduceLE, Int.reduceAdd, Int.reduceSub, Int.reduceMul, Int.reduceEq, Int.reduceBEq, Int.reduceBNe, Int.reduceNeg, T_api_Region.d, k16, k19]
      subst hK13
      refine eb_seq ?_
      refine rb_ret ?_
      obtain rfl := Option.some.inj h
      refine eb_nil ?_
      simp -implicitDefEqProofs only [vt, ↓atI_fold, forall_const, reduceIte, reduceCtorEq, Nat.reduceEqDiff, Nat.reduceAdd, Nat.reduceSub, Nat.reduceMul, Nat.reduceLT, Nat.reduceLeDiff, Nat.reducePow, Int.reduceToNat, Int.reduceLT, Int.reduceLE, Int.reduceAdd, Int.reduceSub, Int.reduceMul, Int.reduceEq, Int.reduceBEq, Int.reduceBNe, Int.reduceNeg, retQ_r, Tryd.results29, T_api_Region.d, k16, k19] <;> first | rfl | (simp [List.map_append, T_api_Region.d]; done)
  · simp -implicitDefEqProofs only [vt, ↓atI_fold, forall_const, reduceIte, reduceCtorEq, Nat.reduceEqDiff, Nat.reduceAdd, Nat.reduceSub, Nat.reduceMul, Nat.reduceLT, Nat.reduceLeDiff, Nat.reducePow, Int.reduceToNat, Int.reduceLT, Int.reduceLE, Int.reduceAdd, Int.reduceSub, Int.reduceMul, Int.reduceEq, Int.reduceBEq, Int.reduceBNe, Int.reduceNeg, T_api_Region.d, k16]
    subst hK13
    refine eb_seq ?_
    refine rb_ret ?_
    obtain rfl := Option.some.inj h
    refine eb_nil ?_
    simp -implicitDefEqProofs only [vt, ↓atI_fold, forall_const, reduceIte, reduceCtorEq, Nat.reduceEqDiff, Nat.reduceAdd, Nat.reduceSub, Nat.reduceMul, Nat.reduceLT, Nat.reduceLeDiff, Nat.reducePow, Int.reduceToNat, Int.reduceLT, Int.reduceLE, Int.reduceAdd, Int.reduceSub, Int.reduceMul, Int.reduceEq, Int.reduceBEq, Int.reduceBNe, Int.reduceNeg, retQ_r, Tryd.results29, T_api_Region.d, k16] <;> first | rfl | (simp [List.map_append, T_api_Region.d]; done)
-- region.Inside
def g_region_Inside (r_0 : T_api_Region) (top_1 : Int) (bottom_2 : Int) (left_3 : Int) (right_4 : Int) : Option (Bool) :=
  ((((g_region_usable r_0).bind fun r20 => (if r20 then ((g_region_from top_1 0 32).bind fun r23 => (if r23 then ((g_region_from bottom_2 0 32).bind fun r26 => (if r26 then ((g_region_from left_3 0 32).bind fun r29 => (if r29 then ((g_region_from right_4 0 32).bind fun r32 => (some (!r32))) else (some true))) else (some true))) else (some true))) else (some true))) : Option (Bool)).bind fun v18 => (if v18 then (some false) else (if (decide (top_1 ≤ r_0.Top)) then (if (decide ((IntKind.i64.wrap (r_0.Top + r_0.Height)) ≤ (IntKind.i64.wrap (15 - bottom_2)))) then (if (decide (left_3 ≤ r_0.Left)) then (some (decide ((IntKind.i64.wrap (r_0.Left + r_0.Width)) ≤ (IntKind.i64.wrap (32 - right_4))))) else (some false)) else (some false)) else (some false))))
theorem a_region_Inside (I : World → Prop) (hI : Stab I) (r_0 : T_api_Region) (top_1 : Int) (bottom_2 : Int) (left_3 : Int) (right_4 : Int) {r : Bool} (h : g_region_Inside r_0 top_1 bottom_2 left_3 right_4 = some r) : AFun Tryd.prog I 30 [T_api_Region.d r_0, .int .i64 top_1, .int .i64 bottom_2, .int .i64 left_3, .int .i64 right_4] (.bool r) := by
  refine AFun.enterB hI Tryd.func30 rfl (by decide) (by simp [Tryd.f30]) (by kernel_rfl) ?_
  unfold g_region_Inside at h
  simp only [S0, Tryd.ntmps30, T_api_Region.d]
  refine rb_seq ?_
  refine rb_regionK fun K2 hK2 => ?_
  simp -implicitDefEqProofs only [vt, ↓atI_fold, forall_const, reduceIte, reduceCtorEq, Nat.reduceEqDiff, Nat.reduceAdd, Nat.reduceSub, Nat.reduceMul, Nat.reduceLT, Nat.reduceLeDiff, Nat.reducePow, Int.reduceToNat, Int.reduceLT, Int.reduceLE, Int.reduceAdd, Int.reduceSub, Int.reduceMul, Int.reduceEq, Int.reduceBEq, Int.reduceBNe, Int.reduceNeg, T_api_Region.d]
  subst hK2
  refine eb_seq ?_
  refine rb_seq ?_
  obtain ⟨v18, h34, h⟩ := bind_some h
  refine rb_cut (fun v18 => ⟨envL [(1, .int .i64 top_1), (2, .int .i64 bottom_2), (3, .int .i64 left_3), (4, .int .i64 right_4), (5, .ptr 0 0), (33, .bool v18)], heapL [(0, .box [.str r_0.Name, .int .i64 r_0.Top, .int .i64 r_0.Height, .int .i64 r_0.Left, .int .i64 r_0.Width, .int .u8 r_0.Align, .bool r_0.Bottom])], 1, 64⟩) h34 ?_ ?_
  · clear h
    intro v18 h
    refine rb_regionK fun K19 hK19 => ?_
    simp -implicitDefEqProofs only [vt, ↓atI_fold, forall_const, reduceIte, reduceCtorEq, Nat.reduceEqDiff, Nat.reduceAdd, Nat.reduceSub, Nat.reduceMul, Nat.reduceLT, Nat.reduceLeDiff, Nat.reducePow, Int.reduceToNat, Int.reduceLT, Int.reduceLE, Int.reduceAdd, Int.reduceSub, Int.reduceMul, Int.reduceEq, Int.reduceBEq, Int.reduceBNe, Int.reduceNeg, T_api_Region.d]
    obtain ⟨r20, h21, h⟩ := bind_some h
    refine cW.intro (a_region_usable I hI r_0 h21) (by first | rfl | (simp [List.map_append, T_api_Region.d]; done)) ?_
    simp -implicitDefEqProofs only [vt, ↓atI_fold, forall_const, reduceIte, reduceCtorEq, Nat.reduceEqDiff, Nat.reduceAdd, Nat.reduceSub, Nat.reduceMul, Nat.reduceLT, Nat.reduceLeDiff, Nat.reducePow, Int.reduceToNat, Int.reduceLT, Int.reduceLE, Int.reduceAdd, Int.reduceSub, Int.reduceMul, Int.reduceEq, Int.reduceBEq, Int.reduceBNe, Int.reduceNeg, T_api_Region.d]
    rcases ite_or h with ⟨k22, h⟩ | ⟨k22, h⟩
    · simp -implicitDefEqProofs only [vt, ↓atI_fold, forall_const, reduceIte, reduceCtorEq, Nat.reduceEqDiff, Nat.reduceAdd, Nat.reduceSub, Nat.reduceMul, Nat.reduceLT, Nat.reduceLeDiff, Nat.reducePow, Int.reduceToNat, Int.reduceLT, Int.reduceLE, Int.reduceAdd, Int.reduceSub, Int.reduceMul, Int.reduceEq, Int.reduceBEq, Int.reduceBNe, Int.reduceNeg, T_api_Region.d, k22]
      obtain ⟨r23, h24, h⟩ := bind_some h
      refine cW.intro (a_region_from I hI top_1 0 32 h24) (by first | rfl | (simp [List.map_append, T_api_Region.d]; done)) ?_
      simp -implicitDefEqProofs only [vt, ↓atI_fold, forall_const, reduceIte, reduceCtorEq, Nat.reduceEqDiff, Nat.reduceAdd, Nat.reduceSub, Nat.reduceMul, Nat.reduceLT, Nat.reduceLeDiff, Nat.reducePow, Int.reduceToNat, Int.reduceLT, Int.reduceLE, Int.reduceAdd, Int.reduceSub, Int.reduceMul, Int.reduceEq, Int.reduceBEq, Int.reduceBNe, Int.reduceNeg, T_api_Region.d, k22]
      rcases ite_or h with ⟨k25, h⟩ | ⟨k25, h⟩
      · simp -implicitDefEqProofs only [vt, ↓atI_fold, forall_const, reduceIte, reduceCtorEq, Nat.reduceEqDiff, Nat.reduceAdd, Nat.reduceSub, Nat.reduceMul, Nat.reduceLT, Nat.reduceLeDiff, Nat.reducePow, Int.reduceToNat, Int.reduceLT, Int.reduceLE, Int.reduceAdd, Int.reduceSub, Int.reduceMul, Int.reduceEq, Int.reduceBEq, Int.reduceBNe, Int.reduceNeg, T_api_Region.d, k22, k25]
        obtain ⟨r26, h27, h⟩ := bind_some h
        refine cW.intro (a_region_from I hI bottom_2 0 32 h27) (by first | rfl | (simp [List.map_append, T_api_Region.d]; done)) ?_
        simp -implicitDefEqProofs only [vt, ↓atI_fold, forall_const, reduceIte, reduceCtorEq, Nat.reduceEqDiff, Nat.reduceAdd, Nat.reduceSub, Nat.reduceMul, Nat.reduceLT, Nat.reduceLeDiff, Nat.reducePow, Int.reduceToNat, Int.reduceLT, Int.reduceLE, Int.reduceAdd, Int.reduceSub, Int.reduceMul, Int.reduceEq, Int.reduceBEq, Int.reduceBNe, Int.reduceNeg, T_api_Region.d, k22, k25]
        rcases ite_or h with ⟨k28, h⟩ | ⟨k28, h⟩
        · simp -implicitDefEqProofs only [vt, ↓atI_fold, forall_const, reduceIte, reduceCtorEq, Nat.reduceEqDiff, Nat.reduceAdd, Nat.reduceSub, Nat.reduceMul, Nat.reduceLT, Nat.reduceLeDiff, Nat.reducePow, Int.reduceToNat, Int.reduceLT, Int.reduceLE, Int.reduceAdd, Int.reduceSub, Int.reduceMul, Int.reduceEq, Int.reduceBEq, Int.reduceBNe, Int.reduceNeg, T_api_Region.d, k22, k25, k28]
          obtain ⟨r29, h30, h⟩ := bind_some h
          refine cW.intro (a_region_from I hI left_3 0 32 h30) (by first | rfl | (simp [List.map_append, T_api_Region.d]; done)) ?_
          simp -implicitDefEqProofs only [vt, ↓atI_fold, forall_const, reduceIte, reduceCtorEq, Nat.reduceEqDiff, Nat.reduceAdd, Nat.reduceSub, Nat.reduceMul, Nat.reduceLT, Nat.reduceLeDiff, Nat.reducePow, Int.reduceToNat, Int.reduceLT, Int.reduceLE, Int.reduceAdd, Int.reduceSub, Int.reduceMul, Int.reduceEq, Int.reduceBEq, Int.reduceBNe, Int.reduceNeg, T_api_Region.d, k22, k25, k28]
          rcases ite_or h with ⟨k31, h⟩ | ⟨k31, h⟩
          · simp -implicitDefEqProofs only [vt, ↓atI_fold, forall_const, reduceIte, reduceCtorEq, Nat.reduceEqDiff, Nat.reduceAdd, Nat.reduceSub, Nat.reduceMul, Nat.reduceLT, Nat.reduceLeDiff, Nat.reducePow, Int.reduceToNat, Int.reduceLT, Int.reduceLE, Int.reduceAdd, Int.reduceSub, Int.reduceMul, Int.reduceEq, Int.reduceBEq, Int.reduceBNe, Int.reduceNeg, T_api_Region.d, k22, k25, k28, k31]
            obtain ⟨r32, h33, h⟩ := bind_some h
            refine cW.intro (a_region_from I hI right_4 0 32 h33) (by first | rfl | (simp [List.map_append, T_api_Region.d]; done)) ?_
            simp -implicitDefEqProofs only [vt, ↓atI_fold, forall_const, reduceIte, reduceCtorEq, Nat.reduceEqDiff, Nat.reduceAdd, Nat.reduceSub, Nat.reduceMul, Nat.reduceLT, Nat.reduceLeDiff, Nat.reducePow, Int.reduceToNat, Int.reduceLT, Int.reduceLE, Int.reduceAdd, Int.reduceSub, Int.reduceMul, Int.reduceEq, Int.reduceBEq, Int.reduceBNe, Int.reduceNeg, T_api_Region.d, k22, k25, k28, k31]
            subst hK19
            obtain rfl := Option.some.inj h
            exact eb_nil ⟨rfl, Wk.of (fun i => if i = 0 then some 0 else some i) _ _ _ (by simp -implicitDefEqProofs [upd_app, argL, envL_app, heapL_app, look, appEff, wkEnv, wkHeap, D.ren, D.ren1, D.idOk, D.idOk1, Blk.ren, Blk.idOk, T_api_Region.d, k22, k25, k28, k31]) (by simp -implicitDefEqProofs [upd_app, argL, envL_app, heapL_app, look, appEff, wkEnv, wkHeap, D.ren, D.ren1, D.idOk, D.idOk1, Blk.ren, Blk.idOk, T_api_Region.d, k22, k25, k28, k31])⟩
          · simp -implicitDefEqProofs only [vt, ↓atI_fold, forall_const, reduceIte, reduceCtorEq, Nat.reduceEqDiff, Nat.reduceAdd, Nat.reduceSub, Nat.reduceMul, Nat.reduceLT, Nat.reduceLeDiff, Nat.reducePow, Int.reduceToNat, Int.reduceLT, Int.reduceLE, Int.reduceAdd, Int.reduceSub, Int.reduceMul, Int.reduceEq, Int.reduceBEq, Int.reduceBNe, Int.reduceNeg, T_api_Region.d, k22, k25, k28, k31]
            subst hK19
            obtain rfl := Option.some.inj h
            exact eb_nil ⟨rfl, Wk.of (fun i => if i = 0 then some 0 else some i) _ _ _ (by simp -implicitDefEqProofs [upd_app, argL, envL_app, heapL_app, look, appEff, wkEnv, wkHeap, D.ren, D.ren1, D.idOk, D.idOk1, Blk.ren, Blk.idOk, T_api_Region.d, k22, k25, k28, k31]) (by simp -implicitDefEqProofs [upd_app, argL, envL_app, heapL_app, look, appEff, wkEnv, wkHeap, D.ren, D.ren1, D.idOk, D.idOk1, Blk.ren, Blk.idOk, T_api_Region.d, k22, k25, k28, k31])⟩
        · simp -implicitDefEqProofs only [vt, ↓atI_fold, forall_const, reduceIte, reduceCtorEq, Nat.reduceEqDiff, Nat.reduceAdd, Nat.reduceSub, Nat.reduceMul, Nat.reduceLT, Nat.reduceLeDiff, Nat.reducePow, Int.reduceToNat, Int.reduceLT, Int.reduceLE, Int.reduceAdd, Int.reduceSub, Int.reduceMul, Int.reduceEq, Int.reduceBEq, Int.reduceBNe, Int.reduceNeg, T_api_Region.d, k22, k25, k28]
          subst hK19
          obtain rfl := Option.some.inj h
          exact eb_nil ⟨rfl, Wk.of (fun i => if i = 0 then some 0 else some i) _ _ _ (by simp -implicitDefEqProofs [upd_app, argL, envL_app, heapL_app, look, appEff, wkEnv, wkHeap, D.ren, D.ren1, D.idOk, D.idOk1, Blk.ren, Blk.idOk, T_api_Region.d, k22, k25, k28]) (by simp -implicitDefEqProofs [upd_app, argL, envL_app, heapL_app, look, appEff, wkEnv, wkHeap, D.ren, D.ren1, D.idOk, D.idOk1, Blk.ren, Blk.idOk, T_api_Region.d, k22, k25, k28])⟩
      · simp -implicitDefEqProofs only [vt, ↓atI_fold, forall_const, reduceIte, reduceCtorEq, Nat.reduceEqDiff, Nat.reduceAdd, Nat.reduceSub, Nat.reduceMul, Nat.reduceLT, Nat.reduceLeDiff, Nat.reducePow, Int.reduceToNat, Int.reduceLT, Int.reduceLE, Int.reduceAdd, Int.reduceSub, Int.reduceMul, Int.reduceEq, Int.reduceBEq, Int.reduceBNe, Int.reduceNeg, T_api_Region.d, k22, k25]
        subst hK19
        obtain rfl := Option.some.inj h
        exact eb_nil ⟨rfl, Wk.of (fun i => if i = 0 then some 0 else some i) _ _ _ (by simp -implicitDefEqProofs [upd_app, argL, envL_app, heapL_app, look, appEff, wkEnv, wkHeap, D.ren, D.ren1, D.idOk, D.idOk1, Blk.ren, Blk.idOk, T_api_Region.d, k22, k25]) (by simp -implicitDefEqProofs [upd_app, argL, envL_app, heapL_app, look, appEff, wkEnv, wkHeap, D.ren, D.ren1, D.idOk, D.idOk1, Blk.ren, Blk.idOk, T_api_Region.d, k22, k25])⟩
    · simp -implicitDefEqProofs only [vt, ↓atI_fold, forall_const, reduceIte, reduceCtorEq, Nat.reduceEqDiff, Nat.reduceAdd, Nat.reduceSub, Nat.reduceMul, Nat.reduceLT, Nat.reduceLeDiff, Nat.reducePow, Int.reduceToNat, Int.reduceLT, Int.reduceLE, Int.reduceAdd, Int.reduceSub, Int.reduceMul, Int.reduceEq, Int.reduceBEq, Int.reduceBNe, Int.reduceNeg, T_api_Region.d, k22]
      subst hK19
      obtain rfl := Option.some.inj h
      exact eb_nil ⟨rfl, Wk.of (fun i => if i = 0 then some 0 else some i) _ _ _ (by simp -implicitDefEqProofs [upd_app, argL, envL_app, heapL_app, look, appEff, wkEnv, wkHeap, D.ren, D.ren1, D.idOk, D.idOk1, Blk.ren, Blk.idOk, T_api_Region.d, k22]) (by simp -implicitDefEqProofs [upd_app, argL, envL_app, heapL_app, look, appEff, wkEnv, wkHeap, D.ren, D.ren1, D.idOk, D.idOk1, Blk.ren, Blk.idOk, T_api_Region.d, k22])⟩
  · rcases ite_or h with ⟨k35, h⟩ | ⟨k35, h⟩
    · refine rb_true (congrArg D.bool k35) ?_
      refine rb_seq ?_
      refine rb_regionK fun K37 hK37 => ?_
      simp -implicitDefEqProofs only [vt, ↓atI_fold, forall_const, reduceIte, reduceCtorEq, Nat.reduceEqDiff, Nat.reduceAdd, Nat.reduceSub, Nat.reduceMul, Nat.reduceLT, Nat.reduceLeDiff, Nat.reducePow, Int.reduceToNat, Int.reduceLT, Int.reduceLE, Int.reduceAdd, Int.reduceSub, Int.reduceMul, Int.reduceEq, Int.reduceBEq, Int.reduceBNe, Int.reduceNeg, T_api_Region.d, k35]
      subst hK37
      refine eb_seq ?_
      refine rb_ret ?_
      refine eb_seq_r ?_
      obtain rfl := Option.some.inj h
      refine eb_nil ?_
      simp -implicitDefEqProofs only [vt, ↓atI_fold, forall_const, reduceIte, reduceCtorEq, Nat.reduceEqDiff, Nat.reduceAdd, Nat.reduceSub, Nat.reduceMul, Nat.reduceLT, Nat.reduceLeDiff, Nat.reducePow, Int.reduceToNat, Int.reduceLT, Int.reduceLE, Int.reduceAdd, Int.reduceSub, Int.reduceMul, Int.reduceEq, Int.reduceBEq, Int.reduceBNe, Int.reduceNeg, retQ_r, Tryd.results30, T_api_Region.d, k35] <;> first | rfl | (simp [List.map_append, T_api_Region.d]; done)
    · refine rb_false (congrArg D.bool k35) ?_
      refine rb_skip ?_
      refine eb_seq ?_
      refine rb_seq ?_
      refine rb_regionK fun K42 hK42 => ?_
      simp -implicitDefEqProofs only [vt, ↓atI_fold, forall_const, reduceIte, reduceCtorEq, Nat.reduceEqDiff, Nat.reduceAdd, Nat.reduceSub, Nat.reduceMul, Nat.reduceLT, Nat.reduceLeDiff, Nat.reducePow, Int.reduceToNat, Int.reduceLT, Int.reduceLE, Int.reduceAdd, Int.reduceSub, Int.reduceMul, Int.reduceEq, Int.reduceBEq, Int.reduceBNe, Int.reduceNeg, T_api_Region.d, k35]
      rcases ite_or h with ⟨k43, h⟩ | ⟨k43, h⟩
      · simp -implicitDefEqProofs only [vt, ↓atI_fold, forall_const, reduceIte, reduceCtorEq, Nat.reduceEqDiff, Nat.reduceAdd, Nat.reduceSub, Nat.reduceMul, Nat.reduceLT, Nat.reduceLeDiff, Nat.reducePow, Int.reduceToNat, Int.reduceLT, Int.reduceLE, Int.reduceAdd, Int.reduceSub, Int.reduceMul, Int.reduceEq, Int.reduceBEq, Int.reduceBNe, Int.reduceNeg, T_api_Region.d, k35, k43]
        rcases ite_or h with ⟨k44, h⟩ | ⟨k44, h⟩
        · simp -implicitDefEqProofs only [vt, ↓atI_fold, forall_const, reduceIte, reduceCtorEq, Nat.reduceEqDiff, Nat.reduceAdd, Nat.reduceSub, Nat.reduceMul, Nat.reduceLT, Nat.reduceLeDiff, Nat.reducePow, Int.reduceToNat, Int.reduceLT, Int.reduceLE, Int.reduceAdd, Int.reduceSub, Int.reduceMul, Int.reduceEq, Int.reduceBEq, Int.reduceBNe, Int.reduceNeg, T_api_Region.d, k35, k43, k44]
          rcases ite_or h with ⟨k45, h⟩ | ⟨k45, h⟩
          · simp -implicitDefEqProofs only [vt, ↓atI_fold, forall_const, reduceIte, reduceCtorEq, Nat.reduceEqDiff, Nat.reduceAdd, Nat.reduceSub, Nat.reduceMul, Nat.reduceLT, Nat.reduceLeDiff, Nat.reducePow, Int.reduceToNat, Int.reduceLT, Int.reduceLE, Int.reduceAdd, Int.reduceSub, Int.reduceMul, Int.reduceEq, Int.reduceBEq, Int.reduceBNe, Int.reduceNeg, T_api_Region.d, k35, k43, k44, k45]
            subst hK42
            refine eb_seq ?_
            refine rb_ret ?_
            obtain rfl := Option.some.inj h
            refine eb_nil ?_
            simp -implicitDefEqProofs only [vt, ↓atI_fold, forall_const, reduceIte, reduceCtorEq, Nat.reduceEqDiff, Nat.reduceAdd, Nat.reduceSub, Nat.reduceMul, Nat.reduceLT, Nat.reduceLeDiff, Nat.reducePow, Int.reduceToNat, Int.reduceLT, Int.reduceLE, Int.reduceAdd, Int.reduceSub, Int.reduceMul, Int.reduceEq, Int.reduceBEq, Int.reduceBNe, Int.reduceNeg, retQ_r, Tryd.results30, T_api_Region.d, k35, k43, k44, k45] <;> first | rfl | (simp [List.map_append, T_api_Region.d]; done)
          · simp -implicitDefEqProofs only [vt, ↓atI_fold, forall_const, reduceIte, reduceCtorEq, Nat.reduceEqDiff, Nat.reduceAdd, Nat.reduceSub, Nat.reduceMul, Nat.reduceLT, Nat.reduceLeDiff, Nat.reducePow, Int.reduceToNat, Int.reduceLT, Int.reduceLE, Int.reduceAdd, Int.reduceSub, Int.reduceMul, Int.reduceEq, Int.reduceBEq, Int.reduceBNe, Int.reduceNeg, T_api_Region.d, k35, k43, k44, k45]
            subst hK42
            refine eb_seq ?_
            refine rb_ret ?_
            obtain rfl := Option.some.inj h
            refine eb_nil ?_
            simp -implicitDefEqProofs only [vt, ↓atI_fold, forall_const, reduceIte, reduceCtorEq, Nat.reduceEqDiff, Nat.reduceAdd, Nat.reduceSub, Nat.reduceMul, Nat.reduceLT, Nat.reduceLeDiff, Nat.reducePow, Int.reduceToNat, Int.reduceLT, Int.reduceLE, Int.reduceAdd, Int.reduceSub, Int.reduceMul, Int.reduceEq, Int.reduceBEq, Int.reduceBNe, Int.reduceNeg, retQ_r, Tryd.results30, T_api_Region.d, k35, k43, k44, k45] <;> first | rfl | (simp [List.map_append, T_api_Region.d]; done)
        · simp -implicitDefEqProofs only [vt, ↓atI_fold, forall_const, reduceIte, reduceCtorEq, Nat.reduceEqDiff, Nat.reduceAdd, Nat.reduceSub, Nat.reduceMul, Nat.reduceLT, Nat.reduceLeDiff, Nat.reducePow, Int.reduceToNat, Int.reduceLT, Int.reduceLE, Int.reduceAdd, Int.reduceSub, Int.reduceMul, Int.reduceEq, Int.reduceBEq, Int.reduceBNe, Int.reduceNeg, T_api_Region.d, k35, k43, k44]
          subst hK42
          refine eb_seq ?_
          refine rb_ret ?_
          obtain rfl := Option.some.inj h
          refine eb_nil ?_
          simp -implicitDefEqProofs only [vt, ↓atI_fold, forall_const, reduceIte, reduceCtorEq, Nat.reduceEqDiff, Nat.reduceAdd, Nat.reduceSub, Nat.reduceMul, Nat.reduceLT, Nat.reduceLeDiff, Nat.reducePow, Int.reduceToNat, Int.reduceLT, Int.reduceLE, Int.reduceAdd, Int.reduceSub, Int.reduceMul, Int.reduceEq, Int.reduceBEq, Int.reduceBNe, Int.reduceNeg, retQ_r, Tryd.results30, T_api_Region.d, k35, k43, k44] <;> first | rfl | (simp [List.map_append, T_api_Region.d]; done)
      · simp -implicitDefEqProofs only [vt, ↓atI_fold, forall_const, reduceIte, reduceCtorEq, Nat.reduceEqDiff, Nat.reduceAdd, Nat.reduceSub, Nat.reduceMul, Nat.reduceLT, Nat.reduceLeDiff, Nat.reducePow, Int.reduceToNat, Int.reduceLT, Int.reduceLE, Int.reduceAdd, Int.reduceSub, Int.reduceMul, Int.reduceEq, Int.reduceBEq, Int.reduceBNe, Int.reduceNeg, T_api_Region.d, k35, k43]
        subst hK42
        refine eb_seq ?_
        refine rb_ret ?_
        obtain rfl := Option.some.inj h
        refine eb_nil ?_
        simp -implicitDefEqProofs only [vt, ↓atI_fold, forall_const, reduceIte, reduceCtorEq, Nat.reduceEqDiff, Nat.reduceAdd, Nat.reduceSub, Nat.reduceMul, Nat.reduceLT, Nat.reduceLeDiff, Nat.reducePow, Int.reduceToNat, Int.reduceLT, Int.reduceLE, Int.reduceAdd, Int.reduceSub, Int.reduceMul, Int.reduceEq, Int.reduceBEq, Int.reduceBNe, Int.reduceNeg, retQ_r, Tryd.results30, T_api_Region.d, k35, k43] <;> first | rfl | (simp [List.map_append, T_api_Region.d]; done)
-- captionerref10.Inside
def g_ref10_Inside (r_0 : T_api_Region) (top_1 : Int) (bottom_2 : Int) (left_3 : Int) (right_4 : Int) : Option (Bool) :=
  ((((g_ref10_usable r_0).bind fun r20 => (if r20 then ((g_ref10_margin top_1).bind fun r23 => (if r23 then ((g_ref10_margin bottom_2).bind fun r26 => (if r26 then ((g_ref10_margin left_3).bind fun r29 => (if r29 then ((g_ref10_margin right_4).bind fun r32 => (some (!r32))) else (some true))) else (some true))) else (some true))) else (some true))) : Option (Bool)).bind fun v18 => (if v18 then (some false) else (if (decide (top_1 ≤ r_0.Top)) then (if (decide ((IntKind.i64.wrap (r_0.Top + r_0.Height)) ≤ (IntKind.i64.wrap (15 - bottom_2)))) then (if (decide (left_3 ≤ r_0.Left)) then (some (decide ((IntKind.i64.wrap (r_0.Left + r_0.Width)) ≤ (IntKind.i64.wrap (32 - right_4))))) else (some false)) else (some false)) else (some false))))
theorem a_ref10_Inside (I : World → Prop) (hI : Stab I) (r_0 : T_api_Region) (top_1 : Int) (bottom_2 : Int) (left_3 : Int) (right_4 : Int) {r : Bool} (h : g_ref10_Inside r_0 top_1 bottom_2 left_3 right_4 = some r) : AFun Tryd.prog I 31 [T_api_Region.d r_0, .int .i64 top_1, .int .i64 bottom_2, .int .i64 left_3, .int .i64 right_4] (.bool r) := by
  refine AFun.enterB hI Tryd.func31 rfl (by decide) (by simp [Tryd.f31]) (by kernel_rfl) ?_
  unfold g_ref10_Inside at h
  simp only [S0, Tryd.ntmps31, T_api_Region.d]
  refine rb_seq ?_
  refine rb_regionK fun K2 hK2 => ?_
  simp -implicitDefEqProofs only [vt, ↓atI_fold, forall_const, reduceIte, reduceCtorEq, Nat.reduceEqDiff, Nat.reduceAdd, Nat.reduceSub, Nat.reduceMul, Nat.reduceLT, Nat.reduceLeDiff, Nat.reducePow, Int.reduceToNat, Int.reduceLT, Int.reduceLE, Int.reduceAdd, Int.reduceSub, Int.reduceMul, Int.reduceEq, Int.reduceBEq, Int.reduceBNe, Int.reduceNeg, T_api_Region.d]
  subst hK2
  refine eb_seq ?_
  refine rb_seq ?_
  obtain ⟨v18, h34, h⟩ := bind_some h
  refine rb_cut (fun v18 => ⟨envL [(1, .int .i64 top_1), (2, .int .i64 bottom_2), (3, .int .i64 left_3), (4, .int .i64 right_4), (5, .ptr 0 0), (33, .bool v18)], heapL [(0, .box [.str r_0.Name, .int .i64 r_0.Top, .int .i64 r_0.Height, .int .i64 r_0.Left, .int .i64 r_0.Width, .int .u8 r_0.Align, .bool r_0.Bottom])], 1, 64⟩) h34 ?_ ?_
  · clear h
    intro v18 h
    refine rb_regionK fun K19 hK19 => ?_
    simp -implicitDefEqProofs only [vt, ↓atI_fold, forall_const, reduceIte, reduceCtorEq, Nat.reduceEqDiff, Nat.reduceAdd, Nat.reduceSub, Nat.reduceMul, Nat.reduceLT, Nat.reduceLeDiff, Nat.reducePow, Int.reduceToNat, Int.reduceLT, Int.reduceLE, Int.reduceAdd, Int.reduceSub, Int.reduceMul, Int.reduceEq, Int.reduceBEq, Int.reduceBNe, Int.reduceNeg, T_api_Region.d]
    obtain ⟨r20, h21, h⟩ := bind_some h
    refine cW.intro (a_ref10_usable I hI r_0 h21) (by first | rfl | (simp [List.map_append, T_api_Region.d]; done)) ?_
    simp -implicitDefEqProofs only [vt, ↓atI_fold, forall_const, reduceIte, reduceCtorEq, Nat.reduceEqDiff, Nat.reduceAdd, Nat.reduceSub, Nat.reduceMul, Nat.reduceLT, Nat.reduceLeDiff, Nat.reducePow, Int.reduceToNat, Int.reduceLT, Int.reduceLE, Int.reduceAdd, Int.reduceSub, Int.reduceMul, Int.reduceEq, Int.reduceBEq, Int.reduceBNe, Int.reduceNeg, T_api_Region.d]
    rcases ite_or h with ⟨k22, h⟩ | ⟨k22, h⟩
    · simp -implicitDefEqProofs only [vt, ↓atI_fold, forall_const, reduceIte, reduceCtorEq, Nat.reduceEqDiff, Nat.reduceAdd, Nat.reduceSub, Nat.reduceMul, Nat.reduceLT, Nat.reduceLeDiff, Nat.reducePow, Int.reduceToNat, Int.reduceLT, Int.reduceLE, Int.reduceAdd, Int.reduceSub, Int.reduceMul, Int.reduceEq, Int.reduceBEq, Int.reduceBNe, Int.reduceNeg, T_api_Region.d, k22]
      obtain ⟨r23, h24, h⟩ := bind_some h
      refine cW.intro (a_ref10_margin I hI top_1 h24) (by first | rfl | (simp [List.map_append, T_api_Region.d]; done)) ?_
      simp -implicitDefEqProofs only [vt, ↓atI_fold, forall_const, reduceIte, reduceCtorEq, Nat.reduceEqDiff, Nat.reduceAdd, Nat.reduceSub, Nat.reduceMul, Nat.reduceLT, Nat.reduceLeDiff, Nat.reducePow, Int.reduceToNat, Int.reduceLT, Int.reduceLE, Int.reduceAdd, Int.reduceSub, Int.reduceMul, Int.reduceEq, Int.reduceBEq, Int.reduceBNe, Int.reduceNeg, T_api_Region.d, k22]
      rcases ite_or h with ⟨k25, h⟩ | ⟨k25, h⟩
      · simp -implicitDefEqProofs only [vt, ↓atI_fold, forall_const, reduceIte, reduceCtorEq, Nat.reduceEqDiff, Nat.reduceAdd, Nat.reduceSub, Nat.reduceMul, Nat.reduceLT, Nat.reduceLeDiff, Nat.reducePow, Int.reduceToNat, Int.reduceLT, Int.reduceLE, Int.reduceAdd, Int.reduceSub, Int.reduceMul, Int.reduceEq, Int.reduceBEq, Int.reduceBNe, Int.reduceNeg, T_api_Region.d, k22, k25]
        obtain ⟨r26, h27, h⟩ := bind_some h
        refine cW.intro (a_ref10_margin I hI bottom_2 h27) (by first | rfl | (simp [List.map_append, T_api_Region.d]; done)) ?_
        simp -implicitDefEqProofs only [vt, ↓atI_fold, forall_const, reduceIte, reduceCtorEq, Nat.reduceEqDiff, Nat.reduceAdd, Nat.reduceSub, Nat.reduceMul, Nat.reduceLT, Nat.reduceLeDiff, Nat.reducePow, Int.reduceToNat, Int.reduceLT, Int.reduceLE, Int.reduceAdd, Int.reduceSub, Int.reduceMul, Int.reduceEq, Int.reduceBEq, Int.reduceBNe, Int.reduceNeg, T_api_Region.d, k22, k25]
        rcases ite_or h with ⟨k28, h⟩ | ⟨k28, h⟩
        · simp -implicitDefEqProofs only [vt, ↓atI_fold, forall_const, reduceIte, reduceCtorEq, Nat.reduceEqDiff, Nat.reduceAdd, Nat.reduceSub, Nat.reduceMul, Nat.reduceLT, Nat.reduceLeDiff, Nat.reducePow, Int.reduceToNat, Int.reduceLT, Int.reduceLE, Int.reduceAdd, Int.reduceSub, Int.reduceMul, Int.reduceEq, Int.reduceBEq, Int.reduceBNe, Int.reduceNeg, T_api_Region.d, k22, k25, k28]
          obtain ⟨r29, h30, h⟩ := bind_some h
          refine cW.intro (a_ref10_margin I hI left_3 h30) (by first | rfl | (simp [List.map_append, T_api_Region.d]; done)) ?_
          simp -implicitDefEqProofs only [vt, ↓atI_fold, forall_const, reduceIte, reduceCtorEq, Nat.reduceEqDiff, Nat.reduceAdd, Nat.reduceSub, Nat.reduceMul, Nat.reduceLT, Nat.reduceLeDiff, Nat.reducePow, Int.reduceToNat, Int.reduceLT, Int.reduceLE, Int.reduceAdd, Int.reduceSub, Int.reduceMul, Int.reduceEq, Int.reduceBEq, Int.reduceBNe, Int.reduceNeg, T_api_Region.d, k22, k25, k28]
          rcases ite_or h with ⟨k31, h⟩ | ⟨k31, h⟩
          · simp -implicitDefEqProofs only [vt, ↓atI_fold, forall_const, reduceIte, reduceCtorEq, Nat.reduceEqDiff, Nat.reduceAdd, Nat.reduceSub, Nat.reduceMul, Nat.reduceLT, Nat.reduceLeDiff, Nat.reducePow, Int.reduceToNat, Int.reduceLT, Int.reduceLE, Int.reduceAdd, Int.reduceSub, Int.reduceMul, Int.reduceEq, Int.reduceBEq, Int.reduceBNe, Int.reduceNeg, T_api_Region.d, k22, k25, k28, k31]
            obtain ⟨r32, h33, h⟩ := bind_some h
            refine cW.intro (a_ref10_margin I hI right_4 h33) (by first | rfl | (simp [List.map_append, T_api_Region.d]; done)) ?_
            simp -implicitDefEqProofs only [vt, ↓atI_fold, forall_const, reduceIte, reduceCtorEq, Nat.reduceEqDiff, Nat.reduceAdd, Nat.reduceSub, Nat.reduceMul, Nat.reduceLT, Nat.reduceLeDiff, Nat.reducePow, Int.reduceToNat, Int.reduceLT, Int.reduceLE, Int.reduceAdd, Int.reduceSub, Int.reduceMul, Int.reduceEq, Int.reduceBEq, Int.reduceBNe, Int.reduceNeg, T_api_Region.d, k22, k25, k28, k31]
            subst hK19
            obtain rfl := Option.some.inj h
            exact eb_nil ⟨rfl, Wk.of (fun i => if i = 0 then some 0 else some i) _ _ _ (by simp -implicitDefEqProofs [upd_app, argL, envL_app, heapL_app, look, appEff, wkEnv, wkHeap, D.ren, D.ren1, D.idOk, D.idOk1, Blk.ren, Blk.idOk, T_api_Region.d, k22, k25, k28, k31]) (by simp -implicitDefEqProofs [upd_app, argL, envL_app, heapL_app, look, appEff, wkEnv, wkHeap, D.ren, D.ren1, D.idOk, D.idOk1, Blk.ren, Blk.idOk, T_api_Region.d, k22, k25, k28, k31])⟩
          · simp -implicitDefEqProofs only [vt, ↓atI_fold, forall_const, reduceIte, reduceCtorEq, Nat.reduceEqDiff, Nat.reduceAdd, Nat.reduceSub, Nat.reduceMul, Nat.reduceLT, Nat.reduceLeDiff, Nat.reducePow, Int.reduceToNat, Int.reduceLT, Int.reduceLE, Int.reduceAdd, Int.reduceSub, Int.reduceMul, Int.reduceEq, Int.reduceBEq, Int.reduceBNe, Int.reduceNeg, T_api_Region.d, k22, k25, k28, k31]
            subst hK19
            obtain rfl := Option.some.inj h
            exact eb_nil ⟨rfl, Wk.of (fun i => if i = 0 then some 0 else some i) _ _ _ (by simp -implicitDefEqProofs [upd_app, argL, envL_app, heapL_app, look, appEff, wkEnv, wkHeap, D.ren, D.ren1, D.idOk, D.idOk1, Blk.ren, Blk.idOk, T_api_Region.d, k22, k25, k28, k31]) (by simp -implicitDefEqProofs [upd_app, argL, envL_app, heapL_app, look, appEff, wkEnv, wkHeap, D.ren, D.ren1, D.idOk, D.idOk1, Blk.ren, Blk.idOk, T_api_Region.d, k22, k25, k28, k31])⟩
        · simp -implicitDefEqProofs only [vt, ↓atI_fold, forall_const, reduceIte, reduceCtorEq, Nat.reduceEqDiff, Nat.reduceAdd, Nat.reduceSub, Nat.reduceMul, Nat.reduceLT, Nat.reduceLeDiff, Nat.reducePow, Int.reduceToNat, Int.reduceLT, Int.reduceLE, Int.reduceAdd, Int.reduceSub, Int.reduceMul, Int.reduceEq, Int.reduceBEq, Int.reduceBNe, Int.reduceNeg, T_api_Region.d, k22, k25, k28]
          subst hK19
          obtain rfl := Option.some.inj h
          exact eb_nil ⟨rfl, Wk.of (fun i => if i = 0 then some 0 else some i) _ _ _ (by simp -implicitDefEqProofs [upd_app, argL, envL_app, heapL_app, look, appEff, wkEnv, wkHeap, D.ren, D.ren1, D.idOk, D.idOk1, Blk.ren, Blk.idOk, T_api_Region.d, k22, k25, k28]) (by simp -implicitDefEqProofs [upd_app, argL, envL_app, heapL_app, look, appEff, wkEnv, wkHeap, D.ren, D.ren1, D.idOk, D.idOk1, Blk.ren, Blk.idOk, T_api_Region.d, k22, k25, k28])⟩
      · simp -implicitDefEqProofs only [vt, ↓atI_fold, forall_const, reduceIte, reduceCtorEq, Nat.reduceEqDiff, Nat.reduceAdd, Nat.reduceSub, Nat.reduceMul, Nat.reduceLT, Nat.reduceLeDiff, Nat.reducePow, Int.reduceToNat, Int.reduceLT, Int.reduceLE, Int.reduceAdd, Int.reduceSub, Int.reduceMul, Int.reduceEq, Int.reduceBEq, Int.reduceBNe, Int.reduceNeg, T_api_Region.d, k22, k25]
        subst hK19
        obtain rfl := Option.some.inj h
        exact eb_nil ⟨rfl, Wk.of (fun i => if i = 0 then some 0 else some i) _ _ _ (by simp -implicitDefEqProofs [upd_app, argL, envL_app, heapL_app, look, appEff, wkEnv, wkHeap, D.ren, D.ren1, D.idOk, D.idOk1, Blk.ren, Blk.idOk, T_api_Region.d, k22, k25]) (by simp -implicitDefEqProofs [upd_app, argL, envL_app, heapL_app, look, appEff, wkEnv, wkHeap, D.ren, D.ren1, D.idOk, D.idOk1, Blk.ren, Blk.idOk, T_api_Region.d, k22, k25])⟩
    · simp -implicitDefEqProofs only [vt, ↓atI_fold, forall_const, reduceIte, reduceCtorEq, Nat.reduceEqDiff, Nat.reduceAdd, Nat.reduceSub, Nat.reduceMul, Nat.reduceLT, Nat.reduceLeDiff, Nat.reducePow, Int.reduceToNat, Int.reduceLT, Int.reduceLE, Int.reduceAdd, Int.reduceSub, Int.reduceMul, Int.reduceEq, Int.reduceBEq, Int.reduceBNe, Int.reduceNeg, T_api_Region.d, k22]
      subst hK19
      obtain rfl := Option.some.inj h
      exact eb_nil ⟨rfl, Wk.of (fun i => if i = 0 then some 0 else some i) _ _ _ (by simp -implicitDefEqProofs [upd_app, argL, envL_app, heapL_app, look, appEff, wkEnv, wkHeap, D.ren, D.ren1, D.idOk, D.idOk1, Blk.ren, Blk.idOk, T_api_Region.d, k22]) (by simp -implicitDefEqProofs [upd_app, argL, envL_app, heapL_app, look, appEff, wkEnv, wkHeap, D.ren, D.ren1, D.idOk, D.idOk1, Blk.ren, Blk.idOk, T_api_Region.d, k22])⟩
  · rcases ite_or h with ⟨k35, h⟩ | ⟨k35, h⟩
    · refine rb_true (congrArg D.bool k35) ?_
      refine rb_seq ?_
      refine rb_regionK fun K37 hK37 => ?_
      simp -implicitDefEqProofs only [vt, ↓atI_fold, forall_const, reduceIte, reduceCtorEq, Nat.reduceEqDiff, Nat.reduceAdd, Nat.reduceSub, Nat.reduceMul, Nat.reduceLT, Nat.reduceLeDiff, Nat.reducePow, Int.reduceToNat, Int.reduceLT, Int.reduceLE, Int.reduceAdd, Int.reduceSub, Int.reduceMul, Int.reduceEq, Int.reduceBEq, Int.reduceBNe, Int.reduceNeg, T_api_Region.d, k35]
      subst hK37
      refine eb_seq ?_
      refine rb_ret ?_
      refine eb_seq_r ?_
      obtain rfl := Option.some.inj h
      refine eb_nil ?_
      simp -implicitDefEqProofs only [vt, ↓atI_fold, forall_const, reduceIte, reduceCtorEq, Nat.reduceEqDiff, Nat.reduceAdd, Nat.reduceSub, Nat.reduceMul, Nat.reduceLT, Nat.reduceLeDiff, Nat.reducePow, Int.reduceToNat, Int.reduceLT, Int.reduceLE, Int.reduceAdd, Int.reduceSub, Int.reduceMul, Int.reduceEq, Int.reduceBEq, Int.reduceBNe, Int.reduceNeg, retQ_r, Tryd.results31, T_api_Region.d, k35] <;> first | rfl | (simp [List.map_append, T_api_Region.d]; done)
    · refine rb_false (congrArg D.bool k35) ?_
      refine rb_skip ?_
      refine eb_seq ?_
      refine rb_seq ?_
      refine rb_regionK fun K42 hK42 => ?_
      simp -implicitDefEqProofs only [vt, ↓atI_fold, forall_const, reduceIte, reduceCtorEq, Nat.reduceEqDiff, Nat.reduceAdd, Nat.reduceSub, Nat.reduceMul, Nat.reduceLT, Nat.reduceLeDiff, Nat.reducePow, Int.reduceToNat, Int.reduceLT, Int.reduceLE, Int.reduceAdd, Int.reduceSub, Int.reduceMul, Int.reduceEq, Int.reduceBEq, Int.reduceBNe, Int.reduceNeg, T_api_Region.d, k35]
      rcases ite_or h with ⟨k43, h⟩ | ⟨k43, h⟩
      · simp -implicitDefEqProofs only [vt, ↓atI_fold, forall_const, reduceIte, reduceCtorEq, Nat.reduceEqDiff, Nat.reduceAdd, Nat.reduceSub, Nat.reduceMul, Nat.reduceLT, Nat.reduceLeDiff, Nat.reducePow, Int.reduceToNat, Int.reduceLT, Int.reduceLE, Int.reduceAdd, Int.reduceSub, Int.reduceMul, Int.reduceEq, Int.reduceBEq, Int.reduceBNe, Int.reduceNeg, T_api_Region.d, k35, k43]
        rcases ite_or h with ⟨k44, h⟩ | ⟨k44, h⟩
        · simp -implicitDefEqProofs only [vt, ↓atI_fold, forall_const, reduceIte, reduceCtorEq, Nat.reduceEqDiff, Nat.reduceAdd, Nat.reduceSub, Nat.reduceMul, Nat.reduceLT, Nat.reduceLeDiff, Nat.reducePow, Int.reduceToNat, Int.reduceLT, Int.reduceLE, Int.reduceAdd, Int.reduceSub, Int.reduceMul, Int.reduceEq, Int.reduceBEq, Int.reduceBNe, Int.reduceNeg, T_api_Region.d, k35, k43, k44]
          rcases ite_or h with ⟨k45, h⟩ | ⟨k45, h⟩
          · simp -implicitDefEqProofs only [vt, ↓atI_fold, forall_const, reduceIte, reduceCtorEq, Nat.reduceEqDiff, Nat.reduceAdd, Nat.reduceSub, Nat.reduceMul, Nat.reduceLT, Nat.reduceLeDiff, Nat.reducePow, Int.reduceToNat, Int.reduceLT, Int.reduceLE, Int.reduceAdd, Int.reduceSub, Int.reduceMul, Int.reduceEq, Int.reduceBEq, Int.reduceBNe, Int.reduceNeg, T_api_Region.d, k35, k43, k44, k45]
            subst hK42
            refine eb_seq ?_
            refine rb_ret ?_
            obtain rfl := Option.some.inj h
            refine eb_nil ?_
            simp -implicitDefEqProofs only [vt, ↓atI_fold, forall_const, reduceIte, reduceCtorEq, Nat.reduceEqDiff, Nat.reduceAdd, Nat.reduceSub, Nat.reduceMul, Nat.reduceLT, Nat.reduceLeDiff, Nat.reducePow, Int.reduceToNat, Int.reduceLT, Int.reduceLE, Int.reduceAdd, Int.reduceSub, Int.reduceMul, Int.reduceEq, Int.reduceBEq, Int.reduceBNe, Int.reduceNeg, retQ_r, Tryd.results31, T_api_Region.d, k35, k43, k44, k45] <;> first | rfl | (simp [List.map_append, T_api_Region.d]; done)
          · simp -implicitDefEqProofs only [vt, ↓atI_fold, forall_const, reduceIte, reduceCtorEq, Nat.reduceEqDiff, Nat.reduceAdd, Nat.reduceSub, Nat.reduceMul, Nat.reduceLT, Nat.reduceLeDiff, Nat.reducePow, Int.reduceToNat, Int.reduceLT, Int.reduceLE, Int.reduceAdd, Int.reduceSub, Int.reduceMul, Int.reduceEq, Int.reduceBEq, Int.reduceBNe, Int.reduceNeg, T_api_Region.d, k35, k43, k44, k45]
            subst hK42
            refine eb_seq ?_
            refine rb_ret ?_
            obtain rfl := Option.some.inj h
            refine eb_nil ?_
            simp -implicitDefEqProofs only [vt, ↓atI_fold, forall_const, reduceIte, reduceCtorEq, Nat.reduceEqDiff, Nat.reduceAdd, Nat.reduceSub, Nat.reduceMul, Nat.reduceLT, Nat.reduceLeDiff, Nat.reducePow, Int.reduceToNat, Int.reduceLT, Int.reduceLE, Int.reduceAdd, Int.reduceSub, Int.reduceMul, Int.reduceEq, Int.reduceBEq, Int.reduceBNe, Int.reduceNeg, retQ_r, Tryd.results31, T_api_Region.d, k35, k43, k44, k45] <;> first | rfl | (simp [List.map_append, T_api_Region.d]; done)
        · simp -implicitDefEqProofs only [vt, ↓atI_fold, forall_const, reduceIte, reduceCtorEq, Nat.reduceEqDiff, Nat.reduceAdd, Nat.reduceSub, Nat.reduceMul, Nat.reduceLT, Nat.reduceLeDiff, Nat.reducePow, Int.reduceToNat, Int.reduceLT, Int.reduceLE, Int.reduceAdd, Int.reduceSub, Int.reduceMul, Int.reduceEq, Int.reduceBEq, Int.reduceBNe, Int.reduceNeg, T_api_Region.d, k35, k43, k44]
          subst hK42
          refine eb_seq ?_
          refine rb_ret ?_
          obtain rfl := Option.some.inj h
          refine eb_nil ?_
          simp -implicitDefEqProofs only [vt, ↓atI_fold, forall_const, reduceIte, reduceCtorEq, Nat.reduceEqDiff, Nat.reduceAdd, Nat.reduceSub, Nat.reduceMul, Nat.reduceLT, Nat.reduceLeDiff, Nat.reducePow, Int.reduceToNat, Int.reduceLT, Int.reduceLE, Int.reduceAdd, Int.reduceSub, Int.reduceMul, Int.reduceEq, Int.reduceBEq, Int.reduceBNe, Int.reduceNeg, retQ_r, Tryd.results31, T_api_Region.d, k35, k43, k44] <;> first | rfl | (simp [List.map_append, T_api_Region.d]; done)
      · simp -implicitDefEqProofs only [vt, ↓atI_fold, forall_const, reduceIte, reduceCtorEq, Nat.reduceEqDiff, Nat.reduceAdd, Nat.reduceSub, Nat.reduceMul, Nat.reduceLT, Nat.reduceLeDiff, Nat.reducePow, Int.reduceToNat, Int.reduceLT, Int.reduceLE, Int.reduceAdd, Int.reduceSub, Int.reduceMul, Int.reduceEq, Int.reduceBEq, Int.reduceBNe, Int.reduceNeg, T_api_Region.d, k35, k43]
        subst hK42
        refine eb_seq ?_
        refine rb_ret ?_
        obtain rfl := Option.some.inj h
        refine eb_nil ?_
        simp -implicitDefEqProofs only [vt, ↓atI_fold, forall_const, reduceIte, reduceCtorEq, Nat.reduceEqDiff, Nat.reduceAdd, Nat.reduceSub, Nat.reduceMul, Nat.reduceLT, Nat.reduceLeDiff, Nat.reducePow, Int.reduceToNat, Int.reduceLT, Int.reduceLE, Int.reduceAdd, Int.reduceSub, Int.reduceMul, Int.reduceEq, Int.reduceBEq, Int.reduceBNe, Int.reduceNeg, retQ_r, Tryd.results31, T_api_Region.d, k35, k43] <;> first | rfl | (simp [List.map_append, T_api_Region.d]; done)
-- region.Find
def g_region_Find_s1 (l_0 : List T_api_Region) (name_1 : List UInt8) (x14 : Int) : Option (Nx (Int) (((List UInt8) × Int × Int × Int × Int × Int × Bool) ⊕ Unit)) :=
  (if (decide (x14 < (l_0.length : Int))) then ((atI l_0 x14).bind fun y89 => (if (y89.Name == name_1) then (some (.out (.inl (y89.Name, y89.Top, y89.Height, y89.Left, y89.Width, y89.Align, y89.Bottom)))) else (some (.go (IntKind.i64.wrap (x14 + 1)))))) else (some (.out (.inr ()))))
def g_region_Find (l_0 : List T_api_Region) (name_1 : List UInt8) : Option (T_api_Region × Bool) :=
  (if (name_1 == ([] : List UInt8)) then ((g_region_Default).bind fun r10 => (some (r10, true))) else ((iter (g_region_Find_s1 l_0 name_1) 0).bind fun e15 => (match e15 with | Sum.inl e15 => (some ((T_api_Region.mk e15.1 e15.2.1 e15.2.2.1 e15.2.2.2.1 e15.2.2.2.2.1 e15.2.2.2.2.2.1 e15.2.2.2.2.2.2), true)) | Sum.inr (e15) => (some ((T_api_Region.mk [] 0 0 0 0 0 false), false)))))
theorem a_region_Find (I : World → Prop) (hI : Stab I) (l_0 : List T_api_Region) (name_1 : List UInt8) {r : T_api_Region × Bool} (h : g_region_Find l_0 name_1 = some r) : AFun Tryd.prog I 38 [.sl (l_0.map T_api_Region.d), .str name_1] (.tup [T_api_Region.d r.1, .bool r.2]) := by
  refine AFun.enterB hI Tryd.func38 rfl (by decide) (by simp [Tryd.f38]) (by kernel_rfl) ?_
  unfold g_region_Find at h
  simp only [S0, Tryd.ntmps38, T_api_Region.d]
  refine rb_seq ?_
  refine rb_regionK fun K2 hK2 => ?_
  simp -implicitDefEqProofs only [vt, ↓atI_fold, forall_const, reduceIte, reduceCtorEq, Nat.reduceEqDiff, Nat.reduceAdd, Nat.reduceSub, Nat.reduceMul, Nat.reduceLT, Nat.reduceLeDiff, Nat.reducePow, Int.reduceToNat, Int.reduceLT, Int.reduceLE, Int.reduceAdd, Int.reduceSub, Int.reduceMul, Int.reduceEq, Int.reduceBEq, Int.reduceBNe, Int.reduceNeg, T_api_Region.d]
  subst hK2
  refine eb_seq ?_
  refine rb_seq ?_
  refine rb_seq ?_
  refine rb_regionK fun K4 hK4 => ?_
  simp -implicitDefEqProofs only [vt, ↓atI_fold, forall_const, reduceIte, reduceCtorEq, Nat.reduceEqDiff, Nat.reduceAdd, Nat.reduceSub, Nat.reduceMul, Nat.reduceLT, Nat.reduceLeDiff, Nat.reducePow, Int.reduceToNat, Int.reduceLT, Int.reduceLE, Int.reduceAdd, Int.reduceSub, Int.reduceMul, Int.reduceEq, Int.reduceBEq, Int.reduceBNe, Int.reduceNeg, T_api_Region.d]
  subst hK4
  refine eb_seq ?_
  rcases ite_or h with ⟨k5, h⟩ | ⟨k5, h⟩
  · refine rb_true (congrArg D.bool k5) ?_
    refine rb_seq ?_
    refine rb_regionK fun K9 hK9 => ?_
    simp -implicitDefEqProofs only [vt, ↓atI_fold, forall_const, reduceIte, reduceCtorEq, Nat.reduceEqDiff, Nat.reduceAdd, Nat.reduceSub, Nat.reduceMul, Nat.reduceLT, Nat.reduceLeDiff, Nat.reducePow, Int.reduceToNat, Int.reduceLT, Int.reduceLE, Int.reduceAdd, Int.reduceSub, Int.reduceMul, Int.reduceEq, Int.reduceBEq, Int.reduceBNe, Int.reduceNeg, T_api_Region.d, k5]
    obtain ⟨r10, h11, h⟩ := bind_some h
    refine cW.intro (a_region_Default I hI h11) (by first | rfl | (simp [List.map_append, T_api_Region.d]; done)) ?_
    simp -implicitDefEqProofs only [vt, ↓atI_fold, forall_const, reduceIte, reduceCtorEq, Nat.reduceEqDiff, Nat.reduceAdd, Nat.reduceSub, Nat.reduceMul, Nat.reduceLT, Nat.reduceLeDiff, Nat.reducePow, Int.reduceToNat, Int.reduceLT, Int.reduceLE, Int.reduceAdd, Int.reduceSub, Int.reduceMul, Int.reduceEq, Int.reduceBEq, Int.reduceBNe, Int.reduceNeg, T_api_Region.d, k5]
    subst hK9
    refine eb_seq ?_
    refine rb_ret ?_
    refine eb_seq_r ?_
    obtain rfl := Option.some.inj h
    refine eb_nil ?_
    simp -implicitDefEqProofs only [vt, ↓atI_fold, forall_const, reduceIte, reduceCtorEq, Nat.reduceEqDiff, Nat.reduceAdd, Nat.reduceSub, Nat.reduceMul, Nat.reduceLT, Nat.reduceLeDiff, Nat.reducePow, Int.reduceToNat, Int.reduceLT, Int.reduceLE, Int.reduceAdd, Int.reduceSub, Int.reduceMul, Int.reduceEq, Int.reduceBEq, Int.reduceBNe, Int.reduceNeg, retQ_r, Tryd.results38, T_api_Region.d, k5] <;> first | rfl | (simp [List.map_append, T_api_Region.d]; done)
  · refine rb_false (congrArg D.bool k5) ?_
    refine rb_skip ?_
    refine eb_seq ?_
    refine rb_seq ?_
    refine rb_seq ?_
    refine rb_regionK fun K13 hK13 => ?_
    simp -implicitDefEqProofs only [vt, ↓atI_fold, forall_const, reduceIte, reduceCtorEq, Nat.reduceEqDiff, Nat.reduceAdd, Nat.reduceSub, Nat.reduceMul, Nat.reduceLT, Nat.reduceLeDiff, Nat.reducePow, Int.reduceToNat, Int.reduceLT, Int.reduceLE, Int.reduceAdd, Int.reduceSub, Int.reduceMul, Int.reduceEq, Int.reduceBEq, Int.reduceBNe, Int.reduceNeg, T_api_Region.d, k5]
    subst hK13
    refine eb_seq ?_
    refine rb_block ?_
    obtain ⟨e15, h97, h⟩ := bind_some h
    refine rb_loop (fun x14 => ⟨envL [(1, .str name_1), (4, .ptr 0 0), (11, .sl (l_0.map T_api_Region.d)), (12, .int .i64 (l_0.length : Int)), (13, .int .i64 x14)], heapL [(0, .box [.str [], .int .i64 0, .int .i64 0, .int .i64 0, .int .i64 0, .int .u8 0, .bool false])], 1, 24⟩) (fun w => match w with | Sum.inl _ => .ret | Sum.inr (_) => .exit 0) (fun w => match w with | Sum.inl e15 => ⟨envL [(4, .ptr 0 0), (5, .bool true)], heapL [(0, .box [.str e15.1, .int .i64 e15.2.1, .int .i64 e15.2.2.1, .int .i64 e15.2.2.2.1, .int .i64 e15.2.2.2.2.1, .int .u8 e15.2.2.2.2.2.1, .bool e15.2.2.2.2.2.2])], 1, 24⟩ | Sum.inr (e15) => ⟨envL [(4, .ptr 0 0)], heapL [(0, .box [.str [], .int .i64 0, .int .i64 0, .int .i64 0, .int .i64 0, .int .u8 0, .bool false])], 1, 24⟩) h97 (Wk.of (fun i => if i = 0 then some 0 else some i) _ _ _ (by simp -implicitDefEqProofs [upd_app, argL, envL_app, heapL_app, look, appEff, wkEnv, wkHeap, D.ren, D.ren1, D.idOk, D.idOk1, Blk.ren, Blk.idOk, T_api_Region.d, k5]) (by simp -implicitDefEqProofs [upd_app, argL, envL_app, heapL_app, look, appEff, wkEnv, wkHeap, D.ren, D.ren1, D.idOk, D.idOk1, Blk.ren, Blk.idOk, T_api_Region.d, k5])) (by intro w; rcases w with w | w <;> simp) ?_ ?_
    · clear h
      intro x14 y h
      unfold g_region_Find_s1 at h
      refine rb_seq ?_
      refine rb_regionK fun K71 hK71 => ?_
      simp -implicitDefEqProofs only [vt, ↓atI_fold, forall_const, reduceIte, reduceCtorEq, Nat.reduceEqDiff, Nat.reduceAdd, Nat.reduceSub, Nat.reduceMul, Nat.reduceLT, Nat.reduceLeDiff, Nat.reducePow, Int.reduceToNat, Int.reduceLT, Int.reduceLE, Int.reduceAdd, Int.reduceSub, Int.reduceMul, Int.reduceEq, Int.reduceBEq, Int.reduceBNe, Int.reduceNeg, T_api_Region.d, k5]
      subst hK71
      refine eb_seq ?_
      refine rb_seq ?_
      rcases ite_or h with ⟨k73, h⟩ | ⟨k73, h⟩
      · refine rb_true (congrArg D.bool k73) ?_
        refine rb_skip ?_
        refine eb_seq ?_
        refine rb_seq ?_
        refine rb_block ?_
        refine rb_seq ?_
        refine rb_regionK fun K88 hK88 => ?_
        simp -implicitDefEqProofs only [vt, ↓atI_fold, forall_const, reduceIte, reduceCtorEq, Nat.reduceEqDiff, Nat.reduceAdd, Nat.reduceSub, Nat.reduceMul, Nat.reduceLT, Nat.reduceLeDiff, Nat.reducePow, Int.reduceToNat, Int.reduceLT, Int.reduceLE, Int.reduceAdd, Int.reduceSub, Int.reduceMul, Int.reduceEq, Int.reduceBEq, Int.reduceBNe, Int.reduceNeg, T_api_Region.d, k5, k73]
        obtain ⟨y89, h90, h⟩ := bind_some h
        simp -implicitDefEqProofs only [vt, ↓atI_fold, forall_const, reduceIte, reduceCtorEq, Nat.reduceEqDiff, Nat.reduceAdd, Nat.reduceSub, Nat.reduceMul, Nat.reduceLT, Nat.reduceLeDiff, Nat.reducePow, Int.reduceToNat, Int.reduceLT, Int.reduceLE, Int.reduceAdd, Int.reduceSub, Int.reduceMul, Int.reduceEq, Int.reduceBEq, Int.reduceBNe, Int.reduceNeg, T_api_Region.d, k5, k73, h90]
        subst hK88
        refine eb_seq ?_
        refine rb_seq ?_
        refine rb_regionK fun K92 hK92 => ?_
        simp -implicitDefEqProofs only [vt, ↓atI_fold, forall_const, reduceIte, reduceCtorEq, Nat.reduceEqDiff, Nat.reduceAdd, Nat.reduceSub, Nat.reduceMul, Nat.reduceLT, Nat.reduceLeDiff, Nat.reducePow, Int.reduceToNat, Int.reduceLT, Int.reduceLE, Int.reduceAdd, Int.reduceSub, Int.reduceMul, Int.reduceEq, Int.reduceBEq, Int.reduceBNe, Int.reduceNeg, T_api_Region.d, k5, k73, h90]
        subst hK92
        refine eb_seq ?_
        rcases ite_or h with ⟨k93, h⟩ | ⟨k93, h⟩
        · refine rb_true (congrArg D.bool k93) ?_
          refine rb_seq ?_
          refine rb_regionK fun K95 hK95 => ?_
          simp -implicitDefEqProofs only [vt, ↓atI_fold, forall_const, reduceIte, reduceCtorEq, Nat.reduceEqDiff, Nat.reduceAdd, Nat.reduceSub, Nat.reduceMul, Nat.reduceLT, Nat.reduceLeDiff, Nat.reducePow, Int.reduceToNat, Int.reduceLT, Int.reduceLE, Int.reduceAdd, Int.reduceSub, Int.reduceMul, Int.reduceEq, Int.reduceBEq, Int.reduceBNe, Int.reduceNeg, T_api_Region.d, k5, k73, h90, k93]
          subst hK95
          refine eb_seq ?_
          refine rb_ret ?_
          refine eb_blk_r ?_
          refine eb_seq_r ?_
          obtain rfl := Option.some.inj h
          exact eb_nil ⟨rfl, Wk.of (fun i => if i = 0 then some 0 else some i) _ _ _ (by simp -implicitDefEqProofs [upd_app, argL, envL_app, heapL_app, look, appEff, wkEnv, wkHeap, D.ren, D.ren1, D.idOk, D.idOk1, Blk.ren, Blk.idOk, T_api_Region.d, k5, k73, k93]) (by simp -implicitDefEqProofs [upd_app, argL, envL_app, heapL_app, look, appEff, wkEnv, wkHeap, D.ren, D.ren1, D.idOk, D.idOk1, Blk.ren, Blk.idOk, T_api_Region.d, k5, k73, k93])⟩
        · refine rb_false (congrArg D.bool k93) ?_
          refine rb_skip ?_
          refine eb_blk_n ?_
          refine eb_seq ?_
          refine rb_regionK fun K96 hK96 => ?_
          simp -implicitDefEqProofs only [vt, ↓atI_fold, forall_const, reduceIte, reduceCtorEq, Nat.reduceEqDiff, Nat.reduceAdd, Nat.reduceSub, Nat.reduceMul, Nat.reduceLT, Nat.reduceLeDiff, Nat.reducePow, Int.reduceToNat, Int.reduceLT, Int.reduceLE, Int.reduceAdd, Int.reduceSub, Int.reduceMul, Int.reduceEq, Int.reduceBEq, Int.reduceBNe, Int.reduceNeg, T_api_Region.d, k5, k73, h90, k93]
          subst hK96
          obtain rfl := Option.some.inj h
          exact eb_nil ⟨rfl, Wk.of (fun i => if i = 0 then some 0 else some i) _ _ _ (by simp -implicitDefEqProofs [upd_app, argL, envL_app, heapL_app, look, appEff, wkEnv, wkHeap, D.ren, D.ren1, D.idOk, D.idOk1, Blk.ren, Blk.idOk, T_api_Region.d, k5, k73, k93]) (by simp -implicitDefEqProofs [upd_app, argL, envL_app, heapL_app, look, appEff, wkEnv, wkHeap, D.ren, D.ren1, D.idOk, D.idOk1, Blk.ren, Blk.idOk, T_api_Region.d, k5, k73, k93])⟩
      · refine rb_false (congrArg D.bool k73) ?_
        refine rb_exit ?_
        refine eb_seq_e ?_
        obtain rfl := Option.some.inj h
        exact eb_nil ⟨rfl, Wk.of (fun i => if i = 0 then some 0 else some i) _ _ _ (by simp -implicitDefEqProofs [upd_app, argL, envL_app, heapL_app, look, appEff, wkEnv, wkHeap, D.ren, D.ren1, D.idOk, D.idOk1, Blk.ren, Blk.idOk, T_api_Region.d, k5, k73]) (by simp -implicitDefEqProofs [upd_app, argL, envL_app, heapL_app, look, appEff, wkEnv, wkHeap, D.ren, D.ren1, D.idOk, D.idOk1, Blk.ren, Blk.idOk, T_api_Region.d, k5, k73])⟩
    · rcases e15 with e15 | e15
      · try dsimp only at h ⊢
        refine eb_blk_r ?_
        refine eb_seq_r ?_
        obtain rfl := Option.some.inj h
        refine eb_nil ?_
        simp -implicitDefEqProofs only [vt, ↓atI_fold, forall_const, reduceIte, reduceCtorEq, Nat.reduceEqDiff, Nat.reduceAdd, Nat.reduceSub, Nat.reduceMul, Nat.reduceLT, Nat.reduceLeDiff, Nat.reducePow, Int.reduceToNat, Int.reduceLT, Int.reduceLE, Int.reduceAdd, Int.reduceSub, Int.reduceMul, Int.reduceEq, Int.reduceBEq, Int.reduceBNe, Int.reduceNeg, retQ_r, Tryd.results38, T_api_Region.d, k5] <;> first | rfl | (simp [List.map_append, T_api_Region.d]; done)
      · try dsimp only at h ⊢
        refine eb_blk_hit ?_
        refine eb_seq ?_
        refine rb_seq ?_
        refine rb_regionK fun K99 hK99 => ?_
        simp -implicitDefEqProofs only [vt, ↓atI_fold, forall_const, reduceIte, reduceCtorEq, Nat.reduceEqDiff, Nat.reduceAdd, Nat.reduceSub, Nat.reduceMul, Nat.reduceLT, Nat.reduceLeDiff, Nat.reducePow, Int.reduceToNat, Int.reduceLT, Int.reduceLE, Int.reduceAdd, Int.reduceSub, Int.reduceMul, Int.reduceEq, Int.reduceBEq, Int.reduceBNe, Int.reduceNeg, T_api_Region.d, k5]
        subst hK99
        refine eb_seq ?_
        refine rb_ret ?_
        obtain rfl := Option.some.inj h
        refine eb_nil ?_
        simp -implicitDefEqProofs only [vt, ↓atI_fold, forall_const, reduceIte, reduceCtorEq, Nat.reduceEqDiff, Nat.reduceAdd, Nat.reduceSub, Nat.reduceMul, Nat.reduceLT, Nat.reduceLeDiff, Nat.reducePow, Int.reduceToNat, Int.reduceLT, Int.reduceLE, Int.reduceAdd, Int.reduceSub, Int.reduceMul, Int.reduceEq, Int.reduceBEq, Int.reduceBNe, Int.reduceNeg, retQ_r, Tryd.results38, T_api_Region.d, k5] <;> first | rfl | (simp [List.map_append, T_api_Region.d]; done)
-- captionerref10.Find
def g_ref10_Find_s1 (l_0 : List T_api_Region) (name_1 : List UInt8) (x14 : Int) : Option (Nx (Int) (((List UInt8) × Int × Int × Int × Int × Int × Bool) ⊕ Unit)) :=
  (if (decide (x14 < (l_0.length : Int))) then ((atI l_0 x14).bind fun y89 => (if (y89.Name == name_1) then (some (.out (.inl (y89.Name, y89.Top, y89.Height, y89.Left, y89.Width, y89.Align, y89.Bottom)))) else (some (.go (IntKind.i64.wrap (x14 + 1)))))) else (some (.out (.inr ()))))
def g_ref10_Find (l_0 : List T_api_Region) (name_1 : List UInt8) : Option (T_api_Region × Bool) :=
  (if (name_1 == ([] : List UInt8)) then ((g_ref10_Default).bind fun r10 => (some (r10, true))) else ((iter (g_ref10_Find_s1 l_0 name_1) 0).bind fun e15 => (match e15 with | Sum.inl e15 => (some ((T_api_Region.mk e15.1 e15.2.1 e15.2.2.1 e15.2.2.2.1 e15.2.2.2.2.1 e15.2.2.2.2.2.1 e15.2.2.2.2.2.2), true)) | Sum.inr (e15) => (some ((T_api_Region.mk [] 0 0 0 0 0 false), false)))))
theorem a_ref10_Find (I : World → Prop) (hI : Stab I) (l_0 : List T_api_Region) (name_1 : List UInt8) {r : T_api_Region × Bool} (h : g_ref10_Find l_0 name_1 = some r) : AFun Tryd.prog I 39 [.sl (l_0.map T_api_Region.d), .str name_1] (.tup [T_api_Region.d r.1, .bool r.2]) := by
  refine AFun.enterB hI Tryd.func39 rfl (by decide) (by simp [Tryd.f39]) (by kernel_rfl) ?_
  unfold g_ref10_Find at h
  simp only [S0, Tryd.ntmps39, T_api_Region.d]
  refine rb_seq ?_
  refine rb_regionK fun K2 hK2 => ?_
  simp -implicitDefEqProofs only [vt, ↓atI_fold, forall_const, reduceIte, reduceCtorEq, Nat.reduceEqDiff, Nat.reduceAdd, Nat.reduceSub, Nat.reduceMul, Nat.reduceLT, Nat.reduceLeDiff, Nat.reducePow, Int.reduceToNat, Int.reduceLT, Int.reduceLE, Int.reduceAdd, Int.reduceSub, Int.reduceMul, Int.reduceEq, Int.reduceBEq, Int.reduceBNe, Int.reduceNeg, T_api_Region.d]
  subst hK2
  refine eb_seq ?_
  refine rb_seq ?_
  refine rb_seq ?_
  refine rb_regionK fun K4 hK4 => ?_
  simp -implicitDefEqProofs only [vt, ↓atI_fold, forall_const, reduceIte, reduceCtorEq, Nat.reduceEqDiff, Nat.reduceAdd, Nat.reduceSub, Nat.reduceMul, Nat.reduceLT, Nat.reduceLeDiff, Nat.reducePow, Int.reduceToNat, Int.reduceLT, Int.reduceLE, Int.reduceAdd, Int.reduceSub, Int.reduceMul, Int.reduceEq, Int.reduceBEq, Int.reduceBNe, Int.reduceNeg, T_api_Region.d]
  subst hK4
  refine eb_seq ?_
  rcases ite_or h with ⟨k5, h⟩ | ⟨k5, h⟩
  · refine rb_true (congrArg D.bool k5) ?_
    refine rb_seq ?_
    refine rb_regionK fun K9 hK9 => ?_
    simp -implicitDefEqProofs only [vt, ↓atI_fold, forall_const, reduceIte, reduceCtorEq, Nat.reduceEqDiff, Nat.reduceAdd, Nat.reduceSub, Nat.reduceMul, Nat.reduceLT, Nat.reduceLeDiff, Nat.reducePow, Int.reduceToNat, Int.reduceLT, Int.reduceLE, Int.reduceAdd, Int.reduceSub, Int.reduceMul, Int.reduceEq, Int.reduceBEq, Int.reduceBNe, Int.reduceNeg, T_api_Region.d, k5]
    obtain ⟨r10, h11, h⟩ := bind_some h
    refine cW.intro (a_ref10_Default I hI h11) (by first | rfl | (simp [List.map_append, T_api_Region.d]; done)) ?_
    simp -implicitDefEqProofs only [vt, ↓atI_fold, forall_const, reduceIte, reduceCtorEq, Nat.reduceEqDiff, Nat.reduceAdd, Nat.reduceSub, Nat.reduceMul, Nat.reduceLT, Nat.reduceLeDiff, Nat.reducePow, Int.reduceToNat, Int.reduceLT, Int.reduceLE, Int.reduceAdd, Int.reduceSub, Int.reduceMul, Int.reduceEq, Int.reduceBEq, Int.reduceBNe, Int.reduceNeg, T_api_Region.d, k5]
    subst hK9
    refine eb_seq ?_
    refine rb_ret ?_
    refine eb_seq_r ?_
    obtain rfl := Option.some.inj h
    refine eb_nil ?_
    simp -implicitDefEqProofs only [vt, ↓atI_fold, forall_const, reduceIte, reduceCtorEq, Nat.reduceEqDiff, Nat.reduceAdd, Nat.reduceSub, Nat.reduceMul, Nat.reduceLT, Nat.reduceLeDiff, Nat.reducePow, Int.reduceToNat, Int.reduceLT, Int.reduceLE, Int.reduceAdd, Int.reduceSub, Int.reduceMul, Int.reduceEq, Int.reduceBEq, Int.reduceBNe, Int.reduceNeg, retQ_r, Tryd.results39, T_api_Region.d, k5] <;> first | rfl | (simp [List.map_append, T_api_Region.d]; done)
  · refine rb_false (congrArg D.bool k5) ?_
    refine rb_skip ?_
    refine eb_seq ?_
    refine rb_seq ?_
    refine rb_seq ?_
    refine rb_regionK fun K13 hK13 => ?_
    simp -implicitDefEqProofs only [vt, ↓atI_fold, forall_const, reduceIte, reduceCtorEq, Nat.reduceEqDiff, Nat.reduceAdd, Nat.reduceSub, Nat.reduceMul, Nat.reduceLT, Nat.reduceLeDiff, Nat.reducePow, Int.reduceToNat, Int.reduceLT, Int.reduceLE, Int.reduceAdd, Int.reduceSub, Int.reduceMul, Int.reduceEq, Int.reduceBEq, Int.reduceBNe, Int.reduceNeg, T_api_Region.d, k5]
    subst hK13
    refine eb_seq ?_
    refine rb_block ?_
    obtain ⟨e15, h97, h⟩ := bind_some h
    refine rb_loop (fun x14 => ⟨envL [(1, .str name_1), (4, .ptr 0 0), (11, .sl (l_0.map T_api_Region.d)), (12, .int .i64 (l_0.length : Int)), (13, .int .i64 x14)], heapL [(0, .box [.str [], .int .i64 0, .int .i64 0, .int .i64 0, .int .i64 0, .int .u8 0, .bool false])], 1, 24⟩) (fun w => match w with | Sum.inl _ => .ret | Sum.inr (_) => .exit 0) (fun w => match w with | Sum.inl e15 => ⟨envL [(4, .ptr 0 0), (5, .bool true)], heapL [(0, .box [.str e15.1, .int .i64 e15.2.1, .int .i64 e15.2.2.1, .int .i64 e15.2.2.2.1, .int .i64 e15.2.2.2.2.1, .int .u8 e15.2.2.2.2.2.1, .bool e15.2.2.2.2.2.2])], 1, 24⟩ | Sum.inr (e15) => ⟨envL [(4, .ptr 0 0)], heapL [(0, .box [.str [], .int .i64 0, .int .i64 0, .int .i64 0, .int .i64 0, .int .u8 0, .bool false])], 1, 24⟩) h97 (Wk.of (fun i => if i = 0 then some 0 else some i) _ _ _ (by simp -implicitDefEqProofs [upd_app, argL, envL_app, heapL_app, look, appEff, wkEnv, wkHeap, D.ren, D.ren1, D.idOk, D.idOk1, Blk.ren, Blk.idOk, T_api_Region.d, k5]) (by simp -implicitDefEqProofs [upd_app, argL, envL_app, heapL_app, look, appEff, wkEnv, wkHeap, D.ren, D.ren1, D.idOk, D.idOk1, Blk.ren, Blk.idOk, T_api_Region.d, k5])) (by intro w; rcases w with w | w <;> simp) ?_ ?_
    · clear h
      intro x14 y h
      unfold g_ref10_Find_s1 at h
      refine rb_seq ?_
      refine rb_regionK fun K71 hK71 => ?_
      simp -implicitDefEqProofs only [vt, ↓atI_fold, forall_const, reduceIte, reduceCtorEq, Nat.reduceEqDiff, Nat.reduceAdd, Nat.reduceSub, Nat.reduceMul, Nat.reduceLT, Nat.reduceLeDiff, Nat.reducePow, Int.reduceToNat, Int.reduceLT, Int.reduceLE, Int.reduceAdd, Int.reduceSub, Int.reduceMul, Int.reduceEq, Int.reduceBEq, Int.reduceBNe, Int.reduceNeg, T_api_Region.d, k5]
      subst hK71
      refine eb_seq ?_
      refine rb_seq ?_
      rcases ite_or h with ⟨k73, h⟩ | ⟨k73, h⟩
      · refine rb_true (congrArg D.bool k73) ?_
        refine rb_skip ?_
        refine eb_seq ?_
        refine rb_seq ?_
        refine rb_block ?_
        refine rb_seq ?_
        refine rb_regionK fun K88 hK88 => ?_
        simp -implicitDefEqProofs only [vt, ↓atI_fold, forall_const, reduceIte, reduceCtorEq, Nat.reduceEqDiff, Nat.reduceAdd, Nat.reduceSub, Nat.reduceMul, Nat.reduceLT, Nat.reduceLeDiff, Nat.reducePow, Int.reduceToNat, Int.reduceLT, Int.reduceLE, Int.reduceAdd, Int.reduceSub, Int.reduceMul, Int.reduceEq, Int.reduceBEq, Int.reduceBNe, Int.reduceNeg, T_api_Region.d, k5, k73]
        obtain ⟨y89, h90, h⟩ := bind_some h
        simp -implicitDefEqProofs only [vt, ↓atI_fold, forall_const, reduceIte, reduceCtorEq, Nat.reduceEqDiff, Nat.reduceAdd, Nat.reduceSub, Nat.reduceMul, Nat.reduceLT, Nat.reduceLeDiff, Nat.reducePow, Int.reduceToNat, Int.reduceLT, Int.reduceLE, Int.reduceAdd, Int.reduceSub, Int.reduceMul, Int.reduceEq, Int.reduceBEq, Int.reduceBNe, Int.reduceNeg, T_api_Region.d, k5, k73, h90]
        subst hK88
        refine eb_seq ?_
        refine rb_seq ?_
        refine rb_regionK fun K92 hK92 => ?_
        simp -implicitDefEqProofs only [vt, ↓atI_fold, forall_const, reduceIte, reduceCtorEq, Nat.reduceEqDiff, Nat.reduceAdd, Nat.reduceSub, Nat.reduceMul, Nat.reduceLT, Nat.reduceLeDiff, Nat.reducePow, Int.reduceToNat, Int.reduceLT, Int.reduceLE, Int.reduceAdd, Int.reduceSub, Int.reduceMul, Int.reduceEq, Int.reduceBEq, Int.reduceBNe, Int.reduceNeg, T_api_Region.d, k5, k73, h90]
        subst hK92
        refine eb_seq ?_
        rcases ite_or h with ⟨k93, h⟩ | ⟨k93, h⟩
        · refine rb_true (congrArg D.bool k93) ?_
          refine rb_seq ?_
          refine rb_regionK fun K95 hK95 => ?_
          simp -implicitDefEqProofs only [vt, ↓atI_fold, forall_const, reduceIte, reduceCtorEq, Nat.reduceEqDiff, Nat.reduceAdd, Nat.reduceSub, Nat.reduceMul, Nat.reduceLT, Nat.reduceLeDiff, Nat.reducePow, Int.reduceToNat, Int.reduceLT, Int.reduceLE, Int.reduceAdd, Int.reduceSub, Int.reduceMul, Int.reduceEq, Int.reduceBEq, Int.reduceBNe, Int.reduceNeg, T_api_Region.d, k5, k73, h90, k93]
          subst hK95
          refine eb_seq ?_
          refine rb_ret ?_
          refine eb_blk_r ?_
          refine eb_seq_r ?_
          obtain rfl := Option.some.inj h
          exact eb_nil ⟨rfl, Wk.of (fun i => if i = 0 then some 0 else some i) _ _ _ (by simp -implicitDefEqProofs [upd_app, argL, envL_app, heapL_app, look, appEff, wkEnv, wkHeap, D.ren, D.ren1, D.idOk, D.idOk1, Blk.ren, Blk.idOk, T_api_Region.d, k5, k73, k93]) (by simp -implicitDefEqProofs [upd_app, argL, envL_app, heapL_app, look, appEff, wkEnv, wkHeap, D.ren, D.ren1, D.idOk, D.idOk1, Blk.ren, Blk.idOk, T_api_Region.d, k5, k73, k93])⟩
        · refine rb_false (congrArg D.bool k93) ?_
          refine rb_skip ?_
          refine eb_blk_n ?_
          refine eb_seq ?_
          refine rb_regionK fun K96 hK96 => ?_
          simp -implicitDefEqProofs only [vt, ↓atI_fold, forall_const, reduceIte, reduceCtorEq, Nat.reduceEqDiff, Nat.reduceAdd, Nat.reduceSub, Nat.reduceMul, Nat.reduceLT, Nat.reduceLeDiff, Nat.reducePow, Int.reduceToNat, Int.reduceLT, Int.reduceLE, Int.reduceAdd, Int.reduceSub, Int.reduceMul, Int.reduceEq, Int.reduceBEq, Int.reduceBNe, Int.reduceNeg, T_api_Region.d, k5, k73, h90, k93]
          subst hK96
          obtain rfl := Option.some.inj h
          exact eb_nil ⟨rfl, Wk.of (fun i => if i = 0 then some 0 else some i) _ _ _ (by simp -implicitDefEqProofs [upd_app, argL, envL_app, heapL_app, look, appEff, wkEnv, wkHeap, D.ren, D.ren1, D.idOk, D.idOk1, Blk.ren, Blk.idOk, T_api_Region.d, k5, k73, k93]) (by simp -implicitDefEqProofs [upd_app, argL, envL_app, heapL_app, look, appEff, wkEnv, wkHeap, D.ren, D.ren1, D.idOk, D.idOk1, Blk.ren, Blk.idOk, T_api_Region.d, k5, k73, k93])⟩
      · refine rb_false (congrArg D.bool k73) ?_
        refine rb_exit ?_
        refine eb_seq_e ?_
        obtain rfl := Option.some.inj h
        exact eb_nil ⟨rfl, Wk.of (fun i => if i = 0 then some 0 else some i) _ _ _ (by simp -implicitDefEqProofs [upd_app, argL, envL_app, heapL_app, look, appEff, wkEnv, wkHeap, D.ren, D.ren1, D.idOk, D.idOk1, Blk.ren, Blk.idOk, T_api_Region.d, k5, k73]) (by simp -implicitDefEqProofs [upd_app, argL, envL_app, heapL_app, look, appEff, wkEnv, wkHeap, D.ren, D.ren1, D.idOk, D.idOk1, Blk.ren, Blk.idOk, T_api_Region.d, k5, k73])⟩
    · rcases e15 with e15 | e15
      · try dsimp only at h ⊢
        refine eb_blk_r ?_
        refine eb_seq_r ?_
        obtain rfl := Option.some.inj h
        refine eb_nil ?_
        simp -implicitDefEqProofs only [vt, ↓atI_fold, forall_const, reduceIte, reduceCtorEq, Nat.reduceEqDiff, Nat.reduceAdd, Nat.reduceSub, Nat.reduceMul, Nat.reduceLT, Nat.reduceLeDiff, Nat.reducePow, Int.reduceToNat, Int.reduceLT, Int.reduceLE, Int.reduceAdd, Int.reduceSub, Int.reduceMul, Int.reduceEq, Int.reduceBEq, Int.reduceBNe, Int.reduceNeg, retQ_r, Tryd.results39, T_api_Region.d, k5] <;> first | rfl | (simp [List.map_append, T_api_Region.d]; done)
      · try dsimp only at h ⊢
        refine eb_blk_hit ?_
        refine eb_seq ?_
        refine rb_seq ?_
        refine rb_regionK fun K99 hK99 => ?_
        simp -implicitDefEqProofs only [vt, ↓atI_fold, forall_const, reduceIte, reduceCtorEq, Nat.reduceEqDiff, Nat.reduceAdd, Nat.reduceSub, Nat.reduceMul, Nat.reduceLT, Nat.reduceLeDiff, Nat.reducePow, Int.reduceToNat, Int.reduceLT, Int.reduceLE, Int.reduceAdd, Int.reduceSub, Int.reduceMul, Int.reduceEq, Int.reduceBEq, Int.reduceBNe, Int.reduceNeg, T_api_Region.d, k5]
        subst hK99
        refine eb_seq ?_
        refine rb_ret ?_
        obtain rfl := Option.some.inj h
        refine eb_nil ?_
        simp -implicitDefEqProofs only [vt, ↓atI_fold, forall_const, reduceIte, reduceCtorEq, Nat.reduceEqDiff, Nat.reduceAdd, Nat.reduceSub, Nat.reduceMul, Nat.reduceLT, Nat.reduceLeDiff, Nat.reducePow, Int.reduceToNat, Int.reduceLT, Int.reduceLE, Int.reduceAdd, Int.reduceSub, Int.reduceMul, Int.reduceEq, Int.reduceBEq, Int.reduceBNe, Int.reduceNeg, retQ_r, Tryd.results39, T_api_Region.d, k5] <;> first | rfl | (simp [List.map_append, T_api_Region.d]; done)
end Go.Proofs.YtncmdhkmbmkiiaaDoor
