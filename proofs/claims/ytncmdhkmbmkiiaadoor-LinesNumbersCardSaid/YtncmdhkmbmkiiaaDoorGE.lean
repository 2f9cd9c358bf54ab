/- What some functions compute, read off their texts by a program of mine (gen.py): definitions, and contracts (the text computes it). No condition but that the definition answers. -/
import Derived.Test.YtncmdhkmbmkiiaaDoorGD
namespace Go.Proofs.YtncmdhkmbmkiiaaDoor
open Go.RowKit
set_option maxRecDepth 100000
set_option linter.unusedVariables false
set_option linter.unusedSimpArgs false
set_option maxHeartbeats 10000000
structure T_api_Diag where
  Line : Int
  Column : Int
  Code : Int
  deriving DecidableEq
def T_api_Diag.d (x : T_api_Diag) : D := .agg [.int .i64 x.Line, .int .i64 x.Column, .int .i64 x.Code]
structure T_api_Line where
  Number : Int
  Fields : List T_api_Field
  deriving DecidableEq
def T_api_Line.d (x : T_api_Line) : D := .agg [.int .i64 x.Number, .sl (x.Fields.map T_api_Field.d)]
theorem dd_GE : (∀ x, T_api_Diag.d x = .agg [.int .i64 x.Line, .int .i64 x.Column, .int .i64 x.Code]) ∧ (∀ x, T_api_Field.d x = .agg [.str x.Text, .int .i64 x.Column, .bool x.Quoted]) ∧ (∀ x, T_api_Line.d x = .agg [.int .i64 x.Number, .sl (x.Fields.map T_api_Field.d)]) := ⟨fun _ => rfl, fun _ => rfl, fun _ => rfl⟩
-- lines.Split
def g_lines_Split_s1 (r16 : (List (List UInt8))) (x18 : (List T_api_Line) × (List T_api_Diag) × Int) : Option (Nx ((List T_api_Line) × (List T_api_Diag) × Int) ((List T_api_Line) × (List T_api_Diag))) :=
  (if (decide (x18.2.2 < (r16.length : Int))) then ((((atI r16 x18.2.2).bind fun y343 => (if (decide (1000 < (y343.length : Int))) then (if (decide (((x18.2.1.length : Nat) : Int) < 50)) then (if (x18.2.1.length + 1) * 24 ≤ 140737488355328 then (some (x18.1, (x18.2.1 ++ [(T_api_Diag.mk (IntKind.i64.wrap (x18.2.2 + 1)) 1001 9)]))) else none) else (some (x18.1, x18.2.1))) else ((g_lines_fields y343).bind fun r365 => (if (decide (0 < r365.2)) then (if (decide (((x18.2.1.length : Nat) : Int) < 50)) then (if (x18.2.1.length + 1) * 24 ≤ 140737488355328 then (some (x18.1, (x18.2.1 ++ [(T_api_Diag.mk (IntKind.i64.wrap (x18.2.2 + 1)) r365.2 4)]))) else none) else (some (x18.1, x18.2.1))) else (if (decide (0 < (r365.1.length : Int))) then (if (x18.1.length + 1) * 32 ≤ 140737488355328 then (some ((x18.1 ++ [(T_api_Line.mk (IntKind.i64.wrap (x18.2.2 + 1)) r365.1)]), x18.2.1)) else none) else (some (x18.1, x18.2.1))))))) : Option ((List T_api_Line) × (List T_api_Diag))).bind fun v338 => (some (.go (v338.1, v338.2, (IntKind.i64.wrap (x18.2.2 + 1)))))) else (some (.out (x18.1, x18.2.1))))
def g_lines_Split (src_0 : List UInt8) : Option ((List T_api_Line) × (List T_api_Diag)) :=
  (if (decide (262144 < (src_0.length : Int))) then (some ([], [(T_api_Diag.mk 1 1 9)])) else ((g_strings_Split src_0 [10]).bind fun r16 => ((iter (g_lines_Split_s1 r16) ([], [], 0)).bind fun e19 => (some (e19.1, e19.2)))))
theorem a_lines_Split (I : World → Prop) (hI : Stab I) (hShp : ∀ w, I w → Shp w) (src_0 : List UInt8) {r : (List T_api_Line) × (List T_api_Diag)} (h : g_lines_Split src_0 = some r) : AFun Tryd.prog I 41 [.str src_0] (.tup [.sl (r.1.map T_api_Line.d), .sl (r.2.map T_api_Diag.d)]) := by
  refine AFun.enterB hI Tryd.func41 rfl (by decide) (by simp [Tryd.f41]) (by kernel_rfl) ?_
  unfold g_lines_Split at h
  simp only [S0, Tryd.ntmps41, dd_GE]
  refine rb_seq ?_
  refine rb_regionK fun K2 hK2 => ?_
  simp -implicitDefEqProofs only [vt, ↓atI_fold, forall_const, implies_true, sevalprocAttr, dd_GE]
  subst hK2
  refine eb_seq ?_
  refine rb_seq ?_
  refine rb_seq ?_
  refine rb_regionK fun K4 hK4 => ?_
  simp -implicitDefEqProofs only [vt, ↓atI_fold, forall_const, implies_true, sevalprocAttr, dd_GE]
  subst hK4
  refine eb_seq ?_
  rcases ite_or h with ⟨k5, h⟩ | ⟨k5, h⟩
  · refine rb_true (by first | exact congrArg D.bool k5 | rfl) ?_
    refine rb_seq ?_
    refine rb_regionK fun K7 hK7 => ?_
    simp -implicitDefEqProofs only [vt, ↓atI_fold, forall_const, implies_true, sevalprocAttr, dd_GE, k5]
    subst hK7
    refine eb_seq ?_
    refine rb_ret ?_
    refine eb_seq_r ?_
    obtain rfl := Option.some.inj h
    refine eb_nil ?_
    simp -implicitDefEqProofs only [vt, ↓atI_fold, forall_const, implies_true, sevalprocAttr, retQ_r, Tryd.results41, dd_GE, k5] <;> first | rfl | (simp [List.map_append, dd_GE]; done)
  · refine rb_false (by first | exact congrArg D.bool k5 | rfl) ?_
    refine rb_skip ?_
    refine eb_seq ?_
    refine rb_seq ?_
    refine rb_regionK fun K9 hK9 => ?_
    simp -implicitDefEqProofs only [vt, ↓atI_fold, forall_const, implies_true, sevalprocAttr, dd_GE, k5]
    subst hK9
    refine eb_seq ?_
    refine rb_seq ?_
    refine rb_regionK fun K11 hK11 => ?_
    simp -implicitDefEqProofs only [vt, ↓atI_fold, forall_const, implies_true, sevalprocAttr, dd_GE, k5]
    subst hK11
    refine eb_seq ?_
    refine rb_seq ?_
    refine rb_seq ?_
    refine rb_regionK fun K15 hK15 => ?_
    simp -implicitDefEqProofs only [vt, ↓atI_fold, forall_const, implies_true, sevalprocAttr, dd_GE, k5]
    obtain ⟨r16, h17, h⟩ := bind_some h
    refine cW.intro (a_strings_Split I hI hShp src_0 [10] h17) (by first | rfl | (simp [List.map_append, dd_GE]; done)) ?_
    simp -implicitDefEqProofs only [vt, ↓atI_fold, forall_const, implies_true, sevalprocAttr, dd_GE, k5]
    subst hK15
    refine eb_seq ?_
    refine rb_block ?_
    obtain ⟨e19, h389, h⟩ := bind_some h
    refine rb_loop (fun x18 => ⟨envL [(4, .own 0 x18.1.length), (5, .own 1 x18.2.1.length), (16, .sl (r16.map D.str)), (17, .int .i64 (r16.length : Int)), (18, .int .i64 x18.2.2)], heapL [(0, .vec 81 2 (x18.1.map T_api_Line.d) false), (1, .vec 76 3 (x18.2.1.map T_api_Diag.d) false)], 2, 66⟩) (fun _ => .exit 0) (fun e19 => ⟨envL [(4, .own 0 e19.1.length), (5, .own 1 e19.2.length)], heapL [(0, .vec 81 2 (e19.1.map T_api_Line.d) false), (1, .vec 76 3 (e19.2.map T_api_Diag.d) false)], 2, 66⟩) h389 (Wk.of (fun i => if i = 1 then none else if i = 0 then none else some i) _ _ _ (by simp -implicitDefEqProofs [kv, dd_GE, k5]) (by simp -implicitDefEqProofs [kv, dd_GE, k5])) (by intro w; simp) ?_ ?_
    · clear h
      intro x18 y h
      unfold g_lines_Split_s1 at h
      refine rb_seq ?_
      refine rb_regionK fun K287 hK287 => ?_
      simp -implicitDefEqProofs only [vt, ↓atI_fold, forall_const, implies_true, sevalprocAttr, dd_GE, k5]
      subst hK287
      refine eb_seq ?_
      refine rb_seq ?_
      rcases ite_or h with ⟨k289, h⟩ | ⟨k289, h⟩
      · refine rb_true (by first | exact congrArg D.bool k289 | rfl) ?_
        refine rb_skip ?_
        refine eb_seq ?_
        obtain ⟨v338, h387, h⟩ := bind_some h
        refine rb_cut (fun v338 => ⟨envL [(4, .own 0 v338.1.length), (5, .own 1 v338.2.length), (16, .sl (r16.map D.str)), (17, .int .i64 (r16.length : Int)), (18, .int .i64 x18.2.2)], heapL [(0, .vec 81 2 (v338.1.map T_api_Line.d) false), (1, .vec 76 3 (v338.2.map T_api_Diag.d) false)], 2, 66⟩) h387 ?_ ?_
        · clear h
          intro v338 h
          refine rb_block ?_
          refine rb_seq ?_
          refine rb_regionK fun K342 hK342 => ?_
          simp -implicitDefEqProofs only [vt, ↓atI_fold, forall_const, implies_true, sevalprocAttr, dd_GE, k5, k289]
          obtain ⟨y343, h344, h⟩ := bind_some h
          simp -implicitDefEqProofs only [vt, ↓atI_fold, forall_const, implies_true, sevalprocAttr, dd_GE, k5, k289, h344]
          subst hK342
          refine eb_seq ?_
          refine rb_seq ?_
          refine rb_regionK fun K346 hK346 => ?_
          simp -implicitDefEqProofs only [vt, ↓atI_fold, forall_const, implies_true, sevalprocAttr, dd_GE, k5, k289, h344]
          subst hK346
          refine eb_seq ?_
          refine rb_seq ?_
          refine rb_regionK fun K348 hK348 => ?_
          simp -implicitDefEqProofs only [vt, ↓atI_fold, forall_const, implies_true, sevalprocAttr, dd_GE, k5, k289, h344]
          subst hK348
          refine eb_seq ?_
          refine rb_seq ?_
          refine rb_seq ?_
          refine rb_regionK fun K350 hK350 => ?_
          simp -implicitDefEqProofs only [vt, ↓atI_fold, forall_const, implies_true, sevalprocAttr, dd_GE, k5, k289, h344]
          subst hK350
          refine eb_seq ?_
          rcases ite_or h with ⟨k351, h⟩ | ⟨k351, h⟩
          · refine rb_true (by first | exact congrArg D.bool k351 | rfl) ?_
            refine rb_regionK fun K352 hK352 => ?_
            simp -implicitDefEqProofs only [vt, ↓atI_fold, forall_const, implies_true, sevalprocAttr, dd_GE, k5, k289, h344, k351]
            subst hK352
            refine eb_seq ?_
            refine rb_block ?_
            refine rb_seq ?_
            refine rb_regionK fun K354 hK354 => ?_
            simp -implicitDefEqProofs only [vt, ↓atI_fold, forall_const, implies_true, sevalprocAttr, dd_GE, k5, k289, h344, k351]
            subst hK354
            refine eb_seq ?_
            refine rb_true (rfl) ?_
            refine rb_seq ?_
            refine rb_regionK fun K356 hK356 => ?_
            simp -implicitDefEqProofs only [vt, ↓atI_fold, forall_const, implies_true, sevalprocAttr, dd_GE, k5, k289, h344, k351]
            subst hK356
            refine eb_seq ?_
            rcases ite_or h with ⟨k357, h⟩ | ⟨k357, h⟩
            · refine rb_true (by first | exact congrArg D.bool k357 | rfl) ?_
              refine rb_regionK fun K358 hK358 => ?_
              simp -implicitDefEqProofs only [vt, ↓atI_fold, forall_const, implies_true, sevalprocAttr, dd_GE, k5, k289, h344, k351, k357]
              obtain ⟨h359, h⟩ := ite_on h
              have h360 : x18.2.1.length + 1 ≤ 9223372036854775807 := by omega
              try simp only [Nat.reduceLeDiff] at h360
              simp -implicitDefEqProofs only [vt, ↓atI_fold, forall_const, implies_true, sevalprocAttr, dd_GE, k5, k289, h344, k351, k357, h360, h359]
              subst hK358
              refine eb_blk_n ?_
              refine eb_blk_n ?_
              obtain rfl := Option.some.inj h
              exact eb_nil ⟨rfl, Wk.of (fun i => if i = 1 then some 31 else if i = 0 then some 0 else some i) _ _ _ (by simp -implicitDefEqProofs [kv, dd_GE, k5, k289, k351, k357]) (by simp -implicitDefEqProofs [kv, dd_GE, k5, k289, k351, k357])⟩
            · refine rb_false (by first | exact congrArg D.bool k357 | rfl) ?_
              refine rb_skip ?_
              refine eb_blk_n ?_
              refine eb_blk_n ?_
              obtain rfl := Option.some.inj h
              exact eb_nil ⟨rfl, Wk.of (fun i => if i = 1 then some 1 else if i = 0 then some 0 else some i) _ _ _ (by simp -implicitDefEqProofs [kv, dd_GE, k5, k289, k351, k357]) (by simp -implicitDefEqProofs [kv, dd_GE, k5, k289, k351, k357])⟩
          · refine rb_false (by first | exact congrArg D.bool k351 | rfl) ?_
            refine rb_seq ?_
            refine rb_regionK fun K364 hK364 => ?_
            simp -implicitDefEqProofs only [vt, ↓atI_fold, forall_const, implies_true, sevalprocAttr, dd_GE, k5, k289, h344, k351]
            obtain ⟨r365, h366, h⟩ := bind_some h
            refine cW.intro (a_lines_fields I hI y343 h366) (by first | rfl | (simp [List.map_append, dd_GE]; done)) ?_
            simp -implicitDefEqProofs only [vt, ↓atI_fold, forall_const, implies_true, sevalprocAttr, dd_GE, k5, k289, h344, k351]
            subst hK364
            refine eb_seq ?_
            refine rb_seq ?_
            refine rb_regionK fun K368 hK368 => ?_
            simp -implicitDefEqProofs only [vt, ↓atI_fold, forall_const, implies_true, sevalprocAttr, dd_GE, k5, k289, h344, k351]
            subst hK368
            refine eb_seq ?_
            rcases ite_or h with ⟨k369, h⟩ | ⟨k369, h⟩
            · refine rb_true (by first | exact congrArg D.bool k369 | rfl) ?_
              refine rb_regionK fun K370 hK370 => ?_
              simp -implicitDefEqProofs only [vt, ↓atI_fold, forall_const, implies_true, sevalprocAttr, dd_GE, k5, k289, h344, k351, k369]
              subst hK370
              refine eb_seq ?_
              refine rb_block ?_
              refine rb_seq ?_
              refine rb_regionK fun K372 hK372 => ?_
              simp -implicitDefEqProofs only [vt, ↓atI_fold, forall_const, implies_true, sevalprocAttr, dd_GE, k5, k289, h344, k351, k369]
              subst hK372
              refine eb_seq ?_
              refine rb_true (by first | exact congrArg D.bool k369 | rfl) ?_
              refine rb_seq ?_
              refine rb_regionK fun K374 hK374 => ?_
              simp -implicitDefEqProofs only [vt, ↓atI_fold, forall_const, implies_true, sevalprocAttr, dd_GE, k5, k289, h344, k351, k369]
              subst hK374
              refine eb_seq ?_
              rcases ite_or h with ⟨k375, h⟩ | ⟨k375, h⟩
              · refine rb_true (by first | exact congrArg D.bool k375 | rfl) ?_
                refine rb_regionK fun K376 hK376 => ?_
                simp -implicitDefEqProofs only [vt, ↓atI_fold, forall_const, implies_true, sevalprocAttr, dd_GE, k5, k289, h344, k351, k369, k375]
                obtain ⟨h377, h⟩ := ite_on h
                have h378 : x18.2.1.length + 1 ≤ 9223372036854775807 := by omega
                try simp only [Nat.reduceLeDiff] at h378
                simp -implicitDefEqProofs only [vt, ↓atI_fold, forall_const, implies_true, sevalprocAttr, dd_GE, k5, k289, h344, k351, k369, k375, h378, h377]
                subst hK376
                refine eb_blk_n ?_
                refine eb_blk_n ?_
                obtain rfl := Option.some.inj h
                exact eb_nil ⟨rfl, Wk.of (fun i => if i = 1 then some 40 else if i = 0 then some 0 else some i) _ _ _ (by simp -implicitDefEqProofs [kv, dd_GE, k5, k289, k351, k369, k375]) (by simp -implicitDefEqProofs [kv, dd_GE, k5, k289, k351, k369, k375])⟩
              · refine rb_false (by first | exact congrArg D.bool k375 | rfl) ?_
                refine rb_skip ?_
                refine eb_blk_n ?_
                refine eb_blk_n ?_
                obtain rfl := Option.some.inj h
                exact eb_nil ⟨rfl, Wk.of (fun i => if i = 1 then some 1 else if i = 0 then some 0 else some i) _ _ _ (by simp -implicitDefEqProofs [kv, dd_GE, k5, k289, k351, k369, k375]) (by simp -implicitDefEqProofs [kv, dd_GE, k5, k289, k351, k369, k375])⟩
            · refine rb_false (by first | exact congrArg D.bool k369 | rfl) ?_
              refine rb_skip ?_
              refine eb_seq ?_
              refine rb_block ?_
              refine rb_seq ?_
              refine rb_regionK fun K380 hK380 => ?_
              simp -implicitDefEqProofs only [vt, ↓atI_fold, forall_const, implies_true, sevalprocAttr, dd_GE, k5, k289, h344, k351, k369]
              subst hK380
              refine eb_seq ?_
              refine rb_false (by first | exact congrArg D.bool k369 | rfl) ?_
              refine rb_seq ?_
              refine rb_regionK fun K382 hK382 => ?_
              simp -implicitDefEqProofs only [vt, ↓atI_fold, forall_const, implies_true, sevalprocAttr, dd_GE, k5, k289, h344, k351, k369]
              subst hK382
              refine eb_seq ?_
              rcases ite_or h with ⟨k383, h⟩ | ⟨k383, h⟩
              · refine rb_true (by first | exact congrArg D.bool k383 | rfl) ?_
                refine rb_regionK fun K384 hK384 => ?_
                simp -implicitDefEqProofs only [vt, ↓atI_fold, forall_const, implies_true, sevalprocAttr, dd_GE, k5, k289, h344, k351, k369, k383]
                obtain ⟨h385, h⟩ := ite_on h
                have h386 : x18.1.length + 1 ≤ 9223372036854775807 := by omega
                try simp only [Nat.reduceLeDiff] at h386
                simp -implicitDefEqProofs only [vt, ↓atI_fold, forall_const, implies_true, sevalprocAttr, dd_GE, k5, k289, h344, k351, k369, k383, h386, h385]
                subst hK384
                refine eb_blk_n ?_
                refine eb_blk_n ?_
                obtain rfl := Option.some.inj h
                exact eb_nil ⟨rfl, Wk.of (fun i => if i = 1 then some 1 else if i = 0 then some 42 else some i) _ _ _ (by simp -implicitDefEqProofs [kv, dd_GE, k5, k289, k351, k369, k383]) (by simp -implicitDefEqProofs [kv, dd_GE, k5, k289, k351, k369, k383])⟩
              · refine rb_false (by first | exact congrArg D.bool k383 | rfl) ?_
                refine rb_skip ?_
                refine eb_blk_n ?_
                refine eb_blk_n ?_
                obtain rfl := Option.some.inj h
                exact eb_nil ⟨rfl, Wk.of (fun i => if i = 1 then some 1 else if i = 0 then some 0 else some i) _ _ _ (by simp -implicitDefEqProofs [kv, dd_GE, k5, k289, k351, k369, k383]) (by simp -implicitDefEqProofs [kv, dd_GE, k5, k289, k351, k369, k383])⟩
        · refine rb_regionK fun K388 hK388 => ?_
          simp -implicitDefEqProofs only [vt, ↓atI_fold, forall_const, implies_true, sevalprocAttr, dd_GE, k5, k289]
          subst hK388
          obtain rfl := Option.some.inj h
          exact eb_nil ⟨rfl, Wk.of (fun i => if i = 1 then some 1 else if i = 0 then some 0 else some i) _ _ _ (by simp -implicitDefEqProofs [kv, dd_GE, k5, k289]) (by simp -implicitDefEqProofs [kv, dd_GE, k5, k289])⟩
      · refine rb_false (by first | exact congrArg D.bool k289 | rfl) ?_
        refine rb_exit ?_
        refine eb_seq_e ?_
        obtain rfl := Option.some.inj h
        exact eb_nil ⟨rfl, Wk.of (fun i => if i = 1 then some 1 else if i = 0 then some 0 else some i) _ _ _ (by simp -implicitDefEqProofs [kv, dd_GE, k5, k289]) (by simp -implicitDefEqProofs [kv, dd_GE, k5, k289])⟩
    · refine eb_blk_hit ?_
      refine eb_seq ?_
      refine rb_seq ?_
      refine rb_regionK fun K391 hK391 => ?_
      simp -implicitDefEqProofs only [vt, ↓atI_fold, forall_const, implies_true, sevalprocAttr, dd_GE, k5]
      subst hK391
      refine eb_seq ?_
      refine rb_ret ?_
      obtain rfl := Option.some.inj h
      refine eb_nil ?_
      simp -implicitDefEqProofs only [vt, ↓atI_fold, forall_const, implies_true, sevalprocAttr, retQ_r, Tryd.results41, dd_GE, k5] <;> first | rfl | (simp [List.map_append, dd_GE]; done)
-- lines.Number
def g_lines_Number_s1 (r7 : (List UInt8) × Bool) (x28 : Int) : Option (Nx (Int) (Unit ⊕ Unit)) :=
  (if (decide (x28 < (r7.1.length : Int))) then ((atI r7.1 x28).bind fun b91 => (if (decide ((b91.toNat : Int) < 48)) then (some (.out (.inl ()))) else (if (decide (57 < (b91.toNat : Int))) then (some (.out (.inl ()))) else (some (.go (IntKind.i64.wrap (x28 + 1))))))) else (some (.out (.inr ()))))
def g_lines_Number (s_0 : List UInt8) (lo_1 : Int) (hi_2 : Int) : Option (Int × Int) :=
  ((g_strings_CutPrefix s_0 [45]).bind fun r7 => (((if (r7.1 == ([] : List UInt8)) then (some true) else ((atI r7.1 0).bind fun b18 => (if ((b18.toNat : Int) == 48) then (if (decide (1 < (r7.1.length : Int))) then (some true) else (some r7.2)) else (some false)))) : Option (Bool)).bind fun v15 => (if v15 then (some (0, 4)) else ((iter (g_lines_Number_s1 r7) 0).bind fun e29 => (match e29 with | Sum.inl e29 => (some (0, 4)) | Sum.inr (e29) => ((g_strconv_ParseInt s_0 10 64).bind fun r105 => (((if r105.2 then (some true) else (if (decide (r105.1 < lo_1)) then (some true) else (some (decide (hi_2 < r105.1))))) : Option (Bool)).bind fun v110 => (if v110 then (some (0, 2)) else (some (r105.1, 0))))))))))
theorem a_lines_Number (I : World → Prop) (hI : Stab I) (hPIv : ∀ w, I w → PIv w) (s_0 : List UInt8) (lo_1 : Int) (hi_2 : Int) {r : Int × Int} (h : g_lines_Number s_0 lo_1 hi_2 = some r) : AFun Tryd.prog I 49 [.str s_0, .int .i64 lo_1, .int .i64 hi_2] (.tup [.int .i64 r.1, .int .i64 r.2]) := by
  refine AFun.enterB hI Tryd.func49 rfl (by decide) (by simp [Tryd.f49]) (by kernel_rfl) ?_
  unfold g_lines_Number at h
  simp only [S0, Tryd.ntmps49, dd_GE]
  refine rb_seq ?_
  refine rb_regionK fun K2 hK2 => ?_
  simp -implicitDefEqProofs only [vt, ↓atI_fold, forall_const, implies_true, sevalprocAttr, dd_GE]
  subst hK2
  refine eb_seq ?_
  refine rb_seq ?_
  refine rb_regionK fun K6 hK6 => ?_
  simp -implicitDefEqProofs only [vt, ↓atI_fold, forall_const, implies_true, sevalprocAttr, dd_GE]
  obtain ⟨r7, h8, h⟩ := bind_some h
  refine cW.intro (a_strings_CutPrefix I hI s_0 [45] h8) (by first | rfl | (simp [List.map_append, dd_GE]; done)) ?_
  simp -implicitDefEqProofs only [vt, ↓atI_fold, forall_const, implies_true, sevalprocAttr, dd_GE]
  subst hK6
  refine eb_seq ?_
  refine rb_seq ?_
  obtain ⟨v15, h22, h⟩ := bind_some h
  refine rb_cut (fun v15 => ⟨envL [(0, .str s_0), (1, .int .i64 lo_1), (2, .int .i64 hi_2), (8, .str r7.1), (32, .bool v15)], heapL [], 0, 67⟩) h22 ?_ ?_
  · clear h
    intro v15 h
    refine rb_regionK fun K16 hK16 => ?_
    simp -implicitDefEqProofs only [vt, ↓atI_fold, forall_const, implies_true, sevalprocAttr, dd_GE]
    rcases ite_or h with ⟨k17, h⟩ | ⟨k17, h⟩
    · simp -implicitDefEqProofs only [vt, ↓atI_fold, forall_const, implies_true, sevalprocAttr, dd_GE, k17]
      subst hK16
      obtain rfl := Option.some.inj h
      exact eb_nil ⟨rfl, Wk.of (fun i => some i) _ _ _ (by simp -implicitDefEqProofs [kv, dd_GE, k17]) (by simp -implicitDefEqProofs [kv, dd_GE, k17])⟩
    · simp -implicitDefEqProofs only [vt, ↓atI_fold, forall_const, implies_true, sevalprocAttr, dd_GE, k17]
      obtain ⟨b18, h19, h⟩ := bind_some h
      simp -implicitDefEqProofs only [vt, ↓atI_fold, forall_const, implies_true, sevalprocAttr, dd_GE, k17, h19]
      rcases ite_or h with ⟨k20, h⟩ | ⟨k20, h⟩
      · simp -implicitDefEqProofs only [vt, ↓atI_fold, forall_const, implies_true, sevalprocAttr, dd_GE, k17, h19, k20]
        rcases ite_or h with ⟨k21, h⟩ | ⟨k21, h⟩
        · simp -implicitDefEqProofs only [vt, ↓atI_fold, forall_const, implies_true, sevalprocAttr, dd_GE, k17, h19, k20, k21]
          subst hK16
          obtain rfl := Option.some.inj h
          exact eb_nil ⟨rfl, Wk.of (fun i => some i) _ _ _ (by simp -implicitDefEqProofs [kv, dd_GE, k17, k20, k21]) (by simp -implicitDefEqProofs [kv, dd_GE, k17, k20, k21])⟩
        · simp -implicitDefEqProofs only [vt, ↓atI_fold, forall_const, implies_true, sevalprocAttr, dd_GE, k17, h19, k20, k21]
          subst hK16
          obtain rfl := Option.some.inj h
          exact eb_nil ⟨rfl, Wk.of (fun i => some i) _ _ _ (by simp -implicitDefEqProofs [kv, dd_GE, k17, k20, k21]) (by simp -implicitDefEqProofs [kv, dd_GE, k17, k20, k21])⟩
      · simp -implicitDefEqProofs only [vt, ↓atI_fold, forall_const, implies_true, sevalprocAttr, dd_GE, k17, h19, k20]
        subst hK16
        obtain rfl := Option.some.inj h
        exact eb_nil ⟨rfl, Wk.of (fun i => some i) _ _ _ (by simp -implicitDefEqProofs [kv, dd_GE, k17, k20]) (by simp -implicitDefEqProofs [kv, dd_GE, k17, k20])⟩
  · rcases ite_or h with ⟨k23, h⟩ | ⟨k23, h⟩
    · refine rb_true (by first | exact congrArg D.bool k23 | rfl) ?_
      refine rb_seq ?_
      refine rb_regionK fun K25 hK25 => ?_
      simp -implicitDefEqProofs only [vt, ↓atI_fold, forall_const, implies_true, sevalprocAttr, dd_GE, k23]
      subst hK25
      refine eb_seq ?_
      refine rb_ret ?_
      refine eb_seq_r ?_
      obtain rfl := Option.some.inj h
      refine eb_nil ?_
      simp -implicitDefEqProofs only [vt, ↓atI_fold, forall_const, implies_true, sevalprocAttr, retQ_r, Tryd.results49, dd_GE, k23] <;> first | rfl | (simp [List.map_append, dd_GE]; done)
    · refine rb_false (by first | exact congrArg D.bool k23 | rfl) ?_
      refine rb_skip ?_
      refine eb_seq ?_
      refine rb_seq ?_
      refine rb_seq ?_
      refine rb_regionK fun K27 hK27 => ?_
      simp -implicitDefEqProofs only [vt, ↓atI_fold, forall_const, implies_true, sevalprocAttr, dd_GE, k23]
      subst hK27
      refine eb_seq ?_
      refine rb_block ?_
      obtain ⟨e29, h100, h⟩ := bind_some h
      refine rb_loop (fun x28 => ⟨envL [(0, .str s_0), (1, .int .i64 lo_1), (2, .int .i64 hi_2), (8, .str r7.1), (34, .int .i64 (r7.1.length : Int)), (35, .int .i64 x28)], heapL [], 0, 67⟩) (fun w => match w with | Sum.inl _ => .ret | Sum.inr (_) => .exit 0) (fun w => match w with | Sum.inl e29 => ⟨envL [(6, .int .i64 0), (7, .int .i64 4)], heapL [], 0, 67⟩ | Sum.inr (e29) => ⟨envL [(0, .str s_0), (1, .int .i64 lo_1), (2, .int .i64 hi_2)], heapL [], 0, 67⟩) h100 (Wk.of (fun i => some i) _ _ _ (by simp -implicitDefEqProofs [kv, dd_GE, k23]) (by simp -implicitDefEqProofs [kv, dd_GE, k23])) (by intro w; rcases w with w | w <;> simp) ?_ ?_
      · clear h
        intro x28 y h
        unfold g_lines_Number_s1 at h
        refine rb_seq ?_
        refine rb_regionK fun K66 hK66 => ?_
        simp -implicitDefEqProofs only [vt, ↓atI_fold, forall_const, implies_true, sevalprocAttr, dd_GE, k23]
        subst hK66
        refine eb_seq ?_
        refine rb_seq ?_
        rcases ite_or h with ⟨k68, h⟩ | ⟨k68, h⟩
        · refine rb_true (by first | exact congrArg D.bool k68 | rfl) ?_
          refine rb_skip ?_
          refine eb_seq ?_
          refine rb_seq ?_
          refine rb_block ?_
          refine rb_seq ?_
          refine rb_regionK fun K85 hK85 => ?_
          simp -implicitDefEqProofs only [vt, ↓atI_fold, forall_const, implies_true, sevalprocAttr, dd_GE, k23, k68]
          subst hK85
          refine eb_seq ?_
          refine rb_seq ?_
          refine rb_regionK fun K90 hK90 => ?_
          simp -implicitDefEqProofs only [vt, ↓atI_fold, forall_const, implies_true, sevalprocAttr, dd_GE, k23, k68]
          obtain ⟨b91, h92, h⟩ := bind_some h
          simp -implicitDefEqProofs only [vt, ↓atI_fold, forall_const, implies_true, sevalprocAttr, dd_GE, k23, k68, h92]
          rcases ite_or h with ⟨k93, h⟩ | ⟨k93, h⟩
          · simp -implicitDefEqProofs only [vt, ↓atI_fold, forall_const, implies_true, sevalprocAttr, dd_GE, k23, k68, h92, k93]
            subst hK90
            refine eb_seq ?_
            refine rb_true (rfl) ?_
            refine rb_seq ?_
            refine rb_regionK fun K95 hK95 => ?_
            simp -implicitDefEqProofs only [vt, ↓atI_fold, forall_const, implies_true, sevalprocAttr, dd_GE, k23, k68, h92, k93]
            subst hK95
            refine eb_seq ?_
            refine rb_ret ?_
            refine eb_blk_r ?_
            refine eb_seq_r ?_
            obtain rfl := Option.some.inj h
            exact eb_nil ⟨rfl, Wk.of (fun i => some i) _ _ _ (by simp -implicitDefEqProofs [kv, dd_GE, k23, k68, k93]) (by simp -implicitDefEqProofs [kv, dd_GE, k23, k68, k93])⟩
          · simp -implicitDefEqProofs only [vt, ↓atI_fold, forall_const, implies_true, sevalprocAttr, dd_GE, k23, k68, h92, k93]
            subst hK90
            refine eb_seq ?_
            rcases ite_or h with ⟨k96, h⟩ | ⟨k96, h⟩
            · refine rb_true (by first | exact congrArg D.bool k96 | rfl) ?_
              refine rb_seq ?_
              refine rb_regionK fun K98 hK98 => ?_
              simp -implicitDefEqProofs only [vt, ↓atI_fold, forall_const, implies_true, sevalprocAttr, dd_GE, k23, k68, h92, k93, k96]
              subst hK98
              refine eb_seq ?_
              refine rb_ret ?_
              refine eb_blk_r ?_
              refine eb_seq_r ?_
              obtain rfl := Option.some.inj h
              exact eb_nil ⟨rfl, Wk.of (fun i => some i) _ _ _ (by simp -implicitDefEqProofs [kv, dd_GE, k23, k68, k93, k96]) (by simp -implicitDefEqProofs [kv, dd_GE, k23, k68, k93, k96])⟩
            · refine rb_false (by first | exact congrArg D.bool k96 | rfl) ?_
              refine rb_skip ?_
              refine eb_blk_n ?_
              refine eb_seq ?_
              refine rb_regionK fun K99 hK99 => ?_
              simp -implicitDefEqProofs only [vt, ↓atI_fold, forall_const, implies_true, sevalprocAttr, dd_GE, k23, k68, h92, k93, k96]
              subst hK99
              obtain rfl := Option.some.inj h
              exact eb_nil ⟨rfl, Wk.of (fun i => some i) _ _ _ (by simp -implicitDefEqProofs [kv, dd_GE, k23, k68, k93, k96]) (by simp -implicitDefEqProofs [kv, dd_GE, k23, k68, k93, k96])⟩
        · refine rb_false (by first | exact congrArg D.bool k68 | rfl) ?_
          refine rb_exit ?_
          refine eb_seq_e ?_
          obtain rfl := Option.some.inj h
          exact eb_nil ⟨rfl, Wk.of (fun i => some i) _ _ _ (by simp -implicitDefEqProofs [kv, dd_GE, k23, k68]) (by simp -implicitDefEqProofs [kv, dd_GE, k23, k68])⟩
      · rcases e29 with e29 | e29
        · try dsimp only at h ⊢
          refine eb_blk_r ?_
          refine eb_seq_r ?_
          obtain rfl := Option.some.inj h
          refine eb_nil ?_
          simp -implicitDefEqProofs only [vt, ↓atI_fold, forall_const, implies_true, sevalprocAttr, retQ_r, Tryd.results49, dd_GE, k23] <;> first | rfl | (simp [List.map_append, dd_GE]; done)
        · try dsimp only at h ⊢
          refine eb_blk_hit ?_
          refine eb_seq ?_
          refine rb_seq ?_
          refine rb_regionK fun K104 hK104 => ?_
          simp -implicitDefEqProofs only [vt, ↓atI_fold, forall_const, implies_true, sevalprocAttr, dd_GE, k23]
          obtain ⟨r105, h106, h⟩ := bind_some h
          refine cW.intro (a_strconv_ParseInt I hI hPIv s_0 10 64 h106) (by first | rfl | (simp [List.map_append, dd_GE]; done)) ?_
          simp -implicitDefEqProofs only [vt, ↓atI_fold, forall_const, implies_true, sevalprocAttr, dd_GE, k23]
          subst hK104
          refine eb_seq ?_
          refine rb_seq ?_
          obtain ⟨v110, h114, h⟩ := bind_some h
          refine rb_cut (fun v110 => ⟨envL [(11, .int .i64 r105.1), (65, .bool v110)], heapL [], 0, 67⟩) h114 ?_ ?_
          · clear h
            intro v110 h
            refine rb_regionK fun K111 hK111 => ?_
            simp -implicitDefEqProofs only [vt, ↓atI_fold, forall_const, implies_true, sevalprocAttr, dd_GE, k23]
            rcases ite_or h with ⟨k112, h⟩ | ⟨k112, h⟩
            · simp -implicitDefEqProofs only [vt, ↓atI_fold, forall_const, implies_true, sevalprocAttr, dd_GE, k23, k112]
              subst hK111
              obtain rfl := Option.some.inj h
              exact eb_nil ⟨rfl, Wk.of (fun i => some i) _ _ _ (by simp -implicitDefEqProofs [kv, dd_GE, k23, k112]) (by simp -implicitDefEqProofs [kv, dd_GE, k23, k112])⟩
            · simp -implicitDefEqProofs only [vt, ↓atI_fold, forall_const, implies_true, sevalprocAttr, dd_GE, k23, k112]
              rcases ite_or h with ⟨k113, h⟩ | ⟨k113, h⟩
              · simp -implicitDefEqProofs only [vt, ↓atI_fold, forall_const, implies_true, sevalprocAttr, dd_GE, k23, k112, k113]
                subst hK111
                obtain rfl := Option.some.inj h
                exact eb_nil ⟨rfl, Wk.of (fun i => some i) _ _ _ (by simp -implicitDefEqProofs [kv, dd_GE, k23, k112, k113]) (by simp -implicitDefEqProofs [kv, dd_GE, k23, k112, k113])⟩
              · simp -implicitDefEqProofs only [vt, ↓atI_fold, forall_const, implies_true, sevalprocAttr, dd_GE, k23, k112, k113]
                subst hK111
                obtain rfl := Option.some.inj h
                exact eb_nil ⟨rfl, Wk.of (fun i => some i) _ _ _ (by simp -implicitDefEqProofs [kv, dd_GE, k23, k112, k113]) (by simp -implicitDefEqProofs [kv, dd_GE, k23, k112, k113])⟩
          · rcases ite_or h with ⟨k115, h⟩ | ⟨k115, h⟩
            · refine rb_true (by first | exact congrArg D.bool k115 | rfl) ?_
              refine rb_seq ?_
              refine rb_regionK fun K117 hK117 => ?_
              simp -implicitDefEqProofs only [vt, ↓atI_fold, forall_const, implies_true, sevalprocAttr, dd_GE, k23, k115]
              subst hK117
              refine eb_seq ?_
              refine rb_ret ?_
              refine eb_seq_r ?_
              obtain rfl := Option.some.inj h
              refine eb_nil ?_
              simp -implicitDefEqProofs only [vt, ↓atI_fold, forall_const, implies_true, sevalprocAttr, retQ_r, Tryd.results49, dd_GE, k23, k115] <;> first | rfl | (simp [List.map_append, dd_GE]; done)
            · refine rb_false (by first | exact congrArg D.bool k115 | rfl) ?_
              refine rb_skip ?_
              refine eb_seq ?_
              refine rb_seq ?_
              refine rb_regionK fun K119 hK119 => ?_
              simp -implicitDefEqProofs only [vt, ↓atI_fold, forall_const, implies_true, sevalprocAttr, dd_GE, k23, k115]
              subst hK119
              refine eb_seq ?_
              refine rb_ret ?_
              obtain rfl := Option.some.inj h
              refine eb_nil ?_
              simp -implicitDefEqProofs only [vt, ↓atI_fold, forall_const, implies_true, sevalprocAttr, retQ_r, Tryd.results49, dd_GE, k23, k115] <;> first | rfl | (simp [List.map_append, dd_GE]; done)
-- lines.Decimal
def g_lines_Decimal (n_0 : Int) : Option ((List UInt8)) :=
  ((g_strconv_FormatInt n_0 10).bind fun r7 => (some r7))
theorem a_lines_Decimal (I : World → Prop) (hI : Stab I) (hTab : ∀ w, I w → Tab w) (n_0 : Int) {r : (List UInt8)} (h : g_lines_Decimal n_0 = some r) : AFun Tryd.prog I 53 [.int .i64 n_0] (.str r) := by
  refine AFun.enterB hI Tryd.func53 rfl (by decide) (by simp [Tryd.f53]) (by kernel_rfl) ?_
  unfold g_lines_Decimal at h
  simp only [S0, Tryd.ntmps53, dd_GE]
  refine rb_seq ?_
  refine rb_regionK fun K2 hK2 => ?_
  simp -implicitDefEqProofs only [vt, ↓atI_fold, forall_const, implies_true, sevalprocAttr, dd_GE]
  subst hK2
  refine eb_seq ?_
  refine rb_seq ?_
  refine rb_regionK fun K6 hK6 => ?_
  simp -implicitDefEqProofs only [vt, ↓atI_fold, forall_const, implies_true, sevalprocAttr, dd_GE]
  obtain ⟨r7, h8, h⟩ := bind_some h
  refine cW.intro (a_strconv_FormatInt I hI hTab n_0 10 h8) (by first | rfl | (simp [List.map_append, dd_GE]; done)) ?_
  simp -implicitDefEqProofs only [vt, ↓atI_fold, forall_const, implies_true, sevalprocAttr, dd_GE]
  subst hK6
  refine eb_seq ?_
  refine rb_ret ?_
  obtain rfl := Option.some.inj h
  refine eb_nil ?_
  simp -implicitDefEqProofs only [vt, ↓atI_fold, forall_const, implies_true, sevalprocAttr, retQ_r, Tryd.results53, dd_GE] <;> first | rfl | (simp [List.map_append, dd_GE]; done)
-- lines.Quote
def g_lines_Quote_s1 (s_0 : List UInt8) (x7 : Int × (List Int)) : Option (Nx (Int × (List Int)) ((List Int))) :=
  (if (decide (x7.1 < (s_0.length : Int))) then ((atI s_0 x7.1).bind fun b123 => (if ((b123.toNat : Int) == 34) then (if (x7.2.length + 2) * 1 ≤ 140737488355328 then (some (.go ((IntKind.i64.wrap (x7.1 + 1)), (x7.2 ++ [92, (b123.toNat : Int)])))) else none) else (if ((b123.toNat : Int) == 92) then (if (x7.2.length + 2) * 1 ≤ 140737488355328 then (some (.go ((IntKind.i64.wrap (x7.1 + 1)), (x7.2 ++ [92, (b123.toNat : Int)])))) else none) else (if ((b123.toNat : Int) == 10) then (if (x7.2.length + 2) * 1 ≤ 140737488355328 then (some (.go ((IntKind.i64.wrap (x7.1 + 1)), (x7.2 ++ [92, 110])))) else none) else (if (x7.2.length + 1) * 1 ≤ 140737488355328 then (some (.go ((IntKind.i64.wrap (x7.1 + 1)), (x7.2 ++ [(b123.toNat : Int)])))) else none))))) else (some (.out x7.2)))
def g_lines_Quote (s_0 : List UInt8) : Option ((List UInt8)) :=
  ((iter (g_lines_Quote_s1 s_0) (0, [34])).bind fun e8 => (if (e8.length + 1) * 1 ≤ 140737488355328 then (some (bytesOf (e8 ++ [34]))) else none))
theorem a_lines_Quote (I : World → Prop) (hI : Stab I) (s_0 : List UInt8) {r : (List UInt8)} (h : g_lines_Quote s_0 = some r) : AFun Tryd.prog I 47 [.str s_0] (.str r) := by
  refine AFun.enterB hI Tryd.func47 rfl (by decide) (by simp [Tryd.f47]) (by kernel_rfl) ?_
  unfold g_lines_Quote at h
  simp only [S0, Tryd.ntmps47, dd_GE]
  refine rb_seq ?_
  refine rb_regionK fun K2 hK2 => ?_
  simp -implicitDefEqProofs only [vt, ↓atI_fold, forall_const, implies_true, sevalprocAttr, dd_GE]
  subst hK2
  refine eb_seq ?_
  refine rb_seq ?_
  refine rb_regionK fun K4 hK4 => ?_
  simp -implicitDefEqProofs only [vt, ↓atI_fold, forall_const, implies_true, sevalprocAttr, dd_GE]
  subst hK4
  refine eb_seq ?_
  refine rb_seq ?_
  refine rb_seq ?_
  refine rb_regionK fun K6 hK6 => ?_
  simp -implicitDefEqProofs only [vt, ↓atI_fold, forall_const, implies_true, sevalprocAttr, dd_GE]
  subst hK6
  refine eb_seq ?_
  refine rb_block ?_
  obtain ⟨e8, h153, h⟩ := bind_some h
  refine rb_loop (fun x7 => ⟨envL [(0, .str s_0), (3, .own 0 x7.2.length), (7, .int .i64 (s_0.length : Int)), (8, .int .i64 x7.1)], heapL [(0, .vec 5 1 (x7.2.map (D.int .u8)) false)], 1, 39⟩) (fun _ => .exit 0) (fun e8 => ⟨envL [(3, .own 0 e8.length)], heapL [(0, .vec 5 1 (e8.map (D.int .u8)) false)], 1, 39⟩) h153 (Wk.of (fun i => if i = 0 then some 1 else some i) _ _ _ (by simp -implicitDefEqProofs [kv, dd_GE]) (by simp -implicitDefEqProofs [kv, dd_GE])) (by intro w; simp) ?_ ?_
  · clear h
    intro x7 y h
    unfold g_lines_Quote_s1 at h
    refine rb_seq ?_
    refine rb_regionK fun K82 hK82 => ?_
    simp -implicitDefEqProofs only [vt, ↓atI_fold, forall_const, implies_true, sevalprocAttr, dd_GE]
    subst hK82
    refine eb_seq ?_
    refine rb_seq ?_
    rcases ite_or h with ⟨k84, h⟩ | ⟨k84, h⟩
    · refine rb_true (by first | exact congrArg D.bool k84 | rfl) ?_
      refine rb_skip ?_
      refine eb_seq ?_
      refine rb_seq ?_
      refine rb_block ?_
      refine rb_seq ?_
      refine rb_regionK fun K118 hK118 => ?_
      simp -implicitDefEqProofs only [vt, ↓atI_fold, forall_const, implies_true, sevalprocAttr, dd_GE, k84]
      subst hK118
      refine eb_seq ?_
      refine rb_seq ?_
      refine rb_regionK fun K122 hK122 => ?_
      simp -implicitDefEqProofs only [vt, ↓atI_fold, forall_const, implies_true, sevalprocAttr, dd_GE, k84]
      obtain ⟨b123, h124, h⟩ := bind_some h
      simp -implicitDefEqProofs only [vt, ↓atI_fold, forall_const, implies_true, sevalprocAttr, dd_GE, k84, h124]
      subst hK122
      refine eb_seq ?_
      refine rb_block ?_
      refine rb_seq ?_
      refine rb_seq ?_
      refine rb_regionK fun K126 hK126 => ?_
      simp -implicitDefEqProofs only [vt, ↓atI_fold, forall_const, implies_true, sevalprocAttr, dd_GE, k84, h124]
      subst hK126
      refine eb_seq ?_
      rcases ite_or h with ⟨k127, h⟩ | ⟨k127, h⟩
      · refine rb_true (by first | exact congrArg D.bool k127 | rfl) ?_
        refine rb_skip ?_
        refine eb_seq ?_
        refine rb_true (by first | exact congrArg D.bool k127 | rfl) ?_
        refine rb_regionK fun K128 hK128 => ?_
        simp -implicitDefEqProofs only [vt, ↓atI_fold, forall_const, implies_true, sevalprocAttr, dd_GE, k84, h124, k127]
        obtain ⟨h129, h⟩ := ite_on h
        have h130 : x7.2.length + 2 ≤ 9223372036854775807 := by omega
        try simp only [Nat.reduceLeDiff] at h130
        have h131 : x7.2.length + 2 ≤ 140737488355328 := by omega
        try simp only [Nat.reduceLeDiff] at h131
        simp -implicitDefEqProofs only [vt, ↓atI_fold, forall_const, implies_true, sevalprocAttr, dd_GE, k84, h124, k127, h130, h131, h129]
        subst hK128
        refine eb_blk_n ?_
        refine eb_blk_n ?_
        refine eb_seq ?_
        refine rb_regionK fun K132 hK132 => ?_
        simp -implicitDefEqProofs only [vt, ↓atI_fold, forall_const, implies_true, sevalprocAttr, dd_GE, k84, h124, k127, h130, h131, h129]
        subst hK132
        obtain rfl := Option.some.inj h
        exact eb_nil ⟨rfl, Wk.of (fun i => if i = 0 then some 14 else some i) _ _ _ (by simp -implicitDefEqProofs [kv, dd_GE, k84, k127]) (by simp -implicitDefEqProofs [kv, dd_GE, k84, k127])⟩
      · refine rb_false (by first | exact congrArg D.bool k127 | rfl) ?_
        refine rb_regionK fun K133 hK133 => ?_
        simp -implicitDefEqProofs only [vt, ↓atI_fold, forall_const, implies_true, sevalprocAttr, dd_GE, k84, h124, k127]
        subst hK133
        refine eb_seq ?_
        rcases ite_or h with ⟨k134, h⟩ | ⟨k134, h⟩
        · refine rb_true (by first | exact congrArg D.bool k134 | rfl) ?_
          refine rb_regionK fun K135 hK135 => ?_
          simp -implicitDefEqProofs only [vt, ↓atI_fold, forall_const, implies_true, sevalprocAttr, dd_GE, k84, h124, k127, k134]
          obtain ⟨h136, h⟩ := ite_on h
          have h137 : x7.2.length + 2 ≤ 9223372036854775807 := by omega
          try simp only [Nat.reduceLeDiff] at h137
          have h138 : x7.2.length + 2 ≤ 140737488355328 := by omega
          try simp only [Nat.reduceLeDiff] at h138
          simp -implicitDefEqProofs only [vt, ↓atI_fold, forall_const, implies_true, sevalprocAttr, dd_GE, k84, h124, k127, k134, h137, h138, h136]
          subst hK135
          refine eb_blk_n ?_
          refine eb_blk_n ?_
          refine eb_seq ?_
          refine rb_regionK fun K139 hK139 => ?_
          simp -implicitDefEqProofs only [vt, ↓atI_fold, forall_const, implies_true, sevalprocAttr, dd_GE, k84, h124, k127, k134, h137, h138, h136]
          subst hK139
          obtain rfl := Option.some.inj h
          exact eb_nil ⟨rfl, Wk.of (fun i => if i = 0 then some 16 else some i) _ _ _ (by simp -implicitDefEqProofs [kv, dd_GE, k84, k127, k134]) (by simp -implicitDefEqProofs [kv, dd_GE, k84, k127, k134])⟩
        · refine rb_false (by first | exact congrArg D.bool k134 | rfl) ?_
          refine rb_seq ?_
          refine rb_regionK fun K141 hK141 => ?_
          simp -implicitDefEqProofs only [vt, ↓atI_fold, forall_const, implies_true, sevalprocAttr, dd_GE, k84, h124, k127, k134]
          subst hK141
          refine eb_seq ?_
          rcases ite_or h with ⟨k142, h⟩ | ⟨k142, h⟩
          · refine rb_true (by first | exact congrArg D.bool k142 | rfl) ?_
            refine rb_regionK fun K143 hK143 => ?_
            simp -implicitDefEqProofs only [vt, ↓atI_fold, forall_const, implies_true, sevalprocAttr, dd_GE, k84, h124, k127, k134, k142]
            obtain ⟨h144, h⟩ := ite_on h
            have h145 : x7.2.length + 2 ≤ 9223372036854775807 := by omega
            try simp only [Nat.reduceLeDiff] at h145
            have h146 : x7.2.length + 2 ≤ 140737488355328 := by omega
            try simp only [Nat.reduceLeDiff] at h146
            simp -implicitDefEqProofs only [vt, ↓atI_fold, forall_const, implies_true, sevalprocAttr, dd_GE, k84, h124, k127, k134, k142, h145, h146, h144]
            subst hK143
            refine eb_blk_n ?_
            refine eb_blk_n ?_
            refine eb_seq ?_
            refine rb_regionK fun K147 hK147 => ?_
            simp -implicitDefEqProofs only [vt, ↓atI_fold, forall_const, implies_true, sevalprocAttr, dd_GE, k84, h124, k127, k134, k142, h145, h146, h144]
            subst hK147
            obtain rfl := Option.some.inj h
            exact eb_nil ⟨rfl, Wk.of (fun i => if i = 0 then some 15 else some i) _ _ _ (by simp -implicitDefEqProofs [kv, dd_GE, k84, k127, k134, k142]) (by simp -implicitDefEqProofs [kv, dd_GE, k84, k127, k134, k142])⟩
          · refine rb_false (by first | exact congrArg D.bool k142 | rfl) ?_
            refine rb_regionK fun K148 hK148 => ?_
            simp -implicitDefEqProofs only [vt, ↓atI_fold, forall_const, implies_true, sevalprocAttr, dd_GE, k84, h124, k127, k134, k142]
            obtain ⟨h149, h⟩ := ite_on h
            have h150 : x7.2.length + 1 ≤ 9223372036854775807 := by omega
            try simp only [Nat.reduceLeDiff] at h150
            have h151 : x7.2.length + 1 ≤ 140737488355328 := by omega
            try simp only [Nat.reduceLeDiff] at h151
            simp -implicitDefEqProofs only [vt, ↓atI_fold, forall_const, implies_true, sevalprocAttr, dd_GE, k84, h124, k127, k134, k142, h150, h151, h149]
            subst hK148
            refine eb_blk_n ?_
            refine eb_blk_n ?_
            refine eb_seq ?_
            refine rb_regionK fun K152 hK152 => ?_
            simp -implicitDefEqProofs only [vt, ↓atI_fold, forall_const, implies_true, sevalprocAttr, dd_GE, k84, h124, k127, k134, k142, h150, h151, h149]
            subst hK152
            obtain rfl := Option.some.inj h
            exact eb_nil ⟨rfl, Wk.of (fun i => if i = 0 then some 18 else some i) _ _ _ (by simp -implicitDefEqProofs [kv, dd_GE, k84, k127, k134, k142]) (by simp -implicitDefEqProofs [kv, dd_GE, k84, k127, k134, k142])⟩
    · refine rb_false (by first | exact congrArg D.bool k84 | rfl) ?_
      refine rb_exit ?_
      refine eb_seq_e ?_
      obtain rfl := Option.some.inj h
      exact eb_nil ⟨rfl, Wk.of (fun i => if i = 0 then some 0 else some i) _ _ _ (by simp -implicitDefEqProofs [kv, dd_GE, k84]) (by simp -implicitDefEqProofs [kv, dd_GE, k84])⟩
  · refine eb_blk_hit ?_
    refine eb_seq ?_
    refine rb_seq ?_
    refine rb_regionK fun K158 hK158 => ?_
    simp -implicitDefEqProofs only [vt, ↓atI_fold, forall_const, implies_true, sevalprocAttr, dd_GE]
    obtain ⟨h159, h⟩ := ite_on h
    have h160 : e8.length + 1 ≤ 9223372036854775807 := by omega
    try simp only [Nat.reduceLeDiff] at h160
    have h161 : e8.length + 1 ≤ 140737488355328 := by omega
    try simp only [Nat.reduceLeDiff] at h161
    simp -implicitDefEqProofs only [vt, ↓atI_fold, forall_const, implies_true, sevalprocAttr, dd_GE, h160, h161, h159]
    subst hK158
    refine eb_seq ?_
    refine rb_ret ?_
    obtain rfl := Option.some.inj h
    refine eb_nil ?_
    simp -implicitDefEqProofs only [vt, ↓atI_fold, forall_const, implies_true, sevalprocAttr, retQ_r, Tryd.results47, dd_GE, h160, h161, h159] <;> first | rfl | (simp [List.map_append, dd_GE]; done)
-- lines.Unquote
def g_lines_Unquote (s_0 : List UInt8) : Option ((List UInt8) × Int) :=
  (((if (s_0 == ([] : List UInt8)) then (some true) else ((atI s_0 0).bind fun b10 => (some ((b10.toNat : Int) != 34)))) : Option (Bool)).bind fun v7 => (if v7 then (some ([], 4)) else ((g_lines_quoted s_0).bind fun r20 => (if (decide (0 ≤ r20.2.2)) then (some ([], 4)) else (if (r20.2.1 != (s_0.length : Int)) then (some ([], 4)) else (some (r20.1, 0)))))))
theorem a_lines_Unquote (I : World → Prop) (hI : Stab I) (s_0 : List UInt8) {r : (List UInt8) × Int} (h : g_lines_Unquote s_0 = some r) : AFun Tryd.prog I 45 [.str s_0] (.tup [.str r.1, .int .i64 r.2]) := by
  refine AFun.enterB hI Tryd.func45 rfl (by decide) (by simp [Tryd.f45]) (by kernel_rfl) ?_
  unfold g_lines_Unquote at h
  simp only [S0, Tryd.ntmps45, dd_GE]
  refine rb_seq ?_
  refine rb_regionK fun K2 hK2 => ?_
  simp -implicitDefEqProofs only [vt, ↓atI_fold, forall_const, implies_true, sevalprocAttr, dd_GE]
  subst hK2
  refine eb_seq ?_
  refine rb_seq ?_
  obtain ⟨v7, h12, h⟩ := bind_some h
  refine rb_cut (fun v7 => ⟨envL [(0, .str s_0), (13, .bool v7)], heapL [], 0, 29⟩) h12 ?_ ?_
  · clear h
    intro v7 h
    refine rb_regionK fun K8 hK8 => ?_
    simp -implicitDefEqProofs only [vt, ↓atI_fold, forall_const, implies_true, sevalprocAttr, dd_GE]
    rcases ite_or h with ⟨k9, h⟩ | ⟨k9, h⟩
    · simp -implicitDefEqProofs only [vt, ↓atI_fold, forall_const, implies_true, sevalprocAttr, dd_GE, k9]
      subst hK8
      obtain rfl := Option.some.inj h
      exact eb_nil ⟨rfl, Wk.of (fun i => some i) _ _ _ (by simp -implicitDefEqProofs [kv, dd_GE, k9]) (by simp -implicitDefEqProofs [kv, dd_GE, k9])⟩
    · simp -implicitDefEqProofs only [vt, ↓atI_fold, forall_const, implies_true, sevalprocAttr, dd_GE, k9]
      obtain ⟨b10, h11, h⟩ := bind_some h
      simp -implicitDefEqProofs only [vt, ↓atI_fold, forall_const, implies_true, sevalprocAttr, dd_GE, k9, h11]
      subst hK8
      obtain rfl := Option.some.inj h
      exact eb_nil ⟨rfl, Wk.of (fun i => some i) _ _ _ (by simp -implicitDefEqProofs [kv, dd_GE, k9]) (by simp -implicitDefEqProofs [kv, dd_GE, k9])⟩
  · rcases ite_or h with ⟨k13, h⟩ | ⟨k13, h⟩
    · refine rb_true (by first | exact congrArg D.bool k13 | rfl) ?_
      refine rb_seq ?_
      refine rb_regionK fun K15 hK15 => ?_
      simp -implicitDefEqProofs only [vt, ↓atI_fold, forall_const, implies_true, sevalprocAttr, dd_GE, k13]
      subst hK15
      refine eb_seq ?_
      refine rb_ret ?_
      refine eb_seq_r ?_
      obtain rfl := Option.some.inj h
      refine eb_nil ?_
      simp -implicitDefEqProofs only [vt, ↓atI_fold, forall_const, implies_true, sevalprocAttr, retQ_r, Tryd.results45, dd_GE, k13] <;> first | rfl | (simp [List.map_append, dd_GE]; done)
    · refine rb_false (by first | exact congrArg D.bool k13 | rfl) ?_
      refine rb_skip ?_
      refine eb_seq ?_
      refine rb_seq ?_
      refine rb_regionK fun K19 hK19 => ?_
      simp -implicitDefEqProofs only [vt, ↓atI_fold, forall_const, implies_true, sevalprocAttr, dd_GE, k13]
      obtain ⟨r20, h21, h⟩ := bind_some h
      refine cW.intro (a_lines_quoted I hI s_0 h21) (by first | rfl | (simp [List.map_append, dd_GE]; done)) ?_
      simp -implicitDefEqProofs only [vt, ↓atI_fold, forall_const, implies_true, sevalprocAttr, dd_GE, k13]
      subst hK19
      refine eb_seq ?_
      refine rb_seq ?_
      refine rb_seq ?_
      refine rb_regionK fun K24 hK24 => ?_
      simp -implicitDefEqProofs only [vt, ↓atI_fold, forall_const, implies_true, sevalprocAttr, dd_GE, k13]
      rcases ite_or h with ⟨k25, h⟩ | ⟨k25, h⟩
      · simp -implicitDefEqProofs only [vt, ↓atI_fold, forall_const, implies_true, sevalprocAttr, dd_GE, k13, k25]
        subst hK24
        refine eb_seq ?_
        refine rb_true (rfl) ?_
        refine rb_seq ?_
        refine rb_regionK fun K27 hK27 => ?_
        simp -implicitDefEqProofs only [vt, ↓atI_fold, forall_const, implies_true, sevalprocAttr, dd_GE, k13, k25]
        subst hK27
        refine eb_seq ?_
        refine rb_ret ?_
        refine eb_seq_r ?_
        obtain rfl := Option.some.inj h
        refine eb_nil ?_
        simp -implicitDefEqProofs only [vt, ↓atI_fold, forall_const, implies_true, sevalprocAttr, retQ_r, Tryd.results45, dd_GE, k13, k25] <;> first | rfl | (simp [List.map_append, dd_GE]; done)
      · simp -implicitDefEqProofs only [vt, ↓atI_fold, forall_const, implies_true, sevalprocAttr, dd_GE, k13, k25]
        subst hK24
        refine eb_seq ?_
        rcases ite_or h with ⟨k28, h⟩ | ⟨k28, h⟩
        · refine rb_true (by first | exact congrArg D.bool k28 | rfl) ?_
          refine rb_seq ?_
          refine rb_regionK fun K30 hK30 => ?_
          simp -implicitDefEqProofs only [vt, ↓atI_fold, forall_const, implies_true, sevalprocAttr, dd_GE, k13, k25, k28]
          subst hK30
          refine eb_seq ?_
          refine rb_ret ?_
          refine eb_seq_r ?_
          obtain rfl := Option.some.inj h
          refine eb_nil ?_
          simp -implicitDefEqProofs only [vt, ↓atI_fold, forall_const, implies_true, sevalprocAttr, retQ_r, Tryd.results45, dd_GE, k13, k25, k28] <;> first | rfl | (simp [List.map_append, dd_GE]; done)
        · refine rb_false (by first | exact congrArg D.bool k28 | rfl) ?_
          refine rb_skip ?_
          refine eb_seq ?_
          refine rb_seq ?_
          refine rb_regionK fun K32 hK32 => ?_
          simp -implicitDefEqProofs only [vt, ↓atI_fold, forall_const, implies_true, sevalprocAttr, dd_GE, k13, k25, k28]
          subst hK32
          refine eb_seq ?_
          refine rb_ret ?_
          obtain rfl := Option.some.inj h
          refine eb_nil ?_
          simp -implicitDefEqProofs only [vt, ↓atI_fold, forall_const, implies_true, sevalprocAttr, retQ_r, Tryd.results45, dd_GE, k13, k25, k28] <;> first | rfl | (simp [List.map_append, dd_GE]; done)
-- captionerref07.Split
def g_ref07_Split_s1 (src_0 : List UInt8) (x16 : (List T_api_Line) × (List T_api_Diag) × Int × Int × Int) : Option (Nx ((List T_api_Line) × (List T_api_Diag) × Int × Int × Int) ((List T_api_Line) × (List T_api_Diag))) :=
  (if (decide (x16.2.2.2.2 ≤ (src_0.length : Int))) then (((((if (decide (x16.2.2.2.2 < (src_0.length : Int))) then ((atI src_0 x16.2.2.2.2).bind fun b468 => (some ((b468.toNat : Int) != 10))) else (some false)) : Option (Bool)).bind fun v465 => (if v465 then (some (x16.1, x16.2.1, x16.2.2.1, x16.2.2.2.1)) else ((subI src_0 x16.2.2.2.1 x16.2.2.2.2).bind fun z481 => (if (decide (1000 < (z481.length : Int))) then (if (x16.2.1.length + 1) * 24 ≤ 140737488355328 then (some (x16.1, (x16.2.1 ++ [(T_api_Diag.mk x16.2.2.1 1001 9)]), (IntKind.i64.wrap (x16.2.2.1 + 1)), (IntKind.i64.wrap (x16.2.2.2.2 + 1)))) else none) else ((g_ref07_fields z481).bind fun r501 => (if (decide (0 ≤ r501.2)) then (if (x16.2.1.length + 1) * 24 ≤ 140737488355328 then (some (x16.1, (x16.2.1 ++ [(T_api_Diag.mk x16.2.2.1 (IntKind.i64.wrap (r501.2 + 1)) 4)]), (IntKind.i64.wrap (x16.2.2.1 + 1)), (IntKind.i64.wrap (x16.2.2.2.2 + 1)))) else none) else (if (decide (0 < (r501.1.length : Int))) then (if (x16.1.length + 1) * 32 ≤ 140737488355328 then (some ((x16.1 ++ [(T_api_Line.mk x16.2.2.1 r501.1)]), x16.2.1, (IntKind.i64.wrap (x16.2.2.1 + 1)), (IntKind.i64.wrap (x16.2.2.2.2 + 1)))) else none) else (some (x16.1, x16.2.1, (IntKind.i64.wrap (x16.2.2.1 + 1)), (IntKind.i64.wrap (x16.2.2.2.2 + 1))))))))))) : Option ((List T_api_Line) × (List T_api_Diag) × Int × Int)).bind fun v460 => (some (.go (v460.1, v460.2.1, v460.2.2.1, v460.2.2.2, (IntKind.i64.wrap (x16.2.2.2.2 + 1)))))) else (some (.out (x16.1, x16.2.1))))
def g_ref07_Split (src_0 : List UInt8) : Option ((List T_api_Line) × (List T_api_Diag)) :=
  (if (decide (262144 < (src_0.length : Int))) then (some ([], [(T_api_Diag.mk 1 1 9)])) else ((iter (g_ref07_Split_s1 src_0) ([], [], 1, 0, 0)).bind fun e17 => ((subH e17.2 (if 50 < ((e17.2.length : Nat) : Int) then 50 else ((e17.2.length : Nat) : Int))).bind fun z534 => (some (e17.1, z534)))))
theorem a_ref07_Split (I : World → Prop) (hI : Stab I) (src_0 : List UInt8) {r : (List T_api_Line) × (List T_api_Diag)} (h : g_ref07_Split src_0 = some r) : AFun Tryd.prog I 42 [.str src_0] (.tup [.sl (r.1.map T_api_Line.d), .sl (r.2.map T_api_Diag.d)]) := by
  refine AFun.enterB hI Tryd.func42 rfl (by decide) (by simp [Tryd.f42]) (by kernel_rfl) ?_
  unfold g_ref07_Split at h
  simp only [S0, Tryd.ntmps42, dd_GE]
  refine rb_seq ?_
  refine rb_regionK fun K2 hK2 => ?_
  simp -implicitDefEqProofs only [vt, ↓atI_fold, forall_const, implies_true, sevalprocAttr, dd_GE]
  subst hK2
  refine eb_seq ?_
  refine rb_seq ?_
  refine rb_seq ?_
  refine rb_regionK fun K4 hK4 => ?_
  simp -implicitDefEqProofs only [vt, ↓atI_fold, forall_const, implies_true, sevalprocAttr, dd_GE]
  subst hK4
  refine eb_seq ?_
  rcases ite_or h with ⟨k5, h⟩ | ⟨k5, h⟩
  · refine rb_true (by first | exact congrArg D.bool k5 | rfl) ?_
    refine rb_seq ?_
    refine rb_regionK fun K7 hK7 => ?_
    simp -implicitDefEqProofs only [vt, ↓atI_fold, forall_const, implies_true, sevalprocAttr, dd_GE, k5]
    subst hK7
    refine eb_seq ?_
    refine rb_ret ?_
    refine eb_seq_r ?_
    obtain rfl := Option.some.inj h
    refine eb_nil ?_
    simp -implicitDefEqProofs only [vt, ↓atI_fold, forall_const, implies_true, sevalprocAttr, retQ_r, Tryd.results42, dd_GE, k5] <;> first | rfl | (simp [List.map_append, dd_GE]; done)
  · refine rb_false (by first | exact congrArg D.bool k5 | rfl) ?_
    refine rb_skip ?_
    refine eb_seq ?_
    refine rb_seq ?_
    refine rb_regionK fun K9 hK9 => ?_
    simp -implicitDefEqProofs only [vt, ↓atI_fold, forall_const, implies_true, sevalprocAttr, dd_GE, k5]
    subst hK9
    refine eb_seq ?_
    refine rb_seq ?_
    refine rb_regionK fun K11 hK11 => ?_
    simp -implicitDefEqProofs only [vt, ↓atI_fold, forall_const, implies_true, sevalprocAttr, dd_GE, k5]
    subst hK11
    refine eb_seq ?_
    refine rb_seq ?_
    refine rb_regionK fun K13 hK13 => ?_
    simp -implicitDefEqProofs only [vt, ↓atI_fold, forall_const, implies_true, sevalprocAttr, dd_GE, k5]
    subst hK13
    refine eb_seq ?_
    refine rb_seq ?_
    refine rb_seq ?_
    refine rb_regionK fun K15 hK15 => ?_
    simp -implicitDefEqProofs only [vt, ↓atI_fold, forall_const, implies_true, sevalprocAttr, dd_GE, k5]
    subst hK15
    refine eb_seq ?_
    refine rb_block ?_
    obtain ⟨e17, h526, h⟩ := bind_some h
    refine rb_loop (fun x16 => ⟨envL [(0, .str src_0), (4, .own 0 x16.1.length), (5, .own 1 x16.2.1.length), (6, .int .i64 x16.2.2.1), (7, .int .i64 x16.2.2.2.1), (8, .int .i64 x16.2.2.2.2)], heapL [(0, .vec 81 2 (x16.1.map T_api_Line.d) false), (1, .vec 76 3 (x16.2.1.map T_api_Diag.d) false)], 2, 78⟩) (fun _ => .exit 0) (fun e17 => ⟨envL [(4, .own 0 e17.1.length), (5, .own 1 e17.2.length)], heapL [(0, .vec 81 2 (e17.1.map T_api_Line.d) false), (1, .vec 76 3 (e17.2.map T_api_Diag.d) false)], 2, 78⟩) h526 (Wk.of (fun i => if i = 1 then none else if i = 0 then none else some i) _ _ _ (by simp -implicitDefEqProofs [kv, dd_GE, k5]) (by simp -implicitDefEqProofs [kv, dd_GE, k5])) (by intro w; simp) ?_ ?_
    · clear h
      intro x16 y h
      unfold g_ref07_Split_s1 at h
      refine rb_seq ?_
      refine rb_seq ?_
      refine rb_regionK fun K395 hK395 => ?_
      simp -implicitDefEqProofs only [vt, ↓atI_fold, forall_const, implies_true, sevalprocAttr, dd_GE, k5]
      subst hK395
      refine eb_seq ?_
      rcases ite_or h with ⟨k396, h⟩ | ⟨k396, h⟩
      · refine rb_true (by first | exact congrArg D.bool k396 | rfl) ?_
        refine rb_skip ?_
        refine eb_seq ?_
        obtain ⟨v460, h524, h⟩ := bind_some h
        refine rb_cut (fun v460 => ⟨envL [(0, .str src_0), (4, .own 0 v460.1.length), (5, .own 1 v460.2.1.length), (6, .int .i64 v460.2.2.1), (7, .int .i64 v460.2.2.2), (8, .int .i64 x16.2.2.2.2)], heapL [(0, .vec 81 2 (v460.1.map T_api_Line.d) false), (1, .vec 76 3 (v460.2.1.map T_api_Diag.d) false)], 2, 78⟩) h524 ?_ ?_
        · clear h
          intro v460 h
          refine rb_block ?_
          refine rb_seq ?_
          obtain ⟨v465, h470, h⟩ := bind_some h
          refine rb_cut (fun v465 => ⟨envL [(0, .str src_0), (4, .own 0 x16.1.length), (5, .own 1 x16.2.1.length), (6, .int .i64 x16.2.2.1), (7, .int .i64 x16.2.2.2.1), (8, .int .i64 x16.2.2.2.2), (32, .bool v465)], heapL [(0, .vec 81 2 (x16.1.map T_api_Line.d) false), (1, .vec 76 3 (x16.2.1.map T_api_Diag.d) false)], 2, 78⟩) h470 ?_ ?_
          · clear h
            intro v465 h
            refine rb_regionK fun K466 hK466 => ?_
            simp -implicitDefEqProofs only [vt, ↓atI_fold, forall_const, implies_true, sevalprocAttr, dd_GE, k5, k396]
            rcases ite_or h with ⟨k467, h⟩ | ⟨k467, h⟩
            · simp -implicitDefEqProofs only [vt, ↓atI_fold, forall_const, implies_true, sevalprocAttr, dd_GE, k5, k396, k467]
              obtain ⟨b468, h469, h⟩ := bind_some h
              simp -implicitDefEqProofs only [vt, ↓atI_fold, forall_const, implies_true, sevalprocAttr, dd_GE, k5, k396, k467, h469]
              subst hK466
              obtain rfl := Option.some.inj h
              exact eb_nil ⟨rfl, Wk.of (fun i => if i = 1 then some 1 else if i = 0 then some 0 else some i) _ _ _ (by simp -implicitDefEqProofs [kv, dd_GE, k5, k396, k467]) (by simp -implicitDefEqProofs [kv, dd_GE, k5, k396, k467])⟩
            · simp -implicitDefEqProofs only [vt, ↓atI_fold, forall_const, implies_true, sevalprocAttr, dd_GE, k5, k396, k467]
              subst hK466
              obtain rfl := Option.some.inj h
              exact eb_nil ⟨rfl, Wk.of (fun i => if i = 1 then some 1 else if i = 0 then some 0 else some i) _ _ _ (by simp -implicitDefEqProofs [kv, dd_GE, k5, k396, k467]) (by simp -implicitDefEqProofs [kv, dd_GE, k5, k396, k467])⟩
          · rcases ite_or h with ⟨k471, h⟩ | ⟨k471, h⟩
            · refine rb_true (by first | exact congrArg D.bool k471 | rfl) ?_
              refine rb_exit ?_
              refine eb_seq_e ?_
              refine eb_blk_hit ?_
              obtain rfl := Option.some.inj h
              exact eb_nil ⟨rfl, Wk.of (fun i => if i = 1 then some 1 else if i = 0 then some 0 else some i) _ _ _ (by simp -implicitDefEqProofs [kv, dd_GE, k5, k396, k471]) (by simp -implicitDefEqProofs [kv, dd_GE, k5, k396, k471])⟩
            · refine rb_false (by first | exact congrArg D.bool k471 | rfl) ?_
              refine rb_skip ?_
              refine eb_seq ?_
              refine rb_seq ?_
              refine rb_regionK fun K480 hK480 => ?_
              simp -implicitDefEqProofs only [vt, ↓atI_fold, forall_const, implies_true, sevalprocAttr, dd_GE, k5, k396, k471]
              obtain ⟨z481, h482, h⟩ := bind_some h
              obtain ⟨⟨h483, h484, h485, h486⟩, h487⟩ := subI_some h482
              try simp -implicitDefEqProofs only [vt, ↓atI_fold, forall_const, implies_true, sevalprocAttr, dd_GE, k5, k396, k471, h483, h484, h485, h486] at h487
              simp -implicitDefEqProofs only [vt, ↓atI_fold, forall_const, implies_true, sevalprocAttr, dd_GE, k5, k396, k471, h483, h484, h485, h486, h487]
              subst hK480
              refine eb_seq ?_
              refine rb_seq ?_
              refine rb_seq ?_
              refine rb_regionK fun K489 hK489 => ?_
              simp -implicitDefEqProofs only [vt, ↓atI_fold, forall_const, implies_true, sevalprocAttr, dd_GE, k5, k396, k471, h483, h484, h485, h486, h487]
              subst hK489
              refine eb_seq ?_
              rcases ite_or h with ⟨k490, h⟩ | ⟨k490, h⟩
              · refine rb_true (by first | exact congrArg D.bool k490 | rfl) ?_
                refine rb_regionK fun K491 hK491 => ?_
                simp -implicitDefEqProofs only [vt, ↓atI_fold, forall_const, implies_true, sevalprocAttr, dd_GE, k5, k396, k471, h483, h484, h485, h486, h487, k490]
                obtain ⟨h492, h⟩ := ite_on h
                have h493 : x16.2.1.length + 1 ≤ 9223372036854775807 := by omega
                try simp only [Nat.reduceLeDiff] at h493
                simp -implicitDefEqProofs only [vt, ↓atI_fold, forall_const, implies_true, sevalprocAttr, dd_GE, k5, k396, k471, h483, h484, h485, h486, h487, k490, h493, h492]
                subst hK491
                refine eb_seq ?_
                refine rb_seq ?_
                refine rb_regionK fun K495 hK495 => ?_
                simp -implicitDefEqProofs only [vt, ↓atI_fold, forall_const, implies_true, sevalprocAttr, dd_GE, k5, k396, k471, h483, h484, h485, h486, h487, k490, h493, h492]
                subst hK495
                refine eb_seq ?_
                refine rb_regionK fun K496 hK496 => ?_
                simp -implicitDefEqProofs only [vt, ↓atI_fold, forall_const, implies_true, sevalprocAttr, dd_GE, k5, k396, k471, h483, h484, h485, h486, h487, k490, h493, h492]
                subst hK496
                refine eb_blk_n ?_
                obtain rfl := Option.some.inj h
                exact eb_nil ⟨rfl, Wk.of (fun i => if i = 1 then some 14 else if i = 0 then some 0 else some i) _ _ _ (by simp -implicitDefEqProofs [kv, dd_GE, k5, k396, k471, k490]) (by simp -implicitDefEqProofs [kv, dd_GE, k5, k396, k471, k490])⟩
              · refine rb_false (by first | exact congrArg D.bool k490 | rfl) ?_
                refine rb_seq ?_
                refine rb_regionK fun K500 hK500 => ?_
                simp -implicitDefEqProofs only [vt, ↓atI_fold, forall_const, implies_true, sevalprocAttr, dd_GE, k5, k396, k471, h483, h484, h485, h486, h487, k490]
                obtain ⟨r501, h502, h⟩ := bind_some h
                refine cW.intro (a_ref07_fields I hI z481 h502) (by first | rfl | (simp [List.map_append, dd_GE]; done)) ?_
                simp -implicitDefEqProofs only [vt, ↓atI_fold, forall_const, implies_true, sevalprocAttr, dd_GE, k5, k396, k471, h483, h484, h485, h486, h487, k490]
                subst hK500
                refine eb_seq ?_
                refine rb_seq ?_
                refine rb_regionK fun K504 hK504 => ?_
                simp -implicitDefEqProofs only [vt, ↓atI_fold, forall_const, implies_true, sevalprocAttr, dd_GE, k5, k396, k471, h483, h484, h485, h486, h487, k490]
                subst hK504
                refine eb_seq ?_
                rcases ite_or h with ⟨k505, h⟩ | ⟨k505, h⟩
                · refine rb_true (by first | exact congrArg D.bool k505 | rfl) ?_
                  refine rb_regionK fun K506 hK506 => ?_
                  simp -implicitDefEqProofs only [vt, ↓atI_fold, forall_const, implies_true, sevalprocAttr, dd_GE, k5, k396, k471, h483, h484, h485, h486, h487, k490, k505]
                  obtain ⟨h507, h⟩ := ite_on h
                  have h508 : x16.2.1.length + 1 ≤ 9223372036854775807 := by omega
                  try simp only [Nat.reduceLeDiff] at h508
                  simp -implicitDefEqProofs only [vt, ↓atI_fold, forall_const, implies_true, sevalprocAttr, dd_GE, k5, k396, k471, h483, h484, h485, h486, h487, k490, k505, h508, h507]
                  subst hK506
                  refine eb_seq ?_
                  refine rb_seq ?_
                  refine rb_regionK fun K510 hK510 => ?_
                  simp -implicitDefEqProofs only [vt, ↓atI_fold, forall_const, implies_true, sevalprocAttr, dd_GE, k5, k396, k471, h483, h484, h485, h486, h487, k490, k505, h508, h507]
                  subst hK510
                  refine eb_seq ?_
                  refine rb_regionK fun K511 hK511 => ?_
                  simp -implicitDefEqProofs only [vt, ↓atI_fold, forall_const, implies_true, sevalprocAttr, dd_GE, k5, k396, k471, h483, h484, h485, h486, h487, k490, k505, h508, h507]
                  subst hK511
                  refine eb_blk_n ?_
                  obtain rfl := Option.some.inj h
                  exact eb_nil ⟨rfl, Wk.of (fun i => if i = 1 then some 25 else if i = 0 then some 0 else some i) _ _ _ (by simp -implicitDefEqProofs [kv, dd_GE, k5, k396, k471, k490, k505]) (by simp -implicitDefEqProofs [kv, dd_GE, k5, k396, k471, k490, k505])⟩
                · refine rb_false (by first | exact congrArg D.bool k505 | rfl) ?_
                  refine rb_seq ?_
                  refine rb_regionK fun K513 hK513 => ?_
                  simp -implicitDefEqProofs only [vt, ↓atI_fold, forall_const, implies_true, sevalprocAttr, dd_GE, k5, k396, k471, h483, h484, h485, h486, h487, k490, k505]
                  subst hK513
                  refine eb_seq ?_
                  rcases ite_or h with ⟨k514, h⟩ | ⟨k514, h⟩
                  · refine rb_true (by first | exact congrArg D.bool k514 | rfl) ?_
                    refine rb_regionK fun K515 hK515 => ?_
                    simp -implicitDefEqProofs only [vt, ↓atI_fold, forall_const, implies_true, sevalprocAttr, dd_GE, k5, k396, k471, h483, h484, h485, h486, h487, k490, k505, k514]
                    obtain ⟨h516, h⟩ := ite_on h
                    have h517 : x16.1.length + 1 ≤ 9223372036854775807 := by omega
                    try simp only [Nat.reduceLeDiff] at h517
                    simp -implicitDefEqProofs only [vt, ↓atI_fold, forall_const, implies_true, sevalprocAttr, dd_GE, k5, k396, k471, h483, h484, h485, h486, h487, k490, k505, k514, h517, h516]
                    subst hK515
                    refine eb_seq ?_
                    refine rb_seq ?_
                    refine rb_regionK fun K519 hK519 => ?_
                    simp -implicitDefEqProofs only [vt, ↓atI_fold, forall_const, implies_true, sevalprocAttr, dd_GE, k5, k396, k471, h483, h484, h485, h486, h487, k490, k505, k514, h517, h516]
                    subst hK519
                    refine eb_seq ?_
                    refine rb_regionK fun K520 hK520 => ?_
                    simp -implicitDefEqProofs only [vt, ↓atI_fold, forall_const, implies_true, sevalprocAttr, dd_GE, k5, k396, k471, h483, h484, h485, h486, h487, k490, k505, k514, h517, h516]
                    subst hK520
                    refine eb_blk_n ?_
                    obtain rfl := Option.some.inj h
                    exact eb_nil ⟨rfl, Wk.of (fun i => if i = 1 then some 1 else if i = 0 then some 27 else some i) _ _ _ (by simp -implicitDefEqProofs [kv, dd_GE, k5, k396, k471, k490, k505, k514]) (by simp -implicitDefEqProofs [kv, dd_GE, k5, k396, k471, k490, k505, k514])⟩
                  · refine rb_false (by first | exact congrArg D.bool k514 | rfl) ?_
                    refine rb_skip ?_
                    refine eb_seq ?_
                    refine rb_seq ?_
                    refine rb_regionK fun K522 hK522 => ?_
                    simp -implicitDefEqProofs only [vt, ↓atI_fold, forall_const, implies_true, sevalprocAttr, dd_GE, k5, k396, k471, h483, h484, h485, h486, h487, k490, k505, k514]
                    subst hK522
                    refine eb_seq ?_
                    refine rb_regionK fun K523 hK523 => ?_
                    simp -implicitDefEqProofs only [vt, ↓atI_fold, forall_const, implies_true, sevalprocAttr, dd_GE, k5, k396, k471, h483, h484, h485, h486, h487, k490, k505, k514]
                    subst hK523
                    refine eb_blk_n ?_
                    obtain rfl := Option.some.inj h
                    exact eb_nil ⟨rfl, Wk.of (fun i => if i = 1 then some 1 else if i = 0 then some 0 else some i) _ _ _ (by simp -implicitDefEqProofs [kv, dd_GE, k5, k396, k471, k490, k505, k514]) (by simp -implicitDefEqProofs [kv, dd_GE, k5, k396, k471, k490, k505, k514])⟩
        · refine rb_regionK fun K525 hK525 => ?_
          simp -implicitDefEqProofs only [vt, ↓atI_fold, forall_const, implies_true, sevalprocAttr, dd_GE, k5, k396]
          subst hK525
          obtain rfl := Option.some.inj h
          exact eb_nil ⟨rfl, Wk.of (fun i => if i = 1 then some 1 else if i = 0 then some 0 else some i) _ _ _ (by simp -implicitDefEqProofs [kv, dd_GE, k5, k396]) (by simp -implicitDefEqProofs [kv, dd_GE, k5, k396])⟩
      · refine rb_false (by first | exact congrArg D.bool k396 | rfl) ?_
        refine rb_exit ?_
        refine eb_seq_e ?_
        obtain rfl := Option.some.inj h
        exact eb_nil ⟨rfl, Wk.of (fun i => if i = 1 then some 1 else if i = 0 then some 0 else some i) _ _ _ (by simp -implicitDefEqProofs [kv, dd_GE, k5, k396]) (by simp -implicitDefEqProofs [kv, dd_GE, k5, k396])⟩
    · refine eb_blk_hit ?_
      refine eb_seq ?_
      refine rb_seq ?_
      refine rb_drawK hI (by kernel_rfl) (by kernel_rfl) fun K533 hK533 => ?_
      simp -implicitDefEqProofs only [vt, ↓atI_fold, forall_const, implies_true, sevalprocAttr, dd_GE, k5]
      obtain ⟨z534, h535, h⟩ := bind_some h
      obtain ⟨⟨h536, h537⟩, h538⟩ := subH_some h535
      try simp -implicitDefEqProofs only [vt, ↓atI_fold, forall_const, implies_true, sevalprocAttr, dd_GE, k5, h536, h537] at h538
      simp -implicitDefEqProofs only [vt, ↓atI_fold, forall_const, implies_true, sevalprocAttr, dd_GE, k5, h536, h537, h538]
      refine hD.intro (by kernel_rfl) ?_
      simp -implicitDefEqProofs only [vt, ↓atI_fold, forall_const, implies_true, sevalprocAttr, dd_GE, k5, h536, h537, h538]
      subst hK533
      refine eb_seq ?_
      refine rb_ret ?_
      obtain rfl := Option.some.inj h
      refine eb_nil ?_
      simp -implicitDefEqProofs only [vt, ↓atI_fold, forall_const, implies_true, sevalprocAttr, retQ_r, Tryd.results42, dd_GE, k5, h536, h537, h538] <;> first | rfl | (simp [List.map_append, dd_GE]; done)
-- captionerref07.Number
def g_ref07_Number_s1 (z19 : List UInt8) (x43 : Int) : Option (Nx (Int) (Unit ⊕ Unit)) :=
  (if (decide (x43 < (z19.length : Int))) then ((atI z19 x43).bind fun b97 => ((g_ref07_digit (b97.toNat : Int)).bind fun r99 => (if r99 then (some (.go (IntKind.i64.wrap (x43 + 1)))) else (some (.out (.inl ())))))) else (some (.out (.inr ()))))
def g_ref07_Number_s2 (z19 : List UInt8) (x115 : Int × Int) : Option (Nx (Int × Int) (Int)) :=
  (if (decide (x115.2 < (z19.length : Int))) then ((atI z19 x115.2).bind fun b134 => (some (.go ((IntKind.u64.wrap ((IntKind.u64.wrap (10 * x115.1)) + (IntKind.u64.wrap (IntKind.u8.wrap ((b134.toNat : Int) - 48))))), (IntKind.i64.wrap (x115.2 + 1)))))) else (some (.out x115.1)))
def g_ref07_Number_s3 (s_0 : List UInt8) (x182 : Int) : Option (Nx (Int) (Unit ⊕ Unit)) :=
  (if (decide (x182 < (s_0.length : Int))) then ((atI s_0 x182).bind fun b236 => ((g_ref07_digit (b236.toNat : Int)).bind fun r238 => (if r238 then (some (.go (IntKind.i64.wrap (x182 + 1)))) else (some (.out (.inl ())))))) else (some (.out (.inr ()))))
def g_ref07_Number_s4 (s_0 : List UInt8) (x254 : Int × Int) : Option (Nx (Int × Int) (Int)) :=
  (if (decide (x254.2 < (s_0.length : Int))) then ((atI s_0 x254.2).bind fun b273 => (some (.go ((IntKind.u64.wrap ((IntKind.u64.wrap (10 * x254.1)) + (IntKind.u64.wrap (IntKind.u8.wrap ((b273.toNat : Int) - 48))))), (IntKind.i64.wrap (x254.2 + 1)))))) else (some (.out x254.1)))
def g_ref07_Number (s_0 : List UInt8) (lo_1 : Int) (hi_2 : Int) : Option (Int × Int) :=
  (((if (decide (0 < (s_0.length : Int))) then ((atI s_0 0).bind fun b12 => (some ((b12.toNat : Int) == 45))) else (some false)) : Option (Bool)).bind fun v9 => (if v9 then ((subL s_0 1).bind fun z19 => (((if ((z19.length : Int) == 0) then (some true) else ((atI z19 0).bind fun b33 => (if ((b33.toNat : Int) == 48) then (if (decide (1 < (z19.length : Int))) then (some true) else (some v9)) else (some false)))) : Option (Bool)).bind fun v30 => (if v30 then (some (0, 4)) else ((iter (g_ref07_Number_s1 z19) 0).bind fun e44 => (match e44 with | Sum.inl e44 => (some (0, 4)) | Sum.inr (e44) => (if (decide (19 < (z19.length : Int))) then (some (0, 2)) else ((iter (g_ref07_Number_s2 z19) (0, 0)).bind fun e116 => (((if (decide (9223372036854775808 < e116)) then (some true) else (some false)) : Option (Bool)).bind fun v140 => (if v140 then (some (0, 2)) else (if (decide ((IntKind.i64.wrap (0 - (IntKind.i64.wrap e116))) < lo_1)) then (some (0, 2)) else (if (decide (hi_2 < (IntKind.i64.wrap (0 - (IntKind.i64.wrap e116))))) then (some (0, 2)) else (some ((IntKind.i64.wrap (0 - (IntKind.i64.wrap e116))), 0))))))))))))) else (((if ((s_0.length : Int) == 0) then (some true) else ((atI s_0 0).bind fun b172 => (if ((b172.toNat : Int) == 48) then (if (decide (1 < (s_0.length : Int))) then (some true) else (some v9)) else (some false)))) : Option (Bool)).bind fun v169 => (if v169 then (some (0, 4)) else ((iter (g_ref07_Number_s3 s_0) 0).bind fun e183 => (match e183 with | Sum.inl e183 => (some (0, 4)) | Sum.inr (e183) => (if (decide (19 < (s_0.length : Int))) then (some (0, 2)) else ((iter (g_ref07_Number_s4 s_0) (0, 0)).bind fun e255 => (((if (decide (9223372036854775808 < e255)) then (some true) else (some (e255 == 9223372036854775808))) : Option (Bool)).bind fun v279 => (if v279 then (some (0, 2)) else (if (decide ((IntKind.i64.wrap e255) < lo_1)) then (some (0, 2)) else (if (decide (hi_2 < (IntKind.i64.wrap e255))) then (some (0, 2)) else (some ((IntKind.i64.wrap e255), 0))))))))))))))
theorem a_ref07_Number (I : World → Prop) (hI : Stab I) (s_0 : List UInt8) (lo_1 : Int) (hi_2 : Int) {r : Int × Int} (h : g_ref07_Number s_0 lo_1 hi_2 = some r) : AFun Tryd.prog I 50 [.str s_0, .int .i64 lo_1, .int .i64 hi_2] (.tup [.int .i64 r.1, .int .i64 r.2]) := by
  refine AFun.enterB hI Tryd.func50 rfl (by decide) (by simp [Tryd.f50]) (by kernel_rfl) ?_
  unfold g_ref07_Number at h
  simp only [S0, Tryd.ntmps50, dd_GE]
  refine rb_seq ?_
  refine rb_regionK fun K2 hK2 => ?_
  simp -implicitDefEqProofs only [vt, ↓atI_fold, forall_const, implies_true, sevalprocAttr, dd_GE]
  subst hK2
  refine eb_seq ?_
  refine rb_seq ?_
  refine rb_regionK fun K4 hK4 => ?_
  simp -implicitDefEqProofs only [vt, ↓atI_fold, forall_const, implies_true, sevalprocAttr, dd_GE]
  subst hK4
  refine eb_seq ?_
  obtain ⟨v9, h14, h⟩ := bind_some h
  refine rb_cut (fun v9 => ⟨envL [(0, .str s_0), (1, .int .i64 lo_1), (2, .int .i64 hi_2), (8, .str s_0), (9, .bool v9)], heapL [], 0, 94⟩) h14 ?_ ?_
  · clear h
    intro v9 h
    refine rb_regionK fun K10 hK10 => ?_
    simp -implicitDefEqProofs only [vt, ↓atI_fold, forall_const, implies_true, sevalprocAttr, dd_GE]
    rcases ite_or h with ⟨k11, h⟩ | ⟨k11, h⟩
    · simp -implicitDefEqProofs only [vt, ↓atI_fold, forall_const, implies_true, sevalprocAttr, dd_GE, k11]
      obtain ⟨b12, h13, h⟩ := bind_some h
      simp -implicitDefEqProofs only [vt, ↓atI_fold, forall_const, implies_true, sevalprocAttr, dd_GE, k11, h13]
      subst hK10
      obtain rfl := Option.some.inj h
      exact eb_nil ⟨rfl, Wk.of (fun i => some i) _ _ _ (by simp -implicitDefEqProofs [kv, dd_GE, k11]) (by simp -implicitDefEqProofs [kv, dd_GE, k11])⟩
    · simp -implicitDefEqProofs only [vt, ↓atI_fold, forall_const, implies_true, sevalprocAttr, dd_GE, k11]
      subst hK10
      obtain rfl := Option.some.inj h
      exact eb_nil ⟨rfl, Wk.of (fun i => some i) _ _ _ (by simp -implicitDefEqProofs [kv, dd_GE, k11]) (by simp -implicitDefEqProofs [kv, dd_GE, k11])⟩
  · refine rb_seq ?_
    refine rb_seq ?_
    refine rb_regionK fun K16 hK16 => ?_
    simp -implicitDefEqProofs only [vt, ↓atI_fold, forall_const, implies_true, sevalprocAttr, dd_GE]
    subst hK16
    refine eb_seq ?_
    rcases ite_or h with ⟨k17, h⟩ | ⟨k17, h⟩
    · refine rb_true (by first | exact congrArg D.bool k17 | rfl) ?_
      refine rb_regionK fun K18 hK18 => ?_
      simp -implicitDefEqProofs only [vt, ↓atI_fold, forall_const, implies_true, sevalprocAttr, dd_GE, k17]
      obtain ⟨z19, h20, h⟩ := bind_some h
      obtain ⟨⟨h21, h22⟩, h23⟩ := subL_some h20
      try simp only [List.length_cons, List.length_nil, Nat.zero_add, Nat.reduceAdd, Int.reduceToNat] at h22
      try simp -implicitDefEqProofs only [vt, ↓atI_fold, forall_const, implies_true, sevalprocAttr, dd_GE, k17, h22] at h23
      simp -implicitDefEqProofs only [vt, ↓atI_fold, forall_const, implies_true, sevalprocAttr, dd_GE, k17, h22, h23]
      subst hK18
      refine eb_seq ?_
      refine rb_seq ?_
      obtain ⟨v30, h37, h⟩ := bind_some h
      refine rb_cut (fun v30 => ⟨envL [(1, .int .i64 lo_1), (2, .int .i64 hi_2), (8, .str z19), (9, .bool v9), (41, .bool v30)], heapL [], 0, 94⟩) h37 ?_ ?_
      · clear h
        intro v30 h
        refine rb_regionK fun K31 hK31 => ?_
        simp -implicitDefEqProofs only [vt, ↓atI_fold, forall_const, implies_true, sevalprocAttr, dd_GE, k17, h22, h23]
        rcases ite_or h with ⟨k32, h⟩ | ⟨k32, h⟩
        · simp -implicitDefEqProofs only [vt, ↓atI_fold, forall_const, implies_true, sevalprocAttr, dd_GE, k17, h22, h23, k32]
          subst hK31
          obtain rfl := Option.some.inj h
          exact eb_nil ⟨rfl, Wk.of (fun i => some i) _ _ _ (by simp -implicitDefEqProofs [kv, dd_GE, k17, k32]) (by simp -implicitDefEqProofs [kv, dd_GE, k17, k32])⟩
        · simp -implicitDefEqProofs only [vt, ↓atI_fold, forall_const, implies_true, sevalprocAttr, dd_GE, k17, h22, h23, k32]
          obtain ⟨b33, h34, h⟩ := bind_some h
          simp -implicitDefEqProofs only [vt, ↓atI_fold, forall_const, implies_true, sevalprocAttr, dd_GE, k17, h22, h23, k32, h34]
          rcases ite_or h with ⟨k35, h⟩ | ⟨k35, h⟩
          · simp -implicitDefEqProofs only [vt, ↓atI_fold, forall_const, implies_true, sevalprocAttr, dd_GE, k17, h22, h23, k32, h34, k35]
            rcases ite_or h with ⟨k36, h⟩ | ⟨k36, h⟩
            · simp -implicitDefEqProofs only [vt, ↓atI_fold, forall_const, implies_true, sevalprocAttr, dd_GE, k17, h22, h23, k32, h34, k35, k36]
              subst hK31
              obtain rfl := Option.some.inj h
              exact eb_nil ⟨rfl, Wk.of (fun i => some i) _ _ _ (by simp -implicitDefEqProofs [kv, dd_GE, k17, k32, k35, k36]) (by simp -implicitDefEqProofs [kv, dd_GE, k17, k32, k35, k36])⟩
            · simp -implicitDefEqProofs only [vt, ↓atI_fold, forall_const, implies_true, sevalprocAttr, dd_GE, k17, h22, h23, k32, h34, k35, k36]
              subst hK31
              obtain rfl := Option.some.inj h
              exact eb_nil ⟨rfl, Wk.of (fun i => some i) _ _ _ (by simp -implicitDefEqProofs [kv, dd_GE, k17, k32, k35, k36]) (by simp -implicitDefEqProofs [kv, dd_GE, k17, k32, k35, k36])⟩
          · simp -implicitDefEqProofs only [vt, ↓atI_fold, forall_const, implies_true, sevalprocAttr, dd_GE, k17, h22, h23, k32, h34, k35]
            subst hK31
            obtain rfl := Option.some.inj h
            exact eb_nil ⟨rfl, Wk.of (fun i => some i) _ _ _ (by simp -implicitDefEqProofs [kv, dd_GE, k17, k32, k35]) (by simp -implicitDefEqProofs [kv, dd_GE, k17, k32, k35])⟩
      · rcases ite_or h with ⟨k38, h⟩ | ⟨k38, h⟩
        · refine rb_true (by first | exact congrArg D.bool k38 | rfl) ?_
          refine rb_seq ?_
          refine rb_regionK fun K40 hK40 => ?_
          simp -implicitDefEqProofs only [vt, ↓atI_fold, forall_const, implies_true, sevalprocAttr, dd_GE, k17, h22, h23, k38]
          subst hK40
          refine eb_seq ?_
          refine rb_ret ?_
          refine eb_seq_r ?_
          obtain rfl := Option.some.inj h
          refine eb_nil ?_
          simp -implicitDefEqProofs only [vt, ↓atI_fold, forall_const, implies_true, sevalprocAttr, retQ_r, Tryd.results50, dd_GE, k17, h22, h23, k38] <;> first | rfl | (simp [List.map_append, dd_GE]; done)
        · refine rb_false (by first | exact congrArg D.bool k38 | rfl) ?_
          refine rb_skip ?_
          refine eb_seq ?_
          refine rb_seq ?_
          refine rb_seq ?_
          refine rb_regionK fun K42 hK42 => ?_
          simp -implicitDefEqProofs only [vt, ↓atI_fold, forall_const, implies_true, sevalprocAttr, dd_GE, k17, h22, h23, k38]
          subst hK42
          refine eb_seq ?_
          refine rb_block ?_
          obtain ⟨e44, h105, h⟩ := bind_some h
          refine rb_loop (fun x43 => ⟨envL [(1, .int .i64 lo_1), (2, .int .i64 hi_2), (8, .str z19), (9, .bool v9), (10, .int .i64 x43)], heapL [], 0, 94⟩) (fun w => match w with | Sum.inl _ => .ret | Sum.inr (_) => .exit 0) (fun w => match w with | Sum.inl e44 => ⟨envL [(6, .int .i64 0), (7, .int .i64 4)], heapL [], 0, 94⟩ | Sum.inr (e44) => ⟨envL [(1, .int .i64 lo_1), (2, .int .i64 hi_2), (8, .str z19), (9, .bool v9)], heapL [], 0, 94⟩) h105 (Wk.of (fun i => some i) _ _ _ (by simp -implicitDefEqProofs [kv, dd_GE, k17, k38]) (by simp -implicitDefEqProofs [kv, dd_GE, k17, k38])) (by intro w; rcases w with w | w <;> simp) ?_ ?_
          · clear h
            intro x43 y h
            unfold g_ref07_Number_s1 at h
            refine rb_seq ?_
            refine rb_seq ?_
            refine rb_regionK fun K76 hK76 => ?_
            simp -implicitDefEqProofs only [vt, ↓atI_fold, forall_const, implies_true, sevalprocAttr, dd_GE, k17, h22, h23, k38]
            subst hK76
            refine eb_seq ?_
            rcases ite_or h with ⟨k77, h⟩ | ⟨k77, h⟩
            · refine rb_true (by first | exact congrArg D.bool k77 | rfl) ?_
              refine rb_skip ?_
              refine eb_seq ?_
              refine rb_seq ?_
              refine rb_block ?_
              refine rb_seq ?_
              refine rb_regionK fun K96 hK96 => ?_
              simp -implicitDefEqProofs only [vt, ↓atI_fold, forall_const, implies_true, sevalprocAttr, dd_GE, k17, h22, h23, k38, k77]
              obtain ⟨b97, h98, h⟩ := bind_some h
              simp -implicitDefEqProofs only [vt, ↓atI_fold, forall_const, implies_true, sevalprocAttr, dd_GE, k17, h22, h23, k38, k77, h98]
              obtain ⟨r99, h100, h⟩ := bind_some h
              refine cW.intro (a_ref07_digit I hI (b97.toNat : Int) h100) (by first | rfl | (simp [List.map_append, dd_GE]; done)) ?_
              simp -implicitDefEqProofs only [vt, ↓atI_fold, forall_const, implies_true, sevalprocAttr, dd_GE, k17, h22, h23, k38, k77, h98]
              subst hK96
              refine eb_seq ?_
              rcases ite_or h with ⟨k101, h⟩ | ⟨k101, h⟩
              · refine rb_false (by first | exact congrArg D.bool (congrArg Bool.not k101) | rfl) ?_
                refine rb_skip ?_
                refine eb_blk_n ?_
                refine eb_seq ?_
                refine rb_regionK fun K102 hK102 => ?_
                simp -implicitDefEqProofs only [vt, ↓atI_fold, forall_const, implies_true, sevalprocAttr, dd_GE, k17, h22, h23, k38, k77, h98, k101]
                subst hK102
                obtain rfl := Option.some.inj h
                exact eb_nil ⟨rfl, Wk.of (fun i => some i) _ _ _ (by simp -implicitDefEqProofs [kv, dd_GE, k17, k38, k77, k101]) (by simp -implicitDefEqProofs [kv, dd_GE, k17, k38, k77, k101])⟩
              · refine rb_true (by first | exact congrArg D.bool (congrArg Bool.not k101) | rfl) ?_
                refine rb_seq ?_
                refine rb_regionK fun K104 hK104 => ?_
                simp -implicitDefEqProofs only [vt, ↓atI_fold, forall_const, implies_true, sevalprocAttr, dd_GE, k17, h22, h23, k38, k77, h98, k101]
                subst hK104
                refine eb_seq ?_
                refine rb_ret ?_
                refine eb_blk_r ?_
                refine eb_seq_r ?_
                obtain rfl := Option.some.inj h
                exact eb_nil ⟨rfl, Wk.of (fun i => some i) _ _ _ (by simp -implicitDefEqProofs [kv, dd_GE, k17, k38, k77, k101]) (by simp -implicitDefEqProofs [kv, dd_GE, k17, k38, k77, k101])⟩
            · refine rb_false (by first | exact congrArg D.bool k77 | rfl) ?_
              refine rb_exit ?_
              refine eb_seq_e ?_
              obtain rfl := Option.some.inj h
              exact eb_nil ⟨rfl, Wk.of (fun i => some i) _ _ _ (by simp -implicitDefEqProofs [kv, dd_GE, k17, k38, k77]) (by simp -implicitDefEqProofs [kv, dd_GE, k17, k38, k77])⟩
          · rcases e44 with e44 | e44
            · try dsimp only at h ⊢
              refine eb_blk_r ?_
              refine eb_seq_r ?_
              obtain rfl := Option.some.inj h
              refine eb_nil ?_
              simp -implicitDefEqProofs only [vt, ↓atI_fold, forall_const, implies_true, sevalprocAttr, retQ_r, Tryd.results50, dd_GE, k17, h22, h23, k38] <;> first | rfl | (simp [List.map_append, dd_GE]; done)
            · try dsimp only at h ⊢
              refine eb_blk_hit ?_
              refine eb_seq ?_
              refine rb_seq ?_
              refine rb_seq ?_
              refine rb_regionK fun K107 hK107 => ?_
              simp -implicitDefEqProofs only [vt, ↓atI_fold, forall_const, implies_true, sevalprocAttr, dd_GE, k17, h22, h23, k38]
              subst hK107
              refine eb_seq ?_
              rcases ite_or h with ⟨k108, h⟩ | ⟨k108, h⟩
              · refine rb_true (by first | exact congrArg D.bool k108 | rfl) ?_
                refine rb_seq ?_
                refine rb_regionK fun K110 hK110 => ?_
                simp -implicitDefEqProofs only [vt, ↓atI_fold, forall_const, implies_true, sevalprocAttr, dd_GE, k17, h22, h23, k38, k108]
                subst hK110
                refine eb_seq ?_
                refine rb_ret ?_
                refine eb_seq_r ?_
                obtain rfl := Option.some.inj h
                refine eb_nil ?_
                simp -implicitDefEqProofs only [vt, ↓atI_fold, forall_const, implies_true, sevalprocAttr, retQ_r, Tryd.results50, dd_GE, k17, h22, h23, k38, k108] <;> first | rfl | (simp [List.map_append, dd_GE]; done)
              · refine rb_false (by first | exact congrArg D.bool k108 | rfl) ?_
                refine rb_skip ?_
                refine eb_seq ?_
                refine rb_seq ?_
                refine rb_regionK fun K112 hK112 => ?_
                simp -implicitDefEqProofs only [vt, ↓atI_fold, forall_const, implies_true, sevalprocAttr, dd_GE, k17, h22, h23, k38, k108]
                subst hK112
                refine eb_seq ?_
                refine rb_seq ?_
                refine rb_seq ?_
                refine rb_regionK fun K114 hK114 => ?_
                simp -implicitDefEqProofs only [vt, ↓atI_fold, forall_const, implies_true, sevalprocAttr, dd_GE, k17, h22, h23, k38, k108]
                subst hK114
                refine eb_seq ?_
                refine rb_block ?_
                obtain ⟨e116, h137, h⟩ := bind_some h
                refine rb_loop (fun x115 => ⟨envL [(1, .int .i64 lo_1), (2, .int .i64 hi_2), (8, .str z19), (9, .bool v9), (11, .int .u64 x115.1), (12, .int .i64 x115.2)], heapL [], 0, 94⟩) (fun _ => .exit 2) (fun e116 => ⟨envL [(1, .int .i64 lo_1), (2, .int .i64 hi_2), (9, .bool v9), (11, .int .u64 e116)], heapL [], 0, 94⟩) h137 (Wk.of (fun i => some i) _ _ _ (by simp -implicitDefEqProofs [kv, dd_GE, k17, k38, k108]) (by simp -implicitDefEqProofs [kv, dd_GE, k17, k38, k108])) (by intro w; simp) ?_ ?_
                · clear h
                  intro x115 y h
                  unfold g_ref07_Number_s2 at h
                  refine rb_seq ?_
                  refine rb_seq ?_
                  refine rb_regionK fun K128 hK128 => ?_
                  simp -implicitDefEqProofs only [vt, ↓atI_fold, forall_const, implies_true, sevalprocAttr, dd_GE, k17, h22, h23, k38, k108]
                  subst hK128
                  refine eb_seq ?_
                  rcases ite_or h with ⟨k129, h⟩ | ⟨k129, h⟩
                  · refine rb_true (by first | exact congrArg D.bool k129 | rfl) ?_
                    refine rb_skip ?_
                    refine eb_seq ?_
                    refine rb_seq ?_
                    refine rb_block ?_
                    refine rb_regionK fun K133 hK133 => ?_
                    simp -implicitDefEqProofs only [vt, ↓atI_fold, forall_const, implies_true, sevalprocAttr, dd_GE, k17, h22, h23, k38, k108, k129]
                    obtain ⟨b134, h135, h⟩ := bind_some h
                    simp -implicitDefEqProofs only [vt, ↓atI_fold, forall_const, implies_true, sevalprocAttr, dd_GE, k17, h22, h23, k38, k108, k129, h135]
                    subst hK133
                    refine eb_blk_n ?_
                    refine eb_seq ?_
                    refine rb_regionK fun K136 hK136 => ?_
                    simp -implicitDefEqProofs only [vt, ↓atI_fold, forall_const, implies_true, sevalprocAttr, dd_GE, k17, h22, h23, k38, k108, k129, h135]
                    subst hK136
                    obtain rfl := Option.some.inj h
                    exact eb_nil ⟨rfl, Wk.of (fun i => some i) _ _ _ (by simp -implicitDefEqProofs [kv, dd_GE, k17, k38, k108, k129]) (by simp -implicitDefEqProofs [kv, dd_GE, k17, k38, k108, k129])⟩
                  · refine rb_false (by first | exact congrArg D.bool k129 | rfl) ?_
                    refine rb_exit ?_
                    refine eb_seq_e ?_
                    obtain rfl := Option.some.inj h
                    exact eb_nil ⟨rfl, Wk.of (fun i => some i) _ _ _ (by simp -implicitDefEqProofs [kv, dd_GE, k17, k38, k108, k129]) (by simp -implicitDefEqProofs [kv, dd_GE, k17, k38, k108, k129])⟩
                · refine eb_blk_hit ?_
                  refine eb_seq ?_
                  refine rb_seq ?_
                  obtain ⟨v140, h143, h⟩ := bind_some h
                  refine rb_cut (fun v140 => ⟨envL [(1, .int .i64 lo_1), (2, .int .i64 hi_2), (9, .bool v9), (11, .int .u64 e116), (79, .bool v140)], heapL [], 0, 94⟩) h143 ?_ ?_
                  · clear h
                    intro v140 h
                    refine rb_regionK fun K141 hK141 => ?_
                    simp -implicitDefEqProofs only [vt, ↓atI_fold, forall_const, implies_true, sevalprocAttr, dd_GE, k17, h22, h23, k38, k108]
                    rcases ite_or h with ⟨k142, h⟩ | ⟨k142, h⟩
                    · simp -implicitDefEqProofs only [vt, ↓atI_fold, forall_const, implies_true, sevalprocAttr, dd_GE, k17, h22, h23, k38, k108, k142]
                      subst hK141
                      obtain rfl := Option.some.inj h
                      exact eb_nil ⟨rfl, Wk.of (fun i => some i) _ _ _ (by simp -implicitDefEqProofs [kv, dd_GE, k17, k38, k108, k142]) (by simp -implicitDefEqProofs [kv, dd_GE, k17, k38, k108, k142])⟩
                    · simp -implicitDefEqProofs only [vt, ↓atI_fold, forall_const, implies_true, sevalprocAttr, dd_GE, k17, h22, h23, k38, k108, k142]
                      subst hK141
                      obtain rfl := Option.some.inj h
                      exact eb_nil ⟨rfl, Wk.of (fun i => some i) _ _ _ (by simp -implicitDefEqProofs [kv, dd_GE, k17, k38, k108, k142]) (by simp -implicitDefEqProofs [kv, dd_GE, k17, k38, k108, k142])⟩
                  · rcases ite_or h with ⟨k144, h⟩ | ⟨k144, h⟩
                    · refine rb_true (by first | exact congrArg D.bool k144 | rfl) ?_
                      refine rb_seq ?_
                      refine rb_regionK fun K146 hK146 => ?_
                      simp -implicitDefEqProofs only [vt, ↓atI_fold, forall_const, implies_true, sevalprocAttr, dd_GE, k17, h22, h23, k38, k108, k144]
                      subst hK146
                      refine eb_seq ?_
                      refine rb_ret ?_
                      refine eb_seq_r ?_
                      obtain rfl := Option.some.inj h
                      refine eb_nil ?_
                      simp -implicitDefEqProofs only [vt, ↓atI_fold, forall_const, implies_true, sevalprocAttr, retQ_r, Tryd.results50, dd_GE, k17, h22, h23, k38, k108, k144] <;> first | rfl | (simp [List.map_append, dd_GE]; done)
                    · refine rb_false (by first | exact congrArg D.bool k144 | rfl) ?_
                      refine rb_skip ?_
                      refine eb_seq ?_
                      refine rb_seq ?_
                      refine rb_regionK fun K148 hK148 => ?_
                      simp -implicitDefEqProofs only [vt, ↓atI_fold, forall_const, implies_true, sevalprocAttr, dd_GE, k17, h22, h23, k38, k108, k144]
                      subst hK148
                      refine eb_seq ?_
                      refine rb_seq ?_
                      refine rb_seq ?_
                      refine rb_regionK fun K150 hK150 => ?_
                      simp -implicitDefEqProofs only [vt, ↓atI_fold, forall_const, implies_true, sevalprocAttr, dd_GE, k17, h22, h23, k38, k108, k144]
                      subst hK150
                      refine eb_seq ?_
                      refine rb_true (by first | exact congrArg D.bool k17 | rfl) ?_
                      refine rb_regionK fun K151 hK151 => ?_
                      simp -implicitDefEqProofs only [vt, ↓atI_fold, forall_const, implies_true, sevalprocAttr, dd_GE, k17, h22, h23, k38, k108, k144]
                      subst hK151
                      refine eb_seq ?_
                      refine rb_seq ?_
                      refine rb_seq ?_
                      refine rb_regionK fun K154 hK154 => ?_
                      simp -implicitDefEqProofs only [vt, ↓atI_fold, forall_const, implies_true, sevalprocAttr, dd_GE, k17, h22, h23, k38, k108, k144]
                      rcases ite_or h with ⟨k155, h⟩ | ⟨k155, h⟩
                      · simp -implicitDefEqProofs only [vt, ↓atI_fold, forall_const, implies_true, sevalprocAttr, dd_GE, k17, h22, h23, k38, k108, k144, k155]
                        subst hK154
                        refine eb_seq ?_
                        refine rb_true (rfl) ?_
                        refine rb_seq ?_
                        refine rb_regionK fun K157 hK157 => ?_
                        simp -implicitDefEqProofs only [vt, ↓atI_fold, forall_const, implies_true, sevalprocAttr, dd_GE, k17, h22, h23, k38, k108, k144, k155]
                        subst hK157
                        refine eb_seq ?_
                        refine rb_ret ?_
                        refine eb_seq_r ?_
                        obtain rfl := Option.some.inj h
                        refine eb_nil ?_
                        simp -implicitDefEqProofs only [vt, ↓atI_fold, forall_const, implies_true, sevalprocAttr, retQ_r, Tryd.results50, dd_GE, k17, h22, h23, k38, k108, k144, k155] <;> first | rfl | (simp [List.map_append, dd_GE]; done)
                      · simp -implicitDefEqProofs only [vt, ↓atI_fold, forall_const, implies_true, sevalprocAttr, dd_GE, k17, h22, h23, k38, k108, k144, k155]
                        subst hK154
                        refine eb_seq ?_
                        rcases ite_or h with ⟨k158, h⟩ | ⟨k158, h⟩
                        · refine rb_true (by first | exact congrArg D.bool k158 | rfl) ?_
                          refine rb_seq ?_
                          refine rb_regionK fun K160 hK160 => ?_
                          simp -implicitDefEqProofs only [vt, ↓atI_fold, forall_const, implies_true, sevalprocAttr, dd_GE, k17, h22, h23, k38, k108, k144, k155, k158]
                          subst hK160
                          refine eb_seq ?_
                          refine rb_ret ?_
                          refine eb_seq_r ?_
                          obtain rfl := Option.some.inj h
                          refine eb_nil ?_
                          simp -implicitDefEqProofs only [vt, ↓atI_fold, forall_const, implies_true, sevalprocAttr, retQ_r, Tryd.results50, dd_GE, k17, h22, h23, k38, k108, k144, k155, k158] <;> first | rfl | (simp [List.map_append, dd_GE]; done)
                        · refine rb_false (by first | exact congrArg D.bool k158 | rfl) ?_
                          refine rb_skip ?_
                          refine eb_seq ?_
                          refine rb_seq ?_
                          refine rb_regionK fun K162 hK162 => ?_
                          simp -implicitDefEqProofs only [vt, ↓atI_fold, forall_const, implies_true, sevalprocAttr, dd_GE, k17, h22, h23, k38, k108, k144, k155, k158]
                          subst hK162
                          refine eb_seq ?_
                          refine rb_ret ?_
                          obtain rfl := Option.some.inj h
                          refine eb_nil ?_
                          simp -implicitDefEqProofs only [vt, ↓atI_fold, forall_const, implies_true, sevalprocAttr, retQ_r, Tryd.results50, dd_GE, k17, h22, h23, k38, k108, k144, k155, k158] <;> first | rfl | (simp [List.map_append, dd_GE]; done)
    · refine rb_false (by first | exact congrArg D.bool k17 | rfl) ?_
      refine rb_skip ?_
      refine eb_seq ?_
      refine rb_seq ?_
      obtain ⟨v169, h176, h⟩ := bind_some h
      refine rb_cut (fun v169 => ⟨envL [(1, .int .i64 lo_1), (2, .int .i64 hi_2), (8, .str s_0), (9, .bool v9), (41, .bool v169)], heapL [], 0, 94⟩) h176 ?_ ?_
      · clear h
        intro v169 h
        refine rb_regionK fun K170 hK170 => ?_
        simp -implicitDefEqProofs only [vt, ↓atI_fold, forall_const, implies_true, sevalprocAttr, dd_GE, k17]
        rcases ite_or h with ⟨k171, h⟩ | ⟨k171, h⟩
        · simp -implicitDefEqProofs only [vt, ↓atI_fold, forall_const, implies_true, sevalprocAttr, dd_GE, k17, k171]
          subst hK170
          obtain rfl := Option.some.inj h
          exact eb_nil ⟨rfl, Wk.of (fun i => some i) _ _ _ (by simp -implicitDefEqProofs [kv, dd_GE, k17, k171]) (by simp -implicitDefEqProofs [kv, dd_GE, k17, k171])⟩
        · simp -implicitDefEqProofs only [vt, ↓atI_fold, forall_const, implies_true, sevalprocAttr, dd_GE, k17, k171]
          obtain ⟨b172, h173, h⟩ := bind_some h
          simp -implicitDefEqProofs only [vt, ↓atI_fold, forall_const, implies_true, sevalprocAttr, dd_GE, k17, k171, h173]
          rcases ite_or h with ⟨k174, h⟩ | ⟨k174, h⟩
          · simp -implicitDefEqProofs only [vt, ↓atI_fold, forall_const, implies_true, sevalprocAttr, dd_GE, k17, k171, h173, k174]
            rcases ite_or h with ⟨k175, h⟩ | ⟨k175, h⟩
            · simp -implicitDefEqProofs only [vt, ↓atI_fold, forall_const, implies_true, sevalprocAttr, dd_GE, k17, k171, h173, k174, k175]
              subst hK170
              obtain rfl := Option.some.inj h
              exact eb_nil ⟨rfl, Wk.of (fun i => some i) _ _ _ (by simp -implicitDefEqProofs [kv, dd_GE, k17, k171, k174, k175]) (by simp -implicitDefEqProofs [kv, dd_GE, k17, k171, k174, k175])⟩
            · simp -implicitDefEqProofs only [vt, ↓atI_fold, forall_const, implies_true, sevalprocAttr, dd_GE, k17, k171, h173, k174, k175]
              subst hK170
              obtain rfl := Option.some.inj h
              exact eb_nil ⟨rfl, Wk.of (fun i => some i) _ _ _ (by simp -implicitDefEqProofs [kv, dd_GE, k17, k171, k174, k175]) (by simp -implicitDefEqProofs [kv, dd_GE, k17, k171, k174, k175])⟩
          · simp -implicitDefEqProofs only [vt, ↓atI_fold, forall_const, implies_true, sevalprocAttr, dd_GE, k17, k171, h173, k174]
            subst hK170
            obtain rfl := Option.some.inj h
            exact eb_nil ⟨rfl, Wk.of (fun i => some i) _ _ _ (by simp -implicitDefEqProofs [kv, dd_GE, k17, k171, k174]) (by simp -implicitDefEqProofs [kv, dd_GE, k17, k171, k174])⟩
      · rcases ite_or h with ⟨k177, h⟩ | ⟨k177, h⟩
        · refine rb_true (by first | exact congrArg D.bool k177 | rfl) ?_
          refine rb_seq ?_
          refine rb_regionK fun K179 hK179 => ?_
          simp -implicitDefEqProofs only [vt, ↓atI_fold, forall_const, implies_true, sevalprocAttr, dd_GE, k17, k177]
          subst hK179
          refine eb_seq ?_
          refine rb_ret ?_
          refine eb_seq_r ?_
          obtain rfl := Option.some.inj h
          refine eb_nil ?_
          simp -implicitDefEqProofs only [vt, ↓atI_fold, forall_const, implies_true, sevalprocAttr, retQ_r, Tryd.results50, dd_GE, k17, k177] <;> first | rfl | (simp [List.map_append, dd_GE]; done)
        · refine rb_false (by first | exact congrArg D.bool k177 | rfl) ?_
          refine rb_skip ?_
          refine eb_seq ?_
          refine rb_seq ?_
          refine rb_seq ?_
          refine rb_regionK fun K181 hK181 => ?_
          simp -implicitDefEqProofs only [vt, ↓atI_fold, forall_const, implies_true, sevalprocAttr, dd_GE, k17, k177]
          subst hK181
          refine eb_seq ?_
          refine rb_block ?_
          obtain ⟨e183, h244, h⟩ := bind_some h
          refine rb_loop (fun x182 => ⟨envL [(1, .int .i64 lo_1), (2, .int .i64 hi_2), (8, .str s_0), (9, .bool v9), (10, .int .i64 x182)], heapL [], 0, 94⟩) (fun w => match w with | Sum.inl _ => .ret | Sum.inr (_) => .exit 0) (fun w => match w with | Sum.inl e183 => ⟨envL [(6, .int .i64 0), (7, .int .i64 4)], heapL [], 0, 94⟩ | Sum.inr (e183) => ⟨envL [(1, .int .i64 lo_1), (2, .int .i64 hi_2), (8, .str s_0), (9, .bool v9)], heapL [], 0, 94⟩) h244 (Wk.of (fun i => some i) _ _ _ (by simp -implicitDefEqProofs [kv, dd_GE, k17, k177]) (by simp -implicitDefEqProofs [kv, dd_GE, k17, k177])) (by intro w; rcases w with w | w <;> simp) ?_ ?_
          · clear h
            intro x182 y h
            unfold g_ref07_Number_s3 at h
            refine rb_seq ?_
            refine rb_seq ?_
            refine rb_regionK fun K215 hK215 => ?_
            simp -implicitDefEqProofs only [vt, ↓atI_fold, forall_const, implies_true, sevalprocAttr, dd_GE, k17, k177]
            subst hK215
            refine eb_seq ?_
            rcases ite_or h with ⟨k216, h⟩ | ⟨k216, h⟩
            · refine rb_true (by first | exact congrArg D.bool k216 | rfl) ?_
              refine rb_skip ?_
              refine eb_seq ?_
              refine rb_seq ?_
              refine rb_block ?_
              refine rb_seq ?_
              refine rb_regionK fun K235 hK235 => ?_
              simp -implicitDefEqProofs only [vt, ↓atI_fold, forall_const, implies_true, sevalprocAttr, dd_GE, k17, k177, k216]
              obtain ⟨b236, h237, h⟩ := bind_some h
              simp -implicitDefEqProofs only [vt, ↓atI_fold, forall_const, implies_true, sevalprocAttr, dd_GE, k17, k177, k216, h237]
              obtain ⟨r238, h239, h⟩ := bind_some h
              refine cW.intro (a_ref07_digit I hI (b236.toNat : Int) h239) (by first | rfl | (simp [List.map_append, dd_GE]; done)) ?_
              simp -implicitDefEqProofs only [vt, ↓atI_fold, forall_const, implies_true, sevalprocAttr, dd_GE, k17, k177, k216, h237]
              subst hK235
              refine eb_seq ?_
              rcases ite_or h with ⟨k240, h⟩ | ⟨k240, h⟩
              · refine rb_false (by first | exact congrArg D.bool (congrArg Bool.not k240) | rfl) ?_
                refine rb_skip ?_
                refine eb_blk_n ?_
                refine eb_seq ?_
                refine rb_regionK fun K241 hK241 => ?_
                simp -implicitDefEqProofs only [vt, ↓atI_fold, forall_const, implies_true, sevalprocAttr, dd_GE, k17, k177, k216, h237, k240]
                subst hK241
                obtain rfl := Option.some.inj h
                exact eb_nil ⟨rfl, Wk.of (fun i => some i) _ _ _ (by simp -implicitDefEqProofs [kv, dd_GE, k17, k177, k216, k240]) (by simp -implicitDefEqProofs [kv, dd_GE, k17, k177, k216, k240])⟩
              · refine rb_true (by first | exact congrArg D.bool (congrArg Bool.not k240) | rfl) ?_
                refine rb_seq ?_
                refine rb_regionK fun K243 hK243 => ?_
                simp -implicitDefEqProofs only [vt, ↓atI_fold, forall_const, implies_true, sevalprocAttr, dd_GE, k17, k177, k216, h237, k240]
                subst hK243
                refine eb_seq ?_
                refine rb_ret ?_
                refine eb_blk_r ?_
                refine eb_seq_r ?_
                obtain rfl := Option.some.inj h
                exact eb_nil ⟨rfl, Wk.of (fun i => some i) _ _ _ (by simp -implicitDefEqProofs [kv, dd_GE, k17, k177, k216, k240]) (by simp -implicitDefEqProofs [kv, dd_GE, k17, k177, k216, k240])⟩
            · refine rb_false (by first | exact congrArg D.bool k216 | rfl) ?_
              refine rb_exit ?_
              refine eb_seq_e ?_
              obtain rfl := Option.some.inj h
              exact eb_nil ⟨rfl, Wk.of (fun i => some i) _ _ _ (by simp -implicitDefEqProofs [kv, dd_GE, k17, k177, k216]) (by simp -implicitDefEqProofs [kv, dd_GE, k17, k177, k216])⟩
          · rcases e183 with e183 | e183
            · try dsimp only at h ⊢
              refine eb_blk_r ?_
              refine eb_seq_r ?_
              obtain rfl := Option.some.inj h
              refine eb_nil ?_
              simp -implicitDefEqProofs only [vt, ↓atI_fold, forall_const, implies_true, sevalprocAttr, retQ_r, Tryd.results50, dd_GE, k17, k177] <;> first | rfl | (simp [List.map_append, dd_GE]; done)
            · try dsimp only at h ⊢
              refine eb_blk_hit ?_
              refine eb_seq ?_
              refine rb_seq ?_
              refine rb_seq ?_
              refine rb_regionK fun K246 hK246 => ?_
              simp -implicitDefEqProofs only [vt, ↓atI_fold, forall_const, implies_true, sevalprocAttr, dd_GE, k17, k177]
              subst hK246
              refine eb_seq ?_
              rcases ite_or h with ⟨k247, h⟩ | ⟨k247, h⟩
              · refine rb_true (by first | exact congrArg D.bool k247 | rfl) ?_
                refine rb_seq ?_
                refine rb_regionK fun K249 hK249 => ?_
                simp -implicitDefEqProofs only [vt, ↓atI_fold, forall_const, implies_true, sevalprocAttr, dd_GE, k17, k177, k247]
                subst hK249
                refine eb_seq ?_
                refine rb_ret ?_
                refine eb_seq_r ?_
                obtain rfl := Option.some.inj h
                refine eb_nil ?_
                simp -implicitDefEqProofs only [vt, ↓atI_fold, forall_const, implies_true, sevalprocAttr, retQ_r, Tryd.results50, dd_GE, k17, k177, k247] <;> first | rfl | (simp [List.map_append, dd_GE]; done)
              · refine rb_false (by first | exact congrArg D.bool k247 | rfl) ?_
                refine rb_skip ?_
                refine eb_seq ?_
                refine rb_seq ?_
                refine rb_regionK fun K251 hK251 => ?_
                simp -implicitDefEqProofs only [vt, ↓atI_fold, forall_const, implies_true, sevalprocAttr, dd_GE, k17, k177, k247]
                subst hK251
                refine eb_seq ?_
                refine rb_seq ?_
                refine rb_seq ?_
                refine rb_regionK fun K253 hK253 => ?_
                simp -implicitDefEqProofs only [vt, ↓atI_fold, forall_const, implies_true, sevalprocAttr, dd_GE, k17, k177, k247]
                subst hK253
                refine eb_seq ?_
                refine rb_block ?_
                obtain ⟨e255, h276, h⟩ := bind_some h
                refine rb_loop (fun x254 => ⟨envL [(1, .int .i64 lo_1), (2, .int .i64 hi_2), (8, .str s_0), (9, .bool v9), (11, .int .u64 x254.1), (12, .int .i64 x254.2)], heapL [], 0, 94⟩) (fun _ => .exit 2) (fun e255 => ⟨envL [(1, .int .i64 lo_1), (2, .int .i64 hi_2), (9, .bool v9), (11, .int .u64 e255)], heapL [], 0, 94⟩) h276 (Wk.of (fun i => some i) _ _ _ (by simp -implicitDefEqProofs [kv, dd_GE, k17, k177, k247]) (by simp -implicitDefEqProofs [kv, dd_GE, k17, k177, k247])) (by intro w; simp) ?_ ?_
                · clear h
                  intro x254 y h
                  unfold g_ref07_Number_s4 at h
                  refine rb_seq ?_
                  refine rb_seq ?_
                  refine rb_regionK fun K267 hK267 => ?_
                  simp -implicitDefEqProofs only [vt, ↓atI_fold, forall_const, implies_true, sevalprocAttr, dd_GE, k17, k177, k247]
                  subst hK267
                  refine eb_seq ?_
                  rcases ite_or h with ⟨k268, h⟩ | ⟨k268, h⟩
                  · refine rb_true (by first | exact congrArg D.bool k268 | rfl) ?_
                    refine rb_skip ?_
                    refine eb_seq ?_
                    refine rb_seq ?_
                    refine rb_block ?_
                    refine rb_regionK fun K272 hK272 => ?_
                    simp -implicitDefEqProofs only [vt, ↓atI_fold, forall_const, implies_true, sevalprocAttr, dd_GE, k17, k177, k247, k268]
                    obtain ⟨b273, h274, h⟩ := bind_some h
                    simp -implicitDefEqProofs only [vt, ↓atI_fold, forall_const, implies_true, sevalprocAttr, dd_GE, k17, k177, k247, k268, h274]
                    subst hK272
                    refine eb_blk_n ?_
                    refine eb_seq ?_
                    refine rb_regionK fun K275 hK275 => ?_
                    simp -implicitDefEqProofs only [vt, ↓atI_fold, forall_const, implies_true, sevalprocAttr, dd_GE, k17, k177, k247, k268, h274]
                    subst hK275
                    obtain rfl := Option.some.inj h
                    exact eb_nil ⟨rfl, Wk.of (fun i => some i) _ _ _ (by simp -implicitDefEqProofs [kv, dd_GE, k17, k177, k247, k268]) (by simp -implicitDefEqProofs [kv, dd_GE, k17, k177, k247, k268])⟩
                  · refine rb_false (by first | exact congrArg D.bool k268 | rfl) ?_
                    refine rb_exit ?_
                    refine eb_seq_e ?_
                    obtain rfl := Option.some.inj h
                    exact eb_nil ⟨rfl, Wk.of (fun i => some i) _ _ _ (by simp -implicitDefEqProofs [kv, dd_GE, k17, k177, k247, k268]) (by simp -implicitDefEqProofs [kv, dd_GE, k17, k177, k247, k268])⟩
                · refine eb_blk_hit ?_
                  refine eb_seq ?_
                  refine rb_seq ?_
                  obtain ⟨v279, h282, h⟩ := bind_some h
                  refine rb_cut (fun v279 => ⟨envL [(1, .int .i64 lo_1), (2, .int .i64 hi_2), (9, .bool v9), (11, .int .u64 e255), (79, .bool v279)], heapL [], 0, 94⟩) h282 ?_ ?_
                  · clear h
                    intro v279 h
                    refine rb_regionK fun K280 hK280 => ?_
                    simp -implicitDefEqProofs only [vt, ↓atI_fold, forall_const, implies_true, sevalprocAttr, dd_GE, k17, k177, k247]
                    rcases ite_or h with ⟨k281, h⟩ | ⟨k281, h⟩
                    · simp -implicitDefEqProofs only [vt, ↓atI_fold, forall_const, implies_true, sevalprocAttr, dd_GE, k17, k177, k247, k281]
                      subst hK280
                      obtain rfl := Option.some.inj h
                      exact eb_nil ⟨rfl, Wk.of (fun i => some i) _ _ _ (by simp -implicitDefEqProofs [kv, dd_GE, k17, k177, k247, k281]) (by simp -implicitDefEqProofs [kv, dd_GE, k17, k177, k247, k281])⟩
                    · simp -implicitDefEqProofs only [vt, ↓atI_fold, forall_const, implies_true, sevalprocAttr, dd_GE, k17, k177, k247, k281]
                      subst hK280
                      obtain rfl := Option.some.inj h
                      exact eb_nil ⟨rfl, Wk.of (fun i => some i) _ _ _ (by simp -implicitDefEqProofs [kv, dd_GE, k17, k177, k247, k281]) (by simp -implicitDefEqProofs [kv, dd_GE, k17, k177, k247, k281])⟩
                  · rcases ite_or h with ⟨k283, h⟩ | ⟨k283, h⟩
                    · refine rb_true (by first | exact congrArg D.bool k283 | rfl) ?_
                      refine rb_seq ?_
                      refine rb_regionK fun K285 hK285 => ?_
                      simp -implicitDefEqProofs only [vt, ↓atI_fold, forall_const, implies_true, sevalprocAttr, dd_GE, k17, k177, k247, k283]
                      subst hK285
                      refine eb_seq ?_
                      refine rb_ret ?_
                      refine eb_seq_r ?_
                      obtain rfl := Option.some.inj h
                      refine eb_nil ?_
                      simp -implicitDefEqProofs only [vt, ↓atI_fold, forall_const, implies_true, sevalprocAttr, retQ_r, Tryd.results50, dd_GE, k17, k177, k247, k283] <;> first | rfl | (simp [List.map_append, dd_GE]; done)
                    · refine rb_false (by first | exact congrArg D.bool k283 | rfl) ?_
                      refine rb_skip ?_
                      refine eb_seq ?_
                      refine rb_seq ?_
                      refine rb_regionK fun K287 hK287 => ?_
                      simp -implicitDefEqProofs only [vt, ↓atI_fold, forall_const, implies_true, sevalprocAttr, dd_GE, k17, k177, k247, k283]
                      subst hK287
                      refine eb_seq ?_
                      refine rb_seq ?_
                      refine rb_seq ?_
                      refine rb_regionK fun K289 hK289 => ?_
                      simp -implicitDefEqProofs only [vt, ↓atI_fold, forall_const, implies_true, sevalprocAttr, dd_GE, k17, k177, k247, k283]
                      subst hK289
                      refine eb_seq ?_
                      refine rb_false (by first | exact congrArg D.bool k17 | rfl) ?_
                      refine rb_skip ?_
                      refine eb_seq ?_
                      refine rb_seq ?_
                      refine rb_seq ?_
                      refine rb_regionK fun K292 hK292 => ?_
                      simp -implicitDefEqProofs only [vt, ↓atI_fold, forall_const, implies_true, sevalprocAttr, dd_GE, k17, k177, k247, k283]
                      rcases ite_or h with ⟨k293, h⟩ | ⟨k293, h⟩
                      · simp -implicitDefEqProofs only [vt, ↓atI_fold, forall_const, implies_true, sevalprocAttr, dd_GE, k17, k177, k247, k283, k293]
                        subst hK292
                        refine eb_seq ?_
                        refine rb_true (rfl) ?_
                        refine rb_seq ?_
                        refine rb_regionK fun K295 hK295 => ?_
                        simp -implicitDefEqProofs only [vt, ↓atI_fold, forall_const, implies_true, sevalprocAttr, dd_GE, k17, k177, k247, k283, k293]
                        subst hK295
                        refine eb_seq ?_
                        refine rb_ret ?_
                        refine eb_seq_r ?_
                        obtain rfl := Option.some.inj h
                        refine eb_nil ?_
                        simp -implicitDefEqProofs only [vt, ↓atI_fold, forall_const, implies_true, sevalprocAttr, retQ_r, Tryd.results50, dd_GE, k17, k177, k247, k283, k293] <;> first | rfl | (simp [List.map_append, dd_GE]; done)
                      · simp -implicitDefEqProofs only [vt, ↓atI_fold, forall_const, implies_true, sevalprocAttr, dd_GE, k17, k177, k247, k283, k293]
                        subst hK292
                        refine eb_seq ?_
                        rcases ite_or h with ⟨k296, h⟩ | ⟨k296, h⟩
                        · refine rb_true (by first | exact congrArg D.bool k296 | rfl) ?_
                          refine rb_seq ?_
                          refine rb_regionK fun K298 hK298 => ?_
                          simp -implicitDefEqProofs only [vt, ↓atI_fold, forall_const, implies_true, sevalprocAttr, dd_GE, k17, k177, k247, k283, k293, k296]
                          subst hK298
                          refine eb_seq ?_
                          refine rb_ret ?_
                          refine eb_seq_r ?_
                          obtain rfl := Option.some.inj h
                          refine eb_nil ?_
                          simp -implicitDefEqProofs only [vt, ↓atI_fold, forall_const, implies_true, sevalprocAttr, retQ_r, Tryd.results50, dd_GE, k17, k177, k247, k283, k293, k296] <;> first | rfl | (simp [List.map_append, dd_GE]; done)
                        · refine rb_false (by first | exact congrArg D.bool k296 | rfl) ?_
                          refine rb_skip ?_
                          refine eb_seq ?_
                          refine rb_seq ?_
                          refine rb_regionK fun K300 hK300 => ?_
                          simp -implicitDefEqProofs only [vt, ↓atI_fold, forall_const, implies_true, sevalprocAttr, dd_GE, k17, k177, k247, k283, k293, k296]
                          subst hK300
                          refine eb_seq ?_
                          refine rb_ret ?_
                          obtain rfl := Option.some.inj h
                          refine eb_nil ?_
                          simp -implicitDefEqProofs only [vt, ↓atI_fold, forall_const, implies_true, sevalprocAttr, retQ_r, Tryd.results50, dd_GE, k17, k177, k247, k283, k293, k296] <;> first | rfl | (simp [List.map_append, dd_GE]; done)
-- captionerref07.Decimal
def g_ref07_Decimal_s1  (x64 : Int × (List UInt8)) : Option (Nx (Int × (List UInt8)) (Int × (List UInt8))) :=
  (if (decide (10 ≤ x64.1)) then ((subI ([48, 49, 50, 51, 52, 53, 54, 55, 56, 57] : List UInt8) (Int.tmod x64.1 10) (IntKind.u64.wrap ((Int.tmod x64.1 10) + 1))).bind fun z104 => (if z104.length + x64.2.length ≤ 9223372036854775807 then (some (.go ((IntKind.u64.wrap (Int.tdiv x64.1 10)), (z104 ++ x64.2)))) else none)) else (some (.out (x64.1, x64.2))))
def g_ref07_Decimal_s2  (x194 : Int × (List UInt8)) : Option (Nx (Int × (List UInt8)) (Int × (List UInt8))) :=
  (if (decide (10 ≤ x194.1)) then ((subI ([48, 49, 50, 51, 52, 53, 54, 55, 56, 57] : List UInt8) (Int.tmod x194.1 10) (IntKind.u64.wrap ((Int.tmod x194.1 10) + 1))).bind fun z234 => (if z234.length + x194.2.length ≤ 9223372036854775807 then (some (.go ((IntKind.u64.wrap (Int.tdiv x194.1 10)), (z234 ++ x194.2)))) else none)) else (some (.out (x194.1, x194.2))))
def g_ref07_Decimal (n_0 : Int) : Option ((List UInt8)) :=
  (if (decide (n_0 < 0)) then ((iter (g_ref07_Decimal_s1) ((IntKind.u64.wrap (0 - (IntKind.u64.wrap n_0))), [])).bind fun e65 => ((subI ([48, 49, 50, 51, 52, 53, 54, 55, 56, 57] : List UInt8) e65.1 (IntKind.u64.wrap (e65.1 + 1))).bind fun z128 => (if 1 + z128.length ≤ 9223372036854775807 then (if (1 + z128.length) + e65.2.length ≤ 9223372036854775807 then (some (([45] ++ z128) ++ e65.2)) else none) else none))) else ((iter (g_ref07_Decimal_s2) ((IntKind.u64.wrap n_0), [])).bind fun e195 => ((subI ([48, 49, 50, 51, 52, 53, 54, 55, 56, 57] : List UInt8) e195.1 (IntKind.u64.wrap (e195.1 + 1))).bind fun z258 => (if 0 + z258.length ≤ 9223372036854775807 then (if (0 + z258.length) + e195.2.length ≤ 9223372036854775807 then (some (([] ++ z258) ++ e195.2)) else none) else none))))
theorem a_ref07_Decimal (I : World → Prop) (hI : Stab I) (n_0 : Int) {r : (List UInt8)} (h : g_ref07_Decimal n_0 = some r) : AFun Tryd.prog I 54 [.int .i64 n_0] (.str r) := by
  refine AFun.enterB hI Tryd.func54 rfl (by decide) (by simp [Tryd.f54]) (by kernel_rfl) ?_
  unfold g_ref07_Decimal at h
  simp only [S0, Tryd.ntmps54, dd_GE]
  refine rb_seq ?_
  refine rb_regionK fun K2 hK2 => ?_
  simp -implicitDefEqProofs only [vt, ↓atI_fold, forall_const, implies_true, sevalprocAttr, dd_GE]
  subst hK2
  refine eb_seq ?_
  refine rb_seq ?_
  refine rb_regionK fun K4 hK4 => ?_
  simp -implicitDefEqProofs only [vt, ↓atI_fold, forall_const, implies_true, sevalprocAttr, dd_GE]
  subst hK4
  refine eb_seq ?_
  refine rb_seq ?_
  refine rb_seq ?_
  refine rb_regionK fun K6 hK6 => ?_
  simp -implicitDefEqProofs only [vt, ↓atI_fold, forall_const, implies_true, sevalprocAttr, dd_GE]
  subst hK6
  refine eb_seq ?_
  rcases ite_or h with ⟨k7, h⟩ | ⟨k7, h⟩
  · refine rb_true (by first | exact congrArg D.bool k7 | rfl) ?_
    refine rb_regionK fun K8 hK8 => ?_
    simp -implicitDefEqProofs only [vt, ↓atI_fold, forall_const, implies_true, sevalprocAttr, dd_GE, k7]
    subst hK8
    refine eb_seq ?_
    refine rb_seq ?_
    refine rb_regionK fun K10 hK10 => ?_
    simp -implicitDefEqProofs only [vt, ↓atI_fold, forall_const, implies_true, sevalprocAttr, dd_GE, k7]
    subst hK10
    refine eb_seq ?_
    refine rb_seq ?_
    refine rb_regionK fun K12 hK12 => ?_
    simp -implicitDefEqProofs only [vt, ↓atI_fold, forall_const, implies_true, sevalprocAttr, dd_GE, k7]
    subst hK12
    refine eb_seq ?_
    refine rb_seq ?_
    refine rb_block ?_
    obtain ⟨e65, h114, h⟩ := bind_some h
    refine rb_loop (fun x64 => ⟨envL [(3, .int .u64 x64.1), (4, .str [45]), (5, .str [48, 49, 50, 51, 52, 53, 54, 55, 56, 57]), (6, .str x64.2)], heapL [], 0, 35⟩) (fun _ => .exit 0) (fun e65 => ⟨envL [(3, .int .u64 e65.1), (4, .str [45]), (5, .str [48, 49, 50, 51, 52, 53, 54, 55, 56, 57]), (6, .str e65.2)], heapL [], 0, 35⟩) h114 (Wk.of (fun i => some i) _ _ _ (by simp -implicitDefEqProofs [kv, dd_GE, k7]) (by simp -implicitDefEqProofs [kv, dd_GE, k7])) (by intro w; simp) ?_ ?_
    · clear h
      intro x64 y h
      unfold g_ref07_Decimal_s1 at h
      refine rb_seq ?_
      refine rb_seq ?_
      refine rb_regionK fun K91 hK91 => ?_
      simp -implicitDefEqProofs only [vt, ↓atI_fold, forall_const, implies_true, sevalprocAttr, dd_GE, k7]
      subst hK91
      refine eb_seq ?_
      rcases ite_or h with ⟨k92, h⟩ | ⟨k92, h⟩
      · refine rb_true (by first | exact congrArg D.bool k92 | rfl) ?_
        refine rb_skip ?_
        refine eb_seq ?_
        refine rb_block ?_
        refine rb_seq ?_
        refine rb_regionK fun K103 hK103 => ?_
        simp -implicitDefEqProofs only [vt, ↓atI_fold, forall_const, implies_true, sevalprocAttr, dd_GE, k7, k92]
        obtain ⟨z104, h105, h⟩ := bind_some h
        obtain ⟨⟨h106, h107, h108, h109⟩, h110⟩ := subI_some h105
        try simp only [List.length_cons, List.length_nil, Nat.zero_add, Nat.reduceAdd, Int.reduceToNat] at h106
        try simp only [List.length_cons, List.length_nil, Nat.zero_add, Nat.reduceAdd, Int.reduceToNat] at h107
        try simp only [List.length_cons, List.length_nil, Nat.zero_add, Nat.reduceAdd, Int.reduceToNat] at h108
        try simp only [List.length_cons, List.length_nil, Nat.zero_add, Nat.reduceAdd, Int.reduceToNat] at h109
        try simp -implicitDefEqProofs only [vt, ↓atI_fold, forall_const, implies_true, sevalprocAttr, dd_GE, k7, k92, h106, h107, h108, h109] at h110
        simp -implicitDefEqProofs only [vt, ↓atI_fold, forall_const, implies_true, sevalprocAttr, dd_GE, k7, k92, h106, h107, h108, h109, h110]
        obtain ⟨h111, h⟩ := ite_on h
        have h112 : z104.length + x64.2.length ≤ 9223372036854775807 := by (try simp only [List.length_append, List.length_cons, List.length_nil]); omega
        try simp -implicitDefEqProofs only [vt, ↓atI_fold, forall_const, implies_true, sevalprocAttr, dd_GE, k7, k92, h106, h107, h108, h109, h110] at h112
        simp -implicitDefEqProofs only [vt, ↓atI_fold, forall_const, implies_true, sevalprocAttr, dd_GE, k7, k92, h106, h107, h108, h109, h110, h112, h111]
        subst hK103
        refine eb_seq ?_
        refine rb_regionK fun K113 hK113 => ?_
        simp -implicitDefEqProofs only [vt, ↓atI_fold, forall_const, implies_true, sevalprocAttr, dd_GE, k7, k92, h106, h107, h108, h109, h110, h112, h111]
        subst hK113
        refine eb_blk_n ?_
        obtain rfl := Option.some.inj h
        exact eb_nil ⟨rfl, Wk.of (fun i => some i) _ _ _ (by simp -implicitDefEqProofs [kv, dd_GE, k7, k92]) (by simp -implicitDefEqProofs [kv, dd_GE, k7, k92])⟩
      · refine rb_false (by first | exact congrArg D.bool k92 | rfl) ?_
        refine rb_exit ?_
        refine eb_seq_e ?_
        obtain rfl := Option.some.inj h
        exact eb_nil ⟨rfl, Wk.of (fun i => some i) _ _ _ (by simp -implicitDefEqProofs [kv, dd_GE, k7, k92]) (by simp -implicitDefEqProofs [kv, dd_GE, k7, k92])⟩
    · refine eb_blk_hit ?_
      refine eb_seq ?_
      refine rb_seq ?_
      refine rb_regionK fun K127 hK127 => ?_
      simp -implicitDefEqProofs only [vt, ↓atI_fold, forall_const, implies_true, sevalprocAttr, dd_GE, k7]
      obtain ⟨z128, h129, h⟩ := bind_some h
      obtain ⟨⟨h130, h131, h132, h133⟩, h134⟩ := subI_some h129
      try simp only [List.length_cons, List.length_nil, Nat.zero_add, Nat.reduceAdd, Int.reduceToNat] at h130
      try simp only [List.length_cons, List.length_nil, Nat.zero_add, Nat.reduceAdd, Int.reduceToNat] at h131
      try simp only [List.length_cons, List.length_nil, Nat.zero_add, Nat.reduceAdd, Int.reduceToNat] at h132
      try simp only [List.length_cons, List.length_nil, Nat.zero_add, Nat.reduceAdd, Int.reduceToNat] at h133
      try simp -implicitDefEqProofs only [vt, ↓atI_fold, forall_const, implies_true, sevalprocAttr, dd_GE, k7, h130, h131, h132, h133] at h134
      simp -implicitDefEqProofs only [vt, ↓atI_fold, forall_const, implies_true, sevalprocAttr, dd_GE, k7, h130, h131, h132, h133, h134]
      obtain ⟨h135, h⟩ := ite_on h
      have h136 : ([45] : List UInt8).length + z128.length ≤ 9223372036854775807 := by (try simp only [List.length_append, List.length_cons, List.length_nil]); omega
      try simp -implicitDefEqProofs only [vt, ↓atI_fold, forall_const, implies_true, sevalprocAttr, dd_GE, k7, h130, h131, h132, h133, h134] at h136
      simp -implicitDefEqProofs only [vt, ↓atI_fold, forall_const, implies_true, sevalprocAttr, dd_GE, k7, h130, h131, h132, h133, h134, h136, h135]
      obtain ⟨h137, h⟩ := ite_on h
      have h138 : ([45] ++ z128).length + e65.2.length ≤ 9223372036854775807 := by (try simp only [List.length_append, List.length_cons, List.length_nil]); omega
      try simp -implicitDefEqProofs only [vt, ↓atI_fold, forall_const, implies_true, sevalprocAttr, dd_GE, k7, h130, h131, h132, h133, h134, h136, h135] at h138
      simp -implicitDefEqProofs only [vt, ↓atI_fold, forall_const, implies_true, sevalprocAttr, dd_GE, k7, h130, h131, h132, h133, h134, h136, h135, h138, h137]
      subst hK127
      refine eb_seq ?_
      refine rb_ret ?_
      obtain rfl := Option.some.inj h
      refine eb_nil ?_
      simp -implicitDefEqProofs only [vt, ↓atI_fold, forall_const, implies_true, sevalprocAttr, retQ_r, Tryd.results54, dd_GE, k7, h130, h131, h132, h133, h134, h136, h135, h138, h137] <;> first | rfl | (simp [List.map_append, dd_GE]; done)
  · refine rb_false (by first | exact congrArg D.bool k7 | rfl) ?_
    refine rb_skip ?_
    refine eb_seq ?_
    refine rb_seq ?_
    refine rb_regionK fun K140 hK140 => ?_
    simp -implicitDefEqProofs only [vt, ↓atI_fold, forall_const, implies_true, sevalprocAttr, dd_GE, k7]
    subst hK140
    refine eb_seq ?_
    refine rb_seq ?_
    refine rb_regionK fun K142 hK142 => ?_
    simp -implicitDefEqProofs only [vt, ↓atI_fold, forall_const, implies_true, sevalprocAttr, dd_GE, k7]
    subst hK142
    refine eb_seq ?_
    refine rb_seq ?_
    refine rb_block ?_
    obtain ⟨e195, h244, h⟩ := bind_some h
    refine rb_loop (fun x194 => ⟨envL [(3, .int .u64 x194.1), (4, .str []), (5, .str [48, 49, 50, 51, 52, 53, 54, 55, 56, 57]), (6, .str x194.2)], heapL [], 0, 35⟩) (fun _ => .exit 0) (fun e195 => ⟨envL [(3, .int .u64 e195.1), (4, .str []), (5, .str [48, 49, 50, 51, 52, 53, 54, 55, 56, 57]), (6, .str e195.2)], heapL [], 0, 35⟩) h244 (Wk.of (fun i => some i) _ _ _ (by simp -implicitDefEqProofs [kv, dd_GE, k7]) (by simp -implicitDefEqProofs [kv, dd_GE, k7])) (by intro w; simp) ?_ ?_
    · clear h
      intro x194 y h
      unfold g_ref07_Decimal_s2 at h
      refine rb_seq ?_
      refine rb_seq ?_
      refine rb_regionK fun K221 hK221 => ?_
      simp -implicitDefEqProofs only [vt, ↓atI_fold, forall_const, implies_true, sevalprocAttr, dd_GE, k7]
      subst hK221
      refine eb_seq ?_
      rcases ite_or h with ⟨k222, h⟩ | ⟨k222, h⟩
      · refine rb_true (by first | exact congrArg D.bool k222 | rfl) ?_
        refine rb_skip ?_
        refine eb_seq ?_
        refine rb_block ?_
        refine rb_seq ?_
        refine rb_regionK fun K233 hK233 => ?_
        simp -implicitDefEqProofs only [vt, ↓atI_fold, forall_const, implies_true, sevalprocAttr, dd_GE, k7, k222]
        obtain ⟨z234, h235, h⟩ := bind_some h
        obtain ⟨⟨h236, h237, h238, h239⟩, h240⟩ := subI_some h235
        try simp only [List.length_cons, List.length_nil, Nat.zero_add, Nat.reduceAdd, Int.reduceToNat] at h236
        try simp only [List.length_cons, List.length_nil, Nat.zero_add, Nat.reduceAdd, Int.reduceToNat] at h237
        try simp only [List.length_cons, List.length_nil, Nat.zero_add, Nat.reduceAdd, Int.reduceToNat] at h238
        try simp only [List.length_cons, List.length_nil, Nat.zero_add, Nat.reduceAdd, Int.reduceToNat] at h239
        try simp -implicitDefEqProofs only [vt, ↓atI_fold, forall_const, implies_true, sevalprocAttr, dd_GE, k7, k222, h236, h237, h238, h239] at h240
        simp -implicitDefEqProofs only [vt, ↓atI_fold, forall_const, implies_true, sevalprocAttr, dd_GE, k7, k222, h236, h237, h238, h239, h240]
        obtain ⟨h241, h⟩ := ite_on h
        have h242 : z234.length + x194.2.length ≤ 9223372036854775807 := by (try simp only [List.length_append, List.length_cons, List.length_nil]); omega
        try simp -implicitDefEqProofs only [vt, ↓atI_fold, forall_const, implies_true, sevalprocAttr, dd_GE, k7, k222, h236, h237, h238, h239, h240] at h242
        simp -implicitDefEqProofs only [vt, ↓atI_fold, forall_const, implies_true, sevalprocAttr, dd_GE, k7, k222, h236, h237, h238, h239, h240, h242, h241]
        subst hK233
        refine eb_seq ?_
        refine rb_regionK fun K243 hK243 => ?_
        simp -implicitDefEqProofs only [vt, ↓atI_fold, forall_const, implies_true, sevalprocAttr, dd_GE, k7, k222, h236, h237, h238, h239, h240, h242, h241]
        subst hK243
        refine eb_blk_n ?_
        obtain rfl := Option.some.inj h
        exact eb_nil ⟨rfl, Wk.of (fun i => some i) _ _ _ (by simp -implicitDefEqProofs [kv, dd_GE, k7, k222]) (by simp -implicitDefEqProofs [kv, dd_GE, k7, k222])⟩
      · refine rb_false (by first | exact congrArg D.bool k222 | rfl) ?_
        refine rb_exit ?_
        refine eb_seq_e ?_
        obtain rfl := Option.some.inj h
        exact eb_nil ⟨rfl, Wk.of (fun i => some i) _ _ _ (by simp -implicitDefEqProofs [kv, dd_GE, k7, k222]) (by simp -implicitDefEqProofs [kv, dd_GE, k7, k222])⟩
    · refine eb_blk_hit ?_
      refine eb_seq ?_
      refine rb_seq ?_
      refine rb_regionK fun K257 hK257 => ?_
      simp -implicitDefEqProofs only [vt, ↓atI_fold, forall_const, implies_true, sevalprocAttr, dd_GE, k7]
      obtain ⟨z258, h259, h⟩ := bind_some h
      obtain ⟨⟨h260, h261, h262, h263⟩, h264⟩ := subI_some h259
      try simp only [List.length_cons, List.length_nil, Nat.zero_add, Nat.reduceAdd, Int.reduceToNat] at h260
      try simp only [List.length_cons, List.length_nil, Nat.zero_add, Nat.reduceAdd, Int.reduceToNat] at h261
      try simp only [List.length_cons, List.length_nil, Nat.zero_add, Nat.reduceAdd, Int.reduceToNat] at h262
      try simp only [List.length_cons, List.length_nil, Nat.zero_add, Nat.reduceAdd, Int.reduceToNat] at h263
      try simp -implicitDefEqProofs only [vt, ↓atI_fold, forall_const, implies_true, sevalprocAttr, dd_GE, k7, h260, h261, h262, h263] at h264
      simp -implicitDefEqProofs only [vt, ↓atI_fold, forall_const, implies_true, sevalprocAttr, dd_GE, k7, h260, h261, h262, h263, h264]
      obtain ⟨h265, h⟩ := ite_on h
      have h266 : ([] : List UInt8).length + z258.length ≤ 9223372036854775807 := by (try simp only [List.length_append, List.length_cons, List.length_nil]); omega
      try simp -implicitDefEqProofs only [vt, ↓atI_fold, forall_const, implies_true, sevalprocAttr, dd_GE, k7, h260, h261, h262, h263, h264] at h266
      simp -implicitDefEqProofs only [vt, ↓atI_fold, forall_const, implies_true, sevalprocAttr, dd_GE, k7, h260, h261, h262, h263, h264, h266, h265]
      obtain ⟨h267, h⟩ := ite_on h
      have h268 : ([] ++ z258).length + e195.2.length ≤ 9223372036854775807 := by (try simp only [List.length_append, List.length_cons, List.length_nil]); omega
      try simp -implicitDefEqProofs only [vt, ↓atI_fold, forall_const, implies_true, sevalprocAttr, dd_GE, k7, h260, h261, h262, h263, h264, h266, h265] at h268
      simp -implicitDefEqProofs only [vt, ↓atI_fold, forall_const, implies_true, sevalprocAttr, dd_GE, k7, h260, h261, h262, h263, h264, h266, h265, h268, h267]
      subst hK257
      refine eb_seq ?_
      refine rb_ret ?_
      obtain rfl := Option.some.inj h
      refine eb_nil ?_
      simp -implicitDefEqProofs only [vt, ↓atI_fold, forall_const, implies_true, sevalprocAttr, retQ_r, Tryd.results54, dd_GE, k7, h260, h261, h262, h263, h264, h266, h265, h268, h267] <;> first | rfl | (simp [List.map_append, dd_GE]; done)
-- captionerref07.Quote
def g_ref07_Quote_s1 (s_0 : List UInt8) (x7 : (List UInt8) × Int) : Option (Nx ((List UInt8) × Int) ((List UInt8))) :=
  (if (decide (x7.2 < (s_0.length : Int))) then ((((atI s_0 x7.2).bind fun b176 => (if ((b176.toNat : Int) == 34) then ((subI s_0 x7.2 (IntKind.i64.wrap (x7.2 + 1))).bind fun z182 => (if 1 + z182.length ≤ 9223372036854775807 then (if x7.1.length + (1 + z182.length) ≤ 9223372036854775807 then (some (x7.1 ++ ([92] ++ z182))) else none) else none)) else (if ((b176.toNat : Int) == 92) then ((subI s_0 x7.2 (IntKind.i64.wrap (x7.2 + 1))).bind fun z196 => (if 1 + z196.length ≤ 9223372036854775807 then (if x7.1.length + (1 + z196.length) ≤ 9223372036854775807 then (some (x7.1 ++ ([92] ++ z196))) else none) else none)) else (if ((b176.toNat : Int) == 10) then (if x7.1.length + 2 ≤ 9223372036854775807 then (some (x7.1 ++ [92, 110])) else none) else ((subI s_0 x7.2 (IntKind.i64.wrap (x7.2 + 1))).bind fun z214 => (if x7.1.length + z214.length ≤ 9223372036854775807 then (some (x7.1 ++ z214)) else none)))))) : Option ((List UInt8))).bind fun v171 => (some (.go (v171, (IntKind.i64.wrap (x7.2 + 1)))))) else (some (.out x7.1)))
def g_ref07_Quote (s_0 : List UInt8) : Option ((List UInt8)) :=
  ((iter (g_ref07_Quote_s1 s_0) ([34], 0)).bind fun e8 => (if e8.length + 1 ≤ 9223372036854775807 then (some (e8 ++ [34])) else none))
theorem a_ref07_Quote (I : World → Prop) (hI : Stab I) (s_0 : List UInt8) {r : (List UInt8)} (h : g_ref07_Quote s_0 = some r) : AFun Tryd.prog I 48 [.str s_0] (.str r) := by
  refine AFun.enterB hI Tryd.func48 rfl (by decide) (by simp [Tryd.f48]) (by kernel_rfl) ?_
  unfold g_ref07_Quote at h
  simp only [S0, Tryd.ntmps48, dd_GE]
  refine rb_seq ?_
  refine rb_regionK fun K2 hK2 => ?_
  simp -implicitDefEqProofs only [vt, ↓atI_fold, forall_const, implies_true, sevalprocAttr, dd_GE]
  subst hK2
  refine eb_seq ?_
  refine rb_seq ?_
  refine rb_regionK fun K4 hK4 => ?_
  simp -implicitDefEqProofs only [vt, ↓atI_fold, forall_const, implies_true, sevalprocAttr, dd_GE]
  subst hK4
  refine eb_seq ?_
  refine rb_seq ?_
  refine rb_seq ?_
  refine rb_regionK fun K6 hK6 => ?_
  simp -implicitDefEqProofs only [vt, ↓atI_fold, forall_const, implies_true, sevalprocAttr, dd_GE]
  subst hK6
  refine eb_seq ?_
  refine rb_block ?_
  obtain ⟨e8, h225, h⟩ := bind_some h
  refine rb_loop (fun x7 => ⟨envL [(0, .str s_0), (3, .str x7.1), (4, .int .i64 x7.2)], heapL [], 0, 38⟩) (fun _ => .exit 0) (fun e8 => ⟨envL [(3, .str e8)], heapL [], 0, 38⟩) h225 (Wk.of (fun i => some i) _ _ _ (by simp -implicitDefEqProofs [kv, dd_GE]) (by simp -implicitDefEqProofs [kv, dd_GE])) (by intro w; simp) ?_ ?_
  · clear h
    intro x7 y h
    unfold g_ref07_Quote_s1 at h
    refine rb_seq ?_
    refine rb_seq ?_
    refine rb_regionK fun K118 hK118 => ?_
    simp -implicitDefEqProofs only [vt, ↓atI_fold, forall_const, implies_true, sevalprocAttr, dd_GE]
    subst hK118
    refine eb_seq ?_
    rcases ite_or h with ⟨k119, h⟩ | ⟨k119, h⟩
    · refine rb_true (by first | exact congrArg D.bool k119 | rfl) ?_
      refine rb_skip ?_
      refine eb_seq ?_
      obtain ⟨v171, h223, h⟩ := bind_some h
      refine rb_cut (fun v171 => ⟨envL [(0, .str s_0), (3, .str v171), (4, .int .i64 x7.2)], heapL [], 0, 38⟩) h223 ?_ ?_
      · clear h
        intro v171 h
        refine rb_block ?_
        refine rb_seq ?_
        refine rb_regionK fun K175 hK175 => ?_
        simp -implicitDefEqProofs only [vt, ↓atI_fold, forall_const, implies_true, sevalprocAttr, dd_GE, k119]
        obtain ⟨b176, h177, h⟩ := bind_some h
        simp -implicitDefEqProofs only [vt, ↓atI_fold, forall_const, implies_true, sevalprocAttr, dd_GE, k119, h177]
        subst hK175
        refine eb_seq ?_
        refine rb_block ?_
        refine rb_seq ?_
        refine rb_seq ?_
        refine rb_regionK fun K179 hK179 => ?_
        simp -implicitDefEqProofs only [vt, ↓atI_fold, forall_const, implies_true, sevalprocAttr, dd_GE, k119, h177]
        subst hK179
        refine eb_seq ?_
        rcases ite_or h with ⟨k180, h⟩ | ⟨k180, h⟩
        · refine rb_true (by first | exact congrArg D.bool k180 | rfl) ?_
          refine rb_skip ?_
          refine eb_seq ?_
          refine rb_true (by first | exact congrArg D.bool k180 | rfl) ?_
          refine rb_regionK fun K181 hK181 => ?_
          simp -implicitDefEqProofs only [vt, ↓atI_fold, forall_const, implies_true, sevalprocAttr, dd_GE, k119, h177, k180]
          obtain ⟨z182, h183, h⟩ := bind_some h
          obtain ⟨⟨h184, h185, h186, h187⟩, h188⟩ := subI_some h183
          try simp -implicitDefEqProofs only [vt, ↓atI_fold, forall_const, implies_true, sevalprocAttr, dd_GE, k119, h177, k180, h184, h185, h186, h187] at h188
          simp -implicitDefEqProofs only [vt, ↓atI_fold, forall_const, implies_true, sevalprocAttr, dd_GE, k119, h177, k180, h184, h185, h186, h187, h188]
          obtain ⟨h189, h⟩ := ite_on h
          have h190 : ([92] : List UInt8).length + z182.length ≤ 9223372036854775807 := by (try simp only [List.length_append, List.length_cons, List.length_nil]); omega
          try simp -implicitDefEqProofs only [vt, ↓atI_fold, forall_const, implies_true, sevalprocAttr, dd_GE, k119, h177, k180, h184, h185, h186, h187, h188] at h190
          simp -implicitDefEqProofs only [vt, ↓atI_fold, forall_const, implies_true, sevalprocAttr, dd_GE, k119, h177, k180, h184, h185, h186, h187, h188, h190, h189]
          obtain ⟨h191, h⟩ := ite_on h
          have h192 : x7.1.length + ([92] ++ z182).length ≤ 9223372036854775807 := by (try simp only [List.length_append, List.length_cons, List.length_nil]); omega
          try simp -implicitDefEqProofs only [vt, ↓atI_fold, forall_const, implies_true, sevalprocAttr, dd_GE, k119, h177, k180, h184, h185, h186, h187, h188, h190, h189] at h192
          simp -implicitDefEqProofs only [vt, ↓atI_fold, forall_const, implies_true, sevalprocAttr, dd_GE, k119, h177, k180, h184, h185, h186, h187, h188, h190, h189, h192, h191]
          subst hK181
          refine eb_blk_n ?_
          refine eb_blk_n ?_
          obtain rfl := Option.some.inj h
          exact eb_nil ⟨rfl, Wk.of (fun i => some i) _ _ _ (by simp -implicitDefEqProofs [kv, dd_GE, k119, k180]) (by simp -implicitDefEqProofs [kv, dd_GE, k119, k180])⟩
        · refine rb_false (by first | exact congrArg D.bool k180 | rfl) ?_
          refine rb_regionK fun K193 hK193 => ?_
          simp -implicitDefEqProofs only [vt, ↓atI_fold, forall_const, implies_true, sevalprocAttr, dd_GE, k119, h177, k180]
          subst hK193
          refine eb_seq ?_
          rcases ite_or h with ⟨k194, h⟩ | ⟨k194, h⟩
          · refine rb_true (by first | exact congrArg D.bool k194 | rfl) ?_
            refine rb_regionK fun K195 hK195 => ?_
            simp -implicitDefEqProofs only [vt, ↓atI_fold, forall_const, implies_true, sevalprocAttr, dd_GE, k119, h177, k180, k194]
            obtain ⟨z196, h197, h⟩ := bind_some h
            obtain ⟨⟨h198, h199, h200, h201⟩, h202⟩ := subI_some h197
            try simp -implicitDefEqProofs only [vt, ↓atI_fold, forall_const, implies_true, sevalprocAttr, dd_GE, k119, h177, k180, k194, h198, h199, h200, h201] at h202
            simp -implicitDefEqProofs only [vt, ↓atI_fold, forall_const, implies_true, sevalprocAttr, dd_GE, k119, h177, k180, k194, h198, h199, h200, h201, h202]
            obtain ⟨h203, h⟩ := ite_on h
            have h204 : ([92] : List UInt8).length + z196.length ≤ 9223372036854775807 := by (try simp only [List.length_append, List.length_cons, List.length_nil]); omega
            try simp -implicitDefEqProofs only [vt, ↓atI_fold, forall_const, implies_true, sevalprocAttr, dd_GE, k119, h177, k180, k194, h198, h199, h200, h201, h202] at h204
            simp -implicitDefEqProofs only [vt, ↓atI_fold, forall_const, implies_true, sevalprocAttr, dd_GE, k119, h177, k180, k194, h198, h199, h200, h201, h202, h204, h203]
            obtain ⟨h205, h⟩ := ite_on h
            have h206 : x7.1.length + ([92] ++ z196).length ≤ 9223372036854775807 := by (try simp only [List.length_append, List.length_cons, List.length_nil]); omega
            try simp -implicitDefEqProofs only [vt, ↓atI_fold, forall_const, implies_true, sevalprocAttr, dd_GE, k119, h177, k180, k194, h198, h199, h200, h201, h202, h204, h203] at h206
            simp -implicitDefEqProofs only [vt, ↓atI_fold, forall_const, implies_true, sevalprocAttr, dd_GE, k119, h177, k180, k194, h198, h199, h200, h201, h202, h204, h203, h206, h205]
            subst hK195
            refine eb_blk_n ?_
            refine eb_blk_n ?_
            obtain rfl := Option.some.inj h
            exact eb_nil ⟨rfl, Wk.of (fun i => some i) _ _ _ (by simp -implicitDefEqProofs [kv, dd_GE, k119, k180, k194]) (by simp -implicitDefEqProofs [kv, dd_GE, k119, k180, k194])⟩
          · refine rb_false (by first | exact congrArg D.bool k194 | rfl) ?_
            refine rb_seq ?_
            refine rb_regionK fun K208 hK208 => ?_
            simp -implicitDefEqProofs only [vt, ↓atI_fold, forall_const, implies_true, sevalprocAttr, dd_GE, k119, h177, k180, k194]
            subst hK208
            refine eb_seq ?_
            rcases ite_or h with ⟨k209, h⟩ | ⟨k209, h⟩
            · refine rb_true (by first | exact congrArg D.bool k209 | rfl) ?_
              refine rb_regionK fun K210 hK210 => ?_
              simp -implicitDefEqProofs only [vt, ↓atI_fold, forall_const, implies_true, sevalprocAttr, dd_GE, k119, h177, k180, k194, k209]
              obtain ⟨h211, h⟩ := ite_on h
              have h212 : x7.1.length + ([92, 110] : List UInt8).length ≤ 9223372036854775807 := by (try simp only [List.length_append, List.length_cons, List.length_nil]); omega
              try simp -implicitDefEqProofs only [vt, ↓atI_fold, forall_const, implies_true, sevalprocAttr, dd_GE, k119, h177, k180, k194, k209] at h212
              simp -implicitDefEqProofs only [vt, ↓atI_fold, forall_const, implies_true, sevalprocAttr, dd_GE, k119, h177, k180, k194, k209, h212, h211]
              subst hK210
              refine eb_blk_n ?_
              refine eb_blk_n ?_
              obtain rfl := Option.some.inj h
              exact eb_nil ⟨rfl, Wk.of (fun i => some i) _ _ _ (by simp -implicitDefEqProofs [kv, dd_GE, k119, k180, k194, k209]) (by simp -implicitDefEqProofs [kv, dd_GE, k119, k180, k194, k209])⟩
            · refine rb_false (by first | exact congrArg D.bool k209 | rfl) ?_
              refine rb_regionK fun K213 hK213 => ?_
              simp -implicitDefEqProofs only [vt, ↓atI_fold, forall_const, implies_true, sevalprocAttr, dd_GE, k119, h177, k180, k194, k209]
              obtain ⟨z214, h215, h⟩ := bind_some h
              obtain ⟨⟨h216, h217, h218, h219⟩, h220⟩ := subI_some h215
              try simp -implicitDefEqProofs only [vt, ↓atI_fold, forall_const, implies_true, sevalprocAttr, dd_GE, k119, h177, k180, k194, k209, h216, h217, h218, h219] at h220
              simp -implicitDefEqProofs only [vt, ↓atI_fold, forall_const, implies_true, sevalprocAttr, dd_GE, k119, h177, k180, k194, k209, h216, h217, h218, h219, h220]
              obtain ⟨h221, h⟩ := ite_on h
              have h222 : x7.1.length + z214.length ≤ 9223372036854775807 := by (try simp only [List.length_append, List.length_cons, List.length_nil]); omega
              try simp -implicitDefEqProofs only [vt, ↓atI_fold, forall_const, implies_true, sevalprocAttr, dd_GE, k119, h177, k180, k194, k209, h216, h217, h218, h219, h220] at h222
              simp -implicitDefEqProofs only [vt, ↓atI_fold, forall_const, implies_true, sevalprocAttr, dd_GE, k119, h177, k180, k194, k209, h216, h217, h218, h219, h220, h222, h221]
              subst hK213
              refine eb_blk_n ?_
              refine eb_blk_n ?_
              obtain rfl := Option.some.inj h
              exact eb_nil ⟨rfl, Wk.of (fun i => some i) _ _ _ (by simp -implicitDefEqProofs [kv, dd_GE, k119, k180, k194, k209]) (by simp -implicitDefEqProofs [kv, dd_GE, k119, k180, k194, k209])⟩
      · refine rb_regionK fun K224 hK224 => ?_
        simp -implicitDefEqProofs only [vt, ↓atI_fold, forall_const, implies_true, sevalprocAttr, dd_GE, k119]
        subst hK224
        obtain rfl := Option.some.inj h
        exact eb_nil ⟨rfl, Wk.of (fun i => some i) _ _ _ (by simp -implicitDefEqProofs [kv, dd_GE, k119]) (by simp -implicitDefEqProofs [kv, dd_GE, k119])⟩
    · refine rb_false (by first | exact congrArg D.bool k119 | rfl) ?_
      refine rb_exit ?_
      refine eb_seq_e ?_
      obtain rfl := Option.some.inj h
      exact eb_nil ⟨rfl, Wk.of (fun i => some i) _ _ _ (by simp -implicitDefEqProofs [kv, dd_GE, k119]) (by simp -implicitDefEqProofs [kv, dd_GE, k119])⟩
  · refine eb_blk_hit ?_
    refine eb_seq ?_
    refine rb_seq ?_
    refine rb_regionK fun K229 hK229 => ?_
    simp -implicitDefEqProofs only [vt, ↓atI_fold, forall_const, implies_true, sevalprocAttr, dd_GE]
    obtain ⟨h230, h⟩ := ite_on h
    have h231 : e8.length + ([34] : List UInt8).length ≤ 9223372036854775807 := by (try simp only [List.length_append, List.length_cons, List.length_nil]); omega
    try simp -implicitDefEqProofs only [vt, ↓atI_fold, forall_const, implies_true, sevalprocAttr, dd_GE] at h231
    simp -implicitDefEqProofs only [vt, ↓atI_fold, forall_const, implies_true, sevalprocAttr, dd_GE, h231, h230]
    subst hK229
    refine eb_seq ?_
    refine rb_ret ?_
    obtain rfl := Option.some.inj h
    refine eb_nil ?_
    simp -implicitDefEqProofs only [vt, ↓atI_fold, forall_const, implies_true, sevalprocAttr, retQ_r, Tryd.results48, dd_GE, h231, h230] <;> first | rfl | (simp [List.map_append, dd_GE]; done)
-- captionerref07.Unquote
def g_ref07_Unquote (s_0 : List UInt8) : Option ((List UInt8) × Int) :=
  (((if ((s_0.length : Int) == 0) then (some true) else ((atI s_0 0).bind fun b10 => (some ((b10.toNat : Int) != 34)))) : Option (Bool)).bind fun v7 => (if v7 then (some ([], 4)) else ((g_ref07_quoted s_0 0).bind fun r20 => (if (decide (0 ≤ r20.2.2)) then (some ([], 4)) else (if (r20.2.1 != (s_0.length : Int)) then (some ([], 4)) else (some (r20.1, 0)))))))
theorem a_ref07_Unquote (I : World → Prop) (hI : Stab I) (s_0 : List UInt8) {r : (List UInt8) × Int} (h : g_ref07_Unquote s_0 = some r) : AFun Tryd.prog I 46 [.str s_0] (.tup [.str r.1, .int .i64 r.2]) := by
  refine AFun.enterB hI Tryd.func46 rfl (by decide) (by simp [Tryd.f46]) (by kernel_rfl) ?_
  unfold g_ref07_Unquote at h
  simp only [S0, Tryd.ntmps46, dd_GE]
  refine rb_seq ?_
  refine rb_regionK fun K2 hK2 => ?_
  simp -implicitDefEqProofs only [vt, ↓atI_fold, forall_const, implies_true, sevalprocAttr, dd_GE]
  subst hK2
  refine eb_seq ?_
  refine rb_seq ?_
  obtain ⟨v7, h12, h⟩ := bind_some h
  refine rb_cut (fun v7 => ⟨envL [(0, .str s_0), (14, .bool v7)], heapL [], 0, 30⟩) h12 ?_ ?_
  · clear h
    intro v7 h
    refine rb_regionK fun K8 hK8 => ?_
    simp -implicitDefEqProofs only [vt, ↓atI_fold, forall_const, implies_true, sevalprocAttr, dd_GE]
    rcases ite_or h with ⟨k9, h⟩ | ⟨k9, h⟩
    · simp -implicitDefEqProofs only [vt, ↓atI_fold, forall_const, implies_true, sevalprocAttr, dd_GE, k9]
      subst hK8
      obtain rfl := Option.some.inj h
      exact eb_nil ⟨rfl, Wk.of (fun i => some i) _ _ _ (by simp -implicitDefEqProofs [kv, dd_GE, k9]) (by simp -implicitDefEqProofs [kv, dd_GE, k9])⟩
    · simp -implicitDefEqProofs only [vt, ↓atI_fold, forall_const, implies_true, sevalprocAttr, dd_GE, k9]
      obtain ⟨b10, h11, h⟩ := bind_some h
      simp -implicitDefEqProofs only [vt, ↓atI_fold, forall_const, implies_true, sevalprocAttr, dd_GE, k9, h11]
      subst hK8
      obtain rfl := Option.some.inj h
      exact eb_nil ⟨rfl, Wk.of (fun i => some i) _ _ _ (by simp -implicitDefEqProofs [kv, dd_GE, k9]) (by simp -implicitDefEqProofs [kv, dd_GE, k9])⟩
  · rcases ite_or h with ⟨k13, h⟩ | ⟨k13, h⟩
    · refine rb_true (by first | exact congrArg D.bool k13 | rfl) ?_
      refine rb_seq ?_
      refine rb_regionK fun K15 hK15 => ?_
      simp -implicitDefEqProofs only [vt, ↓atI_fold, forall_const, implies_true, sevalprocAttr, dd_GE, k13]
      subst hK15
      refine eb_seq ?_
      refine rb_ret ?_
      refine eb_seq_r ?_
      obtain rfl := Option.some.inj h
      refine eb_nil ?_
      simp -implicitDefEqProofs only [vt, ↓atI_fold, forall_const, implies_true, sevalprocAttr, retQ_r, Tryd.results46, dd_GE, k13] <;> first | rfl | (simp [List.map_append, dd_GE]; done)
    · refine rb_false (by first | exact congrArg D.bool k13 | rfl) ?_
      refine rb_skip ?_
      refine eb_seq ?_
      refine rb_seq ?_
      refine rb_regionK fun K19 hK19 => ?_
      simp -implicitDefEqProofs only [vt, ↓atI_fold, forall_const, implies_true, sevalprocAttr, dd_GE, k13]
      obtain ⟨r20, h21, h⟩ := bind_some h
      refine cW.intro (a_ref07_quoted I hI s_0 0 h21) (by first | rfl | (simp [List.map_append, dd_GE]; done)) ?_
      simp -implicitDefEqProofs only [vt, ↓atI_fold, forall_const, implies_true, sevalprocAttr, dd_GE, k13]
      subst hK19
      refine eb_seq ?_
      refine rb_seq ?_
      refine rb_seq ?_
      refine rb_regionK fun K24 hK24 => ?_
      simp -implicitDefEqProofs only [vt, ↓atI_fold, forall_const, implies_true, sevalprocAttr, dd_GE, k13]
      rcases ite_or h with ⟨k25, h⟩ | ⟨k25, h⟩
      · simp -implicitDefEqProofs only [vt, ↓atI_fold, forall_const, implies_true, sevalprocAttr, dd_GE, k13, k25]
        subst hK24
        refine eb_seq ?_
        refine rb_true (rfl) ?_
        refine rb_seq ?_
        refine rb_regionK fun K27 hK27 => ?_
        simp -implicitDefEqProofs only [vt, ↓atI_fold, forall_const, implies_true, sevalprocAttr, dd_GE, k13, k25]
        subst hK27
        refine eb_seq ?_
        refine rb_ret ?_
        refine eb_seq_r ?_
        obtain rfl := Option.some.inj h
        refine eb_nil ?_
        simp -implicitDefEqProofs only [vt, ↓atI_fold, forall_const, implies_true, sevalprocAttr, retQ_r, Tryd.results46, dd_GE, k13, k25] <;> first | rfl | (simp [List.map_append, dd_GE]; done)
      · simp -implicitDefEqProofs only [vt, ↓atI_fold, forall_const, implies_true, sevalprocAttr, dd_GE, k13, k25]
        subst hK24
        refine eb_seq ?_
        rcases ite_or h with ⟨k28, h⟩ | ⟨k28, h⟩
        · refine rb_true (by first | exact congrArg D.bool k28 | rfl) ?_
          refine rb_seq ?_
          refine rb_regionK fun K30 hK30 => ?_
          simp -implicitDefEqProofs only [vt, ↓atI_fold, forall_const, implies_true, sevalprocAttr, dd_GE, k13, k25, k28]
          subst hK30
          refine eb_seq ?_
          refine rb_ret ?_
          refine eb_seq_r ?_
          obtain rfl := Option.some.inj h
          refine eb_nil ?_
          simp -implicitDefEqProofs only [vt, ↓atI_fold, forall_const, implies_true, sevalprocAttr, retQ_r, Tryd.results46, dd_GE, k13, k25, k28] <;> first | rfl | (simp [List.map_append, dd_GE]; done)
        · refine rb_false (by first | exact congrArg D.bool k28 | rfl) ?_
          refine rb_skip ?_
          refine eb_seq ?_
          refine rb_seq ?_
          refine rb_regionK fun K32 hK32 => ?_
          simp -implicitDefEqProofs only [vt, ↓atI_fold, forall_const, implies_true, sevalprocAttr, dd_GE, k13, k25, k28]
          subst hK32
          refine eb_seq ?_
          refine rb_ret ?_
          obtain rfl := Option.some.inj h
          refine eb_nil ?_
          simp -implicitDefEqProofs only [vt, ↓atI_fold, forall_const, implies_true, sevalprocAttr, retQ_r, Tryd.results46, dd_GE, k13, k25, k28] <;> first | rfl | (simp [List.map_append, dd_GE]; done)
-- captionerlaw07.sameLines
def g_law07_sameLines_s2 (b_1 : List T_api_Line) (x10 : Int) (y386 : T_api_Line) (x388 : Int) : Option (Nx (Int) (Unit ⊕ Unit)) :=
  (if (decide (x388 < (y386.Fields.length : Int))) then ((atI y386.Fields x388).bind fun y466 => ((atI b_1 x10).bind fun y468 => ((atI y468.Fields x388).bind fun y470 => (if ((y466.Text == y470.Text) && ((y466.Column == y470.Column) && (y466.Quoted == y470.Quoted))) then (some (.go (IntKind.i64.wrap (x388 + 1)))) else (some (.out (.inl ()))))))) else (some (.out (.inr ()))))
def g_law07_sameLines_s1 (a_0 : List T_api_Line) (b_1 : List T_api_Line) (x10 : Int) : Option (Nx (Int) (Unit ⊕ Unit)) :=
  (if (decide (x10 < (a_0.length : Int))) then ((((atI a_0 x10).bind fun y373 => ((atI b_1 x10).bind fun y375 => (if (y373.Number != y375.Number) then (some true) else (some ((y373.Fields.length : Int) != (y375.Fields.length : Int)))))) : Option (Bool)).bind fun v371 => (if v371 then (some (.out (.inl ()))) else ((atI a_0 x10).bind fun y386 => ((iter (g_law07_sameLines_s2 b_1 x10 y386) 0).bind fun e389 => (match e389 with | Sum.inl e389 => (some (.out (.inl ()))) | Sum.inr (e389) => (some (.go (IntKind.i64.wrap (x10 + 1))))))))) else (some (.out (.inr ()))))
def g_law07_sameLines (a_0 : List T_api_Line) (b_1 : List T_api_Line) : Option (Bool) :=
  (if ((a_0.length : Int) != (b_1.length : Int)) then (some false) else ((iter (g_law07_sameLines_s1 a_0 b_1) 0).bind fun e11 => (match e11 with | Sum.inl e11 => (some false) | Sum.inr (e11) => (some true))))
theorem a_law07_sameLines (I : World → Prop) (hI : Stab I) (a_0 : List T_api_Line) (b_1 : List T_api_Line) {r : Bool} (h : g_law07_sameLines a_0 b_1 = some r) : AFun Tryd.prog I 43 [.sl (a_0.map T_api_Line.d), .sl (b_1.map T_api_Line.d)] (.bool r) := by
  refine AFun.enterB hI Tryd.func43 rfl (by decide) (by simp [Tryd.f43]) (by kernel_rfl) ?_
  unfold g_law07_sameLines at h
  simp only [S0, Tryd.ntmps43, dd_GE]
  refine rb_seq ?_
  refine rb_regionK fun K2 hK2 => ?_
  simp -implicitDefEqProofs only [vt, ↓atI_fold, forall_const, implies_true, sevalprocAttr, dd_GE]
  subst hK2
  refine eb_seq ?_
  refine rb_seq ?_
  refine rb_seq ?_
  refine rb_regionK fun K4 hK4 => ?_
  simp -implicitDefEqProofs only [vt, ↓atI_fold, forall_const, implies_true, sevalprocAttr, dd_GE]
  subst hK4
  refine eb_seq ?_
  rcases ite_or h with ⟨k5, h⟩ | ⟨k5, h⟩
  · refine rb_true (by first | exact congrArg D.bool k5 | rfl) ?_
    refine rb_seq ?_
    refine rb_regionK fun K7 hK7 => ?_
    simp -implicitDefEqProofs only [vt, ↓atI_fold, forall_const, implies_true, sevalprocAttr, dd_GE, k5]
    subst hK7
    refine eb_seq ?_
    refine rb_ret ?_
    refine eb_seq_r ?_
    obtain rfl := Option.some.inj h
    refine eb_nil ?_
    simp -implicitDefEqProofs only [vt, ↓atI_fold, forall_const, implies_true, sevalprocAttr, retQ_r, Tryd.results43, dd_GE, k5] <;> first | rfl | (simp [List.map_append, dd_GE]; done)
  · refine rb_false (by first | exact congrArg D.bool k5 | rfl) ?_
    refine rb_skip ?_
    refine eb_seq ?_
    refine rb_seq ?_
    refine rb_seq ?_
    refine rb_regionK fun K9 hK9 => ?_
    simp -implicitDefEqProofs only [vt, ↓atI_fold, forall_const, implies_true, sevalprocAttr, dd_GE, k5]
    subst hK9
    refine eb_seq ?_
    refine rb_block ?_
    obtain ⟨e11, h478, h⟩ := bind_some h
    refine rb_loop (fun x10 => ⟨envL [(0, .sl (a_0.map T_api_Line.d)), (1, .sl (b_1.map T_api_Line.d)), (13, .int .i64 (a_0.length : Int)), (14, .int .i64 x10)], heapL [], 0, 71⟩) (fun w => match w with | Sum.inl _ => .ret | Sum.inr (_) => .exit 0) (fun w => match w with | Sum.inl e11 => ⟨envL [(4, .bool false)], heapL [], 0, 71⟩ | Sum.inr (e11) => ⟨envL [], heapL [], 0, 71⟩) h478 (Wk.of (fun i => some i) _ _ _ (by simp -implicitDefEqProofs [kv, dd_GE, k5]) (by simp -implicitDefEqProofs [kv, dd_GE, k5])) (by intro w; rcases w with w | w <;> simp) ?_ ?_
    · clear h
      intro x10 y h
      unfold g_law07_sameLines_s1 at h
      refine rb_seq ?_
      refine rb_regionK fun K246 hK246 => ?_
      simp -implicitDefEqProofs only [vt, ↓atI_fold, forall_const, implies_true, sevalprocAttr, dd_GE, k5]
      subst hK246
      refine eb_seq ?_
      refine rb_seq ?_
      rcases ite_or h with ⟨k248, h⟩ | ⟨k248, h⟩
      · refine rb_true (by first | exact congrArg D.bool k248 | rfl) ?_
        refine rb_skip ?_
        refine eb_seq ?_
        refine rb_seq ?_
        refine rb_block ?_
        refine rb_seq ?_
        refine rb_regionK fun K364 hK364 => ?_
        simp -implicitDefEqProofs only [vt, ↓atI_fold, forall_const, implies_true, sevalprocAttr, dd_GE, k5, k248]
        subst hK364
        refine eb_seq ?_
        refine rb_seq ?_
        obtain ⟨v371, h378, h⟩ := bind_some h
        refine rb_cut (fun v371 => ⟨envL [(0, .sl (a_0.map T_api_Line.d)), (1, .sl (b_1.map T_api_Line.d)), (5, .int .i64 x10), (13, .int .i64 (a_0.length : Int)), (14, .int .i64 x10), (42, .bool v371)], heapL [], 0, 71⟩) h378 ?_ ?_
        · clear h
          intro v371 h
          refine rb_drawK hI (by kernel_rfl) (by kernel_rfl) fun K372 hK372 => ?_
          simp -implicitDefEqProofs only [vt, ↓atI_fold, forall_const, implies_true, sevalprocAttr, dd_GE, k5, k248]
          obtain ⟨y373, h374, h⟩ := bind_some h
          simp -implicitDefEqProofs only [vt, ↓atI_fold, forall_const, implies_true, sevalprocAttr, dd_GE, k5, k248, h374]
          obtain ⟨y375, h376, h⟩ := bind_some h
          simp -implicitDefEqProofs only [vt, ↓atI_fold, forall_const, implies_true, sevalprocAttr, dd_GE, k5, k248, h374, h376]
          rcases ite_or h with ⟨k377, h⟩ | ⟨k377, h⟩
          · simp -implicitDefEqProofs only [vt, ↓atI_fold, forall_const, implies_true, sevalprocAttr, dd_GE, k5, k248, h374, h376, k377]
            subst hK372
            obtain rfl := Option.some.inj h
            exact eb_nil ⟨rfl, Wk.of (fun i => some i) _ _ _ (by simp -implicitDefEqProofs [kv, dd_GE, k5, k248, k377]) (by simp -implicitDefEqProofs [kv, dd_GE, k5, k248, k377])⟩
          · simp -implicitDefEqProofs only [vt, ↓atI_fold, forall_const, implies_true, sevalprocAttr, dd_GE, k5, k248, h374, h376, k377]
            subst hK372
            obtain rfl := Option.some.inj h
            exact eb_nil ⟨rfl, Wk.of (fun i => some i) _ _ _ (by simp -implicitDefEqProofs [kv, dd_GE, k5, k248, k377]) (by simp -implicitDefEqProofs [kv, dd_GE, k5, k248, k377])⟩
        · rcases ite_or h with ⟨k379, h⟩ | ⟨k379, h⟩
          · refine rb_true (by first | exact congrArg D.bool k379 | rfl) ?_
            refine rb_seq ?_
            refine rb_regionK fun K381 hK381 => ?_
            simp -implicitDefEqProofs only [vt, ↓atI_fold, forall_const, implies_true, sevalprocAttr, dd_GE, k5, k248, k379]
            subst hK381
            refine eb_seq ?_
            refine rb_ret ?_
            refine eb_seq_r ?_
            refine eb_blk_r ?_
            refine eb_seq_r ?_
            obtain rfl := Option.some.inj h
            exact eb_nil ⟨rfl, Wk.of (fun i => some i) _ _ _ (by simp -implicitDefEqProofs [kv, dd_GE, k5, k248, k379]) (by simp -implicitDefEqProofs [kv, dd_GE, k5, k248, k379])⟩
          · refine rb_false (by first | exact congrArg D.bool k379 | rfl) ?_
            refine rb_skip ?_
            refine eb_seq ?_
            refine rb_seq ?_
            refine rb_regionK fun K385 hK385 => ?_
            simp -implicitDefEqProofs only [vt, ↓atI_fold, forall_const, implies_true, sevalprocAttr, dd_GE, k5, k248, k379]
            obtain ⟨y386, h387, h⟩ := bind_some h
            simp -implicitDefEqProofs only [vt, ↓atI_fold, forall_const, implies_true, sevalprocAttr, dd_GE, k5, k248, k379, h387]
            subst hK385
            refine eb_seq ?_
            refine rb_block ?_
            obtain ⟨e389, h476, h⟩ := bind_some h
            refine rb_loop (fun x388 => ⟨envL [(0, .sl (a_0.map T_api_Line.d)), (1, .sl (b_1.map T_api_Line.d)), (5, .int .i64 x10), (13, .int .i64 (a_0.length : Int)), (14, .int .i64 x10), (48, .int .i64 (y386.Fields.length : Int)), (49, .int .i64 x388)], heapL [], 0, 71⟩) (fun w => match w with | Sum.inl _ => .ret | Sum.inr (_) => .exit 2) (fun w => match w with | Sum.inl e389 => ⟨envL [(4, .bool false)], heapL [], 0, 71⟩ | Sum.inr (e389) => ⟨envL [(0, .sl (a_0.map T_api_Line.d)), (1, .sl (b_1.map T_api_Line.d)), (13, .int .i64 (a_0.length : Int)), (14, .int .i64 x10)], heapL [], 0, 71⟩) h476 (Wk.of (fun i => some i) _ _ _ (by simp -implicitDefEqProofs [kv, dd_GE, k5, k248, k379]) (by simp -implicitDefEqProofs [kv, dd_GE, k5, k248, k379])) (by intro w; rcases w with w | w <;> simp) ?_ ?_
            · clear h
              intro x388 y h
              unfold g_law07_sameLines_s2 at h
              refine rb_seq ?_
              refine rb_regionK fun K434 hK434 => ?_
              simp -implicitDefEqProofs only [vt, ↓atI_fold, forall_const, implies_true, sevalprocAttr, dd_GE, k5, k248, k379, h387]
              subst hK434
              refine eb_seq ?_
              refine rb_seq ?_
              rcases ite_or h with ⟨k436, h⟩ | ⟨k436, h⟩
              · refine rb_true (by first | exact congrArg D.bool k436 | rfl) ?_
                refine rb_skip ?_
                refine eb_seq ?_
                refine rb_seq ?_
                refine rb_block ?_
                refine rb_seq ?_
                refine rb_regionK fun K457 hK457 => ?_
                simp -implicitDefEqProofs only [vt, ↓atI_fold, forall_const, implies_true, sevalprocAttr, dd_GE, k5, k248, k379, h387, k436]
                subst hK457
                refine eb_seq ?_
                refine rb_seq ?_
                refine rb_drawK hI (by kernel_rfl) (by kernel_rfl) fun K465 hK465 => ?_
                simp -implicitDefEqProofs only [vt, ↓atI_fold, forall_const, implies_true, sevalprocAttr, dd_GE, k5, k248, k379, h387, k436]
                obtain ⟨y466, h467, h⟩ := bind_some h
                simp -implicitDefEqProofs only [vt, ↓atI_fold, forall_const, implies_true, sevalprocAttr, dd_GE, k5, k248, k379, h387, k436, h467]
                obtain ⟨y468, h469, h⟩ := bind_some h
                simp -implicitDefEqProofs only [vt, ↓atI_fold, forall_const, implies_true, sevalprocAttr, dd_GE, k5, k248, k379, h387, k436, h467, h469]
                obtain ⟨y470, h471, h⟩ := bind_some h
                simp -implicitDefEqProofs only [vt, ↓atI_fold, forall_const, implies_true, sevalprocAttr, dd_GE, k5, k248, k379, h387, k436, h467, h469, h471]
                subst hK465
                refine eb_seq ?_
                rcases ite_or h with ⟨k472, h⟩ | ⟨k472, h⟩
                · refine rb_false (by first | exact congrArg D.bool (congrArg Bool.not k472) | rfl) ?_
                  refine rb_skip ?_
                  refine eb_blk_n ?_
                  refine eb_seq ?_
                  refine rb_regionK fun K473 hK473 => ?_
                  simp -implicitDefEqProofs only [vt, ↓atI_fold, forall_const, implies_true, sevalprocAttr, dd_GE, k5, k248, k379, h387, k436, h467, h469, h471, k472]
                  subst hK473
                  obtain rfl := Option.some.inj h
                  exact eb_nil ⟨rfl, Wk.of (fun i => some i) _ _ _ (by simp -implicitDefEqProofs [kv, dd_GE, k5, k248, k379, k436, k472]) (by simp -implicitDefEqProofs [kv, dd_GE, k5, k248, k379, k436, k472])⟩
                · refine rb_true (by first | exact congrArg D.bool (congrArg Bool.not k472) | rfl) ?_
                  refine rb_seq ?_
                  refine rb_regionK fun K475 hK475 => ?_
                  simp -implicitDefEqProofs only [vt, ↓atI_fold, forall_const, implies_true, sevalprocAttr, dd_GE, k5, k248, k379, h387, k436, h467, h469, h471, k472]
                  subst hK475
                  refine eb_seq ?_
                  refine rb_ret ?_
                  refine eb_blk_r ?_
                  refine eb_seq_r ?_
                  obtain rfl := Option.some.inj h
                  exact eb_nil ⟨rfl, Wk.of (fun i => some i) _ _ _ (by simp -implicitDefEqProofs [kv, dd_GE, k5, k248, k379, k436, k472]) (by simp -implicitDefEqProofs [kv, dd_GE, k5, k248, k379, k436, k472])⟩
              · refine rb_false (by first | exact congrArg D.bool k436 | rfl) ?_
                refine rb_exit ?_
                refine eb_seq_e ?_
                obtain rfl := Option.some.inj h
                exact eb_nil ⟨rfl, Wk.of (fun i => some i) _ _ _ (by simp -implicitDefEqProofs [kv, dd_GE, k5, k248, k379, k436]) (by simp -implicitDefEqProofs [kv, dd_GE, k5, k248, k379, k436])⟩
            · rcases e389 with e389 | e389
              · try dsimp only at h ⊢
                refine eb_blk_r ?_
                refine eb_blk_r ?_
                refine eb_seq_r ?_
                obtain rfl := Option.some.inj h
                exact eb_nil ⟨rfl, Wk.of (fun i => some i) _ _ _ (by simp -implicitDefEqProofs [kv, dd_GE, k5, k248, k379]) (by simp -implicitDefEqProofs [kv, dd_GE, k5, k248, k379])⟩
              · try dsimp only at h ⊢
                refine eb_blk_hit ?_
                refine eb_blk_n ?_
                refine eb_seq ?_
                refine rb_regionK fun K477 hK477 => ?_
                simp -implicitDefEqProofs only [vt, ↓atI_fold, forall_const, implies_true, sevalprocAttr, dd_GE, k5, k248, k379, h387]
                subst hK477
                obtain rfl := Option.some.inj h
                exact eb_nil ⟨rfl, Wk.of (fun i => some i) _ _ _ (by simp -implicitDefEqProofs [kv, dd_GE, k5, k248, k379]) (by simp -implicitDefEqProofs [kv, dd_GE, k5, k248, k379])⟩
      · refine rb_false (by first | exact congrArg D.bool k248 | rfl) ?_
        refine rb_exit ?_
        refine eb_seq_e ?_
        obtain rfl := Option.some.inj h
        exact eb_nil ⟨rfl, Wk.of (fun i => some i) _ _ _ (by simp -implicitDefEqProofs [kv, dd_GE, k5, k248]) (by simp -implicitDefEqProofs [kv, dd_GE, k5, k248])⟩
    · rcases e11 with e11 | e11
      · try dsimp only at h ⊢
        refine eb_blk_r ?_
        refine eb_seq_r ?_
        obtain rfl := Option.some.inj h
        refine eb_nil ?_
        simp -implicitDefEqProofs only [vt, ↓atI_fold, forall_const, implies_true, sevalprocAttr, retQ_r, Tryd.results43, dd_GE, k5] <;> first | rfl | (simp [List.map_append, dd_GE]; done)
      · try dsimp only at h ⊢
        refine eb_blk_hit ?_
        refine eb_seq ?_
        refine rb_seq ?_
        refine rb_regionK fun K480 hK480 => ?_
        simp -implicitDefEqProofs only [vt, ↓atI_fold, forall_const, implies_true, sevalprocAttr, dd_GE, k5]
        subst hK480
        refine eb_seq ?_
        refine rb_ret ?_
        obtain rfl := Option.some.inj h
        refine eb_nil ?_
        simp -implicitDefEqProofs only [vt, ↓atI_fold, forall_const, implies_true, sevalprocAttr, retQ_r, Tryd.results43, dd_GE, k5] <;> first | rfl | (simp [List.map_append, dd_GE]; done)
-- captionerlaw07.sameDiags
def g_law07_sameDiags_s1 (a_0 : List T_api_Diag) (b_1 : List T_api_Diag) (x10 : Int) : Option (Nx (Int) (Unit ⊕ Unit)) :=
  (if (decide (x10 < (a_0.length : Int))) then ((atI a_0 x10).bind fun y74 => ((atI b_1 x10).bind fun y76 => (if ((y74.Line == y76.Line) && ((y74.Column == y76.Column) && (y74.Code == y76.Code))) then (some (.go (IntKind.i64.wrap (x10 + 1)))) else (some (.out (.inl ())))))) else (some (.out (.inr ()))))
def g_law07_sameDiags (a_0 : List T_api_Diag) (b_1 : List T_api_Diag) : Option (Bool) :=
  (if ((a_0.length : Int) != (b_1.length : Int)) then (some false) else ((iter (g_law07_sameDiags_s1 a_0 b_1) 0).bind fun e11 => (match e11 with | Sum.inl e11 => (some false) | Sum.inr (e11) => (some true))))
theorem a_law07_sameDiags (I : World → Prop) (hI : Stab I) (a_0 : List T_api_Diag) (b_1 : List T_api_Diag) {r : Bool} (h : g_law07_sameDiags a_0 b_1 = some r) : AFun Tryd.prog I 44 [.sl (a_0.map T_api_Diag.d), .sl (b_1.map T_api_Diag.d)] (.bool r) := by
  refine AFun.enterB hI Tryd.func44 rfl (by decide) (by simp [Tryd.f44]) (by kernel_rfl) ?_
  unfold g_law07_sameDiags at h
  simp only [S0, Tryd.ntmps44, dd_GE]
  refine rb_seq ?_
  refine rb_regionK fun K2 hK2 => ?_
  simp -implicitDefEqProofs only [vt, ↓atI_fold, forall_const, implies_true, sevalprocAttr, dd_GE]
  subst hK2
  refine eb_seq ?_
  refine rb_seq ?_
  refine rb_seq ?_
  refine rb_regionK fun K4 hK4 => ?_
  simp -implicitDefEqProofs only [vt, ↓atI_fold, forall_const, implies_true, sevalprocAttr, dd_GE]
  subst hK4
  refine eb_seq ?_
  rcases ite_or h with ⟨k5, h⟩ | ⟨k5, h⟩
  · refine rb_true (by first | exact congrArg D.bool k5 | rfl) ?_
    refine rb_seq ?_
    refine rb_regionK fun K7 hK7 => ?_
    simp -implicitDefEqProofs only [vt, ↓atI_fold, forall_const, implies_true, sevalprocAttr, dd_GE, k5]
    subst hK7
    refine eb_seq ?_
    refine rb_ret ?_
    refine eb_seq_r ?_
    obtain rfl := Option.some.inj h
    refine eb_nil ?_
    simp -implicitDefEqProofs only [vt, ↓atI_fold, forall_const, implies_true, sevalprocAttr, retQ_r, Tryd.results44, dd_GE, k5] <;> first | rfl | (simp [List.map_append, dd_GE]; done)
  · refine rb_false (by first | exact congrArg D.bool k5 | rfl) ?_
    refine rb_skip ?_
    refine eb_seq ?_
    refine rb_seq ?_
    refine rb_seq ?_
    refine rb_regionK fun K9 hK9 => ?_
    simp -implicitDefEqProofs only [vt, ↓atI_fold, forall_const, implies_true, sevalprocAttr, dd_GE, k5]
    subst hK9
    refine eb_seq ?_
    refine rb_block ?_
    obtain ⟨e11, h82, h⟩ := bind_some h
    refine rb_loop (fun x10 => ⟨envL [(0, .sl (a_0.map T_api_Diag.d)), (1, .sl (b_1.map T_api_Diag.d)), (12, .int .i64 (a_0.length : Int)), (13, .int .i64 x10)], heapL [], 0, 26⟩) (fun w => match w with | Sum.inl _ => .ret | Sum.inr (_) => .exit 0) (fun w => match w with | Sum.inl e11 => ⟨envL [(4, .bool false)], heapL [], 0, 26⟩ | Sum.inr (e11) => ⟨envL [], heapL [], 0, 26⟩) h82 (Wk.of (fun i => some i) _ _ _ (by simp -implicitDefEqProofs [kv, dd_GE, k5]) (by simp -implicitDefEqProofs [kv, dd_GE, k5])) (by intro w; rcases w with w | w <;> simp) ?_ ?_
    · clear h
      intro x10 y h
      unfold g_law07_sameDiags_s1 at h
      refine rb_seq ?_
      refine rb_regionK fun K48 hK48 => ?_
      simp -implicitDefEqProofs only [vt, ↓atI_fold, forall_const, implies_true, sevalprocAttr, dd_GE, k5]
      subst hK48
      refine eb_seq ?_
      refine rb_seq ?_
      rcases ite_or h with ⟨k50, h⟩ | ⟨k50, h⟩
      · refine rb_true (by first | exact congrArg D.bool k50 | rfl) ?_
        refine rb_skip ?_
        refine eb_seq ?_
        refine rb_seq ?_
        refine rb_block ?_
        refine rb_seq ?_
        refine rb_regionK fun K67 hK67 => ?_
        simp -implicitDefEqProofs only [vt, ↓atI_fold, forall_const, implies_true, sevalprocAttr, dd_GE, k5, k50]
        subst hK67
        refine eb_seq ?_
        refine rb_seq ?_
        refine rb_drawK hI (by kernel_rfl) (by kernel_rfl) fun K73 hK73 => ?_
        simp -implicitDefEqProofs only [vt, ↓atI_fold, forall_const, implies_true, sevalprocAttr, dd_GE, k5, k50]
        obtain ⟨y74, h75, h⟩ := bind_some h
        simp -implicitDefEqProofs only [vt, ↓atI_fold, forall_const, implies_true, sevalprocAttr, dd_GE, k5, k50, h75]
        obtain ⟨y76, h77, h⟩ := bind_some h
        simp -implicitDefEqProofs only [vt, ↓atI_fold, forall_const, implies_true, sevalprocAttr, dd_GE, k5, k50, h75, h77]
        subst hK73
        refine eb_seq ?_
        rcases ite_or h with ⟨k78, h⟩ | ⟨k78, h⟩
        · refine rb_false (by first | exact congrArg D.bool (congrArg Bool.not k78) | rfl) ?_
          refine rb_skip ?_
          refine eb_blk_n ?_
          refine eb_seq ?_
          refine rb_regionK fun K79 hK79 => ?_
          simp -implicitDefEqProofs only [vt, ↓atI_fold, forall_const, implies_true, sevalprocAttr, dd_GE, k5, k50, h75, h77, k78]
          subst hK79
          obtain rfl := Option.some.inj h
          exact eb_nil ⟨rfl, Wk.of (fun i => some i) _ _ _ (by simp -implicitDefEqProofs [kv, dd_GE, k5, k50, k78]) (by simp -implicitDefEqProofs [kv, dd_GE, k5, k50, k78])⟩
        · refine rb_true (by first | exact congrArg D.bool (congrArg Bool.not k78) | rfl) ?_
          refine rb_seq ?_
          refine rb_regionK fun K81 hK81 => ?_
          simp -implicitDefEqProofs only [vt, ↓atI_fold, forall_const, implies_true, sevalprocAttr, dd_GE, k5, k50, h75, h77, k78]
          subst hK81
          refine eb_seq ?_
          refine rb_ret ?_
          refine eb_blk_r ?_
          refine eb_seq_r ?_
          obtain rfl := Option.some.inj h
          exact eb_nil ⟨rfl, Wk.of (fun i => some i) _ _ _ (by simp -implicitDefEqProofs [kv, dd_GE, k5, k50, k78]) (by simp -implicitDefEqProofs [kv, dd_GE, k5, k50, k78])⟩
      · refine rb_false (by first | exact congrArg D.bool k50 | rfl) ?_
        refine rb_exit ?_
        refine eb_seq_e ?_
        obtain rfl := Option.some.inj h
        exact eb_nil ⟨rfl, Wk.of (fun i => some i) _ _ _ (by simp -implicitDefEqProofs [kv, dd_GE, k5, k50]) (by simp -implicitDefEqProofs [kv, dd_GE, k5, k50])⟩
    · rcases e11 with e11 | e11
      · try dsimp only at h ⊢
        refine eb_blk_r ?_
        refine eb_seq_r ?_
        obtain rfl := Option.some.inj h
        refine eb_nil ?_
        simp -implicitDefEqProofs only [vt, ↓atI_fold, forall_const, implies_true, sevalprocAttr, retQ_r, Tryd.results44, dd_GE, k5] <;> first | rfl | (simp [List.map_append, dd_GE]; done)
      · try dsimp only at h ⊢
        refine eb_blk_hit ?_
        refine eb_seq ?_
        refine rb_seq ?_
        refine rb_regionK fun K84 hK84 => ?_
        simp -implicitDefEqProofs only [vt, ↓atI_fold, forall_const, implies_true, sevalprocAttr, dd_GE, k5]
        subst hK84
        refine eb_seq ?_
        refine rb_ret ?_
        obtain rfl := Option.some.inj h
        refine eb_nil ?_
        simp -implicitDefEqProofs only [vt, ↓atI_fold, forall_const, implies_true, sevalprocAttr, retQ_r, Tryd.results44, dd_GE, k5] <;> first | rfl | (simp [List.map_append, dd_GE]; done)
end Go.Proofs.YtncmdhkmbmkiiaaDoor
