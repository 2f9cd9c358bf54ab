/- What some functions compute, read off their texts by a program of mine (gen.py): definitions, and contracts (the text computes it). No condition but that the definition answers. -/
import Derived.Test.YtipdmcpmedmicaaDoorHC
namespace Go.Proofs.YtipdmcpmedmicaaDoor
open Go.RowKit
set_option maxRecDepth 100000
set_option linter.unusedVariables false
set_option linter.unusedSimpArgs false
set_option maxHeartbeats 10000000
structure T_arr3_Int where
  a0 : Int
  a1 : Int
  a2 : Int
  deriving DecidableEq
def T_arr3_Int.d (x : T_arr3_Int) : D := .agg [.int .i64 x.a0, .int .i64 x.a1, .int .i64 x.a2]
theorem dd_HN : (∀ x, T_arr3_Int.d x = .agg [.int .i64 x.a0, .int .i64 x.a1, .int .i64 x.a2]) := fun _ => rfl
-- captionerref02.Valid
def g_ref02_Valid (r_0 : Int) : Option (Bool) :=
  (if (decide (1 ≤ r_0)) then (some (decide (r_0 ≤ 7))) else (some false))
theorem a_ref02_Valid (I : World → Prop) (hI : Stab I) (r_0 : Int) {r : Bool} (h : g_ref02_Valid r_0 = some r) : AFun Tryd.prog I 42 [.int .u8 r_0] (.bool r) := by
  refine AFun.enterB hI Tryd.func42 rfl (by decide) (by simp [Tryd.f42]) (by kernel_rfl) ?_
  unfold g_ref02_Valid at h
  simp only [S0, Tryd.ntmps42, dd_HN]
  refine rb_seq ?_
  refine rb_regionK fun K2 hK2 => ?_
  simp -implicitDefEqProofs only [vt, vm, ↓atI_fold, forall_const, implies_true, sevalprocAttr, dd_HN]
  subst hK2
  refine eb_seq ?_
  refine rb_seq ?_
  refine rb_regionK fun K5 hK5 => ?_
  simp -implicitDefEqProofs only [vt, vm, ↓atI_fold, forall_const, implies_true, sevalprocAttr, dd_HN]
  rcases ite_or h with ⟨k6, h⟩ | ⟨k6, h⟩
  · simp -implicitDefEqProofs only [vt, vm, ↓atI_fold, forall_const, implies_true, sevalprocAttr, dd_HN, k6]
    subst hK5
    refine eb_seq ?_
    refine rb_ret ?_
    obtain rfl := Option.some.inj h
    refine eb_nil ?_
    simp -implicitDefEqProofs only [vt, vm, ↓atI_fold, forall_const, implies_true, sevalprocAttr, retQ_r, Tryd.results42, dd_HN, k6] <;> first | rfl | (simp [List.map_append, dd_HN]; done)
  · simp -implicitDefEqProofs only [vt, vm, ↓atI_fold, forall_const, implies_true, sevalprocAttr, dd_HN, k6]
    subst hK5
    refine eb_seq ?_
    refine rb_ret ?_
    obtain rfl := Option.some.inj h
    refine eb_nil ?_
    simp -implicitDefEqProofs only [vt, vm, ↓atI_fold, forall_const, implies_true, sevalprocAttr, retQ_r, Tryd.results42, dd_HN, k6] <;> first | rfl | (simp [List.map_append, dd_HN]; done)
-- captionerref40.within
def g_ref40_within (n_0 : Int) (lo_1 : Int) (hi_2 : Int) : Option (Bool) :=
  (if (decide (lo_1 ≤ n_0)) then (some (decide (n_0 ≤ hi_2))) else (some false))
theorem a_ref40_within (I : World → Prop) (hI : Stab I) (n_0 : Int) (lo_1 : Int) (hi_2 : Int) {r : Bool} (h : g_ref40_within n_0 lo_1 hi_2 = some r) : AFun Tryd.prog I 43 [.int .i64 n_0, .int .i64 lo_1, .int .i64 hi_2] (.bool r) := by
  refine AFun.enterB hI Tryd.func43 rfl (by decide) (by simp [Tryd.f43]) (by kernel_rfl) ?_
  unfold g_ref40_within at h
  simp only [S0, Tryd.ntmps43, dd_HN]
  refine rb_seq ?_
  refine rb_regionK fun K2 hK2 => ?_
  simp -implicitDefEqProofs only [vt, vm, ↓atI_fold, forall_const, implies_true, sevalprocAttr, dd_HN]
  subst hK2
  refine eb_seq ?_
  refine rb_seq ?_
  refine rb_regionK fun K5 hK5 => ?_
  simp -implicitDefEqProofs only [vt, vm, ↓atI_fold, forall_const, implies_true, sevalprocAttr, dd_HN]
  rcases ite_or h with ⟨k6, h⟩ | ⟨k6, h⟩
  · simp -implicitDefEqProofs only [vt, vm, ↓atI_fold, forall_const, implies_true, sevalprocAttr, dd_HN, k6]
    subst hK5
    refine eb_seq ?_
    refine rb_ret ?_
    obtain rfl := Option.some.inj h
    refine eb_nil ?_
    simp -implicitDefEqProofs only [vt, vm, ↓atI_fold, forall_const, implies_true, sevalprocAttr, retQ_r, Tryd.results43, dd_HN, k6] <;> first | rfl | (simp [List.map_append, dd_HN]; done)
  · simp -implicitDefEqProofs only [vt, vm, ↓atI_fold, forall_const, implies_true, sevalprocAttr, dd_HN, k6]
    subst hK5
    refine eb_seq ?_
    refine rb_ret ?_
    obtain rfl := Option.some.inj h
    refine eb_nil ?_
    simp -implicitDefEqProofs only [vt, vm, ↓atI_fold, forall_const, implies_true, sevalprocAttr, retQ_r, Tryd.results43, dd_HN, k6] <;> first | rfl | (simp [List.map_append, dd_HN]; done)
-- captionerref02.Ticks
def g_ref02_Ticks (r_0 : Int) : Option (Int) :=
  ((g_ref02_Valid r_0).bind fun r7 => (if r7 then ((atI [5005, 5000, 4800, 4004, 4000, 2400, 2002] (IntKind.u8.wrap (r_0 - 1))).bind fun y17 => (some y17)) else (some 0)))
theorem a_ref02_Ticks (I : World → Prop) (hI : Stab I) (r_0 : Int) {r : Int} (h : g_ref02_Ticks r_0 = some r) : AFun Tryd.prog I 44 [.int .u8 r_0] (.int .i64 r) := by
  refine AFun.enterB hI Tryd.func44 rfl (by decide) (by simp [Tryd.f44]) (by kernel_rfl) ?_
  unfold g_ref02_Ticks at h
  simp only [S0, Tryd.ntmps44, dd_HN]
  refine rb_seq ?_
  refine rb_regionK fun K2 hK2 => ?_
  simp -implicitDefEqProofs only [vt, vm, ↓atI_fold, forall_const, implies_true, sevalprocAttr, dd_HN]
  subst hK2
  refine eb_seq ?_
  refine rb_seq ?_
  refine rb_seq ?_
  refine rb_regionK fun K6 hK6 => ?_
  simp -implicitDefEqProofs only [vt, vm, ↓atI_fold, forall_const, implies_true, sevalprocAttr, dd_HN]
  obtain ⟨r7, h8, h⟩ := bind_some h
  refine cW.intro (a_ref02_Valid I hI r_0 h8) (by first | rfl | (simp [List.map_append, dd_HN]; done)) ?_
  simp -implicitDefEqProofs only [vt, vm, ↓atI_fold, forall_const, implies_true, sevalprocAttr, dd_HN]
  subst hK6
  refine eb_seq ?_
  rcases ite_or h with ⟨k9, h⟩ | ⟨k9, h⟩
  · refine rb_false (by first | exact congrArg D.bool (congrArg Bool.not k9) | rfl) ?_
    refine rb_skip ?_
    refine eb_seq ?_
    refine rb_seq ?_
    refine rb_regionK fun K16 hK16 => ?_
    simp -implicitDefEqProofs only [vt, vm, ↓atI_fold, forall_const, implies_true, sevalprocAttr, dd_HN, k9]
    obtain ⟨y17, h18, h⟩ := bind_some h
    obtain ⟨h19, h20, h21⟩ := atI_own h18
    have h21 := h21 (D.int .i64)
    simp only [List.map_cons, List.map_nil, dd_HN] at h21
    have h20 : (IntKind.u8.wrap (r_0 - 1)) < 7 := by simpa using h20
    simp -implicitDefEqProofs only [vt, vm, ↓atI_fold, forall_const, implies_true, sevalprocAttr, dd_HN, k9, h19, h20, h21]
    subst hK16
    refine eb_seq ?_
    refine rb_ret ?_
    obtain rfl := Option.some.inj h
    refine eb_nil ?_
    simp -implicitDefEqProofs only [vt, vm, ↓atI_fold, forall_const, implies_true, sevalprocAttr, retQ_r, Tryd.results44, dd_HN, k9, h19, h20, h21] <;> first | rfl | (simp [List.map_append, dd_HN]; done)
  · refine rb_true (by first | exact congrArg D.bool (congrArg Bool.not k9) | rfl) ?_
    refine rb_seq ?_
    refine rb_regionK fun K23 hK23 => ?_
    simp -implicitDefEqProofs only [vt, vm, ↓atI_fold, forall_const, implies_true, sevalprocAttr, dd_HN, k9]
    subst hK23
    refine eb_seq ?_
    refine rb_ret ?_
    refine eb_seq_r ?_
    obtain rfl := Option.some.inj h
    refine eb_nil ?_
    simp -implicitDefEqProofs only [vt, vm, ↓atI_fold, forall_const, implies_true, sevalprocAttr, retQ_r, Tryd.results44, dd_HN, k9] <;> first | rfl | (simp [List.map_append, dd_HN]; done)
-- captionerref40.Needed
def g_ref40_Needed (rate_0 : Int) (chars_1 : Int) (limit_2 : Int) : Option (Int × Int) :=
  ((g_ref02_Valid rate_0).bind fun r7 => (if r7 then ((((g_ref40_within chars_1 0 10000).bind fun r18 => (if r18 then ((g_ref40_within limit_2 1 10000).bind fun r21 => (some (!r21))) else (some true))) : Option (Bool)).bind fun v16 => (if v16 then (some (0, 2)) else ((g_ref02_Ticks rate_0).bind fun r31 => (if ¬ (IntKind.i64.wrap (limit_2 * r31)) = 0 then (some ((IntKind.i64.wrap (Int.tdiv (IntKind.i64.wrap ((IntKind.i64.wrap ((IntKind.i64.wrap ((IntKind.i64.wrap (chars_1 * 100)) * 120000)) + (IntKind.i64.wrap (limit_2 * r31)))) - 1)) (IntKind.i64.wrap (limit_2 * r31)))), 0)) else none)))) else (some (0, 3))))
theorem a_ref40_Needed (I : World → Prop) (hI : Stab I) (rate_0 : Int) (chars_1 : Int) (limit_2 : Int) {r : Int × Int} (h : g_ref40_Needed rate_0 chars_1 limit_2 = some r) : AFun Tryd.prog I 13 [.int .u8 rate_0, .int .i64 chars_1, .int .i64 limit_2] (.tup [.int .i64 r.1, .int .i64 r.2]) := by
  refine AFun.enterB hI Tryd.func13 rfl (by decide) (by simp [Tryd.f13]) (by kernel_rfl) ?_
  unfold g_ref40_Needed at h
  simp only [S0, Tryd.ntmps13, dd_HN]
  refine rb_seq ?_
  refine rb_regionK fun K2 hK2 => ?_
  simp -implicitDefEqProofs only [vt, vm, ↓atI_fold, forall_const, implies_true, sevalprocAttr, dd_HN]
  subst hK2
  refine eb_seq ?_
  refine rb_seq ?_
  refine rb_seq ?_
  refine rb_regionK fun K6 hK6 => ?_
  simp -implicitDefEqProofs only [vt, vm, ↓atI_fold, forall_const, implies_true, sevalprocAttr, dd_HN]
  obtain ⟨r7, h8, h⟩ := bind_some h
  refine cW.intro (a_ref02_Valid I hI rate_0 h8) (by first | rfl | (simp [List.map_append, dd_HN]; done)) ?_
  simp -implicitDefEqProofs only [vt, vm, ↓atI_fold, forall_const, implies_true, sevalprocAttr, dd_HN]
  subst hK6
  refine eb_seq ?_
  rcases ite_or h with ⟨k9, h⟩ | ⟨k9, h⟩
  · refine rb_false (by first | exact congrArg D.bool (congrArg Bool.not k9) | rfl) ?_
    refine rb_skip ?_
    refine eb_seq ?_
    refine rb_seq ?_
    obtain ⟨v16, h23, h⟩ := bind_some h
    refine rb_cut (fun v16 => ⟨envL [(0, .int .u8 rate_0), (1, .int .i64 chars_1), (2, .int .i64 limit_2), (19, .bool v16)], heapL [], 0, 32⟩) h23 ?_ ?_
    · clear h
      intro v16 h
      refine rb_regionK fun K17 hK17 => ?_
      simp -implicitDefEqProofs only [vt, vm, ↓atI_fold, forall_const, implies_true, sevalprocAttr, dd_HN, k9]
      obtain ⟨r18, h19, h⟩ := bind_some h
      refine cW.intro (a_ref40_within I hI chars_1 0 10000 h19) (by first | rfl | (simp [List.map_append, dd_HN]; done)) ?_
      simp -implicitDefEqProofs only [vt, vm, ↓atI_fold, forall_const, implies_true, sevalprocAttr, dd_HN, k9]
      rcases ite_or h with ⟨k20, h⟩ | ⟨k20, h⟩
      · simp -implicitDefEqProofs only [vt, vm, ↓atI_fold, forall_const, implies_true, sevalprocAttr, dd_HN, k9, k20]
        obtain ⟨r21, h22, h⟩ := bind_some h
        refine cW.intro (a_ref40_within I hI limit_2 1 10000 h22) (by first | rfl | (simp [List.map_append, dd_HN]; done)) ?_
        simp -implicitDefEqProofs only [vt, vm, ↓atI_fold, forall_const, implies_true, sevalprocAttr, dd_HN, k9, k20]
        subst hK17
        obtain rfl := Option.some.inj h
        exact eb_nil ⟨rfl, Wk.of (fun i => some i) _ _ _ (by simp -implicitDefEqProofs [kv, km, dd_HN, k9, k20]) (by simp -implicitDefEqProofs [kv, km, dd_HN, k9, k20])⟩
      · simp -implicitDefEqProofs only [vt, vm, ↓atI_fold, forall_const, implies_true, sevalprocAttr, dd_HN, k9, k20]
        subst hK17
        obtain rfl := Option.some.inj h
        exact eb_nil ⟨rfl, Wk.of (fun i => some i) _ _ _ (by simp -implicitDefEqProofs [kv, km, dd_HN, k9, k20]) (by simp -implicitDefEqProofs [kv, km, dd_HN, k9, k20])⟩
    · rcases ite_or h with ⟨k24, h⟩ | ⟨k24, h⟩
      · refine rb_true (by first | exact congrArg D.bool k24 | rfl) ?_
        refine rb_seq ?_
        refine rb_regionK fun K26 hK26 => ?_
        simp -implicitDefEqProofs only [vt, vm, ↓atI_fold, forall_const, implies_true, sevalprocAttr, dd_HN, k9, k24]
        subst hK26
        refine eb_seq ?_
        refine rb_ret ?_
        refine eb_seq_r ?_
        obtain rfl := Option.some.inj h
        refine eb_nil ?_
        simp -implicitDefEqProofs only [vt, vm, ↓atI_fold, forall_const, implies_true, sevalprocAttr, retQ_r, Tryd.results13, dd_HN, k9, k24] <;> first | rfl | (simp [List.map_append, dd_HN]; done)
      · refine rb_false (by first | exact congrArg D.bool k24 | rfl) ?_
        refine rb_skip ?_
        refine eb_seq ?_
        refine rb_seq ?_
        refine rb_regionK fun K30 hK30 => ?_
        simp -implicitDefEqProofs only [vt, vm, ↓atI_fold, forall_const, implies_true, sevalprocAttr, dd_HN, k9, k24]
        obtain ⟨r31, h32, h⟩ := bind_some h
        refine cW.intro (a_ref02_Ticks I hI rate_0 h32) (by first | rfl | (simp [List.map_append, dd_HN]; done)) ?_
        simp -implicitDefEqProofs only [vt, vm, ↓atI_fold, forall_const, implies_true, sevalprocAttr, dd_HN, k9, k24]
        subst hK30
        refine eb_seq ?_
        refine rb_seq ?_
        refine rb_regionK fun K35 hK35 => ?_
        simp -implicitDefEqProofs only [vt, vm, ↓atI_fold, forall_const, implies_true, sevalprocAttr, dd_HN, k9, k24]
        obtain ⟨h36, h⟩ := ite_on h
        simp -implicitDefEqProofs only [vt, vm, ↓atI_fold, forall_const, implies_true, sevalprocAttr, dd_HN, k9, k24, h36]
        subst hK35
        refine eb_seq ?_
        refine rb_ret ?_
        obtain rfl := Option.some.inj h
        refine eb_nil ?_
        simp -implicitDefEqProofs only [vt, vm, ↓atI_fold, forall_const, implies_true, sevalprocAttr, retQ_r, Tryd.results13, dd_HN, k9, k24, h36] <;> first | rfl | (simp [List.map_append, dd_HN]; done)
  · refine rb_true (by first | exact congrArg D.bool (congrArg Bool.not k9) | rfl) ?_
    refine rb_seq ?_
    refine rb_regionK fun K38 hK38 => ?_
    simp -implicitDefEqProofs only [vt, vm, ↓atI_fold, forall_const, implies_true, sevalprocAttr, dd_HN, k9]
    subst hK38
    refine eb_seq ?_
    refine rb_ret ?_
    refine eb_seq_r ?_
    obtain rfl := Option.some.inj h
    refine eb_nil ?_
    simp -implicitDefEqProofs only [vt, vm, ↓atI_fold, forall_const, implies_true, sevalprocAttr, retQ_r, Tryd.results13, dd_HN, k9] <;> first | rfl | (simp [List.map_append, dd_HN]; done)
-- captionerref40.Speed
def g_ref40_Speed (rate_0 : Int) (chars_1 : Int) (frames_2 : Int) : Option (Int × Int) :=
  ((g_ref02_Valid rate_0).bind fun r7 => (if r7 then ((((g_ref40_within chars_1 0 10000).bind fun r18 => (if r18 then ((g_ref40_within frames_2 1 5184000).bind fun r21 => (some (!r21))) else (some true))) : Option (Bool)).bind fun v16 => (if v16 then (some (0, 2)) else ((g_ref02_Ticks rate_0).bind fun r31 => (if ¬ (IntKind.i64.wrap (frames_2 * r31)) = 0 then (some ((IntKind.i64.wrap (Int.tdiv (IntKind.i64.wrap ((IntKind.i64.wrap ((IntKind.i64.wrap ((IntKind.i64.wrap (chars_1 * 100)) * 120000)) + (IntKind.i64.wrap (frames_2 * r31)))) - 1)) (IntKind.i64.wrap (frames_2 * r31)))), 0)) else none)))) else (some (0, 3))))
theorem a_ref40_Speed (I : World → Prop) (hI : Stab I) (rate_0 : Int) (chars_1 : Int) (frames_2 : Int) {r : Int × Int} (h : g_ref40_Speed rate_0 chars_1 frames_2 = some r) : AFun Tryd.prog I 15 [.int .u8 rate_0, .int .i64 chars_1, .int .i64 frames_2] (.tup [.int .i64 r.1, .int .i64 r.2]) := by
  refine AFun.enterB hI Tryd.func15 rfl (by decide) (by simp [Tryd.f15]) (by kernel_rfl) ?_
  unfold g_ref40_Speed at h
  simp only [S0, Tryd.ntmps15, dd_HN]
  refine rb_seq ?_
  refine rb_regionK fun K2 hK2 => ?_
  simp -implicitDefEqProofs only [vt, vm, ↓atI_fold, forall_const, implies_true, sevalprocAttr, dd_HN]
  subst hK2
  refine eb_seq ?_
  refine rb_seq ?_
  refine rb_seq ?_
  refine rb_regionK fun K6 hK6 => ?_
  simp -implicitDefEqProofs only [vt, vm, ↓atI_fold, forall_const, implies_true, sevalprocAttr, dd_HN]
  obtain ⟨r7, h8, h⟩ := bind_some h
  refine cW.intro (a_ref02_Valid I hI rate_0 h8) (by first | rfl | (simp [List.map_append, dd_HN]; done)) ?_
  simp -implicitDefEqProofs only [vt, vm, ↓atI_fold, forall_const, implies_true, sevalprocAttr, dd_HN]
  subst hK6
  refine eb_seq ?_
  rcases ite_or h with ⟨k9, h⟩ | ⟨k9, h⟩
  · refine rb_false (by first | exact congrArg D.bool (congrArg Bool.not k9) | rfl) ?_
    refine rb_skip ?_
    refine eb_seq ?_
    refine rb_seq ?_
    obtain ⟨v16, h23, h⟩ := bind_some h
    refine rb_cut (fun v16 => ⟨envL [(0, .int .u8 rate_0), (1, .int .i64 chars_1), (2, .int .i64 frames_2), (19, .bool v16)], heapL [], 0, 32⟩) h23 ?_ ?_
    · clear h
      intro v16 h
      refine rb_regionK fun K17 hK17 => ?_
      simp -implicitDefEqProofs only [vt, vm, ↓atI_fold, forall_const, implies_true, sevalprocAttr, dd_HN, k9]
      obtain ⟨r18, h19, h⟩ := bind_some h
      refine cW.intro (a_ref40_within I hI chars_1 0 10000 h19) (by first | rfl | (simp [List.map_append, dd_HN]; done)) ?_
      simp -implicitDefEqProofs only [vt, vm, ↓atI_fold, forall_const, implies_true, sevalprocAttr, dd_HN, k9]
      rcases ite_or h with ⟨k20, h⟩ | ⟨k20, h⟩
      · simp -implicitDefEqProofs only [vt, vm, ↓atI_fold, forall_const, implies_true, sevalprocAttr, dd_HN, k9, k20]
        obtain ⟨r21, h22, h⟩ := bind_some h
        refine cW.intro (a_ref40_within I hI frames_2 1 5184000 h22) (by first | rfl | (simp [List.map_append, dd_HN]; done)) ?_
        simp -implicitDefEqProofs only [vt, vm, ↓atI_fold, forall_const, implies_true, sevalprocAttr, dd_HN, k9, k20]
        subst hK17
        obtain rfl := Option.some.inj h
        exact eb_nil ⟨rfl, Wk.of (fun i => some i) _ _ _ (by simp -implicitDefEqProofs [kv, km, dd_HN, k9, k20]) (by simp -implicitDefEqProofs [kv, km, dd_HN, k9, k20])⟩
      · simp -implicitDefEqProofs only [vt, vm, ↓atI_fold, forall_const, implies_true, sevalprocAttr, dd_HN, k9, k20]
        subst hK17
        obtain rfl := Option.some.inj h
        exact eb_nil ⟨rfl, Wk.of (fun i => some i) _ _ _ (by simp -implicitDefEqProofs [kv, km, dd_HN, k9, k20]) (by simp -implicitDefEqProofs [kv, km, dd_HN, k9, k20])⟩
    · rcases ite_or h with ⟨k24, h⟩ | ⟨k24, h⟩
      · refine rb_true (by first | exact congrArg D.bool k24 | rfl) ?_
        refine rb_seq ?_
        refine rb_regionK fun K26 hK26 => ?_
        simp -implicitDefEqProofs only [vt, vm, ↓atI_fold, forall_const, implies_true, sevalprocAttr, dd_HN, k9, k24]
        subst hK26
        refine eb_seq ?_
        refine rb_ret ?_
        refine eb_seq_r ?_
        obtain rfl := Option.some.inj h
        refine eb_nil ?_
        simp -implicitDefEqProofs only [vt, vm, ↓atI_fold, forall_const, implies_true, sevalprocAttr, retQ_r, Tryd.results15, dd_HN, k9, k24] <;> first | rfl | (simp [List.map_append, dd_HN]; done)
      · refine rb_false (by first | exact congrArg D.bool k24 | rfl) ?_
        refine rb_skip ?_
        refine eb_seq ?_
        refine rb_seq ?_
        refine rb_regionK fun K30 hK30 => ?_
        simp -implicitDefEqProofs only [vt, vm, ↓atI_fold, forall_const, implies_true, sevalprocAttr, dd_HN, k9, k24]
        obtain ⟨r31, h32, h⟩ := bind_some h
        refine cW.intro (a_ref02_Ticks I hI rate_0 h32) (by first | rfl | (simp [List.map_append, dd_HN]; done)) ?_
        simp -implicitDefEqProofs only [vt, vm, ↓atI_fold, forall_const, implies_true, sevalprocAttr, dd_HN, k9, k24]
        subst hK30
        refine eb_seq ?_
        refine rb_seq ?_
        refine rb_regionK fun K35 hK35 => ?_
        simp -implicitDefEqProofs only [vt, vm, ↓atI_fold, forall_const, implies_true, sevalprocAttr, dd_HN, k9, k24]
        obtain ⟨h36, h⟩ := ite_on h
        simp -implicitDefEqProofs only [vt, vm, ↓atI_fold, forall_const, implies_true, sevalprocAttr, dd_HN, k9, k24, h36]
        subst hK35
        refine eb_seq ?_
        refine rb_ret ?_
        obtain rfl := Option.some.inj h
        refine eb_nil ?_
        simp -implicitDefEqProofs only [vt, vm, ↓atI_fold, forall_const, implies_true, sevalprocAttr, retQ_r, Tryd.results15, dd_HN, k9, k24, h36] <;> first | rfl | (simp [List.map_append, dd_HN]; done)
  · refine rb_true (by first | exact congrArg D.bool (congrArg Bool.not k9) | rfl) ?_
    refine rb_seq ?_
    refine rb_regionK fun K38 hK38 => ?_
    simp -implicitDefEqProofs only [vt, vm, ↓atI_fold, forall_const, implies_true, sevalprocAttr, dd_HN, k9]
    subst hK38
    refine eb_seq ?_
    refine rb_ret ?_
    refine eb_seq_r ?_
    obtain rfl := Option.some.inj h
    refine eb_nil ?_
    simp -implicitDefEqProofs only [vt, vm, ↓atI_fold, forall_const, implies_true, sevalprocAttr, retQ_r, Tryd.results15, dd_HN, k9] <;> first | rfl | (simp [List.map_append, dd_HN]; done)
-- captionerlaw40.ReadingNeeds
def g_law40_ReadingNeeds (rate_0 : Int) (chars_1 : Int) (n_2 : Int) : Option (Bool) :=
  ((g_law40_awake).bind fun r7 => (if r7 then ((g_reading_Needed rate_0 chars_1 n_2).bind fun r14 => ((g_ref40_Needed rate_0 chars_1 n_2).bind fun r20 => ((g_reading_Speed rate_0 chars_1 n_2).bind fun r26 => ((g_ref40_Speed rate_0 chars_1 n_2).bind fun r32 => (if (r14.1 == r20.1) then (if (r14.2 == r20.2) then (if (r26.1 == r32.1) then (some (r26.2 == r32.2)) else (some false)) else (some false)) else (some false)))))) else (some false)))
theorem a_law40_ReadingNeeds (I : World → Prop) (hI : Stab I) (hShp : ∀ w, I w → Shp w) (hU8T : ∀ w, I w → U8T w) (rate_0 : Int) (chars_1 : Int) (n_2 : Int) {r : Bool} (h : g_law40_ReadingNeeds rate_0 chars_1 n_2 = some r) : AFun Tryd.prog I 3 [.int .u8 rate_0, .int .i64 chars_1, .int .i64 n_2] (.bool r) := by
  refine AFun.enterB hI Tryd.func3 rfl (by decide) (by simp [Tryd.f3]) (by kernel_rfl) ?_
  unfold g_law40_ReadingNeeds at h
  simp only [S0, Tryd.ntmps3, dd_HN]
  refine rb_seq ?_
  refine rb_regionK fun K2 hK2 => ?_
  simp -implicitDefEqProofs only [vt, vm, ↓atI_fold, forall_const, implies_true, sevalprocAttr, dd_HN]
  subst hK2
  refine eb_seq ?_
  refine rb_seq ?_
  refine rb_seq ?_
  refine rb_regionK fun K6 hK6 => ?_
  simp -implicitDefEqProofs only [vt, vm, ↓atI_fold, forall_const, implies_true, sevalprocAttr, dd_HN]
  obtain ⟨r7, h8, h⟩ := bind_some h
  refine cW.intro (a_law40_awake I hI hShp hU8T h8) (by first | rfl | (simp [List.map_append, dd_HN]; done)) ?_
  simp -implicitDefEqProofs only [vt, vm, ↓atI_fold, forall_const, implies_true, sevalprocAttr, dd_HN]
  subst hK6
  refine eb_seq ?_
  rcases ite_or h with ⟨k9, h⟩ | ⟨k9, h⟩
  · refine rb_false (by first | exact congrArg D.bool (congrArg Bool.not k9) | rfl) ?_
    refine rb_skip ?_
    refine eb_seq ?_
    refine rb_seq ?_
    refine rb_regionK fun K13 hK13 => ?_
    simp -implicitDefEqProofs only [vt, vm, ↓atI_fold, forall_const, implies_true, sevalprocAttr, dd_HN, k9]
    obtain ⟨r14, h15, h⟩ := bind_some h
    refine cW.intro (a_reading_Needed I hI rate_0 chars_1 n_2 h15) (by first | rfl | (simp [List.map_append, dd_HN]; done)) ?_
    simp -implicitDefEqProofs only [vt, vm, ↓atI_fold, forall_const, implies_true, sevalprocAttr, dd_HN, k9]
    subst hK13
    refine eb_seq ?_
    refine rb_seq ?_
    refine rb_regionK fun K19 hK19 => ?_
    simp -implicitDefEqProofs only [vt, vm, ↓atI_fold, forall_const, implies_true, sevalprocAttr, dd_HN, k9]
    obtain ⟨r20, h21, h⟩ := bind_some h
    refine cW.intro (a_ref40_Needed I hI rate_0 chars_1 n_2 h21) (by first | rfl | (simp [List.map_append, dd_HN]; done)) ?_
    simp -implicitDefEqProofs only [vt, vm, ↓atI_fold, forall_const, implies_true, sevalprocAttr, dd_HN, k9]
    subst hK19
    refine eb_seq ?_
    refine rb_seq ?_
    refine rb_regionK fun K25 hK25 => ?_
    simp -implicitDefEqProofs only [vt, vm, ↓atI_fold, forall_const, implies_true, sevalprocAttr, dd_HN, k9]
    obtain ⟨r26, h27, h⟩ := bind_some h
    refine cW.intro (a_reading_Speed I hI rate_0 chars_1 n_2 h27) (by first | rfl | (simp [List.map_append, dd_HN]; done)) ?_
    simp -implicitDefEqProofs only [vt, vm, ↓atI_fold, forall_const, implies_true, sevalprocAttr, dd_HN, k9]
    subst hK25
    refine eb_seq ?_
    refine rb_seq ?_
    refine rb_regionK fun K31 hK31 => ?_
    simp -implicitDefEqProofs only [vt, vm, ↓atI_fold, forall_const, implies_true, sevalprocAttr, dd_HN, k9]
    obtain ⟨r32, h33, h⟩ := bind_some h
    refine cW.intro (a_ref40_Speed I hI rate_0 chars_1 n_2 h33) (by first | rfl | (simp [List.map_append, dd_HN]; done)) ?_
    simp -implicitDefEqProofs only [vt, vm, ↓atI_fold, forall_const, implies_true, sevalprocAttr, dd_HN, k9]
    subst hK31
    refine eb_seq ?_
    refine rb_seq ?_
    refine rb_regionK fun K38 hK38 => ?_
    simp -implicitDefEqProofs only [vt, vm, ↓atI_fold, forall_const, implies_true, sevalprocAttr, dd_HN, k9]
    rcases ite_or h with ⟨k39, h⟩ | ⟨k39, h⟩
    · simp -implicitDefEqProofs only [vt, vm, ↓atI_fold, forall_const, implies_true, sevalprocAttr, dd_HN, k9, k39]
      rcases ite_or h with ⟨k40, h⟩ | ⟨k40, h⟩
      · simp -implicitDefEqProofs only [vt, vm, ↓atI_fold, forall_const, implies_true, sevalprocAttr, dd_HN, k9, k39, k40]
        rcases ite_or h with ⟨k41, h⟩ | ⟨k41, h⟩
        · simp -implicitDefEqProofs only [vt, vm, ↓atI_fold, forall_const, implies_true, sevalprocAttr, dd_HN, k9, k39, k40, k41]
          subst hK38
          refine eb_seq ?_
          refine rb_ret ?_
          obtain rfl := Option.some.inj h
          refine eb_nil ?_
          simp -implicitDefEqProofs only [vt, vm, ↓atI_fold, forall_const, implies_true, sevalprocAttr, retQ_r, Tryd.results3, dd_HN, k9, k39, k40, k41] <;> first | rfl | (simp [List.map_append, dd_HN]; done)
        · simp -implicitDefEqProofs only [vt, vm, ↓atI_fold, forall_const, implies_true, sevalprocAttr, dd_HN, k9, k39, k40, k41]
          subst hK38
          refine eb_seq ?_
          refine rb_ret ?_
          obtain rfl := Option.some.inj h
          refine eb_nil ?_
          simp -implicitDefEqProofs only [vt, vm, ↓atI_fold, forall_const, implies_true, sevalprocAttr, retQ_r, Tryd.results3, dd_HN, k9, k39, k40, k41] <;> first | rfl | (simp [List.map_append, dd_HN]; done)
      · simp -implicitDefEqProofs only [vt, vm, ↓atI_fold, forall_const, implies_true, sevalprocAttr, dd_HN, k9, k39, k40]
        subst hK38
        refine eb_seq ?_
        refine rb_ret ?_
        obtain rfl := Option.some.inj h
        refine eb_nil ?_
        simp -implicitDefEqProofs only [vt, vm, ↓atI_fold, forall_const, implies_true, sevalprocAttr, retQ_r, Tryd.results3, dd_HN, k9, k39, k40] <;> first | rfl | (simp [List.map_append, dd_HN]; done)
    · simp -implicitDefEqProofs only [vt, vm, ↓atI_fold, forall_const, implies_true, sevalprocAttr, dd_HN, k9, k39]
      subst hK38
      refine eb_seq ?_
      refine rb_ret ?_
      obtain rfl := Option.some.inj h
      refine eb_nil ?_
      simp -implicitDefEqProofs only [vt, vm, ↓atI_fold, forall_const, implies_true, sevalprocAttr, retQ_r, Tryd.results3, dd_HN, k9, k39] <;> first | rfl | (simp [List.map_append, dd_HN]; done)
  · refine rb_true (by first | exact congrArg D.bool (congrArg Bool.not k9) | rfl) ?_
    refine rb_seq ?_
    refine rb_regionK fun K43 hK43 => ?_
    simp -implicitDefEqProofs only [vt, vm, ↓atI_fold, forall_const, implies_true, sevalprocAttr, dd_HN, k9]
    subst hK43
    refine eb_seq ?_
    refine rb_ret ?_
    refine eb_seq_r ?_
    obtain rfl := Option.some.inj h
    refine eb_nil ?_
    simp -implicitDefEqProofs only [vt, vm, ↓atI_fold, forall_const, implies_true, sevalprocAttr, retQ_r, Tryd.results3, dd_HN, k9] <;> first | rfl | (simp [List.map_append, dd_HN]; done)
-- reading.Fits
def g_reading_Fits (rate_0 : Int) (chars_1 : Int) (frames_2 : Int) (limit_3 : Int) : Option (Bool × Int) :=
  ((g_timebase_Valid rate_0).bind fun r7 => (if r7 then ((((g_reading_within chars_1 0 10000).bind fun r21 => (if r21 then ((g_reading_within limit_3 1 10000).bind fun r24 => (if r24 then ((g_reading_within frames_2 0 5184000).bind fun r27 => (some (!r27))) else (some true))) else (some true))) : Option (Bool)).bind fun v19 => (if v19 then (some (false, 2)) else ((g_reading_load chars_1).bind fun r39 => ((g_timebase_Ticks rate_0).bind fun r41 => (some ((decide (r39 ≤ (IntKind.i64.wrap ((IntKind.i64.wrap (limit_3 * frames_2)) * r41)))), 0)))))) else (some (false, 3))))
theorem a_reading_Fits (I : World → Prop) (hI : Stab I) (rate_0 : Int) (chars_1 : Int) (frames_2 : Int) (limit_3 : Int) {r : Bool × Int} (h : g_reading_Fits rate_0 chars_1 frames_2 limit_3 = some r) : AFun Tryd.prog I 20 [.int .u8 rate_0, .int .i64 chars_1, .int .i64 frames_2, .int .i64 limit_3] (.tup [.bool r.1, .int .i64 r.2]) := by
  refine AFun.enterB hI Tryd.func20 rfl (by decide) (by simp [Tryd.f20]) (by kernel_rfl) ?_
  unfold g_reading_Fits at h
  simp only [S0, Tryd.ntmps20, dd_HN]
  refine rb_seq ?_
  refine rb_regionK fun K2 hK2 => ?_
  simp -implicitDefEqProofs only [vt, vm, ↓atI_fold, forall_const, implies_true, sevalprocAttr, dd_HN]
  subst hK2
  refine eb_seq ?_
  refine rb_seq ?_
  refine rb_seq ?_
  refine rb_regionK fun K6 hK6 => ?_
  simp -implicitDefEqProofs only [vt, vm, ↓atI_fold, forall_const, implies_true, sevalprocAttr, dd_HN]
  obtain ⟨r7, h8, h⟩ := bind_some h
  refine cW.intro (a_timebase_Valid I hI rate_0 h8) (by first | rfl | (simp [List.map_append, dd_HN]; done)) ?_
  simp -implicitDefEqProofs only [vt, vm, ↓atI_fold, forall_const, implies_true, sevalprocAttr, dd_HN]
  subst hK6
  refine eb_seq ?_
  rcases ite_or h with ⟨k9, h⟩ | ⟨k9, h⟩
  · refine rb_false (by first | exact congrArg D.bool (congrArg Bool.not k9) | rfl) ?_
    refine rb_skip ?_
    refine eb_seq ?_
    refine rb_seq ?_
    obtain ⟨v19, h29, h⟩ := bind_some h
    refine rb_cut (fun v19 => ⟨envL [(0, .int .u8 rate_0), (1, .int .i64 chars_1), (2, .int .i64 frames_2), (3, .int .i64 limit_3), (25, .bool v19)], heapL [], 0, 35⟩) h29 ?_ ?_
    · clear h
      intro v19 h
      refine rb_regionK fun K20 hK20 => ?_
      simp -implicitDefEqProofs only [vt, vm, ↓atI_fold, forall_const, implies_true, sevalprocAttr, dd_HN, k9]
      obtain ⟨r21, h22, h⟩ := bind_some h
      refine cW.intro (a_reading_within I hI chars_1 0 10000 h22) (by first | rfl | (simp [List.map_append, dd_HN]; done)) ?_
      simp -implicitDefEqProofs only [vt, vm, ↓atI_fold, forall_const, implies_true, sevalprocAttr, dd_HN, k9]
      rcases ite_or h with ⟨k23, h⟩ | ⟨k23, h⟩
      · simp -implicitDefEqProofs only [vt, vm, ↓atI_fold, forall_const, implies_true, sevalprocAttr, dd_HN, k9, k23]
        obtain ⟨r24, h25, h⟩ := bind_some h
        refine cW.intro (a_reading_within I hI limit_3 1 10000 h25) (by first | rfl | (simp [List.map_append, dd_HN]; done)) ?_
        simp -implicitDefEqProofs only [vt, vm, ↓atI_fold, forall_const, implies_true, sevalprocAttr, dd_HN, k9, k23]
        rcases ite_or h with ⟨k26, h⟩ | ⟨k26, h⟩
        · simp -implicitDefEqProofs only [vt, vm, ↓atI_fold, forall_const, implies_true, sevalprocAttr, dd_HN, k9, k23, k26]
          obtain ⟨r27, h28, h⟩ := bind_some h
          refine cW.intro (a_reading_within I hI frames_2 0 5184000 h28) (by first | rfl | (simp [List.map_append, dd_HN]; done)) ?_
          simp -implicitDefEqProofs only [vt, vm, ↓atI_fold, forall_const, implies_true, sevalprocAttr, dd_HN, k9, k23, k26]
          subst hK20
          obtain rfl := Option.some.inj h
          exact eb_nil ⟨rfl, Wk.of (fun i => some i) _ _ _ (by simp -implicitDefEqProofs [kv, km, dd_HN, k9, k23, k26]) (by simp -implicitDefEqProofs [kv, km, dd_HN, k9, k23, k26])⟩
        · simp -implicitDefEqProofs only [vt, vm, ↓atI_fold, forall_const, implies_true, sevalprocAttr, dd_HN, k9, k23, k26]
          subst hK20
          obtain rfl := Option.some.inj h
          exact eb_nil ⟨rfl, Wk.of (fun i => some i) _ _ _ (by simp -implicitDefEqProofs [kv, km, dd_HN, k9, k23, k26]) (by simp -implicitDefEqProofs [kv, km, dd_HN, k9, k23, k26])⟩
      · simp -implicitDefEqProofs only [vt, vm, ↓atI_fold, forall_const, implies_true, sevalprocAttr, dd_HN, k9, k23]
        subst hK20
        obtain rfl := Option.some.inj h
        exact eb_nil ⟨rfl, Wk.of (fun i => some i) _ _ _ (by simp -implicitDefEqProofs [kv, km, dd_HN, k9, k23]) (by simp -implicitDefEqProofs [kv, km, dd_HN, k9, k23])⟩
    · rcases ite_or h with ⟨k30, h⟩ | ⟨k30, h⟩
      · refine rb_true (by first | exact congrArg D.bool k30 | rfl) ?_
        refine rb_seq ?_
        refine rb_regionK fun K32 hK32 => ?_
        simp -implicitDefEqProofs only [vt, vm, ↓atI_fold, forall_const, implies_true, sevalprocAttr, dd_HN, k9, k30]
        subst hK32
        refine eb_seq ?_
        refine rb_ret ?_
        refine eb_seq_r ?_
        obtain rfl := Option.some.inj h
        refine eb_nil ?_
        simp -implicitDefEqProofs only [vt, vm, ↓atI_fold, forall_const, implies_true, sevalprocAttr, retQ_r, Tryd.results20, dd_HN, k9, k30] <;> first | rfl | (simp [List.map_append, dd_HN]; done)
      · refine rb_false (by first | exact congrArg D.bool k30 | rfl) ?_
        refine rb_skip ?_
        refine eb_seq ?_
        refine rb_seq ?_
        refine rb_regionK fun K38 hK38 => ?_
        simp -implicitDefEqProofs only [vt, vm, ↓atI_fold, forall_const, implies_true, sevalprocAttr, dd_HN, k9, k30]
        obtain ⟨r39, h40, h⟩ := bind_some h
        refine cW.intro (a_reading_load I hI chars_1 h40) (by first | rfl | (simp [List.map_append, dd_HN]; done)) ?_
        simp -implicitDefEqProofs only [vt, vm, ↓atI_fold, forall_const, implies_true, sevalprocAttr, dd_HN, k9, k30]
        obtain ⟨r41, h42, h⟩ := bind_some h
        refine cW.intro (a_timebase_Ticks I hI rate_0 h42) (by first | rfl | (simp [List.map_append, dd_HN]; done)) ?_
        simp -implicitDefEqProofs only [vt, vm, ↓atI_fold, forall_const, implies_true, sevalprocAttr, dd_HN, k9, k30]
        subst hK38
        refine eb_seq ?_
        refine rb_ret ?_
        obtain rfl := Option.some.inj h
        refine eb_nil ?_
        simp -implicitDefEqProofs only [vt, vm, ↓atI_fold, forall_const, implies_true, sevalprocAttr, retQ_r, Tryd.results20, dd_HN, k9, k30] <;> first | rfl | (simp [List.map_append, dd_HN]; done)
  · refine rb_true (by first | exact congrArg D.bool (congrArg Bool.not k9) | rfl) ?_
    refine rb_seq ?_
    refine rb_regionK fun K44 hK44 => ?_
    simp -implicitDefEqProofs only [vt, vm, ↓atI_fold, forall_const, implies_true, sevalprocAttr, dd_HN, k9]
    subst hK44
    refine eb_seq ?_
    refine rb_ret ?_
    refine eb_seq_r ?_
    obtain rfl := Option.some.inj h
    refine eb_nil ?_
    simp -implicitDefEqProofs only [vt, vm, ↓atI_fold, forall_const, implies_true, sevalprocAttr, retQ_r, Tryd.results20, dd_HN, k9] <;> first | rfl | (simp [List.map_append, dd_HN]; done)
-- captionerref40.Fits
def g_ref40_Fits (rate_0 : Int) (chars_1 : Int) (frames_2 : Int) (limit_3 : Int) : Option (Bool × Int) :=
  ((g_ref02_Valid rate_0).bind fun r7 => (if r7 then ((((g_ref40_within chars_1 0 10000).bind fun r21 => (if r21 then ((g_ref40_within limit_3 1 10000).bind fun r24 => (if r24 then ((g_ref40_within frames_2 0 5184000).bind fun r27 => (some (!r27))) else (some true))) else (some true))) : Option (Bool)).bind fun v19 => (if v19 then (some (false, 2)) else ((g_ref02_Ticks rate_0).bind fun r37 => (some ((decide ((IntKind.i64.wrap ((IntKind.i64.wrap (chars_1 * 100)) * 120000)) ≤ (IntKind.i64.wrap ((IntKind.i64.wrap (limit_3 * frames_2)) * r37)))), 0))))) else (some (false, 3))))
theorem a_ref40_Fits (I : World → Prop) (hI : Stab I) (rate_0 : Int) (chars_1 : Int) (frames_2 : Int) (limit_3 : Int) {r : Bool × Int} (h : g_ref40_Fits rate_0 chars_1 frames_2 limit_3 = some r) : AFun Tryd.prog I 21 [.int .u8 rate_0, .int .i64 chars_1, .int .i64 frames_2, .int .i64 limit_3] (.tup [.bool r.1, .int .i64 r.2]) := by
  refine AFun.enterB hI Tryd.func21 rfl (by decide) (by simp [Tryd.f21]) (by kernel_rfl) ?_
  unfold g_ref40_Fits at h
  simp only [S0, Tryd.ntmps21, dd_HN]
  refine rb_seq ?_
  refine rb_regionK fun K2 hK2 => ?_
  simp -implicitDefEqProofs only [vt, vm, ↓atI_fold, forall_const, implies_true, sevalprocAttr, dd_HN]
  subst hK2
  refine eb_seq ?_
  refine rb_seq ?_
  refine rb_seq ?_
  refine rb_regionK fun K6 hK6 => ?_
  simp -implicitDefEqProofs only [vt, vm, ↓atI_fold, forall_const, implies_true, sevalprocAttr, dd_HN]
  obtain ⟨r7, h8, h⟩ := bind_some h
  refine cW.intro (a_ref02_Valid I hI rate_0 h8) (by first | rfl | (simp [List.map_append, dd_HN]; done)) ?_
  simp -implicitDefEqProofs only [vt, vm, ↓atI_fold, forall_const, implies_true, sevalprocAttr, dd_HN]
  subst hK6
  refine eb_seq ?_
  rcases ite_or h with ⟨k9, h⟩ | ⟨k9, h⟩
  · refine rb_false (by first | exact congrArg D.bool (congrArg Bool.not k9) | rfl) ?_
    refine rb_skip ?_
    refine eb_seq ?_
    refine rb_seq ?_
    obtain ⟨v19, h29, h⟩ := bind_some h
    refine rb_cut (fun v19 => ⟨envL [(0, .int .u8 rate_0), (1, .int .i64 chars_1), (2, .int .i64 frames_2), (3, .int .i64 limit_3), (25, .bool v19)], heapL [], 0, 36⟩) h29 ?_ ?_
    · clear h
      intro v19 h
      refine rb_regionK fun K20 hK20 => ?_
      simp -implicitDefEqProofs only [vt, vm, ↓atI_fold, forall_const, implies_true, sevalprocAttr, dd_HN, k9]
      obtain ⟨r21, h22, h⟩ := bind_some h
      refine cW.intro (a_ref40_within I hI chars_1 0 10000 h22) (by first | rfl | (simp [List.map_append, dd_HN]; done)) ?_
      simp -implicitDefEqProofs only [vt, vm, ↓atI_fold, forall_const, implies_true, sevalprocAttr, dd_HN, k9]
      rcases ite_or h with ⟨k23, h⟩ | ⟨k23, h⟩
      · simp -implicitDefEqProofs only [vt, vm, ↓atI_fold, forall_const, implies_true, sevalprocAttr, dd_HN, k9, k23]
        obtain ⟨r24, h25, h⟩ := bind_some h
        refine cW.intro (a_ref40_within I hI limit_3 1 10000 h25) (by first | rfl | (simp [List.map_append, dd_HN]; done)) ?_
        simp -implicitDefEqProofs only [vt, vm, ↓atI_fold, forall_const, implies_true, sevalprocAttr, dd_HN, k9, k23]
        rcases ite_or h with ⟨k26, h⟩ | ⟨k26, h⟩
        · simp -implicitDefEqProofs only [vt, vm, ↓atI_fold, forall_const, implies_true, sevalprocAttr, dd_HN, k9, k23, k26]
          obtain ⟨r27, h28, h⟩ := bind_some h
          refine cW.intro (a_ref40_within I hI frames_2 0 5184000 h28) (by first | rfl | (simp [List.map_append, dd_HN]; done)) ?_
          simp -implicitDefEqProofs only [vt, vm, ↓atI_fold, forall_const, implies_true, sevalprocAttr, dd_HN, k9, k23, k26]
          subst hK20
          obtain rfl := Option.some.inj h
          exact eb_nil ⟨rfl, Wk.of (fun i => some i) _ _ _ (by simp -implicitDefEqProofs [kv, km, dd_HN, k9, k23, k26]) (by simp -implicitDefEqProofs [kv, km, dd_HN, k9, k23, k26])⟩
        · simp -implicitDefEqProofs only [vt, vm, ↓atI_fold, forall_const, implies_true, sevalprocAttr, dd_HN, k9, k23, k26]
          subst hK20
          obtain rfl := Option.some.inj h
          exact eb_nil ⟨rfl, Wk.of (fun i => some i) _ _ _ (by simp -implicitDefEqProofs [kv, km, dd_HN, k9, k23, k26]) (by simp -implicitDefEqProofs [kv, km, dd_HN, k9, k23, k26])⟩
      · simp -implicitDefEqProofs only [vt, vm, ↓atI_fold, forall_const, implies_true, sevalprocAttr, dd_HN, k9, k23]
        subst hK20
        obtain rfl := Option.some.inj h
        exact eb_nil ⟨rfl, Wk.of (fun i => some i) _ _ _ (by simp -implicitDefEqProofs [kv, km, dd_HN, k9, k23]) (by simp -implicitDefEqProofs [kv, km, dd_HN, k9, k23])⟩
    · rcases ite_or h with ⟨k30, h⟩ | ⟨k30, h⟩
      · refine rb_true (by first | exact congrArg D.bool k30 | rfl) ?_
        refine rb_seq ?_
        refine rb_regionK fun K32 hK32 => ?_
        simp -implicitDefEqProofs only [vt, vm, ↓atI_fold, forall_const, implies_true, sevalprocAttr, dd_HN, k9, k30]
        subst hK32
        refine eb_seq ?_
        refine rb_ret ?_
        refine eb_seq_r ?_
        obtain rfl := Option.some.inj h
        refine eb_nil ?_
        simp -implicitDefEqProofs only [vt, vm, ↓atI_fold, forall_const, implies_true, sevalprocAttr, retQ_r, Tryd.results21, dd_HN, k9, k30] <;> first | rfl | (simp [List.map_append, dd_HN]; done)
      · refine rb_false (by first | exact congrArg D.bool k30 | rfl) ?_
        refine rb_skip ?_
        refine eb_seq ?_
        refine rb_seq ?_
        refine rb_regionK fun K36 hK36 => ?_
        simp -implicitDefEqProofs only [vt, vm, ↓atI_fold, forall_const, implies_true, sevalprocAttr, dd_HN, k9, k30]
        obtain ⟨r37, h38, h⟩ := bind_some h
        refine cW.intro (a_ref02_Ticks I hI rate_0 h38) (by first | rfl | (simp [List.map_append, dd_HN]; done)) ?_
        simp -implicitDefEqProofs only [vt, vm, ↓atI_fold, forall_const, implies_true, sevalprocAttr, dd_HN, k9, k30]
        subst hK36
        refine eb_seq ?_
        refine rb_ret ?_
        obtain rfl := Option.some.inj h
        refine eb_nil ?_
        simp -implicitDefEqProofs only [vt, vm, ↓atI_fold, forall_const, implies_true, sevalprocAttr, retQ_r, Tryd.results21, dd_HN, k9, k30] <;> first | rfl | (simp [List.map_append, dd_HN]; done)
  · refine rb_true (by first | exact congrArg D.bool (congrArg Bool.not k9) | rfl) ?_
    refine rb_seq ?_
    refine rb_regionK fun K40 hK40 => ?_
    simp -implicitDefEqProofs only [vt, vm, ↓atI_fold, forall_const, implies_true, sevalprocAttr, dd_HN, k9]
    subst hK40
    refine eb_seq ?_
    refine rb_ret ?_
    refine eb_seq_r ?_
    obtain rfl := Option.some.inj h
    refine eb_nil ?_
    simp -implicitDefEqProofs only [vt, vm, ↓atI_fold, forall_const, implies_true, sevalprocAttr, retQ_r, Tryd.results21, dd_HN, k9] <;> first | rfl | (simp [List.map_append, dd_HN]; done)
-- captionerlaw40.ReadingFits
def g_law40_ReadingFits (rate_0 : Int) (n_1 : T_arr3_Int) : Option (Bool) :=
  ((g_law40_awake).bind fun r7 => (if r7 then ((g_reading_Fits rate_0 n_1.a0 n_1.a1 n_1.a2).bind fun r14 => ((g_ref40_Fits rate_0 n_1.a0 n_1.a1 n_1.a2).bind fun r20 => (((if (r14.1 == r20.1) then (some (r14.2 != r20.2)) else (some true)) : Option (Bool)).bind fun v24 => (if v24 then (some false) else (if (r14.2 != 0) then (some (!r14.1)) else ((g_reading_Needed rate_0 n_1.a0 n_1.a2).bind fun r40 => (((if (r40.2 != 0) then (some true) else (some (!(r14.1 == (decide (r40.1 ≤ n_1.a1)))))) : Option (Bool)).bind fun v44 => (if v44 then (some false) else ((g_reading_Speed rate_0 n_1.a0 n_1.a1).bind fun r55 => (if (n_1.a1 == 0) then (some true) else (if (r55.2 == 0) then (some (r14.1 == (decide (r55.1 ≤ n_1.a2)))) else (some false)))))))))))) else (some false)))
theorem a_law40_ReadingFits (I : World → Prop) (hI : Stab I) (hShp : ∀ w, I w → Shp w) (hU8T : ∀ w, I w → U8T w) (rate_0 : Int) (n_1 : T_arr3_Int) {r : Bool} (h : g_law40_ReadingFits rate_0 n_1 = some r) : AFun Tryd.prog I 6 [.int .u8 rate_0, T_arr3_Int.d n_1] (.bool r) := by
  refine AFun.enterB hI Tryd.func6 rfl (by decide) (by simp [Tryd.f6]) (by kernel_rfl) ?_
  unfold g_law40_ReadingFits at h
  simp only [S0, Tryd.ntmps6, dd_HN]
  refine rb_seq ?_
  refine rb_regionK fun K2 hK2 => ?_
  simp -implicitDefEqProofs only [vt, vm, ↓atI_fold, forall_const, implies_true, sevalprocAttr, dd_HN]
  subst hK2
  refine eb_seq ?_
  refine rb_seq ?_
  refine rb_seq ?_
  refine rb_regionK fun K6 hK6 => ?_
  simp -implicitDefEqProofs only [vt, vm, ↓atI_fold, forall_const, implies_true, sevalprocAttr, dd_HN]
  obtain ⟨r7, h8, h⟩ := bind_some h
  refine cW.intro (a_law40_awake I hI hShp hU8T h8) (by first | rfl | (simp [List.map_append, dd_HN]; done)) ?_
  simp -implicitDefEqProofs only [vt, vm, ↓atI_fold, forall_const, implies_true, sevalprocAttr, dd_HN]
  subst hK6
  refine eb_seq ?_
  rcases ite_or h with ⟨k9, h⟩ | ⟨k9, h⟩
  · refine rb_false (by first | exact congrArg D.bool (congrArg Bool.not k9) | rfl) ?_
    refine rb_skip ?_
    refine eb_seq ?_
    refine rb_seq ?_
    refine rb_regionK fun K13 hK13 => ?_
    simp -implicitDefEqProofs only [vt, vm, ↓atI_fold, forall_const, implies_true, sevalprocAttr, dd_HN, k9]
    obtain ⟨r14, h15, h⟩ := bind_some h
    refine cW.intro (a_reading_Fits I hI rate_0 n_1.a0 n_1.a1 n_1.a2 h15) (by first | rfl | (simp [List.map_append, dd_HN]; done)) ?_
    simp -implicitDefEqProofs only [vt, vm, ↓atI_fold, forall_const, implies_true, sevalprocAttr, dd_HN, k9]
    subst hK13
    refine eb_seq ?_
    refine rb_seq ?_
    refine rb_regionK fun K19 hK19 => ?_
    simp -implicitDefEqProofs only [vt, vm, ↓atI_fold, forall_const, implies_true, sevalprocAttr, dd_HN, k9]
    obtain ⟨r20, h21, h⟩ := bind_some h
    refine cW.intro (a_ref40_Fits I hI rate_0 n_1.a0 n_1.a1 n_1.a2 h21) (by first | rfl | (simp [List.map_append, dd_HN]; done)) ?_
    simp -implicitDefEqProofs only [vt, vm, ↓atI_fold, forall_const, implies_true, sevalprocAttr, dd_HN, k9]
    subst hK19
    refine eb_seq ?_
    refine rb_seq ?_
    obtain ⟨v24, h27, h⟩ := bind_some h
    refine rb_cut (fun v24 => ⟨envL [(0, .int .u8 rate_0), (3, .ptr 0 0), (5, .bool r14.1), (6, .int .i64 r14.2), (44, .bool v24)], heapL [(0, .box none [.int .i64 n_1.a0, .int .i64 n_1.a1, .int .i64 n_1.a2])], 1, 92⟩) h27 ?_ ?_
    · clear h
      intro v24 h
      refine rb_regionK fun K25 hK25 => ?_
      simp -implicitDefEqProofs only [vt, vm, ↓atI_fold, forall_const, implies_true, sevalprocAttr, dd_HN, k9]
      rcases ite_or h with ⟨k26, h⟩ | ⟨k26, h⟩
      · simp -implicitDefEqProofs only [vt, vm, ↓atI_fold, forall_const, implies_true, sevalprocAttr, dd_HN, k9, k26]
        subst hK25
        obtain rfl := Option.some.inj h
        exact eb_nil ⟨rfl, Wk.of (fun i => if i = 0 then some 0 else some i) _ _ _ (by simp -implicitDefEqProofs [kv, km, dd_HN, k9, k26]) (by simp -implicitDefEqProofs [kv, km, dd_HN, k9, k26])⟩
      · simp -implicitDefEqProofs only [vt, vm, ↓atI_fold, forall_const, implies_true, sevalprocAttr, dd_HN, k9, k26]
        subst hK25
        obtain rfl := Option.some.inj h
        exact eb_nil ⟨rfl, Wk.of (fun i => if i = 0 then some 0 else some i) _ _ _ (by simp -implicitDefEqProofs [kv, km, dd_HN, k9, k26]) (by simp -implicitDefEqProofs [kv, km, dd_HN, k9, k26])⟩
    · rcases ite_or h with ⟨k28, h⟩ | ⟨k28, h⟩
      · refine rb_true (by first | exact congrArg D.bool k28 | rfl) ?_
        refine rb_seq ?_
        refine rb_regionK fun K30 hK30 => ?_
        simp -implicitDefEqProofs only [vt, vm, ↓atI_fold, forall_const, implies_true, sevalprocAttr, dd_HN, k9, k28]
        subst hK30
        refine eb_seq ?_
        refine rb_ret ?_
        refine eb_seq_r ?_
        obtain rfl := Option.some.inj h
        refine eb_nil ?_
        simp -implicitDefEqProofs only [vt, vm, ↓atI_fold, forall_const, implies_true, sevalprocAttr, retQ_r, Tryd.results6, dd_HN, k9, k28] <;> first | rfl | (simp [List.map_append, dd_HN]; done)
      · refine rb_false (by first | exact congrArg D.bool k28 | rfl) ?_
        refine rb_skip ?_
        refine eb_seq ?_
        refine rb_seq ?_
        refine rb_seq ?_
        refine rb_regionK fun K32 hK32 => ?_
        simp -implicitDefEqProofs only [vt, vm, ↓atI_fold, forall_const, implies_true, sevalprocAttr, dd_HN, k9, k28]
        subst hK32
        refine eb_seq ?_
        rcases ite_or h with ⟨k33, h⟩ | ⟨k33, h⟩
        · refine rb_true (by first | exact congrArg D.bool k33 | rfl) ?_
          refine rb_seq ?_
          refine rb_regionK fun K35 hK35 => ?_
          simp -implicitDefEqProofs only [vt, vm, ↓atI_fold, forall_const, implies_true, sevalprocAttr, dd_HN, k9, k28, k33]
          subst hK35
          refine eb_seq ?_
          refine rb_ret ?_
          refine eb_seq_r ?_
          obtain rfl := Option.some.inj h
          refine eb_nil ?_
          simp -implicitDefEqProofs only [vt, vm, ↓atI_fold, forall_const, implies_true, sevalprocAttr, retQ_r, Tryd.results6, dd_HN, k9, k28, k33] <;> first | rfl | (simp [List.map_append, dd_HN]; done)
        · refine rb_false (by first | exact congrArg D.bool k33 | rfl) ?_
          refine rb_skip ?_
          refine eb_seq ?_
          refine rb_seq ?_
          refine rb_regionK fun K39 hK39 => ?_
          simp -implicitDefEqProofs only [vt, vm, ↓atI_fold, forall_const, implies_true, sevalprocAttr, dd_HN, k9, k28, k33]
          obtain ⟨r40, h41, h⟩ := bind_some h
          refine cW.intro (a_reading_Needed I hI rate_0 n_1.a0 n_1.a2 h41) (by first | rfl | (simp [List.map_append, dd_HN]; done)) ?_
          simp -implicitDefEqProofs only [vt, vm, ↓atI_fold, forall_const, implies_true, sevalprocAttr, dd_HN, k9, k28, k33]
          subst hK39
          refine eb_seq ?_
          refine rb_seq ?_
          obtain ⟨v44, h47, h⟩ := bind_some h
          refine rb_cut (fun v44 => ⟨envL [(0, .int .u8 rate_0), (3, .ptr 0 0), (5, .bool r14.1), (67, .bool v44)], heapL [(0, .box none [.int .i64 n_1.a0, .int .i64 n_1.a1, .int .i64 n_1.a2])], 1, 92⟩) h47 ?_ ?_
          · clear h
            intro v44 h
            refine rb_regionK fun K45 hK45 => ?_
            simp -implicitDefEqProofs only [vt, vm, ↓atI_fold, forall_const, implies_true, sevalprocAttr, dd_HN, k9, k28, k33]
            rcases ite_or h with ⟨k46, h⟩ | ⟨k46, h⟩
            · simp -implicitDefEqProofs only [vt, vm, ↓atI_fold, forall_const, implies_true, sevalprocAttr, dd_HN, k9, k28, k33, k46]
              subst hK45
              obtain rfl := Option.some.inj h
              exact eb_nil ⟨rfl, Wk.of (fun i => if i = 0 then some 0 else some i) _ _ _ (by simp -implicitDefEqProofs [kv, km, dd_HN, k9, k28, k33, k46]) (by simp -implicitDefEqProofs [kv, km, dd_HN, k9, k28, k33, k46])⟩
            · simp -implicitDefEqProofs only [vt, vm, ↓atI_fold, forall_const, implies_true, sevalprocAttr, dd_HN, k9, k28, k33, k46]
              subst hK45
              obtain rfl := Option.some.inj h
              exact eb_nil ⟨rfl, Wk.of (fun i => if i = 0 then some 0 else some i) _ _ _ (by simp -implicitDefEqProofs [kv, km, dd_HN, k9, k28, k33, k46]) (by simp -implicitDefEqProofs [kv, km, dd_HN, k9, k28, k33, k46])⟩
          · rcases ite_or h with ⟨k48, h⟩ | ⟨k48, h⟩
            · refine rb_true (by first | exact congrArg D.bool k48 | rfl) ?_
              refine rb_seq ?_
              refine rb_regionK fun K50 hK50 => ?_
              simp -implicitDefEqProofs only [vt, vm, ↓atI_fold, forall_const, implies_true, sevalprocAttr, dd_HN, k9, k28, k33, k48]
              subst hK50
              refine eb_seq ?_
              refine rb_ret ?_
              refine eb_seq_r ?_
              obtain rfl := Option.some.inj h
              refine eb_nil ?_
              simp -implicitDefEqProofs only [vt, vm, ↓atI_fold, forall_const, implies_true, sevalprocAttr, retQ_r, Tryd.results6, dd_HN, k9, k28, k33, k48] <;> first | rfl | (simp [List.map_append, dd_HN]; done)
            · refine rb_false (by first | exact congrArg D.bool k48 | rfl) ?_
              refine rb_skip ?_
              refine eb_seq ?_
              refine rb_seq ?_
              refine rb_regionK fun K54 hK54 => ?_
              simp -implicitDefEqProofs only [vt, vm, ↓atI_fold, forall_const, implies_true, sevalprocAttr, dd_HN, k9, k28, k33, k48]
              obtain ⟨r55, h56, h⟩ := bind_some h
              refine cW.intro (a_reading_Speed I hI rate_0 n_1.a0 n_1.a1 h56) (by first | rfl | (simp [List.map_append, dd_HN]; done)) ?_
              simp -implicitDefEqProofs only [vt, vm, ↓atI_fold, forall_const, implies_true, sevalprocAttr, dd_HN, k9, k28, k33, k48]
              subst hK54
              refine eb_seq ?_
              refine rb_seq ?_
              refine rb_regionK fun K60 hK60 => ?_
              simp -implicitDefEqProofs only [vt, vm, ↓atI_fold, forall_const, implies_true, sevalprocAttr, dd_HN, k9, k28, k33, k48]
              rcases ite_or h with ⟨k61, h⟩ | ⟨k61, h⟩
              · simp -implicitDefEqProofs only [vt, vm, ↓atI_fold, forall_const, implies_true, sevalprocAttr, dd_HN, k9, k28, k33, k48, k61]
                subst hK60
                refine eb_seq ?_
                refine rb_ret ?_
                obtain rfl := Option.some.inj h
                refine eb_nil ?_
                simp -implicitDefEqProofs only [vt, vm, ↓atI_fold, forall_const, implies_true, sevalprocAttr, retQ_r, Tryd.results6, dd_HN, k9, k28, k33, k48, k61] <;> first | rfl | (simp [List.map_append, dd_HN]; done)
              · simp -implicitDefEqProofs only [vt, vm, ↓atI_fold, forall_const, implies_true, sevalprocAttr, dd_HN, k9, k28, k33, k48, k61]
                rcases ite_or h with ⟨k62, h⟩ | ⟨k62, h⟩
                · simp -implicitDefEqProofs only [vt, vm, ↓atI_fold, forall_const, implies_true, sevalprocAttr, dd_HN, k9, k28, k33, k48, k61, k62]
                  subst hK60
                  refine eb_seq ?_
                  refine rb_ret ?_
                  obtain rfl := Option.some.inj h
                  refine eb_nil ?_
                  simp -implicitDefEqProofs only [vt, vm, ↓atI_fold, forall_const, implies_true, sevalprocAttr, retQ_r, Tryd.results6, dd_HN, k9, k28, k33, k48, k61, k62] <;> first | rfl | (simp [List.map_append, dd_HN]; done)
                · simp -implicitDefEqProofs only [vt, vm, ↓atI_fold, forall_const, implies_true, sevalprocAttr, dd_HN, k9, k28, k33, k48, k61, k62]
                  subst hK60
                  refine eb_seq ?_
                  refine rb_ret ?_
                  obtain rfl := Option.some.inj h
                  refine eb_nil ?_
                  simp -implicitDefEqProofs only [vt, vm, ↓atI_fold, forall_const, implies_true, sevalprocAttr, retQ_r, Tryd.results6, dd_HN, k9, k28, k33, k48, k61, k62] <;> first | rfl | (simp [List.map_append, dd_HN]; done)
  · refine rb_true (by first | exact congrArg D.bool (congrArg Bool.not k9) | rfl) ?_
    refine rb_seq ?_
    refine rb_regionK fun K64 hK64 => ?_
    simp -implicitDefEqProofs only [vt, vm, ↓atI_fold, forall_const, implies_true, sevalprocAttr, dd_HN, k9]
    subst hK64
    refine eb_seq ?_
    refine rb_ret ?_
    refine eb_seq_r ?_
    obtain rfl := Option.some.inj h
    refine eb_nil ?_
    simp -implicitDefEqProofs only [vt, vm, ↓atI_fold, forall_const, implies_true, sevalprocAttr, retQ_r, Tryd.results6, dd_HN, k9] <;> first | rfl | (simp [List.map_append, dd_HN]; done)
end Go.Proofs.YtipdmcpmedmicaaDoor
