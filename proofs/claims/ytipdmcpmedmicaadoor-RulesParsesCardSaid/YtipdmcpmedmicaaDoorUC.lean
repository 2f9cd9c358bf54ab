/- What some functions compute, read off their texts by a program of mine (gen.py): definitions, and contracts (the text computes it). No condition but that the definition answers. -/
import Derived.Test.YtipdmcpmedmicaaDoorUA
import Derived.Test.YtipdmcpmedmicaaDoorGB
import Derived.Test.YtipdmcpmedmicaaDoorFwS2
namespace Go.Proofs.YtipdmcpmedmicaaDoor
open Go.RowKit
set_option maxRecDepth 100000
set_option linter.unusedVariables false
set_option linter.unusedSimpArgs false
set_option maxHeartbeats 10000000
structure T_api_Style where
  Color : Int
  Italic : Bool
  Underline : Bool
  deriving DecidableEq
def T_api_Style.d (x : T_api_Style) : D := .agg [.int .u8 x.Color, .bool x.Italic, .bool x.Underline]
structure T_api_Run where
  Text : List UInt8
  Style : T_api_Style
  Ruby : List UInt8
  deriving DecidableEq
def T_api_Run.d (x : T_api_Run) : D := .agg [.str x.Text, .int .u8 x.Style.Color, .bool x.Style.Italic, .bool x.Style.Underline, .str x.Ruby]
structure T_api_Row where
  Runs : List T_api_Run
  deriving DecidableEq
def T_api_Row.d (x : T_api_Row) : D := .agg [.sl (x.Runs.map T_api_Run.d)]
structure T_api_Span where
  In : Int
  Out : Int
  deriving DecidableEq
def T_api_Span.d (x : T_api_Span) : D := .agg [.int .i64 x.In, .int .i64 x.Out]
structure T_api_Event where
  ID : Int
  Span : T_api_Span
  Region : List UInt8
  Kind : Int
  Speaker : List UInt8
  Rows : List T_api_Row
  deriving DecidableEq
def T_api_Event.d (x : T_api_Event) : D := .agg [.int .i64 x.ID, .int .i64 x.Span.In, .int .i64 x.Span.Out, .str x.Region, .int .u8 x.Kind, .str x.Speaker, .sl (x.Rows.map T_api_Row.d)]
structure T_api_Profile where
  Name : List UInt8
  Reading : Int
  MinFrames : Int
  MaxFrames : Int
  MinGap : Int
  ShotBefore : Int
  ShotAfter : Int
  Rows : Int
  Cols : Int
  Forbidden : List UInt8
  SafeTop : Int
  SafeBottom : Int
  SafeLeft : Int
  SafeRight : Int
  deriving DecidableEq
def T_api_Profile.d (x : T_api_Profile) : D := .agg [.str x.Name, .int .i64 x.Reading, .int .i64 x.MinFrames, .int .i64 x.MaxFrames, .int .i64 x.MinGap, .int .i64 x.ShotBefore, .int .i64 x.ShotAfter, .int .i64 x.Rows, .int .i64 x.Cols, .str x.Forbidden, .int .i64 x.SafeTop, .int .i64 x.SafeBottom, .int .i64 x.SafeLeft, .int .i64 x.SafeRight]
structure T_api_Finding where
  Rule : Int
  ID : Int
  Other : Int
  Amount : Int
  deriving DecidableEq
def T_api_Finding.d (x : T_api_Finding) : D := .agg [.int .u8 x.Rule, .int .i64 x.ID, .int .i64 x.Other, .int .i64 x.Amount]
theorem dd_UC : (∀ x, T_api_Style.d x = .agg [.int .u8 x.Color, .bool x.Italic, .bool x.Underline]) ∧ (∀ x, T_api_Run.d x = .agg [.str x.Text, .int .u8 x.Style.Color, .bool x.Style.Italic, .bool x.Style.Underline, .str x.Ruby]) ∧ (∀ x, T_api_Row.d x = .agg [.sl (x.Runs.map T_api_Run.d)]) ∧ (∀ x, T_api_Span.d x = .agg [.int .i64 x.In, .int .i64 x.Out]) ∧ (∀ x, T_api_Event.d x = .agg [.int .i64 x.ID, .int .i64 x.Span.In, .int .i64 x.Span.Out, .str x.Region, .int .u8 x.Kind, .str x.Speaker, .sl (x.Rows.map T_api_Row.d)]) ∧ (∀ x, T_api_Profile.d x = .agg [.str x.Name, .int .i64 x.Reading, .int .i64 x.MinFrames, .int .i64 x.MaxFrames, .int .i64 x.MinGap, .int .i64 x.ShotBefore, .int .i64 x.ShotAfter, .int .i64 x.Rows, .int .i64 x.Cols, .str x.Forbidden, .int .i64 x.SafeTop, .int .i64 x.SafeBottom, .int .i64 x.SafeLeft, .int .i64 x.SafeRight]) ∧ (∀ x, T_api_Finding.d x = .agg [.int .u8 x.Rule, .int .i64 x.ID, .int .i64 x.Other, .int .i64 x.Amount]) := ⟨fun _ => rfl, fun _ => rfl, fun _ => rfl, fun _ => rfl, fun _ => rfl, fun _ => rfl, fun _ => rfl⟩
-- captionerlaw41.at
def g_law41_at (id_0 : Int) (in_1 : Int) (out_2 : Int) : Option (T_api_Event) :=
  (some (T_api_Event.mk id_0 (T_api_Span.mk in_1 out_2) [] 1 [] [(T_api_Row.mk [(T_api_Run.mk [120] (T_api_Style.mk 0 false false) [])])]))
theorem a_law41_at (I : World → Prop) (hI : Stab I) (id_0 : Int) (in_1 : Int) (out_2 : Int) {r : T_api_Event} (h : g_law41_at id_0 in_1 out_2 = some r) : AFun Tryd.prog I 66 [.int .i64 id_0, .int .i64 in_1, .int .i64 out_2] (T_api_Event.d r) := by
  refine AFun.enterB hI Tryd.func66 rfl (by decide) (by simp [Tryd.f66]) (by kernel_rfl) ?_
  unfold g_law41_at at h
  simp only [S0, Tryd.ntmps66, dd_UC]
  refine rb_seq ?_
  refine rb_regionK fun K2 hK2 => ?_
  simp -implicitDefEqProofs only [vt, vm, ↓atI_fold, forall_const, implies_true, false_implies, sevalprocAttr, dd_UC]
  subst hK2
  refine eb_seq ?_
  refine rb_seq ?_
  refine rb_regionK fun K4 hK4 => ?_
  simp -implicitDefEqProofs only [vt, vm, ↓atI_fold, forall_const, implies_true, false_implies, sevalprocAttr, dd_UC]
  subst hK4
  refine eb_seq ?_
  refine rb_ret ?_
  obtain rfl := Option.some.inj h
  refine eb_nil ?_
  simp -implicitDefEqProofs only [vt, vm, ↓atI_fold, forall_const, implies_true, false_implies, sevalprocAttr, retQ_r, Tryd.results66, dd_UC] <;> first | rfl | (simp [List.map_append, dd_UC]; done)
-- rules.usable
def g_rules_usable (s_0 : T_api_Span) : Option (Bool) :=
  (if (decide (0 ≤ s_0.In)) then (if (decide (s_0.In < s_0.Out)) then (some (decide (s_0.Out ≤ 5184000))) else (some false)) else (some false))
theorem a_rules_usable (I : World → Prop) (hI : Stab I) (s_0 : T_api_Span) {r : Bool} (h : g_rules_usable s_0 = some r) : AFun Tryd.prog I 103 [T_api_Span.d s_0] (.bool r) := by
  refine AFun.enterB hI Tryd.func103 rfl (by decide) (by simp [Tryd.f103]) (by kernel_rfl) ?_
  unfold g_rules_usable at h
  simp only [S0, Tryd.ntmps103, dd_UC]
  refine rb_seq ?_
  refine rb_regionK fun K2 hK2 => ?_
  simp -implicitDefEqProofs only [vt, vm, ↓atI_fold, forall_const, implies_true, false_implies, sevalprocAttr, dd_UC]
  subst hK2
  refine eb_seq ?_
  refine rb_seq ?_
  refine rb_regionK fun K6 hK6 => ?_
  simp -implicitDefEqProofs only [vt, vm, ↓atI_fold, forall_const, implies_true, false_implies, sevalprocAttr, dd_UC]
  rcases ite_or h with ⟨k7, h⟩ | ⟨k7, h⟩
  · simp -implicitDefEqProofs only [vt, vm, ↓atI_fold, forall_const, implies_true, false_implies, sevalprocAttr, dd_UC, k7]
    rcases ite_or h with ⟨k8, h⟩ | ⟨k8, h⟩
    · simp -implicitDefEqProofs only [vt, vm, ↓atI_fold, forall_const, implies_true, false_implies, sevalprocAttr, dd_UC, k7, k8]
      subst hK6
      refine eb_seq ?_
      refine rb_ret ?_
      obtain rfl := Option.some.inj h
      refine eb_nil ?_
      simp -implicitDefEqProofs only [vt, vm, ↓atI_fold, forall_const, implies_true, false_implies, sevalprocAttr, retQ_r, Tryd.results103, dd_UC, k7, k8] <;> first | rfl | (simp [List.map_append, dd_UC]; done)
    · simp -implicitDefEqProofs only [vt, vm, ↓atI_fold, forall_const, implies_true, false_implies, sevalprocAttr, dd_UC, k7, k8]
      subst hK6
      refine eb_seq ?_
      refine rb_ret ?_
      obtain rfl := Option.some.inj h
      refine eb_nil ?_
      simp -implicitDefEqProofs only [vt, vm, ↓atI_fold, forall_const, implies_true, false_implies, sevalprocAttr, retQ_r, Tryd.results103, dd_UC, k7, k8] <;> first | rfl | (simp [List.map_append, dd_UC]; done)
  · simp -implicitDefEqProofs only [vt, vm, ↓atI_fold, forall_const, implies_true, false_implies, sevalprocAttr, dd_UC, k7]
    subst hK6
    refine eb_seq ?_
    refine rb_ret ?_
    obtain rfl := Option.some.inj h
    refine eb_nil ?_
    simp -implicitDefEqProofs only [vt, vm, ↓atI_fold, forall_const, implies_true, false_implies, sevalprocAttr, retQ_r, Tryd.results103, dd_UC, k7] <;> first | rfl | (simp [List.map_append, dd_UC]; done)
-- rules.Pair
def g_rules_Pair (a_0 : T_api_Event) (b_1 : T_api_Event) (p_2 : T_api_Profile) : Option ((List T_api_Finding)) :=
  ((((g_rules_usable a_0.Span).bind fun r11 => (if r11 then ((g_rules_usable b_1.Span).bind fun r14 => (some (!r14))) else (some true))) : Option (Bool)).bind fun v9 => (if v9 then (some []) else (if (decide (0 < (IntKind.i64.wrap ((if b_1.Span.Out < a_0.Span.Out then b_1.Span.Out else a_0.Span.Out) - (if b_1.Span.In > a_0.Span.In then b_1.Span.In else a_0.Span.In))))) then (some [(T_api_Finding.mk 5 a_0.ID b_1.ID (IntKind.i64.wrap ((if b_1.Span.Out < a_0.Span.Out then b_1.Span.Out else a_0.Span.Out) - (if b_1.Span.In > a_0.Span.In then b_1.Span.In else a_0.Span.In))))]) else (((if (decide (0 ≤ (IntKind.i64.wrap (b_1.Span.In - a_0.Span.Out)))) then (some (decide ((IntKind.i64.wrap (b_1.Span.In - a_0.Span.Out)) < p_2.MinGap))) else (some false)) : Option (Bool)).bind fun v45 => (if v45 then (some [(T_api_Finding.mk 4 a_0.ID b_1.ID (IntKind.i64.wrap (p_2.MinGap - (IntKind.i64.wrap (b_1.Span.In - a_0.Span.Out)))))]) else (some []))))))
theorem a_rules_Pair (I : World → Prop) (hI : Stab I) (a_0 : T_api_Event) (b_1 : T_api_Event) (p_2 : T_api_Profile) {r : (List T_api_Finding)} (h : g_rules_Pair a_0 b_1 p_2 = some r) : AFun Tryd.prog I 65 [T_api_Event.d a_0, T_api_Event.d b_1, T_api_Profile.d p_2] (.sl (r.map T_api_Finding.d)) := by
  refine AFun.enterB hI Tryd.func65 rfl (by decide) (by simp [Tryd.f65]) (by kernel_rfl) ?_
  unfold g_rules_Pair at h
  simp only [S0, Tryd.ntmps65, dd_UC]
  refine rb_seq ?_
  refine rb_regionK fun K2 hK2 => ?_
  simp -implicitDefEqProofs only [vt, vm, ↓atI_fold, forall_const, implies_true, false_implies, sevalprocAttr, dd_UC]
  subst hK2
  refine eb_seq ?_
  refine rb_seq ?_
  obtain ⟨v9, h16, h⟩ := bind_some h
  refine rb_cut (fun v9 => ⟨envL [(3, .ptr 0 0), (4, .ptr 1 0), (5, .ptr 2 0), (18, .bool v9)], heapL [(0, .box none [.int .i64 a_0.ID, .int .i64 a_0.Span.In, .int .i64 a_0.Span.Out, .str a_0.Region, .int .u8 a_0.Kind, .str a_0.Speaker, .sl (a_0.Rows.map T_api_Row.d)]), (1, .box none [.int .i64 b_1.ID, .int .i64 b_1.Span.In, .int .i64 b_1.Span.Out, .str b_1.Region, .int .u8 b_1.Kind, .str b_1.Speaker, .sl (b_1.Rows.map T_api_Row.d)]), (2, .box none [.str p_2.Name, .int .i64 p_2.Reading, .int .i64 p_2.MinFrames, .int .i64 p_2.MaxFrames, .int .i64 p_2.MinGap, .int .i64 p_2.ShotBefore, .int .i64 p_2.ShotAfter, .int .i64 p_2.Rows, .int .i64 p_2.Cols, .str p_2.Forbidden, .int .i64 p_2.SafeTop, .int .i64 p_2.SafeBottom, .int .i64 p_2.SafeLeft, .int .i64 p_2.SafeRight])], 3, 70⟩) h16 ?_ ?_
  · clear h
    intro v9 h
    refine rb_regionK fun K10 hK10 => ?_
    simp -implicitDefEqProofs only [vt, vm, ↓atI_fold, forall_const, implies_true, false_implies, sevalprocAttr, dd_UC]
    obtain ⟨r11, h12, h⟩ := bind_some h
    refine cW.intro (a_rules_usable I hI a_0.Span h12) (by first | rfl | (simp [List.map_append, dd_UC]; done)) ?_
    simp -implicitDefEqProofs only [vt, vm, ↓atI_fold, forall_const, implies_true, false_implies, sevalprocAttr, dd_UC]
    rcases ite_or h with ⟨k13, h⟩ | ⟨k13, h⟩
    · simp -implicitDefEqProofs only [vt, vm, ↓atI_fold, forall_const, implies_true, false_implies, sevalprocAttr, dd_UC, k13]
      obtain ⟨r14, h15, h⟩ := bind_some h
      refine cW.intro (a_rules_usable I hI b_1.Span h15) (by first | rfl | (simp [List.map_append, dd_UC]; done)) ?_
      simp -implicitDefEqProofs only [vt, vm, ↓atI_fold, forall_const, implies_true, false_implies, sevalprocAttr, dd_UC, k13]
      subst hK10
      obtain rfl := Option.some.inj h
      exact eb_nil ⟨rfl, Wk.of (fun i => if i = 2 then some 2 else if i = 1 then some 1 else if i = 0 then some 0 else some i) _ _ _ (by simp -implicitDefEqProofs [kv, km, dd_UC, k13]) (by simp -implicitDefEqProofs [kv, km, dd_UC, k13])⟩
    · simp -implicitDefEqProofs only [vt, vm, ↓atI_fold, forall_const, implies_true, false_implies, sevalprocAttr, dd_UC, k13]
      subst hK10
      obtain rfl := Option.some.inj h
      exact eb_nil ⟨rfl, Wk.of (fun i => if i = 2 then some 2 else if i = 1 then some 1 else if i = 0 then some 0 else some i) _ _ _ (by simp -implicitDefEqProofs [kv, km, dd_UC, k13]) (by simp -implicitDefEqProofs [kv, km, dd_UC, k13])⟩
  · rcases ite_or h with ⟨k17, h⟩ | ⟨k17, h⟩
    · refine rb_true (by first | exact congrArg D.bool k17 | rfl) ?_
      refine rb_seq ?_
      refine rb_regionK fun K19 hK19 => ?_
      simp -implicitDefEqProofs only [vt, vm, ↓atI_fold, forall_const, implies_true, false_implies, sevalprocAttr, dd_UC, k17]
      subst hK19
      refine eb_seq ?_
      refine rb_ret ?_
      refine eb_seq_r ?_
      obtain rfl := Option.some.inj h
      refine eb_nil ?_
      simp -implicitDefEqProofs only [vt, vm, ↓atI_fold, forall_const, implies_true, false_implies, sevalprocAttr, retQ_r, Tryd.results65, dd_UC, k17] <;> first | rfl | (simp [List.map_append, dd_UC]; done)
    · refine rb_false (by first | exact congrArg D.bool k17 | rfl) ?_
      refine rb_skip ?_
      refine eb_seq ?_
      refine rb_seq ?_
      refine rb_regionK fun K21 hK21 => ?_
      simp -implicitDefEqProofs only [vt, vm, ↓atI_fold, forall_const, implies_true, false_implies, sevalprocAttr, dd_UC, k17]
      subst hK21
      refine eb_seq ?_
      refine rb_seq ?_
      refine rb_regionK fun K23 hK23 => ?_
      simp -implicitDefEqProofs only [vt, vm, ↓atI_fold, forall_const, implies_true, false_implies, sevalprocAttr, dd_UC, k17]
      subst hK23
      refine eb_seq ?_
      refine rb_seq ?_
      refine rb_block ?_
      refine rb_seq ?_
      refine rb_regionK fun K39 hK39 => ?_
      simp -implicitDefEqProofs only [vt, vm, ↓atI_fold, forall_const, implies_true, false_implies, sevalprocAttr, dd_UC, k17]
      subst hK39
      refine eb_seq ?_
      rcases ite_or h with ⟨k40, h⟩ | ⟨k40, h⟩
      · refine rb_true (by first | exact congrArg D.bool k40 | rfl) ?_
        refine rb_seq ?_
        refine rb_regionK fun K42 hK42 => ?_
        simp -implicitDefEqProofs only [vt, vm, ↓atI_fold, forall_const, implies_true, false_implies, sevalprocAttr, dd_UC, k17, k40]
        subst hK42
        refine eb_seq ?_
        refine rb_ret ?_
        refine eb_blk_r ?_
        refine eb_seq_r ?_
        obtain rfl := Option.some.inj h
        refine eb_nil ?_
        simp -implicitDefEqProofs only [vt, vm, ↓atI_fold, forall_const, implies_true, false_implies, sevalprocAttr, retQ_r, Tryd.results65, dd_UC, k17, k40] <;> first | rfl | (simp [List.map_append, dd_UC]; done)
      · refine rb_false (by first | exact congrArg D.bool k40 | rfl) ?_
        obtain ⟨v45, h48, h⟩ := bind_some h
        refine rb_cut (fun v45 => ⟨envL [(3, .ptr 0 0), (4, .ptr 1 0), (5, .ptr 2 0), (8, .int .i64 (IntKind.i64.wrap (b_1.Span.In - a_0.Span.Out))), (51, .bool v45)], heapL [(0, .box none [.int .i64 a_0.ID, .int .i64 a_0.Span.In, .int .i64 a_0.Span.Out, .str a_0.Region, .int .u8 a_0.Kind, .str a_0.Speaker, .sl (a_0.Rows.map T_api_Row.d)]), (1, .box none [.int .i64 b_1.ID, .int .i64 b_1.Span.In, .int .i64 b_1.Span.Out, .str b_1.Region, .int .u8 b_1.Kind, .str b_1.Speaker, .sl (b_1.Rows.map T_api_Row.d)]), (2, .box none [.str p_2.Name, .int .i64 p_2.Reading, .int .i64 p_2.MinFrames, .int .i64 p_2.MaxFrames, .int .i64 p_2.MinGap, .int .i64 p_2.ShotBefore, .int .i64 p_2.ShotAfter, .int .i64 p_2.Rows, .int .i64 p_2.Cols, .str p_2.Forbidden, .int .i64 p_2.SafeTop, .int .i64 p_2.SafeBottom, .int .i64 p_2.SafeLeft, .int .i64 p_2.SafeRight])], 3, 70⟩) h48 ?_ ?_
        · clear h
          intro v45 h
          refine rb_regionK fun K46 hK46 => ?_
          simp -implicitDefEqProofs only [vt, vm, ↓atI_fold, forall_const, implies_true, false_implies, sevalprocAttr, dd_UC, k17, k40]
          rcases ite_or h with ⟨k47, h⟩ | ⟨k47, h⟩
          · simp -implicitDefEqProofs only [vt, vm, ↓atI_fold, forall_const, implies_true, false_implies, sevalprocAttr, dd_UC, k17, k40, k47]
            subst hK46
            obtain rfl := Option.some.inj h
            exact eb_nil ⟨rfl, Wk.of (fun i => if i = 2 then some 2 else if i = 1 then some 1 else if i = 0 then some 0 else some i) _ _ _ (by simp -implicitDefEqProofs [kv, km, dd_UC, k17, k40, k47]) (by simp -implicitDefEqProofs [kv, km, dd_UC, k17, k40, k47])⟩
          · simp -implicitDefEqProofs only [vt, vm, ↓atI_fold, forall_const, implies_true, false_implies, sevalprocAttr, dd_UC, k17, k40, k47]
            subst hK46
            obtain rfl := Option.some.inj h
            exact eb_nil ⟨rfl, Wk.of (fun i => if i = 2 then some 2 else if i = 1 then some 1 else if i = 0 then some 0 else some i) _ _ _ (by simp -implicitDefEqProofs [kv, km, dd_UC, k17, k40, k47]) (by simp -implicitDefEqProofs [kv, km, dd_UC, k17, k40, k47])⟩
        · rcases ite_or h with ⟨k49, h⟩ | ⟨k49, h⟩
          · refine rb_true (by first | exact congrArg D.bool k49 | rfl) ?_
            refine rb_seq ?_
            refine rb_regionK fun K51 hK51 => ?_
            simp -implicitDefEqProofs only [vt, vm, ↓atI_fold, forall_const, implies_true, false_implies, sevalprocAttr, dd_UC, k17, k40, k49]
            subst hK51
            refine eb_seq ?_
            refine rb_ret ?_
            refine eb_blk_r ?_
            refine eb_seq_r ?_
            obtain rfl := Option.some.inj h
            refine eb_nil ?_
            simp -implicitDefEqProofs only [vt, vm, ↓atI_fold, forall_const, implies_true, false_implies, sevalprocAttr, retQ_r, Tryd.results65, dd_UC, k17, k40, k49] <;> first | rfl | (simp [List.map_append, dd_UC]; done)
          · refine rb_false (by first | exact congrArg D.bool k49 | rfl) ?_
            refine rb_skip ?_
            refine eb_blk_n ?_
            refine eb_seq ?_
            refine rb_seq ?_
            refine rb_regionK fun K53 hK53 => ?_
            simp -implicitDefEqProofs only [vt, vm, ↓atI_fold, forall_const, implies_true, false_implies, sevalprocAttr, dd_UC, k17, k40, k49]
            subst hK53
            refine eb_seq ?_
            refine rb_ret ?_
            obtain rfl := Option.some.inj h
            refine eb_nil ?_
            simp -implicitDefEqProofs only [vt, vm, ↓atI_fold, forall_const, implies_true, false_implies, sevalprocAttr, retQ_r, Tryd.results65, dd_UC, k17, k40, k49] <;> first | rfl | (simp [List.map_append, dd_UC]; done)
-- slices.Equal[[]api.Finding,api.Finding]
def g_slices_Equal_api_Finding_api_Finding_s1 (s1_0 : List T_api_Finding) (s2_1 : List T_api_Finding) (x10 : Int) : Option (Nx (Int) (Unit ⊕ Unit)) :=
  (if (decide (x10 < (s1_0.length : Int))) then ((atI s1_0 x10).bind fun y74 => ((atI s2_1 x10).bind fun y76 => (if ((y74.Rule == y76.Rule) && ((y74.ID == y76.ID) && ((y74.Other == y76.Other) && (y74.Amount == y76.Amount)))) then (some (.go (IntKind.i64.wrap (x10 + 1)))) else (some (.out (.inl ())))))) else (some (.out (.inr ()))))
def g_slices_Equal_api_Finding_api_Finding (s1_0 : List T_api_Finding) (s2_1 : List T_api_Finding) : Option (Bool) :=
  (if ((s1_0.length : Int) != (s2_1.length : Int)) then (some false) else ((iter (g_slices_Equal_api_Finding_api_Finding_s1 s1_0 s2_1) 0).bind fun e11 => (match e11 with | Sum.inl e11 => (some false) | Sum.inr (e11) => (some true))))
theorem a_slices_Equal_api_Finding_api_Finding (I : World → Prop) (hI : Stab I) (s1_0 : List T_api_Finding) (s2_1 : List T_api_Finding) {r : Bool} (h : g_slices_Equal_api_Finding_api_Finding s1_0 s2_1 = some r) : AFun Tryd.prog I 34 [.sl (s1_0.map T_api_Finding.d), .sl (s2_1.map T_api_Finding.d)] (.bool r) := by
  refine AFun.enterB hI Tryd.func34 rfl (by decide) (by simp [Tryd.f34]) (by kernel_rfl) ?_
  unfold g_slices_Equal_api_Finding_api_Finding at h
  simp only [S0, Tryd.ntmps34, dd_UC]
  refine rb_seq ?_
  refine rb_regionK fun K2 hK2 => ?_
  simp -implicitDefEqProofs only [vt, vm, ↓atI_fold, forall_const, implies_true, false_implies, sevalprocAttr, dd_UC]
  subst hK2
  refine eb_seq ?_
  refine rb_seq ?_
  refine rb_seq ?_
  refine rb_regionK fun K4 hK4 => ?_
  simp -implicitDefEqProofs only [vt, vm, ↓atI_fold, forall_const, implies_true, false_implies, sevalprocAttr, dd_UC]
  subst hK4
  refine eb_seq ?_
  rcases ite_or h with ⟨k5, h⟩ | ⟨k5, h⟩
  · refine rb_true (by first | exact congrArg D.bool k5 | rfl) ?_
    refine rb_seq ?_
    refine rb_regionK fun K7 hK7 => ?_
    simp -implicitDefEqProofs only [vt, vm, ↓atI_fold, forall_const, implies_true, false_implies, sevalprocAttr, dd_UC, k5]
    subst hK7
    refine eb_seq ?_
    refine rb_ret ?_
    refine eb_seq_r ?_
    obtain rfl := Option.some.inj h
    refine eb_nil ?_
    simp -implicitDefEqProofs only [vt, vm, ↓atI_fold, forall_const, implies_true, false_implies, sevalprocAttr, retQ_r, Tryd.results34, dd_UC, k5] <;> first | rfl | (simp [List.map_append, dd_UC]; done)
  · refine rb_false (by first | exact congrArg D.bool k5 | rfl) ?_
    refine rb_skip ?_
    refine eb_seq ?_
    refine rb_seq ?_
    refine rb_seq ?_
    refine rb_regionK fun K9 hK9 => ?_
    simp -implicitDefEqProofs only [vt, vm, ↓atI_fold, forall_const, implies_true, false_implies, sevalprocAttr, dd_UC, k5]
    subst hK9
    refine eb_seq ?_
    refine rb_block ?_
    obtain ⟨e11, h82, h⟩ := bind_some h
    refine rb_loop (fun x10 => ⟨envL [(0, .sl (s1_0.map T_api_Finding.d)), (1, .sl (s2_1.map T_api_Finding.d)), (12, .int .i64 (s1_0.length : Int)), (13, .int .i64 x10)], heapL [], 0, 26⟩) (fun w => match w with | Sum.inl _ => .ret | Sum.inr (_) => .exit 0) (fun w => match w with | Sum.inl e11 => ⟨envL [(4, .bool false)], heapL [], 0, 26⟩ | Sum.inr (e11) => ⟨envL [], heapL [], 0, 26⟩) h82 (Wk.of (fun i => some i) _ _ _ (by simp -implicitDefEqProofs [kv, km, dd_UC, k5]) (by simp -implicitDefEqProofs [kv, km, dd_UC, k5])) (by intro w; rcases w with w | w <;> simp) ?_ ?_
    · clear h
      intro x10 y h
      unfold g_slices_Equal_api_Finding_api_Finding_s1 at h
      refine rb_seq ?_
      refine rb_regionK fun K48 hK48 => ?_
      simp -implicitDefEqProofs only [vt, vm, ↓atI_fold, forall_const, implies_true, false_implies, sevalprocAttr, dd_UC, k5]
      subst hK48
      refine eb_seq ?_
      refine rb_seq ?_
      rcases ite_or h with ⟨k50, h⟩ | ⟨k50, h⟩
      · refine rb_true (by first | exact congrArg D.bool k50 | rfl) ?_
        refine rb_skip ?_
        refine eb_seq ?_
        refine rb_seq ?_
        refine rb_block ?_
        refine rb_seq ?_
        refine rb_regionK fun K67 hK67 => ?_
        simp -implicitDefEqProofs only [vt, vm, ↓atI_fold, forall_const, implies_true, false_implies, sevalprocAttr, dd_UC, k5, k50]
        subst hK67
        refine eb_seq ?_
        refine rb_seq ?_
        refine rb_drawK hI (by kernel_rfl) (by kernel_rfl) fun K73 hK73 => ?_
        simp -implicitDefEqProofs only [vt, vm, ↓atI_fold, forall_const, implies_true, false_implies, sevalprocAttr, dd_UC, k5, k50]
        obtain ⟨y74, h75, h⟩ := bind_some h
        simp -implicitDefEqProofs only [vt, vm, ↓atI_fold, forall_const, implies_true, false_implies, sevalprocAttr, dd_UC, k5, k50, h75]
        obtain ⟨y76, h77, h⟩ := bind_some h
        simp -implicitDefEqProofs only [vt, vm, ↓atI_fold, forall_const, implies_true, false_implies, sevalprocAttr, dd_UC, k5, k50, h75, h77]
        subst hK73
        refine eb_seq ?_
        rcases ite_or h with ⟨k78, h⟩ | ⟨k78, h⟩
        · refine rb_false (by first | exact congrArg D.bool (congrArg Bool.not k78) | rfl) ?_
          refine rb_skip ?_
          refine eb_blk_n ?_
          refine eb_seq ?_
          refine rb_regionK fun K79 hK79 => ?_
          simp -implicitDefEqProofs only [vt, vm, ↓atI_fold, forall_const, implies_true, false_implies, sevalprocAttr, dd_UC, k5, k50, h75, h77, k78]
          subst hK79
          obtain rfl := Option.some.inj h
          exact eb_nil ⟨rfl, Wk.of (fun i => some i) _ _ _ (by simp -implicitDefEqProofs [kv, km, dd_UC, k5, k50, k78]) (by simp -implicitDefEqProofs [kv, km, dd_UC, k5, k50, k78])⟩
        · refine rb_true (by first | exact congrArg D.bool (congrArg Bool.not k78) | rfl) ?_
          refine rb_seq ?_
          refine rb_regionK fun K81 hK81 => ?_
          simp -implicitDefEqProofs only [vt, vm, ↓atI_fold, forall_const, implies_true, false_implies, sevalprocAttr, dd_UC, k5, k50, h75, h77, k78]
          subst hK81
          refine eb_seq ?_
          refine rb_ret ?_
          refine eb_blk_r ?_
          refine eb_seq_r ?_
          obtain rfl := Option.some.inj h
          exact eb_nil ⟨rfl, Wk.of (fun i => some i) _ _ _ (by simp -implicitDefEqProofs [kv, km, dd_UC, k5, k50, k78]) (by simp -implicitDefEqProofs [kv, km, dd_UC, k5, k50, k78])⟩
      · refine rb_false (by first | exact congrArg D.bool k50 | rfl) ?_
        refine rb_exit ?_
        refine eb_seq_e ?_
        obtain rfl := Option.some.inj h
        exact eb_nil ⟨rfl, Wk.of (fun i => some i) _ _ _ (by simp -implicitDefEqProofs [kv, km, dd_UC, k5, k50]) (by simp -implicitDefEqProofs [kv, km, dd_UC, k5, k50])⟩
    · rcases e11 with e11 | e11
      · try dsimp only at h ⊢
        refine eb_blk_r ?_
        refine eb_seq_r ?_
        obtain rfl := Option.some.inj h
        refine eb_nil ?_
        simp -implicitDefEqProofs only [vt, vm, ↓atI_fold, forall_const, implies_true, false_implies, sevalprocAttr, retQ_r, Tryd.results34, dd_UC, k5] <;> first | rfl | (simp [List.map_append, dd_UC]; done)
      · try dsimp only at h ⊢
        refine eb_blk_hit ?_
        refine eb_seq ?_
        refine rb_seq ?_
        refine rb_regionK fun K84 hK84 => ?_
        simp -implicitDefEqProofs only [vt, vm, ↓atI_fold, forall_const, implies_true, false_implies, sevalprocAttr, dd_UC, k5]
        subst hK84
        refine eb_seq ?_
        refine rb_ret ?_
        obtain rfl := Option.some.inj h
        refine eb_nil ?_
        simp -implicitDefEqProofs only [vt, vm, ↓atI_fold, forall_const, implies_true, false_implies, sevalprocAttr, retQ_r, Tryd.results34, dd_UC, k5] <;> first | rfl | (simp [List.map_append, dd_UC]; done)
-- shots.Check
def g_shots_Check_s1 (l_0 : List Int) (x10 : Int) : Option (Nx (Int) (Int ⊕ Unit)) :=
  (if (decide (x10 < (l_0.length : Int))) then ((atI l_0 x10).bind fun y104 => (((if (decide (y104 < 1)) then (some true) else (some (decide (5184000 < y104)))) : Option (Bool)).bind fun v108 => (if v108 then (some (.out (.inl 2))) else (if (decide (0 < x10)) then ((atI l_0 (IntKind.i64.wrap (x10 - 1))).bind fun y121 => (if (decide (y104 ≤ y121)) then (some (.out (.inl 8))) else (some (.go (IntKind.i64.wrap (x10 + 1)))))) else (some (.go (IntKind.i64.wrap (x10 + 1)))))))) else (some (.out (.inr ()))))
def g_shots_Check (l_0 : List Int) : Option (Int) :=
  (if (decide (400 < (l_0.length : Int))) then (some 9) else ((iter (g_shots_Check_s1 l_0) 0).bind fun e11 => (match e11 with | Sum.inl e11 => (some e11) | Sum.inr (e11) => (some 0))))
theorem a_shots_Check (I : World → Prop) (hI : Stab I) (l_0 : List Int) {r : Int} (h : g_shots_Check l_0 = some r) : AFun Tryd.prog I 167 [.sl (l_0.map (D.int .i64))] (.int .i64 r) := by
  refine AFun.enterB hI Tryd.func167 rfl (by decide) (by simp [Tryd.f167]) (by kernel_rfl) ?_
  unfold g_shots_Check at h
  simp only [S0, Tryd.ntmps167, dd_UC]
  refine rb_seq ?_
  refine rb_regionK fun K2 hK2 => ?_
  simp -implicitDefEqProofs only [vt, vm, ↓atI_fold, forall_const, implies_true, false_implies, sevalprocAttr, dd_UC]
  subst hK2
  refine eb_seq ?_
  refine rb_seq ?_
  refine rb_seq ?_
  refine rb_regionK fun K4 hK4 => ?_
  simp -implicitDefEqProofs only [vt, vm, ↓atI_fold, forall_const, implies_true, false_implies, sevalprocAttr, dd_UC]
  subst hK4
  refine eb_seq ?_
  rcases ite_or h with ⟨k5, h⟩ | ⟨k5, h⟩
  · refine rb_true (by first | exact congrArg D.bool k5 | rfl) ?_
    refine rb_seq ?_
    refine rb_regionK fun K7 hK7 => ?_
    simp -implicitDefEqProofs only [vt, vm, ↓atI_fold, forall_const, implies_true, false_implies, sevalprocAttr, dd_UC, k5]
    subst hK7
    refine eb_seq ?_
    refine rb_ret ?_
    refine eb_seq_r ?_
    obtain rfl := Option.some.inj h
    refine eb_nil ?_
    simp -implicitDefEqProofs only [vt, vm, ↓atI_fold, forall_const, implies_true, false_implies, sevalprocAttr, retQ_r, Tryd.results167, dd_UC, k5] <;> first | rfl | (simp [List.map_append, dd_UC]; done)
  · refine rb_false (by first | exact congrArg D.bool k5 | rfl) ?_
    refine rb_skip ?_
    refine eb_seq ?_
    refine rb_seq ?_
    refine rb_seq ?_
    refine rb_regionK fun K9 hK9 => ?_
    simp -implicitDefEqProofs only [vt, vm, ↓atI_fold, forall_const, implies_true, false_implies, sevalprocAttr, dd_UC, k5]
    subst hK9
    refine eb_seq ?_
    refine rb_block ?_
    obtain ⟨e11, h128, h⟩ := bind_some h
    refine rb_loop (fun x10 => ⟨envL [(0, .sl (l_0.map (D.int .i64))), (8, .sl (l_0.map (D.int .i64))), (9, .int .i64 (l_0.length : Int)), (10, .int .i64 x10)], heapL [], 0, 33⟩) (fun w => match w with | Sum.inl _ => .ret | Sum.inr (_) => .exit 0) (fun w => match w with | Sum.inl e11 => ⟨envL [(2, .int .i64 e11)], heapL [], 0, 33⟩ | Sum.inr (e11) => ⟨envL [], heapL [], 0, 33⟩) h128 (Wk.of (fun i => some i) _ _ _ (by simp -implicitDefEqProofs [kv, km, dd_UC, k5]) (by simp -implicitDefEqProofs [kv, km, dd_UC, k5])) (by intro w; rcases w with w | w <;> simp) ?_ ?_
    · clear h
      intro x10 y h
      unfold g_shots_Check_s1 at h
      refine rb_seq ?_
      refine rb_regionK fun K71 hK71 => ?_
      simp -implicitDefEqProofs only [vt, vm, ↓atI_fold, forall_const, implies_true, false_implies, sevalprocAttr, dd_UC, k5]
      subst hK71
      refine eb_seq ?_
      refine rb_seq ?_
      rcases ite_or h with ⟨k73, h⟩ | ⟨k73, h⟩
      · refine rb_true (by first | exact congrArg D.bool k73 | rfl) ?_
        refine rb_skip ?_
        refine eb_seq ?_
        refine rb_seq ?_
        refine rb_block ?_
        refine rb_seq ?_
        refine rb_regionK fun K103 hK103 => ?_
        simp -implicitDefEqProofs only [vt, vm, ↓atI_fold, forall_const, implies_true, false_implies, sevalprocAttr, dd_UC, k5, k73]
        obtain ⟨y104, h105, h⟩ := bind_some h
        simp -implicitDefEqProofs only [vt, vm, ↓atI_fold, forall_const, implies_true, false_implies, sevalprocAttr, dd_UC, k5, k73, h105]
        subst hK103
        refine eb_seq ?_
        refine rb_seq ?_
        obtain ⟨v108, h111, h⟩ := bind_some h
        refine rb_cut (fun v108 => ⟨envL [(0, .sl (l_0.map (D.int .i64))), (3, .int .i64 x10), (4, .int .i64 y104), (8, .sl (l_0.map (D.int .i64))), (9, .int .i64 (l_0.length : Int)), (10, .int .i64 x10), (20, .bool v108)], heapL [], 0, 33⟩) h111 ?_ ?_
        · clear h
          intro v108 h
          refine rb_regionK fun K109 hK109 => ?_
          simp -implicitDefEqProofs only [vt, vm, ↓atI_fold, forall_const, implies_true, false_implies, sevalprocAttr, dd_UC, k5, k73, h105]
          rcases ite_or h with ⟨k110, h⟩ | ⟨k110, h⟩
          · simp -implicitDefEqProofs only [vt, vm, ↓atI_fold, forall_const, implies_true, false_implies, sevalprocAttr, dd_UC, k5, k73, h105, k110]
            subst hK109
            obtain rfl := Option.some.inj h
            exact eb_nil ⟨rfl, Wk.of (fun i => some i) _ _ _ (by simp -implicitDefEqProofs [kv, km, dd_UC, k5, k73, k110]) (by simp -implicitDefEqProofs [kv, km, dd_UC, k5, k73, k110])⟩
          · simp -implicitDefEqProofs only [vt, vm, ↓atI_fold, forall_const, implies_true, false_implies, sevalprocAttr, dd_UC, k5, k73, h105, k110]
            subst hK109
            obtain rfl := Option.some.inj h
            exact eb_nil ⟨rfl, Wk.of (fun i => some i) _ _ _ (by simp -implicitDefEqProofs [kv, km, dd_UC, k5, k73, k110]) (by simp -implicitDefEqProofs [kv, km, dd_UC, k5, k73, k110])⟩
        · rcases ite_or h with ⟨k112, h⟩ | ⟨k112, h⟩
          · refine rb_true (by first | exact congrArg D.bool k112 | rfl) ?_
            refine rb_seq ?_
            refine rb_regionK fun K114 hK114 => ?_
            simp -implicitDefEqProofs only [vt, vm, ↓atI_fold, forall_const, implies_true, false_implies, sevalprocAttr, dd_UC, k5, k73, h105, k112]
            subst hK114
            refine eb_seq ?_
            refine rb_ret ?_
            refine eb_seq_r ?_
            refine eb_blk_r ?_
            refine eb_seq_r ?_
            obtain rfl := Option.some.inj h
            exact eb_nil ⟨rfl, Wk.of (fun i => some i) _ _ _ (by simp -implicitDefEqProofs [kv, km, dd_UC, k5, k73, k112]) (by simp -implicitDefEqProofs [kv, km, dd_UC, k5, k73, k112])⟩
          · refine rb_false (by first | exact congrArg D.bool k112 | rfl) ?_
            refine rb_skip ?_
            refine eb_seq ?_
            refine rb_seq ?_
            refine rb_regionK fun K119 hK119 => ?_
            simp -implicitDefEqProofs only [vt, vm, ↓atI_fold, forall_const, implies_true, false_implies, sevalprocAttr, dd_UC, k5, k73, h105, k112]
            rcases ite_or h with ⟨k120, h⟩ | ⟨k120, h⟩
            · simp -implicitDefEqProofs only [vt, vm, ↓atI_fold, forall_const, implies_true, false_implies, sevalprocAttr, dd_UC, k5, k73, h105, k112, k120]
              obtain ⟨y121, h122, h⟩ := bind_some h
              simp -implicitDefEqProofs only [vt, vm, ↓atI_fold, forall_const, implies_true, false_implies, sevalprocAttr, dd_UC, k5, k73, h105, k112, k120, h122]
              subst hK119
              refine eb_seq ?_
              rcases ite_or h with ⟨k123, h⟩ | ⟨k123, h⟩
              · refine rb_true (by first | exact congrArg D.bool k123 | rfl) ?_
                refine rb_seq ?_
                refine rb_regionK fun K125 hK125 => ?_
                simp -implicitDefEqProofs only [vt, vm, ↓atI_fold, forall_const, implies_true, false_implies, sevalprocAttr, dd_UC, k5, k73, h105, k112, k120, h122, k123]
                subst hK125
                refine eb_seq ?_
                refine rb_ret ?_
                refine eb_blk_r ?_
                refine eb_seq_r ?_
                obtain rfl := Option.some.inj h
                exact eb_nil ⟨rfl, Wk.of (fun i => some i) _ _ _ (by simp -implicitDefEqProofs [kv, km, dd_UC, k5, k73, k112, k120, k123]) (by simp -implicitDefEqProofs [kv, km, dd_UC, k5, k73, k112, k120, k123])⟩
              · refine rb_false (by first | exact congrArg D.bool k123 | rfl) ?_
                refine rb_skip ?_
                refine eb_blk_n ?_
                refine eb_seq ?_
                refine rb_regionK fun K126 hK126 => ?_
                simp -implicitDefEqProofs only [vt, vm, ↓atI_fold, forall_const, implies_true, false_implies, sevalprocAttr, dd_UC, k5, k73, h105, k112, k120, h122, k123]
                subst hK126
                obtain rfl := Option.some.inj h
                exact eb_nil ⟨rfl, Wk.of (fun i => some i) _ _ _ (by simp -implicitDefEqProofs [kv, km, dd_UC, k5, k73, k112, k120, k123]) (by simp -implicitDefEqProofs [kv, km, dd_UC, k5, k73, k112, k120, k123])⟩
            · simp -implicitDefEqProofs only [vt, vm, ↓atI_fold, forall_const, implies_true, false_implies, sevalprocAttr, dd_UC, k5, k73, h105, k112, k120]
              subst hK119
              refine eb_seq ?_
              refine rb_false (rfl) ?_
              refine rb_skip ?_
              refine eb_blk_n ?_
              refine eb_seq ?_
              refine rb_regionK fun K127 hK127 => ?_
              simp -implicitDefEqProofs only [vt, vm, ↓atI_fold, forall_const, implies_true, false_implies, sevalprocAttr, dd_UC, k5, k73, h105, k112, k120]
              subst hK127
              obtain rfl := Option.some.inj h
              exact eb_nil ⟨rfl, Wk.of (fun i => some i) _ _ _ (by simp -implicitDefEqProofs [kv, km, dd_UC, k5, k73, k112, k120]) (by simp -implicitDefEqProofs [kv, km, dd_UC, k5, k73, k112, k120])⟩
      · refine rb_false (by first | exact congrArg D.bool k73 | rfl) ?_
        refine rb_exit ?_
        refine eb_seq_e ?_
        obtain rfl := Option.some.inj h
        exact eb_nil ⟨rfl, Wk.of (fun i => some i) _ _ _ (by simp -implicitDefEqProofs [kv, km, dd_UC, k5, k73]) (by simp -implicitDefEqProofs [kv, km, dd_UC, k5, k73])⟩
    · rcases e11 with e11 | e11
      · try dsimp only at h ⊢
        refine eb_blk_r ?_
        refine eb_seq_r ?_
        obtain rfl := Option.some.inj h
        refine eb_nil ?_
        simp -implicitDefEqProofs only [vt, vm, ↓atI_fold, forall_const, implies_true, false_implies, sevalprocAttr, retQ_r, Tryd.results167, dd_UC, k5] <;> first | rfl | (simp [List.map_append, dd_UC]; done)
      · try dsimp only at h ⊢
        refine eb_blk_hit ?_
        refine eb_seq ?_
        refine rb_seq ?_
        refine rb_regionK fun K130 hK130 => ?_
        simp -implicitDefEqProofs only [vt, vm, ↓atI_fold, forall_const, implies_true, false_implies, sevalprocAttr, dd_UC, k5]
        subst hK130
        refine eb_seq ?_
        refine rb_ret ?_
        obtain rfl := Option.some.inj h
        refine eb_nil ?_
        simp -implicitDefEqProofs only [vt, vm, ↓atI_fold, forall_const, implies_true, false_implies, sevalprocAttr, retQ_r, Tryd.results167, dd_UC, k5] <;> first | rfl | (simp [List.map_append, dd_UC]; done)
-- shots.frame
def g_shots_frame (f_0 : Int) : Option (Bool) :=
  (if (decide (0 ≤ f_0)) then (some (decide (f_0 ≤ 5184000))) else (some false))
theorem a_shots_frame (I : World → Prop) (hI : Stab I) (f_0 : Int) {r : Bool} (h : g_shots_frame f_0 = some r) : AFun Tryd.prog I 137 [.int .i64 f_0] (.bool r) := by
  refine AFun.enterB hI Tryd.func137 rfl (by decide) (by simp [Tryd.f137]) (by kernel_rfl) ?_
  unfold g_shots_frame at h
  simp only [S0, Tryd.ntmps137, dd_UC]
  refine rb_seq ?_
  refine rb_regionK fun K2 hK2 => ?_
  simp -implicitDefEqProofs only [vt, vm, ↓atI_fold, forall_const, implies_true, false_implies, sevalprocAttr, dd_UC]
  subst hK2
  refine eb_seq ?_
  refine rb_seq ?_
  refine rb_regionK fun K5 hK5 => ?_
  simp -implicitDefEqProofs only [vt, vm, ↓atI_fold, forall_const, implies_true, false_implies, sevalprocAttr, dd_UC]
  rcases ite_or h with ⟨k6, h⟩ | ⟨k6, h⟩
  · simp -implicitDefEqProofs only [vt, vm, ↓atI_fold, forall_const, implies_true, false_implies, sevalprocAttr, dd_UC, k6]
    subst hK5
    refine eb_seq ?_
    refine rb_ret ?_
    obtain rfl := Option.some.inj h
    refine eb_nil ?_
    simp -implicitDefEqProofs only [vt, vm, ↓atI_fold, forall_const, implies_true, false_implies, sevalprocAttr, retQ_r, Tryd.results137, dd_UC, k6] <;> first | rfl | (simp [List.map_append, dd_UC]; done)
  · simp -implicitDefEqProofs only [vt, vm, ↓atI_fold, forall_const, implies_true, false_implies, sevalprocAttr, dd_UC, k6]
    subst hK5
    refine eb_seq ?_
    refine rb_ret ?_
    obtain rfl := Option.some.inj h
    refine eb_nil ?_
    simp -implicitDefEqProofs only [vt, vm, ↓atI_fold, forall_const, implies_true, false_implies, sevalprocAttr, retQ_r, Tryd.results137, dd_UC, k6] <;> first | rfl | (simp [List.map_append, dd_UC]; done)
-- shots.usable
def g_shots_usable (l_0 : List Int) (f_1 : Int) (before_2 : Int) (after_3 : Int) : Option (Bool) :=
  ((g_shots_Check l_0).bind fun r16 => (if (r16 == 0) then ((g_shots_frame f_1).bind fun r19 => (if r19 then ((g_shots_frame before_2).bind fun r22 => (if r22 then ((g_shots_frame after_3).bind fun r25 => (some r25)) else (some false))) else (some false))) else (some false)))
theorem a_shots_usable (I : World → Prop) (hI : Stab I) (l_0 : List Int) (f_1 : Int) (before_2 : Int) (after_3 : Int) {r : Bool} (h : g_shots_usable l_0 f_1 before_2 after_3 = some r) : AFun Tryd.prog I 135 [.sl (l_0.map (D.int .i64)), .int .i64 f_1, .int .i64 before_2, .int .i64 after_3] (.bool r) := by
  refine AFun.enterB hI Tryd.func135 rfl (by decide) (by simp [Tryd.f135]) (by kernel_rfl) ?_
  unfold g_shots_usable at h
  simp only [S0, Tryd.ntmps135, dd_UC]
  refine rb_seq ?_
  refine rb_regionK fun K2 hK2 => ?_
  simp -implicitDefEqProofs only [vt, vm, ↓atI_fold, forall_const, implies_true, false_implies, sevalprocAttr, dd_UC]
  subst hK2
  refine eb_seq ?_
  refine rb_seq ?_
  refine rb_regionK fun K15 hK15 => ?_
  simp -implicitDefEqProofs only [vt, vm, ↓atI_fold, forall_const, implies_true, false_implies, sevalprocAttr, dd_UC]
  obtain ⟨r16, h17, h⟩ := bind_some h
  refine cW.intro (a_shots_Check I hI l_0 h17) (by first | rfl | (simp [List.map_append, dd_UC]; done)) ?_
  simp -implicitDefEqProofs only [vt, vm, ↓atI_fold, forall_const, implies_true, false_implies, sevalprocAttr, dd_UC]
  rcases ite_or h with ⟨k18, h⟩ | ⟨k18, h⟩
  · simp -implicitDefEqProofs only [vt, vm, ↓atI_fold, forall_const, implies_true, false_implies, sevalprocAttr, dd_UC, k18]
    obtain ⟨r19, h20, h⟩ := bind_some h
    refine cW.intro (a_shots_frame I hI f_1 h20) (by first | rfl | (simp [List.map_append, dd_UC]; done)) ?_
    simp -implicitDefEqProofs only [vt, vm, ↓atI_fold, forall_const, implies_true, false_implies, sevalprocAttr, dd_UC, k18]
    rcases ite_or h with ⟨k21, h⟩ | ⟨k21, h⟩
    · simp -implicitDefEqProofs only [vt, vm, ↓atI_fold, forall_const, implies_true, false_implies, sevalprocAttr, dd_UC, k18, k21]
      obtain ⟨r22, h23, h⟩ := bind_some h
      refine cW.intro (a_shots_frame I hI before_2 h23) (by first | rfl | (simp [List.map_append, dd_UC]; done)) ?_
      simp -implicitDefEqProofs only [vt, vm, ↓atI_fold, forall_const, implies_true, false_implies, sevalprocAttr, dd_UC, k18, k21]
      rcases ite_or h with ⟨k24, h⟩ | ⟨k24, h⟩
      · simp -implicitDefEqProofs only [vt, vm, ↓atI_fold, forall_const, implies_true, false_implies, sevalprocAttr, dd_UC, k18, k21, k24]
        obtain ⟨r25, h26, h⟩ := bind_some h
        refine cW.intro (a_shots_frame I hI after_3 h26) (by first | rfl | (simp [List.map_append, dd_UC]; done)) ?_
        simp -implicitDefEqProofs only [vt, vm, ↓atI_fold, forall_const, implies_true, false_implies, sevalprocAttr, dd_UC, k18, k21, k24]
        subst hK15
        refine eb_seq ?_
        refine rb_ret ?_
        obtain rfl := Option.some.inj h
        refine eb_nil ?_
        simp -implicitDefEqProofs only [vt, vm, ↓atI_fold, forall_const, implies_true, false_implies, sevalprocAttr, retQ_r, Tryd.results135, dd_UC, k18, k21, k24] <;> first | rfl | (simp [List.map_append, dd_UC]; done)
      · simp -implicitDefEqProofs only [vt, vm, ↓atI_fold, forall_const, implies_true, false_implies, sevalprocAttr, dd_UC, k18, k21, k24]
        subst hK15
        refine eb_seq ?_
        refine rb_ret ?_
        obtain rfl := Option.some.inj h
        refine eb_nil ?_
        simp -implicitDefEqProofs only [vt, vm, ↓atI_fold, forall_const, implies_true, false_implies, sevalprocAttr, retQ_r, Tryd.results135, dd_UC, k18, k21, k24] <;> first | rfl | (simp [List.map_append, dd_UC]; done)
    · simp -implicitDefEqProofs only [vt, vm, ↓atI_fold, forall_const, implies_true, false_implies, sevalprocAttr, dd_UC, k18, k21]
      subst hK15
      refine eb_seq ?_
      refine rb_ret ?_
      obtain rfl := Option.some.inj h
      refine eb_nil ?_
      simp -implicitDefEqProofs only [vt, vm, ↓atI_fold, forall_const, implies_true, false_implies, sevalprocAttr, retQ_r, Tryd.results135, dd_UC, k18, k21] <;> first | rfl | (simp [List.map_append, dd_UC]; done)
  · simp -implicitDefEqProofs only [vt, vm, ↓atI_fold, forall_const, implies_true, false_implies, sevalprocAttr, dd_UC, k18]
    subst hK15
    refine eb_seq ?_
    refine rb_ret ?_
    obtain rfl := Option.some.inj h
    refine eb_nil ?_
    simp -implicitDefEqProofs only [vt, vm, ↓atI_fold, forall_const, implies_true, false_implies, sevalprocAttr, retQ_r, Tryd.results135, dd_UC, k18] <;> first | rfl | (simp [List.map_append, dd_UC]; done)
-- shots.tooClose
def g_shots_tooClose_s1 (l_0 : List Int) (f_1 : Int) (before_2 : Int) (after_3 : Int) (x5 : Int) : Option (Nx (Int) (Int ⊕ Unit)) :=
  (if (decide (x5 < (l_0.length : Int))) then ((atI l_0 x5).bind fun y83 => (((if (decide ((IntKind.i64.wrap (y83 - before_2)) < f_1)) then (if (decide (f_1 < y83)) then (some true) else (if (decide (y83 < f_1)) then (some (decide (f_1 < (IntKind.i64.wrap (y83 + after_3))))) else (some false))) else (if (decide (y83 < f_1)) then (some (decide (f_1 < (IntKind.i64.wrap (y83 + after_3))))) else (some false))) : Option (Bool)).bind fun v90 => (if v90 then (some (.out (.inl y83))) else (some (.go (IntKind.i64.wrap (x5 + 1))))))) else (some (.out (.inr ()))))
def g_shots_tooClose (l_0 : List Int) (f_1 : Int) (before_2 : Int) (after_3 : Int) : Option (Int × Bool) :=
  ((iter (g_shots_tooClose_s1 l_0 f_1 before_2 after_3) 0).bind fun e6 => (match e6 with | Sum.inl e6 => (some (e6, true)) | Sum.inr (e6) => (some (0, false))))
theorem a_shots_tooClose (I : World → Prop) (hI : Stab I) (l_0 : List Int) (f_1 : Int) (before_2 : Int) (after_3 : Int) {r : Int × Bool} (h : g_shots_tooClose l_0 f_1 before_2 after_3 = some r) : AFun Tryd.prog I 136 [.sl (l_0.map (D.int .i64)), .int .i64 f_1, .int .i64 before_2, .int .i64 after_3] (.tup [.int .i64 r.1, .bool r.2]) := by
  refine AFun.enterB hI Tryd.func136 rfl (by decide) (by simp [Tryd.f136]) (by kernel_rfl) ?_
  unfold g_shots_tooClose at h
  simp only [S0, Tryd.ntmps136, dd_UC]
  refine rb_seq ?_
  refine rb_regionK fun K2 hK2 => ?_
  simp -implicitDefEqProofs only [vt, vm, ↓atI_fold, forall_const, implies_true, false_implies, sevalprocAttr, dd_UC]
  subst hK2
  refine eb_seq ?_
  refine rb_seq ?_
  refine rb_seq ?_
  refine rb_regionK fun K4 hK4 => ?_
  simp -implicitDefEqProofs only [vt, vm, ↓atI_fold, forall_const, implies_true, false_implies, sevalprocAttr, dd_UC]
  subst hK4
  refine eb_seq ?_
  refine rb_block ?_
  obtain ⟨e6, h101, h⟩ := bind_some h
  refine rb_loop (fun x5 => ⟨envL [(1, .int .i64 f_1), (2, .int .i64 before_2), (3, .int .i64 after_3), (12, .sl (l_0.map (D.int .i64))), (13, .int .i64 (l_0.length : Int)), (14, .int .i64 x5)], heapL [], 0, 42⟩) (fun w => match w with | Sum.inl _ => .ret | Sum.inr (_) => .exit 0) (fun w => match w with | Sum.inl e6 => ⟨envL [(8, .int .i64 e6), (9, .bool true)], heapL [], 0, 42⟩ | Sum.inr (e6) => ⟨envL [], heapL [], 0, 42⟩) h101 (Wk.of (fun i => some i) _ _ _ (by simp -implicitDefEqProofs [kv, km, dd_UC]) (by simp -implicitDefEqProofs [kv, km, dd_UC])) (by intro w; rcases w with w | w <;> simp) ?_ ?_
  · clear h
    intro x5 y h
    unfold g_shots_tooClose_s1 at h
    refine rb_seq ?_
    refine rb_regionK fun K55 hK55 => ?_
    simp -implicitDefEqProofs only [vt, vm, ↓atI_fold, forall_const, implies_true, false_implies, sevalprocAttr, dd_UC]
    subst hK55
    refine eb_seq ?_
    refine rb_seq ?_
    rcases ite_or h with ⟨k57, h⟩ | ⟨k57, h⟩
    · refine rb_true (by first | exact congrArg D.bool k57 | rfl) ?_
      refine rb_skip ?_
      refine eb_seq ?_
      refine rb_seq ?_
      refine rb_block ?_
      refine rb_seq ?_
      refine rb_regionK fun K82 hK82 => ?_
      simp -implicitDefEqProofs only [vt, vm, ↓atI_fold, forall_const, implies_true, false_implies, sevalprocAttr, dd_UC, k57]
      obtain ⟨y83, h84, h⟩ := bind_some h
      simp -implicitDefEqProofs only [vt, vm, ↓atI_fold, forall_const, implies_true, false_implies, sevalprocAttr, dd_UC, k57, h84]
      subst hK82
      refine eb_seq ?_
      obtain ⟨v90, h96, h⟩ := bind_some h
      refine rb_cut (fun v90 => ⟨envL [(1, .int .i64 f_1), (2, .int .i64 before_2), (3, .int .i64 after_3), (11, .int .i64 y83), (12, .sl (l_0.map (D.int .i64))), (13, .int .i64 (l_0.length : Int)), (14, .int .i64 x5), (39, .bool v90)], heapL [], 0, 42⟩) h96 ?_ ?_
      · clear h
        intro v90 h
        refine rb_regionK fun K91 hK91 => ?_
        simp -implicitDefEqProofs only [vt, vm, ↓atI_fold, forall_const, implies_true, false_implies, sevalprocAttr, dd_UC, k57, h84]
        rcases ite_or h with ⟨k92, h⟩ | ⟨k92, h⟩
        · simp -implicitDefEqProofs only [vt, vm, ↓atI_fold, forall_const, implies_true, false_implies, sevalprocAttr, dd_UC, k57, h84, k92]
          rcases ite_or h with ⟨k93, h⟩ | ⟨k93, h⟩
          · simp -implicitDefEqProofs only [vt, vm, ↓atI_fold, forall_const, implies_true, false_implies, sevalprocAttr, dd_UC, k57, h84, k92, k93]
            subst hK91
            obtain rfl := Option.some.inj h
            exact eb_nil ⟨rfl, Wk.of (fun i => some i) _ _ _ (by simp -implicitDefEqProofs [kv, km, dd_UC, k57, k92, k93]) (by simp -implicitDefEqProofs [kv, km, dd_UC, k57, k92, k93])⟩
          · simp -implicitDefEqProofs only [vt, vm, ↓atI_fold, forall_const, implies_true, false_implies, sevalprocAttr, dd_UC, k57, h84, k92, k93]
            rcases ite_or h with ⟨k94, h⟩ | ⟨k94, h⟩
            · simp -implicitDefEqProofs only [vt, vm, ↓atI_fold, forall_const, implies_true, false_implies, sevalprocAttr, dd_UC, k57, h84, k92, k93, k94]
              subst hK91
              obtain rfl := Option.some.inj h
              exact eb_nil ⟨rfl, Wk.of (fun i => some i) _ _ _ (by simp -implicitDefEqProofs [kv, km, dd_UC, k57, k92, k93, k94]) (by simp -implicitDefEqProofs [kv, km, dd_UC, k57, k92, k93, k94])⟩
            · simp -implicitDefEqProofs only [vt, vm, ↓atI_fold, forall_const, implies_true, false_implies, sevalprocAttr, dd_UC, k57, h84, k92, k93, k94]
              subst hK91
              obtain rfl := Option.some.inj h
              exact eb_nil ⟨rfl, Wk.of (fun i => some i) _ _ _ (by simp -implicitDefEqProofs [kv, km, dd_UC, k57, k92, k93, k94]) (by simp -implicitDefEqProofs [kv, km, dd_UC, k57, k92, k93, k94])⟩
        · simp -implicitDefEqProofs only [vt, vm, ↓atI_fold, forall_const, implies_true, false_implies, sevalprocAttr, dd_UC, k57, h84, k92]
          rcases ite_or h with ⟨k95, h⟩ | ⟨k95, h⟩
          · simp -implicitDefEqProofs only [vt, vm, ↓atI_fold, forall_const, implies_true, false_implies, sevalprocAttr, dd_UC, k57, h84, k92, k95]
            subst hK91
            obtain rfl := Option.some.inj h
            exact eb_nil ⟨rfl, Wk.of (fun i => some i) _ _ _ (by simp -implicitDefEqProofs [kv, km, dd_UC, k57, k92, k95]) (by simp -implicitDefEqProofs [kv, km, dd_UC, k57, k92, k95])⟩
          · simp -implicitDefEqProofs only [vt, vm, ↓atI_fold, forall_const, implies_true, false_implies, sevalprocAttr, dd_UC, k57, h84, k92, k95]
            subst hK91
            obtain rfl := Option.some.inj h
            exact eb_nil ⟨rfl, Wk.of (fun i => some i) _ _ _ (by simp -implicitDefEqProofs [kv, km, dd_UC, k57, k92, k95]) (by simp -implicitDefEqProofs [kv, km, dd_UC, k57, k92, k95])⟩
      · rcases ite_or h with ⟨k97, h⟩ | ⟨k97, h⟩
        · refine rb_true (by first | exact congrArg D.bool k97 | rfl) ?_
          refine rb_seq ?_
          refine rb_regionK fun K99 hK99 => ?_
          simp -implicitDefEqProofs only [vt, vm, ↓atI_fold, forall_const, implies_true, false_implies, sevalprocAttr, dd_UC, k57, h84, k97]
          subst hK99
          refine eb_seq ?_
          refine rb_ret ?_
          refine eb_blk_r ?_
          refine eb_seq_r ?_
          obtain rfl := Option.some.inj h
          exact eb_nil ⟨rfl, Wk.of (fun i => some i) _ _ _ (by simp -implicitDefEqProofs [kv, km, dd_UC, k57, k97]) (by simp -implicitDefEqProofs [kv, km, dd_UC, k57, k97])⟩
        · refine rb_false (by first | exact congrArg D.bool k97 | rfl) ?_
          refine rb_skip ?_
          refine eb_blk_n ?_
          refine eb_seq ?_
          refine rb_regionK fun K100 hK100 => ?_
          simp -implicitDefEqProofs only [vt, vm, ↓atI_fold, forall_const, implies_true, false_implies, sevalprocAttr, dd_UC, k57, h84, k97]
          subst hK100
          obtain rfl := Option.some.inj h
          exact eb_nil ⟨rfl, Wk.of (fun i => some i) _ _ _ (by simp -implicitDefEqProofs [kv, km, dd_UC, k57, k97]) (by simp -implicitDefEqProofs [kv, km, dd_UC, k57, k97])⟩
    · refine rb_false (by first | exact congrArg D.bool k57 | rfl) ?_
      refine rb_exit ?_
      refine eb_seq_e ?_
      obtain rfl := Option.some.inj h
      exact eb_nil ⟨rfl, Wk.of (fun i => some i) _ _ _ (by simp -implicitDefEqProofs [kv, km, dd_UC, k57]) (by simp -implicitDefEqProofs [kv, km, dd_UC, k57])⟩
  · rcases e6 with e6 | e6
    · try dsimp only at h ⊢
      refine eb_blk_r ?_
      refine eb_seq_r ?_
      obtain rfl := Option.some.inj h
      refine eb_nil ?_
      simp -implicitDefEqProofs only [vt, vm, ↓atI_fold, forall_const, implies_true, false_implies, sevalprocAttr, retQ_r, Tryd.results136, dd_UC] <;> first | rfl | (simp [List.map_append, dd_UC]; done)
    · try dsimp only at h ⊢
      refine eb_blk_hit ?_
      refine eb_seq ?_
      refine rb_seq ?_
      refine rb_regionK fun K103 hK103 => ?_
      simp -implicitDefEqProofs only [vt, vm, ↓atI_fold, forall_const, implies_true, false_implies, sevalprocAttr, dd_UC]
      subst hK103
      refine eb_seq ?_
      refine rb_ret ?_
      obtain rfl := Option.some.inj h
      refine eb_nil ?_
      simp -implicitDefEqProofs only [vt, vm, ↓atI_fold, forall_const, implies_true, false_implies, sevalprocAttr, retQ_r, Tryd.results136, dd_UC] <;> first | rfl | (simp [List.map_append, dd_UC]; done)
-- shots.Close
def g_shots_Close (l_0 : List Int) (f_1 : Int) (before_2 : Int) (after_3 : Int) : Option (Int × Bool) :=
  ((g_shots_usable l_0 f_1 before_2 after_3).bind fun r7 => (if r7 then ((g_shots_tooClose l_0 f_1 before_2 after_3).bind fun r14 => (some (r14.1, r14.2))) else (some (0, false))))
theorem a_shots_Close (I : World → Prop) (hI : Stab I) (l_0 : List Int) (f_1 : Int) (before_2 : Int) (after_3 : Int) {r : Int × Bool} (h : g_shots_Close l_0 f_1 before_2 after_3 = some r) : AFun Tryd.prog I 104 [.sl (l_0.map (D.int .i64)), .int .i64 f_1, .int .i64 before_2, .int .i64 after_3] (.tup [.int .i64 r.1, .bool r.2]) := by
  refine AFun.enterB hI Tryd.func104 rfl (by decide) (by simp [Tryd.f104]) (by kernel_rfl) ?_
  unfold g_shots_Close at h
  simp only [S0, Tryd.ntmps104, dd_UC]
  refine rb_seq ?_
  refine rb_regionK fun K2 hK2 => ?_
  simp -implicitDefEqProofs only [vt, vm, ↓atI_fold, forall_const, implies_true, false_implies, sevalprocAttr, dd_UC]
  subst hK2
  refine eb_seq ?_
  refine rb_seq ?_
  refine rb_seq ?_
  refine rb_regionK fun K6 hK6 => ?_
  simp -implicitDefEqProofs only [vt, vm, ↓atI_fold, forall_const, implies_true, false_implies, sevalprocAttr, dd_UC]
  obtain ⟨r7, h8, h⟩ := bind_some h
  refine cW.intro (a_shots_usable I hI l_0 f_1 before_2 after_3 h8) (by first | rfl | (simp [List.map_append, dd_UC]; done)) ?_
  simp -implicitDefEqProofs only [vt, vm, ↓atI_fold, forall_const, implies_true, false_implies, sevalprocAttr, dd_UC]
  subst hK6
  refine eb_seq ?_
  rcases ite_or h with ⟨k9, h⟩ | ⟨k9, h⟩
  · refine rb_false (by first | exact congrArg D.bool (congrArg Bool.not k9) | rfl) ?_
    refine rb_skip ?_
    refine eb_seq ?_
    refine rb_seq ?_
    refine rb_regionK fun K13 hK13 => ?_
    simp -implicitDefEqProofs only [vt, vm, ↓atI_fold, forall_const, implies_true, false_implies, sevalprocAttr, dd_UC, k9]
    obtain ⟨r14, h15, h⟩ := bind_some h
    refine cW.intro (a_shots_tooClose I hI l_0 f_1 before_2 after_3 h15) (by first | rfl | (simp [List.map_append, dd_UC]; done)) ?_
    simp -implicitDefEqProofs only [vt, vm, ↓atI_fold, forall_const, implies_true, false_implies, sevalprocAttr, dd_UC, k9]
    subst hK13
    refine eb_seq ?_
    refine rb_ret ?_
    obtain rfl := Option.some.inj h
    refine eb_nil ?_
    simp -implicitDefEqProofs only [vt, vm, ↓atI_fold, forall_const, implies_true, false_implies, sevalprocAttr, retQ_r, Tryd.results104, dd_UC, k9] <;> first | rfl | (simp [List.map_append, dd_UC]; done)
  · refine rb_true (by first | exact congrArg D.bool (congrArg Bool.not k9) | rfl) ?_
    refine rb_seq ?_
    refine rb_regionK fun K17 hK17 => ?_
    simp -implicitDefEqProofs only [vt, vm, ↓atI_fold, forall_const, implies_true, false_implies, sevalprocAttr, dd_UC, k9]
    subst hK17
    refine eb_seq ?_
    refine rb_ret ?_
    refine eb_seq_r ?_
    obtain rfl := Option.some.inj h
    refine eb_nil ?_
    simp -implicitDefEqProofs only [vt, vm, ↓atI_fold, forall_const, implies_true, false_implies, sevalprocAttr, retQ_r, Tryd.results104, dd_UC, k9] <;> first | rfl | (simp [List.map_append, dd_UC]; done)
-- shots.size
def g_shots_size (n_0 : Int) : Option (Int) :=
  (some (if (IntKind.i64.wrap (0 - n_0)) > n_0 then (IntKind.i64.wrap (0 - n_0)) else n_0))
theorem a_shots_size (I : World → Prop) (hI : Stab I) (n_0 : Int) {r : Int} (h : g_shots_size n_0 = some r) : AFun Tryd.prog I 138 [.int .i64 n_0] (.int .i64 r) := by
  refine AFun.enterB hI Tryd.func138 rfl (by decide) (by simp [Tryd.f138]) (by kernel_rfl) ?_
  unfold g_shots_size at h
  simp only [S0, Tryd.ntmps138, dd_UC]
  refine rb_seq ?_
  refine rb_regionK fun K2 hK2 => ?_
  simp -implicitDefEqProofs only [vt, vm, ↓atI_fold, forall_const, implies_true, false_implies, sevalprocAttr, dd_UC]
  subst hK2
  refine eb_seq ?_
  refine rb_seq ?_
  refine rb_regionK fun K4 hK4 => ?_
  simp -implicitDefEqProofs only [vt, vm, ↓atI_fold, forall_const, implies_true, false_implies, sevalprocAttr, dd_UC]
  subst hK4
  refine eb_seq ?_
  refine rb_ret ?_
  obtain rfl := Option.some.inj h
  refine eb_nil ?_
  simp -implicitDefEqProofs only [vt, vm, ↓atI_fold, forall_const, implies_true, false_implies, sevalprocAttr, retQ_r, Tryd.results138, dd_UC] <;> first | rfl | (simp [List.map_append, dd_UC]; done)
-- shots.Snap
def g_shots_Snap_s1 (l_0 : List Int) (before_2 : Int) (after_3 : Int) (x14 : Int × (List Int)) : Option (Nx (Int × (List Int)) ((List Int))) :=
  (if (decide (x14.1 < (l_0.length : Int))) then ((atI l_0 x14.1).bind fun y56 => (if (x14.2.length + 3) * 8 ≤ 140737488355328 then (some (.go ((IntKind.i64.wrap (x14.1 + 1)), (x14.2 ++ [(IntKind.i64.wrap (y56 - before_2)), y56, (IntKind.i64.wrap (y56 + after_3))])))) else none)) else (some (.out x14.2)))
def g_shots_Snap_s2 (l_0 : List Int) (f_1 : Int) (before_2 : Int) (after_3 : Int) (e15 : (List Int)) (x67 : Int × Bool × Int) : Option (Nx (Int × Bool × Int) (Int × Bool)) :=
  (if (decide (x67.2.2 < ((e15.length : Nat) : Int))) then ((atI e15 x67.2.2).bind fun y376 => ((g_shots_frame y376).bind fun r385 => (if r385 then ((g_shots_tooClose l_0 y376 before_2 after_3).bind fun r392 => (if r392.2 then (some (.go (x67.1, x67.2.1, (IntKind.i64.wrap (x67.2.2 + 1))))) else (((if x67.2.1 then ((g_shots_size (IntKind.i64.wrap (y376 - f_1))).bind fun r413 => ((g_shots_size (IntKind.i64.wrap (x67.1 - f_1))).bind fun r415 => (if (decide (r413 < r415)) then (some true) else ((g_shots_size (IntKind.i64.wrap (y376 - f_1))).bind fun r418 => ((g_shots_size (IntKind.i64.wrap (x67.1 - f_1))).bind fun r420 => (if (r418 == r420) then (some (decide (y376 < x67.1))) else (some false))))))) else (some true)) : Option (Bool)).bind fun v410 => (if v410 then (some (.go (y376, true, (IntKind.i64.wrap (x67.2.2 + 1))))) else (some (.go (x67.1, x67.2.1, (IntKind.i64.wrap (x67.2.2 + 1))))))))) else (some (.go (x67.1, x67.2.1, (IntKind.i64.wrap (x67.2.2 + 1)))))))) else (some (.out (x67.1, x67.2.1))))
def g_shots_Snap (l_0 : List Int) (f_1 : Int) (before_2 : Int) (after_3 : Int) : Option (Int × Bool) :=
  ((g_shots_usable l_0 f_1 before_2 after_3).bind fun r7 => (if r7 then ((iter (g_shots_Snap_s1 l_0 before_2 after_3) (0, [f_1])).bind fun e15 => ((iter (g_shots_Snap_s2 l_0 f_1 before_2 after_3 e15) (0, false, 0)).bind fun e68 => (some (e68.1, e68.2)))) else (some (0, false))))
theorem a_shots_Snap (I : World → Prop) (hI : Stab I) (l_0 : List Int) (f_1 : Int) (before_2 : Int) (after_3 : Int) {r : Int × Bool} (h : g_shots_Snap l_0 f_1 before_2 after_3 = some r) : AFun Tryd.prog I 105 [.sl (l_0.map (D.int .i64)), .int .i64 f_1, .int .i64 before_2, .int .i64 after_3] (.tup [.int .i64 r.1, .bool r.2]) := by
  refine AFun.enterB hI Tryd.func105 rfl (by decide) (by simp [Tryd.f105]) (by kernel_rfl) ?_
  unfold g_shots_Snap at h
  simp only [S0, Tryd.ntmps105, dd_UC]
  refine rb_seq ?_
  refine rb_regionK fun K2 hK2 => ?_
  simp -implicitDefEqProofs only [vt, vm, ↓atI_fold, forall_const, implies_true, false_implies, sevalprocAttr, dd_UC]
  subst hK2
  refine eb_seq ?_
  refine rb_seq ?_
  refine rb_seq ?_
  refine rb_regionK fun K6 hK6 => ?_
  simp -implicitDefEqProofs only [vt, vm, ↓atI_fold, forall_const, implies_true, false_implies, sevalprocAttr, dd_UC]
  obtain ⟨r7, h8, h⟩ := bind_some h
  refine cW.intro (a_shots_usable I hI l_0 f_1 before_2 after_3 h8) (by first | rfl | (simp [List.map_append, dd_UC]; done)) ?_
  simp -implicitDefEqProofs only [vt, vm, ↓atI_fold, forall_const, implies_true, false_implies, sevalprocAttr, dd_UC]
  subst hK6
  refine eb_seq ?_
  rcases ite_or h with ⟨k9, h⟩ | ⟨k9, h⟩
  · refine rb_false (by first | exact congrArg D.bool (congrArg Bool.not k9) | rfl) ?_
    refine rb_skip ?_
    refine eb_seq ?_
    refine rb_seq ?_
    refine rb_regionK fun K11 hK11 => ?_
    simp -implicitDefEqProofs only [vt, vm, ↓atI_fold, forall_const, implies_true, false_implies, sevalprocAttr, dd_UC, k9]
    subst hK11
    refine eb_seq ?_
    refine rb_seq ?_
    refine rb_seq ?_
    refine rb_regionK fun K13 hK13 => ?_
    simp -implicitDefEqProofs only [vt, vm, ↓atI_fold, forall_const, implies_true, false_implies, sevalprocAttr, dd_UC, k9]
    subst hK13
    refine eb_seq ?_
    refine rb_block ?_
    obtain ⟨e15, h62, h⟩ := bind_some h
    refine rb_loop (fun x14 => ⟨envL [(0, .sl (l_0.map (D.int .i64))), (1, .int .i64 f_1), (2, .int .i64 before_2), (3, .int .i64 after_3), (10, .own 0 x14.2.length), (27, .sl (l_0.map (D.int .i64))), (28, .int .i64 (l_0.length : Int)), (29, .int .i64 x14.1)], heapL [(0, .vec 2 1 (x14.2.map (D.int .i64)) false)], 1, 95⟩) (fun _ => .exit 0) (fun e15 => ⟨envL [(0, .sl (l_0.map (D.int .i64))), (1, .int .i64 f_1), (2, .int .i64 before_2), (3, .int .i64 after_3), (10, .own 0 e15.length)], heapL [(0, .vec 2 1 (e15.map (D.int .i64)) false)], 1, 95⟩) h62 (Wk.of (fun i => if i = 0 then some 9 else some i) _ _ _ (by simp -implicitDefEqProofs [kv, km, dd_UC, k9]) (by simp -implicitDefEqProofs [kv, km, dd_UC, k9])) (by intro w; simp) ?_ ?_
    · clear h
      intro x14 y h
      unfold g_shots_Snap_s1 at h
      refine rb_seq ?_
      refine rb_regionK fun K40 hK40 => ?_
      simp -implicitDefEqProofs only [vt, vm, ↓atI_fold, forall_const, implies_true, false_implies, sevalprocAttr, dd_UC, k9]
      subst hK40
      refine eb_seq ?_
      refine rb_seq ?_
      rcases ite_or h with ⟨k42, h⟩ | ⟨k42, h⟩
      · refine rb_true (by first | exact congrArg D.bool k42 | rfl) ?_
        refine rb_skip ?_
        refine eb_seq ?_
        refine rb_seq ?_
        refine rb_block ?_
        refine rb_seq ?_
        refine rb_regionK fun K55 hK55 => ?_
        simp -implicitDefEqProofs only [vt, vm, ↓atI_fold, forall_const, implies_true, false_implies, sevalprocAttr, dd_UC, k9, k42]
        obtain ⟨y56, h57, h⟩ := bind_some h
        simp -implicitDefEqProofs only [vt, vm, ↓atI_fold, forall_const, implies_true, false_implies, sevalprocAttr, dd_UC, k9, k42, h57]
        subst hK55
        refine eb_seq ?_
        refine rb_regionK fun K58 hK58 => ?_
        simp -implicitDefEqProofs only [vt, vm, ↓atI_fold, forall_const, implies_true, false_implies, sevalprocAttr, dd_UC, k9, k42, h57]
        obtain ⟨h59, h⟩ := ite_on h
        have h60 : x14.2.length + 3 ≤ 9223372036854775807 := by omega
        try simp only [Nat.reduceLeDiff] at h60
        simp -implicitDefEqProofs only [vt, vm, ↓atI_fold, forall_const, implies_true, false_implies, sevalprocAttr, dd_UC, k9, k42, h57, h60, h59]
        subst hK58
        refine eb_blk_n ?_
        refine eb_seq ?_
        refine rb_regionK fun K61 hK61 => ?_
        simp -implicitDefEqProofs only [vt, vm, ↓atI_fold, forall_const, implies_true, false_implies, sevalprocAttr, dd_UC, k9, k42, h57, h60, h59]
        subst hK61
        obtain rfl := Option.some.inj h
        exact eb_nil ⟨rfl, Wk.of (fun i => if i = 0 then some 14 else some i) _ _ _ (by simp -implicitDefEqProofs [kv, km, dd_UC, k9, k42]) (by simp -implicitDefEqProofs [kv, km, dd_UC, k9, k42])⟩
      · refine rb_false (by first | exact congrArg D.bool k42 | rfl) ?_
        refine rb_exit ?_
        refine eb_seq_e ?_
        obtain rfl := Option.some.inj h
        exact eb_nil ⟨rfl, Wk.of (fun i => if i = 0 then some 0 else some i) _ _ _ (by simp -implicitDefEqProofs [kv, km, dd_UC, k9, k42]) (by simp -implicitDefEqProofs [kv, km, dd_UC, k9, k42])⟩
    · refine eb_blk_hit ?_
      refine eb_seq ?_
      refine rb_seq ?_
      refine rb_regionK fun K64 hK64 => ?_
      simp -implicitDefEqProofs only [vt, vm, ↓atI_fold, forall_const, implies_true, false_implies, sevalprocAttr, dd_UC, k9]
      subst hK64
      refine eb_seq ?_
      refine rb_seq ?_
      refine rb_seq ?_
      refine rb_regionK fun K66 hK66 => ?_
      simp -implicitDefEqProofs only [vt, vm, ↓atI_fold, forall_const, implies_true, false_implies, sevalprocAttr, dd_UC, k9]
      subst hK66
      refine eb_seq ?_
      refine rb_block ?_
      obtain ⟨e68, h429, h⟩ := bind_some h
      refine rb_loop (fun x67 => ⟨envL [(0, .sl (l_0.map (D.int .i64))), (1, .int .i64 f_1), (2, .int .i64 before_2), (3, .int .i64 after_3), (13, .int .i64 x67.1), (14, .bool x67.2.1), (44, .own 0 e15.length), (45, .int .i64 ((e15.length : Nat) : Int)), (46, .int .i64 x67.2.2)], heapL [(0, .vec 2 1 (e15.map (D.int .i64)) false)], 1, 95⟩) (fun _ => .exit 2) (fun e68 => ⟨envL [(13, .int .i64 e68.1), (14, .bool e68.2)], heapL [], 0, 95⟩) h429 (Wk.of (fun i => if i = 0 then some 0 else some i) _ _ _ (by simp -implicitDefEqProofs [kv, km, dd_UC, k9]) (by simp -implicitDefEqProofs [kv, km, dd_UC, k9])) (by intro w; simp) ?_ ?_
      · clear h
        intro x67 y h
        unfold g_shots_Snap_s2 at h
        refine rb_seq ?_
        refine rb_regionK fun K310 hK310 => ?_
        simp -implicitDefEqProofs only [vt, vm, ↓atI_fold, forall_const, implies_true, false_implies, sevalprocAttr, dd_UC, k9]
        subst hK310
        refine eb_seq ?_
        refine rb_seq ?_
        rcases ite_or h with ⟨k312, h⟩ | ⟨k312, h⟩
        · refine rb_true (by first | exact congrArg D.bool k312 | rfl) ?_
          refine rb_skip ?_
          refine eb_seq ?_
          refine rb_seq ?_
          refine rb_block ?_
          refine rb_seq ?_
          refine rb_regionK fun K375 hK375 => ?_
          simp -implicitDefEqProofs only [vt, vm, ↓atI_fold, forall_const, implies_true, false_implies, sevalprocAttr, dd_UC, k9, k312]
          obtain ⟨y376, h377, h⟩ := bind_some h
          obtain ⟨h378, h379, h380⟩ := atI_own h377
          simp -implicitDefEqProofs only [vt, vm, ↓atI_fold, forall_const, implies_true, false_implies, sevalprocAttr, dd_UC, k9, k312, h378, h379, h380]
          subst hK375
          refine eb_seq ?_
          refine rb_seq ?_
          refine rb_seq ?_
          refine rb_regionK fun K384 hK384 => ?_
          simp -implicitDefEqProofs only [vt, vm, ↓atI_fold, forall_const, implies_true, false_implies, sevalprocAttr, dd_UC, k9, k312, h378, h379, h380]
          obtain ⟨r385, h386, h⟩ := bind_some h
          refine cW.intro (a_shots_frame I hI y376 h386) (by first | rfl | (simp [List.map_append, dd_UC]; done)) ?_
          simp -implicitDefEqProofs only [vt, vm, ↓atI_fold, forall_const, implies_true, false_implies, sevalprocAttr, dd_UC, k9, k312, h378, h379, h380]
          subst hK384
          refine eb_seq ?_
          rcases ite_or h with ⟨k387, h⟩ | ⟨k387, h⟩
          · refine rb_false (by first | exact congrArg D.bool (congrArg Bool.not k387) | rfl) ?_
            refine rb_skip ?_
            refine eb_seq ?_
            refine rb_seq ?_
            refine rb_seq ?_
            refine rb_regionK fun K391 hK391 => ?_
            simp -implicitDefEqProofs only [vt, vm, ↓atI_fold, forall_const, implies_true, false_implies, sevalprocAttr, dd_UC, k9, k312, h378, h379, h380, k387]
            obtain ⟨r392, h393, h⟩ := bind_some h
            refine cW.intro (a_shots_tooClose I hI l_0 y376 before_2 after_3 h393) (by first | rfl | (simp [List.map_append, dd_UC]; done)) ?_
            simp -implicitDefEqProofs only [vt, vm, ↓atI_fold, forall_const, implies_true, false_implies, sevalprocAttr, dd_UC, k9, k312, h378, h379, h380, k387]
            subst hK391
            refine eb_seq ?_
            refine rb_seq ?_
            refine rb_regionK fun K395 hK395 => ?_
            simp -implicitDefEqProofs only [vt, vm, ↓atI_fold, forall_const, implies_true, false_implies, sevalprocAttr, dd_UC, k9, k312, h378, h379, h380, k387]
            subst hK395
            refine eb_seq ?_
            rcases ite_or h with ⟨k396, h⟩ | ⟨k396, h⟩
            · refine rb_true (by first | exact congrArg D.bool k396 | rfl) ?_
              refine rb_exit ?_
              refine eb_seq_e ?_
              refine eb_blk_hit ?_
              refine eb_seq ?_
              refine rb_regionK fun K397 hK397 => ?_
              simp -implicitDefEqProofs only [vt, vm, ↓atI_fold, forall_const, implies_true, false_implies, sevalprocAttr, dd_UC, k9, k312, h378, h379, h380, k387, k396]
              subst hK397
              obtain rfl := Option.some.inj h
              exact eb_nil ⟨rfl, Wk.of (fun i => if i = 0 then some 0 else some i) _ _ _ (by simp -implicitDefEqProofs [kv, km, dd_UC, k9, k312, k387, k396]) (by simp -implicitDefEqProofs [kv, km, dd_UC, k9, k312, k387, k396])⟩
            · refine rb_false (by first | exact congrArg D.bool k396 | rfl) ?_
              refine rb_skip ?_
              refine eb_seq ?_
              obtain ⟨v410, h423, h⟩ := bind_some h
              refine rb_cut (fun v410 => ⟨envL [(0, .sl (l_0.map (D.int .i64))), (1, .int .i64 f_1), (2, .int .i64 before_2), (3, .int .i64 after_3), (13, .int .i64 x67.1), (14, .bool x67.2.1), (16, .int .i64 y376), (44, .own 0 e15.length), (45, .int .i64 ((e15.length : Nat) : Int)), (46, .int .i64 x67.2.2), (90, .bool v410)], heapL [(0, .vec 2 1 (e15.map (D.int .i64)) false)], 1, 95⟩) h423 ?_ ?_
              · clear h
                intro v410 h
                refine rb_regionK fun K411 hK411 => ?_
                simp -implicitDefEqProofs only [vt, vm, ↓atI_fold, forall_const, implies_true, false_implies, sevalprocAttr, dd_UC, k9, k312, h378, h379, h380, k387, k396]
                rcases ite_or h with ⟨k412, h⟩ | ⟨k412, h⟩
                · simp -implicitDefEqProofs only [vt, vm, ↓atI_fold, forall_const, implies_true, false_implies, sevalprocAttr, dd_UC, k9, k312, h378, h379, h380, k387, k396, k412]
                  obtain ⟨r413, h414, h⟩ := bind_some h
                  refine cW.intro (a_shots_size I hI (IntKind.i64.wrap (y376 - f_1)) h414) (by first | rfl | (simp [List.map_append, dd_UC]; done)) ?_
                  simp -implicitDefEqProofs only [vt, vm, ↓atI_fold, forall_const, implies_true, false_implies, sevalprocAttr, dd_UC, k9, k312, h378, h379, h380, k387, k396, k412]
                  obtain ⟨r415, h416, h⟩ := bind_some h
                  refine cW.intro (a_shots_size I hI (IntKind.i64.wrap (x67.1 - f_1)) h416) (by first | rfl | (simp [List.map_append, dd_UC]; done)) ?_
                  simp -implicitDefEqProofs only [vt, vm, ↓atI_fold, forall_const, implies_true, false_implies, sevalprocAttr, dd_UC, k9, k312, h378, h379, h380, k387, k396, k412]
                  rcases ite_or h with ⟨k417, h⟩ | ⟨k417, h⟩
                  · simp -implicitDefEqProofs only [vt, vm, ↓atI_fold, forall_const, implies_true, false_implies, sevalprocAttr, dd_UC, k9, k312, h378, h379, h380, k387, k396, k412, k417]
                    subst hK411
                    obtain rfl := Option.some.inj h
                    exact eb_nil ⟨rfl, Wk.of (fun i => if i = 0 then some 0 else some i) _ _ _ (by simp -implicitDefEqProofs [kv, km, dd_UC, k9, k312, k387, k396, k412, k417]) (by simp -implicitDefEqProofs [kv, km, dd_UC, k9, k312, k387, k396, k412, k417])⟩
                  · simp -implicitDefEqProofs only [vt, vm, ↓atI_fold, forall_const, implies_true, false_implies, sevalprocAttr, dd_UC, k9, k312, h378, h379, h380, k387, k396, k412, k417]
                    obtain ⟨r418, h419, h⟩ := bind_some h
                    refine cW.intro (a_shots_size I hI (IntKind.i64.wrap (y376 - f_1)) h419) (by first | rfl | (simp [List.map_append, dd_UC]; done)) ?_
                    simp -implicitDefEqProofs only [vt, vm, ↓atI_fold, forall_const, implies_true, false_implies, sevalprocAttr, dd_UC, k9, k312, h378, h379, h380, k387, k396, k412, k417]
                    obtain ⟨r420, h421, h⟩ := bind_some h
                    refine cW.intro (a_shots_size I hI (IntKind.i64.wrap (x67.1 - f_1)) h421) (by first | rfl | (simp [List.map_append, dd_UC]; done)) ?_
                    simp -implicitDefEqProofs only [vt, vm, ↓atI_fold, forall_const, implies_true, false_implies, sevalprocAttr, dd_UC, k9, k312, h378, h379, h380, k387, k396, k412, k417]
                    rcases ite_or h with ⟨k422, h⟩ | ⟨k422, h⟩
                    · simp -implicitDefEqProofs only [vt, vm, ↓atI_fold, forall_const, implies_true, false_implies, sevalprocAttr, dd_UC, k9, k312, h378, h379, h380, k387, k396, k412, k417, k422]
                      subst hK411
                      obtain rfl := Option.some.inj h
                      exact eb_nil ⟨rfl, Wk.of (fun i => if i = 0 then some 0 else some i) _ _ _ (by simp -implicitDefEqProofs [kv, km, dd_UC, k9, k312, k387, k396, k412, k417, k422]) (by simp -implicitDefEqProofs [kv, km, dd_UC, k9, k312, k387, k396, k412, k417, k422])⟩
                    · simp -implicitDefEqProofs only [vt, vm, ↓atI_fold, forall_const, implies_true, false_implies, sevalprocAttr, dd_UC, k9, k312, h378, h379, h380, k387, k396, k412, k417, k422]
                      subst hK411
                      obtain rfl := Option.some.inj h
                      exact eb_nil ⟨rfl, Wk.of (fun i => if i = 0 then some 0 else some i) _ _ _ (by simp -implicitDefEqProofs [kv, km, dd_UC, k9, k312, k387, k396, k412, k417, k422]) (by simp -implicitDefEqProofs [kv, km, dd_UC, k9, k312, k387, k396, k412, k417, k422])⟩
                · simp -implicitDefEqProofs only [vt, vm, ↓atI_fold, forall_const, implies_true, false_implies, sevalprocAttr, dd_UC, k9, k312, h378, h379, h380, k387, k396, k412]
                  subst hK411
                  obtain rfl := Option.some.inj h
                  exact eb_nil ⟨rfl, Wk.of (fun i => if i = 0 then some 0 else some i) _ _ _ (by simp -implicitDefEqProofs [kv, km, dd_UC, k9, k312, k387, k396, k412]) (by simp -implicitDefEqProofs [kv, km, dd_UC, k9, k312, k387, k396, k412])⟩
              · rcases ite_or h with ⟨k424, h⟩ | ⟨k424, h⟩
                · refine rb_true (by first | exact congrArg D.bool k424 | rfl) ?_
                  refine rb_regionK fun K425 hK425 => ?_
                  simp -implicitDefEqProofs only [vt, vm, ↓atI_fold, forall_const, implies_true, false_implies, sevalprocAttr, dd_UC, k9, k312, h378, h379, h380, k387, k396, k424]
                  subst hK425
                  refine eb_blk_n ?_
                  refine eb_seq ?_
                  refine rb_regionK fun K426 hK426 => ?_
                  simp -implicitDefEqProofs only [vt, vm, ↓atI_fold, forall_const, implies_true, false_implies, sevalprocAttr, dd_UC, k9, k312, h378, h379, h380, k387, k396, k424]
                  subst hK426
                  obtain rfl := Option.some.inj h
                  exact eb_nil ⟨rfl, Wk.of (fun i => if i = 0 then some 0 else some i) _ _ _ (by simp -implicitDefEqProofs [kv, km, dd_UC, k9, k312, k387, k396, k424]) (by simp -implicitDefEqProofs [kv, km, dd_UC, k9, k312, k387, k396, k424])⟩
                · refine rb_false (by first | exact congrArg D.bool k424 | rfl) ?_
                  refine rb_skip ?_
                  refine eb_blk_n ?_
                  refine eb_seq ?_
                  refine rb_regionK fun K427 hK427 => ?_
                  simp -implicitDefEqProofs only [vt, vm, ↓atI_fold, forall_const, implies_true, false_implies, sevalprocAttr, dd_UC, k9, k312, h378, h379, h380, k387, k396, k424]
                  subst hK427
                  obtain rfl := Option.some.inj h
                  exact eb_nil ⟨rfl, Wk.of (fun i => if i = 0 then some 0 else some i) _ _ _ (by simp -implicitDefEqProofs [kv, km, dd_UC, k9, k312, k387, k396, k424]) (by simp -implicitDefEqProofs [kv, km, dd_UC, k9, k312, k387, k396, k424])⟩
          · refine rb_true (by first | exact congrArg D.bool (congrArg Bool.not k387) | rfl) ?_
            refine rb_exit ?_
            refine eb_seq_e ?_
            refine eb_blk_hit ?_
            refine eb_seq ?_
            refine rb_regionK fun K428 hK428 => ?_
            simp -implicitDefEqProofs only [vt, vm, ↓atI_fold, forall_const, implies_true, false_implies, sevalprocAttr, dd_UC, k9, k312, h378, h379, h380, k387]
            subst hK428
            obtain rfl := Option.some.inj h
            exact eb_nil ⟨rfl, Wk.of (fun i => if i = 0 then some 0 else some i) _ _ _ (by simp -implicitDefEqProofs [kv, km, dd_UC, k9, k312, k387]) (by simp -implicitDefEqProofs [kv, km, dd_UC, k9, k312, k387])⟩
        · refine rb_false (by first | exact congrArg D.bool k312 | rfl) ?_
          refine rb_exit ?_
          refine eb_seq_e ?_
          obtain rfl := Option.some.inj h
          exact eb_nil ⟨rfl, Wk.of (fun i => some i) _ _ _ (by simp -implicitDefEqProofs [kv, km, dd_UC, k9, k312]) (by simp -implicitDefEqProofs [kv, km, dd_UC, k9, k312])⟩
      · refine eb_blk_hit ?_
        refine eb_seq ?_
        refine rb_seq ?_
        refine rb_regionK fun K431 hK431 => ?_
        simp -implicitDefEqProofs only [vt, vm, ↓atI_fold, forall_const, implies_true, false_implies, sevalprocAttr, dd_UC, k9]
        subst hK431
        refine eb_seq ?_
        refine rb_ret ?_
        obtain rfl := Option.some.inj h
        refine eb_nil ?_
        simp -implicitDefEqProofs only [vt, vm, ↓atI_fold, forall_const, implies_true, false_implies, sevalprocAttr, retQ_r, Tryd.results105, dd_UC, k9] <;> first | rfl | (simp [List.map_append, dd_UC]; done)
  · refine rb_true (by first | exact congrArg D.bool (congrArg Bool.not k9) | rfl) ?_
    refine rb_seq ?_
    refine rb_regionK fun K433 hK433 => ?_
    simp -implicitDefEqProofs only [vt, vm, ↓atI_fold, forall_const, implies_true, false_implies, sevalprocAttr, dd_UC, k9]
    subst hK433
    refine eb_seq ?_
    refine rb_ret ?_
    refine eb_seq_r ?_
    obtain rfl := Option.some.inj h
    refine eb_nil ?_
    simp -implicitDefEqProofs only [vt, vm, ↓atI_fold, forall_const, implies_true, false_implies, sevalprocAttr, retQ_r, Tryd.results105, dd_UC, k9] <;> first | rfl | (simp [List.map_append, dd_UC]; done)
-- rules.Shot
def g_rules_Shot_s1 (e_0 : T_api_Event) (l_1 : List Int) (p_2 : T_api_Profile) (x14 : (List T_api_Finding) × Int) : Option (Nx ((List T_api_Finding) × Int) ((List T_api_Finding))) :=
  (if (decide (x14.2 < 2)) then (((if x14.2 == 0 then (some (e_0.Span.In, 0)) else (if x14.2 == 1 then (some (e_0.Span.Out, 1)) else none)) : Option (Int × Int)).bind fun v278 => ((g_shots_Close l_1 v278.1 p_2.ShotBefore p_2.ShotAfter).bind fun r287 => (if r287.2 then ((g_shots_Snap l_1 v278.1 p_2.ShotBefore p_2.ShotAfter).bind fun r298 => (if r298.2 then (if (x14.1.length + 1) * 32 ≤ 140737488355328 then (some (.go ((x14.1 ++ [(T_api_Finding.mk 6 e_0.ID r287.1 (if (IntKind.i64.wrap (v278.1 - r298.1)) > (IntKind.i64.wrap (r298.1 - v278.1)) then (IntKind.i64.wrap (v278.1 - r298.1)) else (IntKind.i64.wrap (r298.1 - v278.1))))]), (IntKind.i64.wrap (v278.2 + 1))))) else none) else (if (x14.1.length + 1) * 32 ≤ 140737488355328 then (some (.go ((x14.1 ++ [(T_api_Finding.mk 6 e_0.ID r287.1 1)]), (IntKind.i64.wrap (v278.2 + 1))))) else none))) else (some (.go (x14.1, (IntKind.i64.wrap (v278.2 + 1)))))))) else (some (.out x14.1)))
def g_rules_Shot (e_0 : T_api_Event) (l_1 : List Int) (p_2 : T_api_Profile) : Option ((List T_api_Finding)) :=
  ((g_rules_usable e_0.Span).bind fun r7 => (if r7 then ((iter (g_rules_Shot_s1 e_0 l_1 p_2) ([], 0)).bind fun e15 => (some e15)) else (some [])))
theorem a_rules_Shot (I : World → Prop) (hI : Stab I) (e_0 : T_api_Event) (l_1 : List Int) (p_2 : T_api_Profile) {r : (List T_api_Finding)} (h : g_rules_Shot e_0 l_1 p_2 = some r) : AFun Tryd.prog I 67 [T_api_Event.d e_0, .sl (l_1.map (D.int .i64)), T_api_Profile.d p_2] (.sl (r.map T_api_Finding.d)) := by
  refine AFun.enterB hI Tryd.func67 rfl (by decide) (by simp [Tryd.f67]) (by kernel_rfl) ?_
  unfold g_rules_Shot at h
  simp only [S0, Tryd.ntmps67, dd_UC]
  refine rb_seq ?_
  refine rb_regionK fun K2 hK2 => ?_
  simp -implicitDefEqProofs only [vt, vm, ↓atI_fold, forall_const, implies_true, false_implies, sevalprocAttr, dd_UC]
  subst hK2
  refine eb_seq ?_
  refine rb_seq ?_
  refine rb_seq ?_
  refine rb_regionK fun K6 hK6 => ?_
  simp -implicitDefEqProofs only [vt, vm, ↓atI_fold, forall_const, implies_true, false_implies, sevalprocAttr, dd_UC]
  obtain ⟨r7, h8, h⟩ := bind_some h
  refine cW.intro (a_rules_usable I hI e_0.Span h8) (by first | rfl | (simp [List.map_append, dd_UC]; done)) ?_
  simp -implicitDefEqProofs only [vt, vm, ↓atI_fold, forall_const, implies_true, false_implies, sevalprocAttr, dd_UC]
  subst hK6
  refine eb_seq ?_
  rcases ite_or h with ⟨k9, h⟩ | ⟨k9, h⟩
  · refine rb_false (by first | exact congrArg D.bool (congrArg Bool.not k9) | rfl) ?_
    refine rb_skip ?_
    refine eb_seq ?_
    refine rb_seq ?_
    refine rb_regionK fun K11 hK11 => ?_
    simp -implicitDefEqProofs only [vt, vm, ↓atI_fold, forall_const, implies_true, false_implies, sevalprocAttr, dd_UC, k9]
    subst hK11
    refine eb_seq ?_
    refine rb_seq ?_
    refine rb_seq ?_
    refine rb_regionK fun K13 hK13 => ?_
    simp -implicitDefEqProofs only [vt, vm, ↓atI_fold, forall_const, implies_true, false_implies, sevalprocAttr, dd_UC, k9]
    subst hK13
    refine eb_seq ?_
    refine rb_block ?_
    obtain ⟨e15, h313, h⟩ := bind_some h
    refine rb_loop (fun x14 => ⟨envL [(1, .sl (l_1.map (D.int .i64))), (3, .ptr 0 0), (5, .ptr 1 0), (7, .own 2 x14.1.length), (25, .agg [.int .i64 e_0.Span.In, .int .i64 e_0.Span.Out]), (26, .int .i64 x14.2)], heapL [(0, .box none [.int .i64 e_0.ID, .int .i64 e_0.Span.In, .int .i64 e_0.Span.Out, .str e_0.Region, .int .u8 e_0.Kind, .str e_0.Speaker, .sl (e_0.Rows.map T_api_Row.d)]), (1, .box none [.str p_2.Name, .int .i64 p_2.Reading, .int .i64 p_2.MinFrames, .int .i64 p_2.MaxFrames, .int .i64 p_2.MinGap, .int .i64 p_2.ShotBefore, .int .i64 p_2.ShotAfter, .int .i64 p_2.Rows, .int .i64 p_2.Cols, .str p_2.Forbidden, .int .i64 p_2.SafeTop, .int .i64 p_2.SafeBottom, .int .i64 p_2.SafeLeft, .int .i64 p_2.SafeRight]), (2, .vec 48 4 (x14.1.map T_api_Finding.d) false)], 3, 69⟩) (fun _ => .exit 0) (fun e15 => ⟨envL [(7, .own 0 e15.length)], heapL [(0, .vec 48 4 (e15.map T_api_Finding.d) false)], 1, 69⟩) h313 (Wk.of (fun i => if i = 2 then none else if i = 1 then some 1 else if i = 0 then some 0 else some i) _ _ _ (by simp -implicitDefEqProofs [kv, km, dd_UC, k9]) (by simp -implicitDefEqProofs [kv, km, dd_UC, k9])) (by intro w; simp) ?_ ?_
    · clear h
      intro x14 y h
      unfold g_rules_Shot_s1 at h
      refine rb_seq ?_
      refine rb_regionK fun K237 hK237 => ?_
      simp -implicitDefEqProofs only [vt, vm, ↓atI_fold, forall_const, implies_true, false_implies, sevalprocAttr, dd_UC, k9]
      subst hK237
      refine eb_seq ?_
      refine rb_seq ?_
      rcases ite_or h with ⟨k239, h⟩ | ⟨k239, h⟩
      · refine rb_true (by first | exact congrArg D.bool k239 | rfl) ?_
        refine rb_skip ?_
        refine eb_seq ?_
        refine rb_seq ?_
        refine rb_block ?_
        obtain ⟨v278, h282, h⟩ := bind_some h
        refine rb_cut (fun v278 => ⟨envL [(1, .sl (l_1.map (D.int .i64))), (3, .ptr 0 0), (5, .ptr 1 0), (7, .own 2 x14.1.length), (9, .int .i64 v278.1), (25, .agg [.int .i64 e_0.Span.In, .int .i64 e_0.Span.Out]), (26, .int .i64 v278.2)], heapL [(0, .box none [.int .i64 e_0.ID, .int .i64 e_0.Span.In, .int .i64 e_0.Span.Out, .str e_0.Region, .int .u8 e_0.Kind, .str e_0.Speaker, .sl (e_0.Rows.map T_api_Row.d)]), (1, .box none [.str p_2.Name, .int .i64 p_2.Reading, .int .i64 p_2.MinFrames, .int .i64 p_2.MaxFrames, .int .i64 p_2.MinGap, .int .i64 p_2.ShotBefore, .int .i64 p_2.ShotAfter, .int .i64 p_2.Rows, .int .i64 p_2.Cols, .str p_2.Forbidden, .int .i64 p_2.SafeTop, .int .i64 p_2.SafeBottom, .int .i64 p_2.SafeLeft, .int .i64 p_2.SafeRight]), (2, .vec 48 4 (x14.1.map T_api_Finding.d) false)], 3, 69⟩) h282 ?_ ?_
        · clear h
          intro v278 h
          refine rb_regionK fun K279 hK279 => ?_
          simp -implicitDefEqProofs only [vt, vm, ↓atI_fold, forall_const, implies_true, false_implies, sevalprocAttr, dd_UC, k9, k239]
          rcases ite_or h with ⟨k280, h⟩ | ⟨_, h⟩
          · simp only [beq_iff_eq] at k280
            simp -implicitDefEqProofs only [vt, vm, ↓atI_fold, forall_const, implies_true, false_implies, sevalprocAttr, dd_UC, k9, k239, k280]
            subst hK279
            obtain rfl := Option.some.inj h
            exact eb_nil ⟨rfl, Wk.of (fun i => if i = 2 then some 2 else if i = 1 then some 1 else if i = 0 then some 0 else some i) _ _ _ (by simp -implicitDefEqProofs [kv, km, dd_UC, k9, k239, k280]) (by simp -implicitDefEqProofs [kv, km, dd_UC, k9, k239, k280])⟩
          · rcases ite_or h with ⟨k281, h⟩ | ⟨_, h⟩
            · simp only [beq_iff_eq] at k281
              simp -implicitDefEqProofs only [vt, vm, ↓atI_fold, forall_const, implies_true, false_implies, sevalprocAttr, dd_UC, k9, k239, k281]
              subst hK279
              obtain rfl := Option.some.inj h
              exact eb_nil ⟨rfl, Wk.of (fun i => if i = 2 then some 2 else if i = 1 then some 1 else if i = 0 then some 0 else some i) _ _ _ (by simp -implicitDefEqProofs [kv, km, dd_UC, k9, k239, k281]) (by simp -implicitDefEqProofs [kv, km, dd_UC, k9, k239, k281])⟩
            · cases h
        · refine rb_seq ?_
          refine rb_regionK fun K286 hK286 => ?_
          simp -implicitDefEqProofs only [vt, vm, ↓atI_fold, forall_const, implies_true, false_implies, sevalprocAttr, dd_UC, k9, k239]
          obtain ⟨r287, h288, h⟩ := bind_some h
          refine cW.intro (a_shots_Close I hI l_1 v278.1 p_2.ShotBefore p_2.ShotAfter h288) (by first | rfl | (simp [List.map_append, dd_UC]; done)) ?_
          simp -implicitDefEqProofs only [vt, vm, ↓atI_fold, forall_const, implies_true, false_implies, sevalprocAttr, dd_UC, k9, k239]
          subst hK286
          refine eb_seq ?_
          refine rb_seq ?_
          refine rb_seq ?_
          refine rb_regionK fun K290 hK290 => ?_
          simp -implicitDefEqProofs only [vt, vm, ↓atI_fold, forall_const, implies_true, false_implies, sevalprocAttr, dd_UC, k9, k239]
          subst hK290
          refine eb_seq ?_
          rcases ite_or h with ⟨k291, h⟩ | ⟨k291, h⟩
          · refine rb_false (by first | exact congrArg D.bool (congrArg Bool.not k291) | rfl) ?_
            refine rb_skip ?_
            refine eb_seq ?_
            refine rb_seq ?_
            refine rb_regionK fun K293 hK293 => ?_
            simp -implicitDefEqProofs only [vt, vm, ↓atI_fold, forall_const, implies_true, false_implies, sevalprocAttr, dd_UC, k9, k239, k291]
            subst hK293
            refine eb_seq ?_
            refine rb_seq ?_
            refine rb_seq ?_
            refine rb_regionK fun K297 hK297 => ?_
            simp -implicitDefEqProofs only [vt, vm, ↓atI_fold, forall_const, implies_true, false_implies, sevalprocAttr, dd_UC, k9, k239, k291]
            obtain ⟨r298, h299, h⟩ := bind_some h
            refine cW.intro (a_shots_Snap I hI l_1 v278.1 p_2.ShotBefore p_2.ShotAfter h299) (by first | rfl | (simp [List.map_append, dd_UC]; done)) ?_
            simp -implicitDefEqProofs only [vt, vm, ↓atI_fold, forall_const, implies_true, false_implies, sevalprocAttr, dd_UC, k9, k239, k291]
            subst hK297
            refine eb_seq ?_
            refine rb_seq ?_
            refine rb_regionK fun K301 hK301 => ?_
            simp -implicitDefEqProofs only [vt, vm, ↓atI_fold, forall_const, implies_true, false_implies, sevalprocAttr, dd_UC, k9, k239, k291]
            subst hK301
            refine eb_seq ?_
            rcases ite_or h with ⟨k302, h⟩ | ⟨k302, h⟩
            · refine rb_true (by first | exact congrArg D.bool k302 | rfl) ?_
              refine rb_regionK fun K303 hK303 => ?_
              simp -implicitDefEqProofs only [vt, vm, ↓atI_fold, forall_const, implies_true, false_implies, sevalprocAttr, dd_UC, k9, k239, k291, k302]
              subst hK303
              refine eb_seq ?_
              refine rb_regionK fun K304 hK304 => ?_
              simp -implicitDefEqProofs only [vt, vm, ↓atI_fold, forall_const, implies_true, false_implies, sevalprocAttr, dd_UC, k9, k239, k291, k302]
              obtain ⟨h305, h⟩ := ite_on h
              have h306 : x14.1.length + 1 ≤ 9223372036854775807 := by omega
              try simp only [Nat.reduceLeDiff] at h306
              simp -implicitDefEqProofs only [vt, vm, ↓atI_fold, forall_const, implies_true, false_implies, sevalprocAttr, dd_UC, k9, k239, k291, k302, h306, h305]
              subst hK304
              refine eb_blk_n ?_
              refine eb_seq ?_
              refine rb_regionK fun K307 hK307 => ?_
              simp -implicitDefEqProofs only [vt, vm, ↓atI_fold, forall_const, implies_true, false_implies, sevalprocAttr, dd_UC, k9, k239, k291, k302, h306, h305]
              subst hK307
              obtain rfl := Option.some.inj h
              exact eb_nil ⟨rfl, Wk.of (fun i => if i = 2 then some 46 else if i = 1 then some 1 else if i = 0 then some 0 else some i) _ _ _ (by simp -implicitDefEqProofs [kv, km, dd_UC, k9, k239, k291, k302]) (by simp -implicitDefEqProofs [kv, km, dd_UC, k9, k239, k291, k302])⟩
            · refine rb_false (by first | exact congrArg D.bool k302 | rfl) ?_
              refine rb_skip ?_
              refine eb_seq ?_
              refine rb_regionK fun K308 hK308 => ?_
              simp -implicitDefEqProofs only [vt, vm, ↓atI_fold, forall_const, implies_true, false_implies, sevalprocAttr, dd_UC, k9, k239, k291, k302]
              obtain ⟨h309, h⟩ := ite_on h
              have h310 : x14.1.length + 1 ≤ 9223372036854775807 := by omega
              try simp only [Nat.reduceLeDiff] at h310
              simp -implicitDefEqProofs only [vt, vm, ↓atI_fold, forall_const, implies_true, false_implies, sevalprocAttr, dd_UC, k9, k239, k291, k302, h310, h309]
              subst hK308
              refine eb_blk_n ?_
              refine eb_seq ?_
              refine rb_regionK fun K311 hK311 => ?_
              simp -implicitDefEqProofs only [vt, vm, ↓atI_fold, forall_const, implies_true, false_implies, sevalprocAttr, dd_UC, k9, k239, k291, k302, h310, h309]
              subst hK311
              obtain rfl := Option.some.inj h
              exact eb_nil ⟨rfl, Wk.of (fun i => if i = 2 then some 38 else if i = 1 then some 1 else if i = 0 then some 0 else some i) _ _ _ (by simp -implicitDefEqProofs [kv, km, dd_UC, k9, k239, k291, k302]) (by simp -implicitDefEqProofs [kv, km, dd_UC, k9, k239, k291, k302])⟩
          · refine rb_true (by first | exact congrArg D.bool (congrArg Bool.not k291) | rfl) ?_
            refine rb_exit ?_
            refine eb_seq_e ?_
            refine eb_blk_hit ?_
            refine eb_seq ?_
            refine rb_regionK fun K312 hK312 => ?_
            simp -implicitDefEqProofs only [vt, vm, ↓atI_fold, forall_const, implies_true, false_implies, sevalprocAttr, dd_UC, k9, k239, k291]
            subst hK312
            obtain rfl := Option.some.inj h
            exact eb_nil ⟨rfl, Wk.of (fun i => if i = 2 then some 2 else if i = 1 then some 1 else if i = 0 then some 0 else some i) _ _ _ (by simp -implicitDefEqProofs [kv, km, dd_UC, k9, k239, k291]) (by simp -implicitDefEqProofs [kv, km, dd_UC, k9, k239, k291])⟩
      · refine rb_false (by first | exact congrArg D.bool k239 | rfl) ?_
        refine rb_exit ?_
        refine eb_seq_e ?_
        obtain rfl := Option.some.inj h
        exact eb_nil ⟨rfl, Wk.of (fun i => if i = 0 then some 2 else some i) _ _ _ (by simp -implicitDefEqProofs [kv, km, dd_UC, k9, k239]) (by simp -implicitDefEqProofs [kv, km, dd_UC, k9, k239])⟩
    · refine eb_blk_hit ?_
      refine eb_seq ?_
      refine rb_seq ?_
      refine rb_regionK fun K315 hK315 => ?_
      simp -implicitDefEqProofs only [vt, vm, ↓atI_fold, forall_const, implies_true, false_implies, sevalprocAttr, dd_UC, k9]
      subst hK315
      refine eb_seq ?_
      refine rb_ret ?_
      obtain rfl := Option.some.inj h
      refine eb_nil ?_
      simp -implicitDefEqProofs only [vt, vm, ↓atI_fold, forall_const, implies_true, false_implies, sevalprocAttr, retQ_r, Tryd.results67, dd_UC, k9] <;> first | rfl | (simp [List.map_append, dd_UC]; done)
  · refine rb_true (by first | exact congrArg D.bool (congrArg Bool.not k9) | rfl) ?_
    refine rb_seq ?_
    refine rb_regionK fun K317 hK317 => ?_
    simp -implicitDefEqProofs only [vt, vm, ↓atI_fold, forall_const, implies_true, false_implies, sevalprocAttr, dd_UC, k9]
    subst hK317
    refine eb_seq ?_
    refine rb_ret ?_
    refine eb_seq_r ?_
    obtain rfl := Option.some.inj h
    refine eb_nil ?_
    simp -implicitDefEqProofs only [vt, vm, ↓atI_fold, forall_const, implies_true, false_implies, sevalprocAttr, retQ_r, Tryd.results67, dd_UC, k9] <;> first | rfl | (simp [List.map_append, dd_UC]; done)
-- rules.names
def g_rules_names  : Option ((List (List UInt8))) :=
  (some [[82, 69, 65, 68, 73, 78, 71], [83, 72, 79, 82, 84], [76, 79, 78, 71], [71, 65, 80], [79, 86, 69, 82, 76, 65, 80], [83, 72, 79, 84], [82, 79, 87, 83], [67, 79, 76, 83], [67, 72, 65, 82, 83], [83, 65, 70, 69], [84, 79, 76, 69, 82, 65, 78, 67, 69], [84, 69, 82, 77]])
theorem a_rules_names (I : World → Prop) (hI : Stab I)  {r : (List (List UInt8))} (h : g_rules_names  = some r) : AFun Tryd.prog I 106 [] (.sl (r.map D.str)) := by
  refine AFun.enterB hI Tryd.func106 rfl (by decide) (by simp [Tryd.f106]) (by kernel_rfl) ?_
  unfold g_rules_names at h
  simp only [S0, Tryd.ntmps106, dd_UC]
  refine rb_seq ?_
  refine rb_regionK fun K2 hK2 => ?_
  simp -implicitDefEqProofs only [vt, vm, ↓atI_fold, forall_const, implies_true, false_implies, sevalprocAttr, dd_UC]
  subst hK2
  refine eb_seq ?_
  refine rb_seq ?_
  refine rb_regionK fun K4 hK4 => ?_
  simp -implicitDefEqProofs only [vt, vm, ↓atI_fold, forall_const, implies_true, false_implies, sevalprocAttr, dd_UC]
  subst hK4
  refine eb_seq ?_
  refine rb_ret ?_
  obtain rfl := Option.some.inj h
  refine eb_nil ?_
  simp -implicitDefEqProofs only [vt, vm, ↓atI_fold, forall_const, implies_true, false_implies, sevalprocAttr, retQ_r, Tryd.results106, dd_UC] <;> first | rfl | (simp [List.map_append, dd_UC]; done)
-- rules.Name
def g_rules_Name (r_0 : Int) : Option ((List UInt8)) :=
  (((if (decide (r_0 < 1)) then (some true) else (some (decide (12 < r_0)))) : Option (Bool)).bind fun v5 => (if v5 then (some []) else ((g_rules_names).bind fun r18 => ((atI r18 (IntKind.u8.wrap (r_0 - 1))).bind fun y20 => (some y20)))))
theorem a_rules_Name (I : World → Prop) (hI : Stab I) (r_0 : Int) {r : (List UInt8)} (h : g_rules_Name r_0 = some r) : AFun Tryd.prog I 68 [.int .u8 r_0] (.str r) := by
  refine AFun.enterB hI Tryd.func68 rfl (by decide) (by simp [Tryd.f68]) (by kernel_rfl) ?_
  unfold g_rules_Name at h
  simp only [S0, Tryd.ntmps68, dd_UC]
  refine rb_seq ?_
  refine rb_regionK fun K2 hK2 => ?_
  simp -implicitDefEqProofs only [vt, vm, ↓atI_fold, forall_const, implies_true, false_implies, sevalprocAttr, dd_UC]
  subst hK2
  refine eb_seq ?_
  refine rb_seq ?_
  obtain ⟨v5, h8, h⟩ := bind_some h
  refine rb_cut (fun v5 => ⟨envL [(0, .int .u8 r_0), (8, .bool v5)], heapL [], 0, 14⟩) h8 ?_ ?_
  · clear h
    intro v5 h
    refine rb_regionK fun K6 hK6 => ?_
    simp -implicitDefEqProofs only [vt, vm, ↓atI_fold, forall_const, implies_true, false_implies, sevalprocAttr, dd_UC]
    rcases ite_or h with ⟨k7, h⟩ | ⟨k7, h⟩
    · simp -implicitDefEqProofs only [vt, vm, ↓atI_fold, forall_const, implies_true, false_implies, sevalprocAttr, dd_UC, k7]
      subst hK6
      obtain rfl := Option.some.inj h
      exact eb_nil ⟨rfl, Wk.of (fun i => some i) _ _ _ (by simp -implicitDefEqProofs [kv, km, dd_UC, k7]) (by simp -implicitDefEqProofs [kv, km, dd_UC, k7])⟩
    · simp -implicitDefEqProofs only [vt, vm, ↓atI_fold, forall_const, implies_true, false_implies, sevalprocAttr, dd_UC, k7]
      subst hK6
      obtain rfl := Option.some.inj h
      exact eb_nil ⟨rfl, Wk.of (fun i => some i) _ _ _ (by simp -implicitDefEqProofs [kv, km, dd_UC, k7]) (by simp -implicitDefEqProofs [kv, km, dd_UC, k7])⟩
  · rcases ite_or h with ⟨k9, h⟩ | ⟨k9, h⟩
    · refine rb_true (by first | exact congrArg D.bool k9 | rfl) ?_
      refine rb_seq ?_
      refine rb_regionK fun K11 hK11 => ?_
      simp -implicitDefEqProofs only [vt, vm, ↓atI_fold, forall_const, implies_true, false_implies, sevalprocAttr, dd_UC, k9]
      subst hK11
      refine eb_seq ?_
      refine rb_ret ?_
      refine eb_seq_r ?_
      obtain rfl := Option.some.inj h
      refine eb_nil ?_
      simp -implicitDefEqProofs only [vt, vm, ↓atI_fold, forall_const, implies_true, false_implies, sevalprocAttr, retQ_r, Tryd.results68, dd_UC, k9] <;> first | rfl | (simp [List.map_append, dd_UC]; done)
    · refine rb_false (by first | exact congrArg D.bool k9 | rfl) ?_
      refine rb_skip ?_
      refine eb_seq ?_
      refine rb_seq ?_
      refine rb_regionK fun K17 hK17 => ?_
      simp -implicitDefEqProofs only [vt, vm, ↓atI_fold, forall_const, implies_true, false_implies, sevalprocAttr, dd_UC, k9]
      obtain ⟨r18, h19, h⟩ := bind_some h
      refine cW.intro (a_rules_names I hI h19) (by first | rfl | (simp [List.map_append, dd_UC]; done)) ?_
      simp -implicitDefEqProofs only [vt, vm, ↓atI_fold, forall_const, implies_true, false_implies, sevalprocAttr, dd_UC, k9]
      obtain ⟨y20, h21, h⟩ := bind_some h
      simp -implicitDefEqProofs only [vt, vm, ↓atI_fold, forall_const, implies_true, false_implies, sevalprocAttr, dd_UC, k9, h21]
      subst hK17
      refine eb_seq ?_
      refine rb_ret ?_
      obtain rfl := Option.some.inj h
      refine eb_nil ?_
      simp -implicitDefEqProofs only [vt, vm, ↓atI_fold, forall_const, implies_true, false_implies, sevalprocAttr, retQ_r, Tryd.results68, dd_UC, k9, h21] <;> first | rfl | (simp [List.map_append, dd_UC]; done)
-- rules.Text
def g_rules_Text_s1 (l_0 : List T_api_Finding) (x7 : Int × (List Int)) : Option (Nx (Int × (List Int)) (Unit ⊕ ((List Int)))) :=
  (if (decide (x7.1 < (l_0.length : Int))) then ((atI l_0 x7.1).bind fun y222 => ((g_rules_Name y222.Rule).bind fun r228 => (if (r228 == ([] : List UInt8)) then (some (.out (.inl ()))) else (if r228.length + 1 ≤ 9223372036854775807 then ((g_lines_Decimal y222.ID).bind fun r238 => (if (r228.length + 1) + r238.length ≤ 9223372036854775807 then (if ((r228.length + 1) + r238.length) + 1 ≤ 9223372036854775807 then ((g_lines_Decimal y222.Other).bind fun r244 => (if (((r228.length + 1) + r238.length) + 1) + r244.length ≤ 9223372036854775807 then (if ((((r228.length + 1) + r238.length) + 1) + r244.length) + 1 ≤ 9223372036854775807 then ((g_lines_Decimal y222.Amount).bind fun r250 => (if (((((r228.length + 1) + r238.length) + 1) + r244.length) + 1) + r250.length ≤ 9223372036854775807 then (if ((((((r228.length + 1) + r238.length) + 1) + r244.length) + 1) + r250.length) + 1 ≤ 9223372036854775807 then (if x7.2.length + (((((((r228 ++ [32]) ++ r238) ++ [32]) ++ r244) ++ [32]) ++ r250) ++ [10]).length ≤ 140737488355328 then (some (.go ((IntKind.i64.wrap (x7.1 + 1)), (x7.2 ++ toI (((((((r228 ++ [32]) ++ r238) ++ [32]) ++ r244) ++ [32]) ++ r250) ++ [10]))))) else none) else none) else none)) else none) else none)) else none) else none)) else none)))) else (some (.out (.inr x7.2))))
def g_rules_Text (l_0 : List T_api_Finding) : Option ((List UInt8) × Int) :=
  ((iter (g_rules_Text_s1 l_0) (0, [])).bind fun e8 => (match e8 with | Sum.inl e8 => (some ([], 3)) | Sum.inr (e8) => (some ((bytesOf e8), 0))))
theorem a_rules_Text (I : World → Prop) (hI : Stab I) (hTab : ∀ w, I w → Tab w) (l_0 : List T_api_Finding) {r : (List UInt8) × Int} (h : g_rules_Text l_0 = some r) : AFun Tryd.prog I 31 [.sl (l_0.map T_api_Finding.d)] (.tup [.str r.1, .int .i64 r.2]) := by
  refine AFun.enterB hI Tryd.func31 rfl (by decide) (by simp [Tryd.f31]) (by kernel_rfl) ?_
  unfold g_rules_Text at h
  simp only [S0, Tryd.ntmps31, dd_UC]
  refine rb_seq ?_
  refine rb_regionK fun K2 hK2 => ?_
  simp -implicitDefEqProofs only [vt, vm, ↓atI_fold, forall_const, implies_true, false_implies, sevalprocAttr, dd_UC]
  subst hK2
  refine eb_seq ?_
  refine rb_seq ?_
  refine rb_regionK fun K4 hK4 => ?_
  simp -implicitDefEqProofs only [vt, vm, ↓atI_fold, forall_const, implies_true, false_implies, sevalprocAttr, dd_UC]
  subst hK4
  refine eb_seq ?_
  refine rb_seq ?_
  refine rb_seq ?_
  refine rb_regionK fun K6 hK6 => ?_
  simp -implicitDefEqProofs only [vt, vm, ↓atI_fold, forall_const, implies_true, false_implies, sevalprocAttr, dd_UC]
  subst hK6
  refine eb_seq ?_
  refine rb_block ?_
  obtain ⟨e8, h258, h⟩ := bind_some h
  refine rb_loop (fun x7 => ⟨envL [(4, .ptr 0 0), (8, .sl (l_0.map T_api_Finding.d)), (9, .int .i64 (l_0.length : Int)), (10, .int .i64 x7.1)], heapL [(0, .bbox 129 [.sp 0, .own 1 x7.2.length]), (1, .vec 5 1 (x7.2.map (D.int .u8)) false)], 2, 39⟩) (fun w => match w with | Sum.inl _ => .ret | Sum.inr (_) => .exit 0) (fun w => match w with | Sum.inl e8 => ⟨envL [(2, .str []), (3, .int .i64 3)], heapL [], 0, 39⟩ | Sum.inr (e8) => ⟨envL [(4, .ptr 0 0)], heapL [(0, .bbox 129 [.sp 0, .own 1 e8.length]), (1, .vec 5 1 (e8.map (D.int .u8)) false)], 2, 39⟩) h258 (Wk.of (fun i => if i = 1 then none else if i = 0 then some 2 else some i) _ _ _ (by simp -implicitDefEqProofs [kv, km, dd_UC]) (by simp -implicitDefEqProofs [kv, km, dd_UC])) (by intro w; rcases w with w | w <;> simp) ?_ ?_
  · clear h
    intro x7 y h
    unfold g_rules_Text_s1 at h
    refine rb_seq ?_
    refine rb_regionK fun K176 hK176 => ?_
    simp -implicitDefEqProofs only [vt, vm, ↓atI_fold, forall_const, implies_true, false_implies, sevalprocAttr, dd_UC]
    subst hK176
    refine eb_seq ?_
    refine rb_seq ?_
    rcases ite_or h with ⟨k178, h⟩ | ⟨k178, h⟩
    · refine rb_true (by first | exact congrArg D.bool k178 | rfl) ?_
      refine rb_skip ?_
      refine eb_seq ?_
      refine rb_seq ?_
      refine rb_block ?_
      refine rb_seq ?_
      refine rb_regionK fun K221 hK221 => ?_
      simp -implicitDefEqProofs only [vt, vm, ↓atI_fold, forall_const, implies_true, false_implies, sevalprocAttr, dd_UC, k178]
      obtain ⟨y222, h223, h⟩ := bind_some h
      simp -implicitDefEqProofs only [vt, vm, ↓atI_fold, forall_const, implies_true, false_implies, sevalprocAttr, dd_UC, k178, h223]
      subst hK221
      refine eb_seq ?_
      refine rb_seq ?_
      refine rb_regionK fun K227 hK227 => ?_
      simp -implicitDefEqProofs only [vt, vm, ↓atI_fold, forall_const, implies_true, false_implies, sevalprocAttr, dd_UC, k178, h223]
      obtain ⟨r228, h229, h⟩ := bind_some h
      refine cW.intro (a_rules_Name I hI y222.Rule h229) (by first | rfl | (simp [List.map_append, dd_UC]; done)) ?_
      simp -implicitDefEqProofs only [vt, vm, ↓atI_fold, forall_const, implies_true, false_implies, sevalprocAttr, dd_UC, k178, h223]
      subst hK227
      refine eb_seq ?_
      refine rb_seq ?_
      refine rb_seq ?_
      refine rb_regionK fun K231 hK231 => ?_
      simp -implicitDefEqProofs only [vt, vm, ↓atI_fold, forall_const, implies_true, false_implies, sevalprocAttr, dd_UC, k178, h223]
      subst hK231
      refine eb_seq ?_
      rcases ite_or h with ⟨k232, h⟩ | ⟨k232, h⟩
      · refine rb_true (by first | exact congrArg D.bool k232 | rfl) ?_
        refine rb_seq ?_
        refine rb_regionK fun K234 hK234 => ?_
        simp -implicitDefEqProofs only [vt, vm, ↓atI_fold, forall_const, implies_true, false_implies, sevalprocAttr, dd_UC, k178, h223, k232]
        subst hK234
        refine eb_seq ?_
        refine rb_ret ?_
        refine eb_seq_r ?_
        refine eb_blk_r ?_
        refine eb_seq_r ?_
        obtain rfl := Option.some.inj h
        exact eb_nil ⟨rfl, Wk.of (fun i => some i) _ _ _ (by simp -implicitDefEqProofs [kv, km, dd_UC, k178, k232]) (by simp -implicitDefEqProofs [kv, km, dd_UC, k178, k232])⟩
      · refine rb_false (by first | exact congrArg D.bool k232 | rfl) ?_
        refine rb_skip ?_
        refine eb_seq ?_
        refine rb_drawK hI (by kernel_rfl) (by kernel_rfl) fun K235 hK235 => ?_
        simp -implicitDefEqProofs only [vt, vm, ↓atI_fold, forall_const, implies_true, false_implies, sevalprocAttr, dd_UC, k178, h223, k232]
        obtain ⟨h236, h⟩ := ite_on h
        have h237 : r228.length + ([32] : List UInt8).length ≤ 9223372036854775807 := by (try simp only [List.length_append, List.length_cons, List.length_nil]); omega
        try simp -implicitDefEqProofs only [vt, vm, ↓atI_fold, forall_const, implies_true, false_implies, sevalprocAttr, dd_UC, k178, h223, k232] at h237
        simp -implicitDefEqProofs only [vt, vm, ↓atI_fold, forall_const, implies_true, false_implies, sevalprocAttr, dd_UC, k178, h223, k232, h237, h236]
        obtain ⟨r238, h239, h⟩ := bind_some h
        refine cD'.intro (a_lines_Decimal I hI hTab y222.ID h239) (by first | rfl | (simp [List.map_append, dd_UC]; done)) (by kernel_rfl) ?_
        simp -implicitDefEqProofs only [vt, vm, ↓atI_fold, forall_const, implies_true, false_implies, sevalprocAttr, dd_UC, k178, h223, k232, h237, h236]
        obtain ⟨h240, h⟩ := ite_on h
        have h241 : (r228 ++ [32]).length + r238.length ≤ 9223372036854775807 := by (try simp only [List.length_append, List.length_cons, List.length_nil]); omega
        try simp -implicitDefEqProofs only [vt, vm, ↓atI_fold, forall_const, implies_true, false_implies, sevalprocAttr, dd_UC, k178, h223, k232, h237, h236] at h241
        simp -implicitDefEqProofs only [vt, vm, ↓atI_fold, forall_const, implies_true, false_implies, sevalprocAttr, dd_UC, k178, h223, k232, h237, h236, h241, h240]
        obtain ⟨h242, h⟩ := ite_on h
        have h243 : ((r228 ++ [32]) ++ r238).length + ([32] : List UInt8).length ≤ 9223372036854775807 := by (try simp only [List.length_append, List.length_cons, List.length_nil]); omega
        try simp -implicitDefEqProofs only [vt, vm, ↓atI_fold, forall_const, implies_true, false_implies, sevalprocAttr, dd_UC, k178, h223, k232, h237, h236, h241, h240] at h243
        simp -implicitDefEqProofs only [vt, vm, ↓atI_fold, forall_const, implies_true, false_implies, sevalprocAttr, dd_UC, k178, h223, k232, h237, h236, h241, h240, h243, h242]
        obtain ⟨r244, h245, h⟩ := bind_some h
        refine cD'.intro (a_lines_Decimal I hI hTab y222.Other h245) (by first | rfl | (simp [List.map_append, dd_UC]; done)) (by kernel_rfl) ?_
        simp -implicitDefEqProofs only [vt, vm, ↓atI_fold, forall_const, implies_true, false_implies, sevalprocAttr, dd_UC, k178, h223, k232, h237, h236, h241, h240, h243, h242]
        obtain ⟨h246, h⟩ := ite_on h
        have h247 : (((r228 ++ [32]) ++ r238) ++ [32]).length + r244.length ≤ 9223372036854775807 := by (try simp only [List.length_append, List.length_cons, List.length_nil]); omega
        try simp -implicitDefEqProofs only [vt, vm, ↓atI_fold, forall_const, implies_true, false_implies, sevalprocAttr, dd_UC, k178, h223, k232, h237, h236, h241, h240, h243, h242] at h247
        simp -implicitDefEqProofs only [vt, vm, ↓atI_fold, forall_const, implies_true, false_implies, sevalprocAttr, dd_UC, k178, h223, k232, h237, h236, h241, h240, h243, h242, h247, h246]
        obtain ⟨h248, h⟩ := ite_on h
        have h249 : ((((r228 ++ [32]) ++ r238) ++ [32]) ++ r244).length + ([32] : List UInt8).length ≤ 9223372036854775807 := by (try simp only [List.length_append, List.length_cons, List.length_nil]); omega
        try simp -implicitDefEqProofs only [vt, vm, ↓atI_fold, forall_const, implies_true, false_implies, sevalprocAttr, dd_UC, k178, h223, k232, h237, h236, h241, h240, h243, h242, h247, h246] at h249
        simp -implicitDefEqProofs only [vt, vm, ↓atI_fold, forall_const, implies_true, false_implies, sevalprocAttr, dd_UC, k178, h223, k232, h237, h236, h241, h240, h243, h242, h247, h246, h249, h248]
        obtain ⟨r250, h251, h⟩ := bind_some h
        refine cD'.intro (a_lines_Decimal I hI hTab y222.Amount h251) (by first | rfl | (simp [List.map_append, dd_UC]; done)) (by kernel_rfl) ?_
        simp -implicitDefEqProofs only [vt, vm, ↓atI_fold, forall_const, implies_true, false_implies, sevalprocAttr, dd_UC, k178, h223, k232, h237, h236, h241, h240, h243, h242, h247, h246, h249, h248]
        obtain ⟨h252, h⟩ := ite_on h
        have h253 : (((((r228 ++ [32]) ++ r238) ++ [32]) ++ r244) ++ [32]).length + r250.length ≤ 9223372036854775807 := by (try simp only [List.length_append, List.length_cons, List.length_nil]); omega
        try simp -implicitDefEqProofs only [vt, vm, ↓atI_fold, forall_const, implies_true, false_implies, sevalprocAttr, dd_UC, k178, h223, k232, h237, h236, h241, h240, h243, h242, h247, h246, h249, h248] at h253
        simp -implicitDefEqProofs only [vt, vm, ↓atI_fold, forall_const, implies_true, false_implies, sevalprocAttr, dd_UC, k178, h223, k232, h237, h236, h241, h240, h243, h242, h247, h246, h249, h248, h253, h252]
        obtain ⟨h254, h⟩ := ite_on h
        have h255 : ((((((r228 ++ [32]) ++ r238) ++ [32]) ++ r244) ++ [32]) ++ r250).length + ([10] : List UInt8).length ≤ 9223372036854775807 := by (try simp only [List.length_append, List.length_cons, List.length_nil]); omega
        try simp -implicitDefEqProofs only [vt, vm, ↓atI_fold, forall_const, implies_true, false_implies, sevalprocAttr, dd_UC, k178, h223, k232, h237, h236, h241, h240, h243, h242, h247, h246, h249, h248, h253, h252] at h255
        simp -implicitDefEqProofs only [vt, vm, ↓atI_fold, forall_const, implies_true, false_implies, sevalprocAttr, dd_UC, k178, h223, k232, h237, h236, h241, h240, h243, h242, h247, h246, h249, h248, h253, h252, h255, h254]
        obtain ⟨h256, h⟩ := ite_on h
        refine eD.intro (fun H' ho hs => (c_WriteString1 I (H := H') (id := 0) (nid := 30) (id2 := 1) (n := x7.2.length) (s := (((((((r228 ++ [32]) ++ r238) ++ [32]) ++ r244) ++ [32]) ++ r250) ++ [10])) (l := x7.2) (ho 0 _ (by dsimp only; decide) (by first | rfl | (simp -implicitDefEqProofs only [vt, vm, ↓atI_fold, forall_const, implies_true, false_implies, sevalprocAttr, dd_UC, k178, h223, k232, h237, h236, h241, h240, h243, h242, h247, h246, h249, h248, h253, h252, h255, h254]; done))) (ho 1 _ (by dsimp only; decide) (by first | rfl | (simp -implicitDefEqProofs only [vt, vm, ↓atI_fold, forall_const, implies_true, false_implies, sevalprocAttr, dd_UC, k178, h223, k232, h237, h236, h241, h240, h243, h242, h247, h246, h249, h248, h253, h252, h255, h254]; done))) (by first | rfl | (simp; done)) h256 (by decide))) (by first | rfl | (simp [List.map_append, dd_UC]; done)) rfl (by kernel_rfl) ?_
        simp -implicitDefEqProofs only [vt, vm, ↓atI_fold, forall_const, implies_true, false_implies, sevalprocAttr, dd_UC, k178, h223, k232, h237, h236, h241, h240, h243, h242, h247, h246, h249, h248, h253, h252, h255, h254]
        subst hK235
        refine eb_blk_n ?_
        refine eb_seq ?_
        refine rb_regionK fun K257 hK257 => ?_
        simp -implicitDefEqProofs only [vt, vm, ↓atI_fold, forall_const, implies_true, false_implies, sevalprocAttr, dd_UC, k178, h223, k232, h237, h236, h241, h240, h243, h242, h247, h246, h249, h248, h253, h252, h255, h254]
        subst hK257
        obtain rfl := Option.some.inj h
        exact eb_nil ⟨rfl, Wk.of (fun i => if i = 1 then some 30 else if i = 0 then some 0 else some i) _ _ _ (by simp -implicitDefEqProofs [kv, km, dd_UC, k178, k232]) (by simp -implicitDefEqProofs [kv, km, dd_UC, k178, k232])⟩
    · refine rb_false (by first | exact congrArg D.bool k178 | rfl) ?_
      refine rb_exit ?_
      refine eb_seq_e ?_
      obtain rfl := Option.some.inj h
      exact eb_nil ⟨rfl, Wk.of (fun i => if i = 1 then some 1 else if i = 0 then some 0 else some i) _ _ _ (by simp -implicitDefEqProofs [kv, km, dd_UC, k178]) (by simp -implicitDefEqProofs [kv, km, dd_UC, k178])⟩
  · rcases e8 with e8 | e8
    · try dsimp only at h ⊢
      refine eb_blk_r ?_
      refine eb_seq_r ?_
      obtain rfl := Option.some.inj h
      refine eb_nil ?_
      simp -implicitDefEqProofs only [vt, vm, ↓atI_fold, forall_const, implies_true, false_implies, sevalprocAttr, retQ_r, Tryd.results31, dd_UC] <;> first | rfl | (simp [List.map_append, dd_UC]; done)
    · try dsimp only at h ⊢
      refine eb_blk_hit ?_
      refine eb_seq ?_
      refine rb_seq ?_
      refine rb_regionK fun K260 hK260 => ?_
      simp -implicitDefEqProofs only [vt, vm, ↓atI_fold, forall_const, implies_true, false_implies, sevalprocAttr, dd_UC]
      refine eW.intro (c_String1 I (id := 0) (nid := 2) (id2 := 1) (n := e8.length) (l := e8) (by first | rfl | (simp -implicitDefEqProofs only [vt, vm, ↓atI_fold, forall_const, implies_true, false_implies, sevalprocAttr, dd_UC]; done)) (by first | rfl | (simp -implicitDefEqProofs only [vt, vm, ↓atI_fold, forall_const, implies_true, false_implies, sevalprocAttr, dd_UC]; done)) (by first | rfl | (simp; done))) (by first | rfl | (simp [List.map_append, dd_UC]; done)) rfl ?_
      simp -implicitDefEqProofs only [vt, vm, ↓atI_fold, forall_const, implies_true, false_implies, sevalprocAttr, dd_UC]
      subst hK260
      refine eb_seq ?_
      refine rb_ret ?_
      obtain rfl := Option.some.inj h
      refine eb_nil ?_
      simp -implicitDefEqProofs only [vt, vm, ↓atI_fold, forall_const, implies_true, false_implies, sevalprocAttr, retQ_r, Tryd.results31, dd_UC] <;> first | rfl | (simp [List.map_append, dd_UC]; done)
-- captionerlaw41.awake
def g_law41_awake  : Option (Bool) :=
  ((g_law41_at 4 0 10).bind fun r19 => ((g_law41_at 5 11 20).bind fun r21 => ((g_rules_Pair r19 r21 (T_api_Profile.mk [] 0 0 0 2 12 12 0 0 [] 0 0 0 0)).bind fun r23 => ((g_law41_at 4 0 10).bind fun r25 => ((g_law41_at 5 9 20).bind fun r27 => ((g_rules_Pair r25 r27 (T_api_Profile.mk [] 0 0 0 2 12 12 0 0 [] 0 0 0 0)).bind fun r29 => ((((g_slices_Equal_api_Finding_api_Finding r23 [(T_api_Finding.mk 4 4 5 1)]).bind fun r39 => (if r39 then ((g_slices_Equal_api_Finding_api_Finding r29 [(T_api_Finding.mk 5 4 5 1)]).bind fun r42 => (some (!r42))) else (some true))) : Option (Bool)).bind fun v37 => (if v37 then (some false) else ((g_law41_at 1 95 112).bind fun r58 => ((g_rules_Shot r58 [100] (T_api_Profile.mk [] 0 0 0 2 12 12 0 0 [] 0 0 0 0)).bind fun r60 => ((g_law41_at 1 94 100).bind fun r62 => ((g_rules_Shot r62 [100] (T_api_Profile.mk [] 0 0 0 2 12 12 0 0 [] 0 0 0 0)).bind fun r64 => ((((g_slices_Equal_api_Finding_api_Finding r60 [(T_api_Finding.mk 6 1 100 5)]).bind fun r74 => (if r74 then ((g_slices_Equal_api_Finding_api_Finding r64 [(T_api_Finding.mk 6 1 100 6)]).bind fun r77 => (some (!r77))) else (some true))) : Option (Bool)).bind fun v72 => (if v72 then (some false) else ((g_rules_Text r23).bind fun r87 => (if (r87.2 == 0) then (some (r87.1 == ([71, 65, 80, 32, 52, 32, 53, 32, 49, 10] : List UInt8))) else (some false)))))))))))))))))
theorem a_law41_awake (I : World → Prop) (hI : Stab I) (hTab : ∀ w, I w → Tab w)  {r : Bool} (h : g_law41_awake  = some r) : AFun Tryd.prog I 30 [] (.bool r) := by
  refine AFun.enterB hI Tryd.func30 rfl (by decide) (by simp [Tryd.f30]) (by kernel_rfl) ?_
  unfold g_law41_awake at h
  simp only [S0, Tryd.ntmps30, dd_UC]
  refine rb_seq ?_
  refine rb_regionK fun K2 hK2 => ?_
  simp -implicitDefEqProofs only [vt, vm, ↓atI_fold, forall_const, implies_true, false_implies, sevalprocAttr, dd_UC]
  subst hK2
  refine eb_seq ?_
  refine rb_seq ?_
  refine rb_regionK fun K4 hK4 => ?_
  simp -implicitDefEqProofs only [vt, vm, ↓atI_fold, forall_const, implies_true, false_implies, sevalprocAttr, dd_UC]
  subst hK4
  refine eb_seq ?_
  refine rb_seq ?_
  refine rb_drawK hI (by kernel_rfl) (by kernel_rfl) fun K18 hK18 => ?_
  simp -implicitDefEqProofs only [vt, vm, ↓atI_fold, forall_const, implies_true, false_implies, sevalprocAttr, dd_UC]
  obtain ⟨r19, h20, h⟩ := bind_some h
  refine cD'.intro (a_law41_at I hI 4 0 10 h20) (by first | rfl | (simp [List.map_append, dd_UC]; done)) (by kernel_rfl) ?_
  simp -implicitDefEqProofs only [vt, vm, ↓atI_fold, forall_const, implies_true, false_implies, sevalprocAttr, dd_UC]
  obtain ⟨r21, h22, h⟩ := bind_some h
  refine cD'.intro (a_law41_at I hI 5 11 20 h22) (by first | rfl | (simp [List.map_append, dd_UC]; done)) (by kernel_rfl) ?_
  simp -implicitDefEqProofs only [vt, vm, ↓atI_fold, forall_const, implies_true, false_implies, sevalprocAttr, dd_UC]
  obtain ⟨r23, h24, h⟩ := bind_some h
  refine cD'.intro (a_rules_Pair I hI r19 r21 (T_api_Profile.mk [] 0 0 0 2 12 12 0 0 [] 0 0 0 0) h24) (by first | rfl | (simp [List.map_append, dd_UC]; done)) (by kernel_rfl) ?_
  simp -implicitDefEqProofs only [vt, vm, ↓atI_fold, forall_const, implies_true, false_implies, sevalprocAttr, dd_UC]
  obtain ⟨r25, h26, h⟩ := bind_some h
  refine cD'.intro (a_law41_at I hI 4 0 10 h26) (by first | rfl | (simp [List.map_append, dd_UC]; done)) (by kernel_rfl) ?_
  simp -implicitDefEqProofs only [vt, vm, ↓atI_fold, forall_const, implies_true, false_implies, sevalprocAttr, dd_UC]
  obtain ⟨r27, h28, h⟩ := bind_some h
  refine cD'.intro (a_law41_at I hI 5 9 20 h28) (by first | rfl | (simp [List.map_append, dd_UC]; done)) (by kernel_rfl) ?_
  simp -implicitDefEqProofs only [vt, vm, ↓atI_fold, forall_const, implies_true, false_implies, sevalprocAttr, dd_UC]
  obtain ⟨r29, h30, h⟩ := bind_some h
  refine cD'.intro (a_rules_Pair I hI r25 r27 (T_api_Profile.mk [] 0 0 0 2 12 12 0 0 [] 0 0 0 0) h30) (by first | rfl | (simp [List.map_append, dd_UC]; done)) (by kernel_rfl) ?_
  simp -implicitDefEqProofs only [vt, vm, ↓atI_fold, forall_const, implies_true, false_implies, sevalprocAttr, dd_UC]
  subst hK18
  refine eb_seq ?_
  refine rb_seq ?_
  obtain ⟨v37, h44, h⟩ := bind_some h
  refine rb_cut (fun v37 => ⟨envL [(1, .ptr 0 0), (2, .sl (r23.map T_api_Finding.d)), (28, .bool v37)], heapL [(0, .box none [.str [], .int .i64 0, .int .i64 0, .int .i64 0, .int .i64 2, .int .i64 12, .int .i64 12, .int .i64 0, .int .i64 0, .str [], .int .i64 0, .int .i64 0, .int .i64 0, .int .i64 0])], 1, 60⟩) h44 ?_ ?_
  · clear h
    intro v37 h
    refine rb_regionK fun K38 hK38 => ?_
    simp -implicitDefEqProofs only [vt, vm, ↓atI_fold, forall_const, implies_true, false_implies, sevalprocAttr, dd_UC]
    obtain ⟨r39, h40, h⟩ := bind_some h
    refine cW.intro (a_slices_Equal_api_Finding_api_Finding I hI r23 [(T_api_Finding.mk 4 4 5 1)] h40) (by first | rfl | (simp [List.map_append, dd_UC]; done)) ?_
    simp -implicitDefEqProofs only [vt, vm, ↓atI_fold, forall_const, implies_true, false_implies, sevalprocAttr, dd_UC]
    rcases ite_or h with ⟨k41, h⟩ | ⟨k41, h⟩
    · simp -implicitDefEqProofs only [vt, vm, ↓atI_fold, forall_const, implies_true, false_implies, sevalprocAttr, dd_UC, k41]
      obtain ⟨r42, h43, h⟩ := bind_some h
      refine cW.intro (a_slices_Equal_api_Finding_api_Finding I hI r29 [(T_api_Finding.mk 5 4 5 1)] h43) (by first | rfl | (simp [List.map_append, dd_UC]; done)) ?_
      simp -implicitDefEqProofs only [vt, vm, ↓atI_fold, forall_const, implies_true, false_implies, sevalprocAttr, dd_UC, k41]
      subst hK38
      obtain rfl := Option.some.inj h
      exact eb_nil ⟨rfl, Wk.of (fun i => if i = 0 then some 2 else some i) _ _ _ (by simp -implicitDefEqProofs [kv, km, dd_UC, k41]) (by simp -implicitDefEqProofs [kv, km, dd_UC, k41])⟩
    · simp -implicitDefEqProofs only [vt, vm, ↓atI_fold, forall_const, implies_true, false_implies, sevalprocAttr, dd_UC, k41]
      subst hK38
      obtain rfl := Option.some.inj h
      exact eb_nil ⟨rfl, Wk.of (fun i => if i = 0 then some 2 else some i) _ _ _ (by simp -implicitDefEqProofs [kv, km, dd_UC, k41]) (by simp -implicitDefEqProofs [kv, km, dd_UC, k41])⟩
  · rcases ite_or h with ⟨k45, h⟩ | ⟨k45, h⟩
    · refine rb_true (by first | exact congrArg D.bool k45 | rfl) ?_
      refine rb_seq ?_
      refine rb_regionK fun K47 hK47 => ?_
      simp -implicitDefEqProofs only [vt, vm, ↓atI_fold, forall_const, implies_true, false_implies, sevalprocAttr, dd_UC, k45]
      subst hK47
      refine eb_seq ?_
      refine rb_ret ?_
      refine eb_seq_r ?_
      obtain rfl := Option.some.inj h
      refine eb_nil ?_
      simp -implicitDefEqProofs only [vt, vm, ↓atI_fold, forall_const, implies_true, false_implies, sevalprocAttr, retQ_r, Tryd.results30, dd_UC, k45] <;> first | rfl | (simp [List.map_append, dd_UC]; done)
    · refine rb_false (by first | exact congrArg D.bool k45 | rfl) ?_
      refine rb_skip ?_
      refine eb_seq ?_
      refine rb_seq ?_
      refine rb_drawP hI (by kernel_rfl) (by kernel_rfl) fun K57 hK57 => ?_
      refine rgP_cons ?_
      simp -implicitDefEqProofs only [vt, vm, ↓atI_fold, forall_const, implies_true, false_implies, sevalprocAttr, vq, dd_UC, k45]
      obtain ⟨r58, h59, h⟩ := bind_some h
      refine cP.intro (a_law41_at I hI 1 95 112 h59) (by first | rfl | (simp [List.map_append, dd_UC]; done)) (.ids []) (fun hN => FootOK.idsB [] (by rfl) rfl hN) (by first | rfl | decide) (by first | exact .inl (by first | rfl | decide) | exact .inr (by kernel_rfl)) ?_
      refine rgP_cons ?_
      simp -implicitDefEqProofs only [vt, vm, ↓atI_fold, forall_const, implies_true, false_implies, sevalprocAttr, vq, dd_UC, k45]
      refine sP.foot (.ids []) (fun hN => FootOK.idsB [] (by rfl) rfl hN) (by first | rfl | decide) (by first | exact .inl (by first | rfl | decide) | exact .inr (by kernel_rfl)) ?_
      refine rgP_cons ?_
      simp -implicitDefEqProofs only [vt, vm, ↓atI_fold, forall_const, implies_true, false_implies, sevalprocAttr, vq, dd_UC, k45]
      refine sP.foot (.cell 0 0 14) (fun _ => FootOK.ld rfl rfl rfl (by kernel_rfl) (by decide)) (by first | rfl | decide) (by first | exact .inl (by first | rfl | decide) | exact .inr (by kernel_rfl)) ?_
      refine rgP_cons ?_
      simp -implicitDefEqProofs only [vt, vm, ↓atI_fold, forall_const, implies_true, false_implies, sevalprocAttr, vq, dd_UC, k45]
      obtain ⟨r60, h61, h⟩ := bind_some h
      refine cP.intro (a_rules_Shot I hI r58 [100] (T_api_Profile.mk [] 0 0 0 2 12 12 0 0 [] 0 0 0 0) h61) (by first | rfl | (simp [List.map_append, dd_UC]; done)) (.ids [2]) (fun hN => FootOK.idsB [2] (by rfl) rfl hN) (by first | rfl | decide) (by first | exact .inl (by first | rfl | decide) | exact .inr (by kernel_rfl)) ?_
      refine rgP_cons ?_
      simp -implicitDefEqProofs only [vt, vm, ↓atI_fold, forall_const, implies_true, false_implies, sevalprocAttr, vq, dd_UC, k45]
      obtain ⟨r62, h63, h⟩ := bind_some h
      refine cP.intro (a_law41_at I hI 1 94 100 h63) (by first | rfl | (simp [List.map_append, dd_UC]; done)) (.ids []) (fun hN => FootOK.idsB [] (by rfl) rfl hN) (by first | rfl | decide) (by first | exact .inl (by first | rfl | decide) | exact .inr (by kernel_rfl)) ?_
      refine rgP_cons ?_
      simp -implicitDefEqProofs only [vt, vm, ↓atI_fold, forall_const, implies_true, false_implies, sevalprocAttr, vq, dd_UC, k45]
      refine sP.foot (.ids []) (fun hN => FootOK.idsB [] (by rfl) rfl hN) (by first | rfl | decide) (by first | exact .inl (by first | rfl | decide) | exact .inr (by kernel_rfl)) ?_
      refine rgP_cons ?_
      simp -implicitDefEqProofs only [vt, vm, ↓atI_fold, forall_const, implies_true, false_implies, sevalprocAttr, vq, dd_UC, k45]
      refine sP.foot (.cell 0 0 14) (fun _ => FootOK.ld rfl rfl rfl (by kernel_rfl) (by decide)) (by first | rfl | decide) (by first | exact .inl (by first | rfl | decide) | exact .inr (by kernel_rfl)) ?_
      refine rgP_cons ?_
      simp -implicitDefEqProofs only [vt, vm, ↓atI_fold, forall_const, implies_true, false_implies, sevalprocAttr, vq, dd_UC, k45]
      obtain ⟨r64, h65, h⟩ := bind_some h
      refine cP.intro (a_rules_Shot I hI r62 [100] (T_api_Profile.mk [] 0 0 0 2 12 12 0 0 [] 0 0 0 0) h65) (by first | rfl | (simp [List.map_append, dd_UC]; done)) (.ids [6]) (fun hN => FootOK.idsB [6] (by rfl) rfl hN) (by first | rfl | decide) (by first | exact .inl (by first | rfl | decide) | exact .inr (by kernel_rfl)) ?_
      refine rgP_cons ?_
      simp -implicitDefEqProofs only [vt, vm, ↓atI_fold, forall_const, implies_true, false_implies, sevalprocAttr, vq, dd_UC, k45]
      refine sP.light rfl (by first | rfl | decide) ?_
      refine rgP_cons ?_
      simp -implicitDefEqProofs only [vt, vm, ↓atI_fold, forall_const, implies_true, false_implies, sevalprocAttr, vq, dd_UC, k45]
      refine sP.light rfl (by first | rfl | decide) ?_
      simp -implicitDefEqProofs only [vt, vm, ↓atI_fold, forall_const, implies_true, false_implies, sevalprocAttr, vq, dd_UC, k45]
      refine rgP_nil (by kernel_rfl) ?_
      subst hK57
      refine eb_seq ?_
      refine rb_seq ?_
      obtain ⟨v72, h79, h⟩ := bind_some h
      refine rb_cut (fun v72 => ⟨envL [(2, .sl (r23.map T_api_Finding.d)), (48, .bool v72)], heapL [], 0, 60⟩) h79 ?_ ?_
      · clear h
        intro v72 h
        refine rb_regionK fun K73 hK73 => ?_
        simp -implicitDefEqProofs only [vt, vm, ↓atI_fold, forall_const, implies_true, false_implies, sevalprocAttr, dd_UC, k45]
        obtain ⟨r74, h75, h⟩ := bind_some h
        refine cW.intro (a_slices_Equal_api_Finding_api_Finding I hI r60 [(T_api_Finding.mk 6 1 100 5)] h75) (by first | rfl | (simp [List.map_append, dd_UC]; done)) ?_
        simp -implicitDefEqProofs only [vt, vm, ↓atI_fold, forall_const, implies_true, false_implies, sevalprocAttr, dd_UC, k45]
        rcases ite_or h with ⟨k76, h⟩ | ⟨k76, h⟩
        · simp -implicitDefEqProofs only [vt, vm, ↓atI_fold, forall_const, implies_true, false_implies, sevalprocAttr, dd_UC, k45, k76]
          obtain ⟨r77, h78, h⟩ := bind_some h
          refine cW.intro (a_slices_Equal_api_Finding_api_Finding I hI r64 [(T_api_Finding.mk 6 1 100 6)] h78) (by first | rfl | (simp [List.map_append, dd_UC]; done)) ?_
          simp -implicitDefEqProofs only [vt, vm, ↓atI_fold, forall_const, implies_true, false_implies, sevalprocAttr, dd_UC, k45, k76]
          subst hK73
          obtain rfl := Option.some.inj h
          exact eb_nil ⟨rfl, Wk.of (fun i => some i) _ _ _ (by simp -implicitDefEqProofs [kv, km, dd_UC, k45, k76]) (by simp -implicitDefEqProofs [kv, km, dd_UC, k45, k76])⟩
        · simp -implicitDefEqProofs only [vt, vm, ↓atI_fold, forall_const, implies_true, false_implies, sevalprocAttr, dd_UC, k45, k76]
          subst hK73
          obtain rfl := Option.some.inj h
          exact eb_nil ⟨rfl, Wk.of (fun i => some i) _ _ _ (by simp -implicitDefEqProofs [kv, km, dd_UC, k45, k76]) (by simp -implicitDefEqProofs [kv, km, dd_UC, k45, k76])⟩
      · rcases ite_or h with ⟨k80, h⟩ | ⟨k80, h⟩
        · refine rb_true (by first | exact congrArg D.bool k80 | rfl) ?_
          refine rb_seq ?_
          refine rb_regionK fun K82 hK82 => ?_
          simp -implicitDefEqProofs only [vt, vm, ↓atI_fold, forall_const, implies_true, false_implies, sevalprocAttr, dd_UC, k45, k80]
          subst hK82
          refine eb_seq ?_
          refine rb_ret ?_
          refine eb_seq_r ?_
          obtain rfl := Option.some.inj h
          refine eb_nil ?_
          simp -implicitDefEqProofs only [vt, vm, ↓atI_fold, forall_const, implies_true, false_implies, sevalprocAttr, retQ_r, Tryd.results30, dd_UC, k45, k80] <;> first | rfl | (simp [List.map_append, dd_UC]; done)
        · refine rb_false (by first | exact congrArg D.bool k80 | rfl) ?_
          refine rb_skip ?_
          refine eb_seq ?_
          refine rb_seq ?_
          refine rb_regionK fun K86 hK86 => ?_
          simp -implicitDefEqProofs only [vt, vm, ↓atI_fold, forall_const, implies_true, false_implies, sevalprocAttr, dd_UC, k45, k80]
          obtain ⟨r87, h88, h⟩ := bind_some h
          refine cW.intro (a_rules_Text I hI hTab r23 h88) (by first | rfl | (simp [List.map_append, dd_UC]; done)) ?_
          simp -implicitDefEqProofs only [vt, vm, ↓atI_fold, forall_const, implies_true, false_implies, sevalprocAttr, dd_UC, k45, k80]
          subst hK86
          refine eb_seq ?_
          refine rb_seq ?_
          refine rb_regionK fun K91 hK91 => ?_
          simp -implicitDefEqProofs only [vt, vm, ↓atI_fold, forall_const, implies_true, false_implies, sevalprocAttr, dd_UC, k45, k80]
          rcases ite_or h with ⟨k92, h⟩ | ⟨k92, h⟩
          · simp -implicitDefEqProofs only [vt, vm, ↓atI_fold, forall_const, implies_true, false_implies, sevalprocAttr, dd_UC, k45, k80, k92]
            subst hK91
            refine eb_seq ?_
            refine rb_ret ?_
            obtain rfl := Option.some.inj h
            refine eb_nil ?_
            simp -implicitDefEqProofs only [vt, vm, ↓atI_fold, forall_const, implies_true, false_implies, sevalprocAttr, retQ_r, Tryd.results30, dd_UC, k45, k80, k92] <;> first | rfl | (simp [List.map_append, dd_UC]; done)
          · simp -implicitDefEqProofs only [vt, vm, ↓atI_fold, forall_const, implies_true, false_implies, sevalprocAttr, dd_UC, k45, k80, k92]
            subst hK91
            refine eb_seq ?_
            refine rb_ret ?_
            obtain rfl := Option.some.inj h
            refine eb_nil ?_
            simp -implicitDefEqProofs only [vt, vm, ↓atI_fold, forall_const, implies_true, false_implies, sevalprocAttr, retQ_r, Tryd.results30, dd_UC, k45, k80, k92] <;> first | rfl | (simp [List.map_append, dd_UC]; done)
-- captionerref41.Name
def g_ref41_Name (r_0 : Int) : Option ((List UInt8)) :=
  (((if (decide (r_0 < 1)) then (some true) else (some (decide (12 < r_0)))) : Option (Bool)).bind fun v7 => (if v7 then (some []) else ((atI [[82, 69, 65, 68, 73, 78, 71], [83, 72, 79, 82, 84], [76, 79, 78, 71], [71, 65, 80], [79, 86, 69, 82, 76, 65, 80], [83, 72, 79, 84], [82, 79, 87, 83], [67, 79, 76, 83], [67, 72, 65, 82, 83], [83, 65, 70, 69], [84, 79, 76, 69, 82, 65, 78, 67, 69], [84, 69, 82, 77]] (IntKind.u8.wrap (r_0 - 1))).bind fun y21 => (some y21))))
theorem a_ref41_Name (I : World → Prop) (hI : Stab I) (r_0 : Int) {r : (List UInt8)} (h : g_ref41_Name r_0 = some r) : AFun Tryd.prog I 71 [.int .u8 r_0] (.str r) := by
  refine AFun.enterB hI Tryd.func71 rfl (by decide) (by simp [Tryd.f71]) (by kernel_rfl) ?_
  unfold g_ref41_Name at h
  simp only [S0, Tryd.ntmps71, dd_UC]
  refine rb_seq ?_
  refine rb_regionK fun K2 hK2 => ?_
  simp -implicitDefEqProofs only [vt, vm, ↓atI_fold, forall_const, implies_true, false_implies, sevalprocAttr, dd_UC]
  subst hK2
  refine eb_seq ?_
  refine rb_seq ?_
  refine rb_regionK fun K4 hK4 => ?_
  simp -implicitDefEqProofs only [vt, vm, ↓atI_fold, forall_const, implies_true, false_implies, sevalprocAttr, dd_UC]
  subst hK4
  refine eb_seq ?_
  refine rb_seq ?_
  obtain ⟨v7, h10, h⟩ := bind_some h
  refine rb_cut (fun v7 => ⟨envL [(0, .int .u8 r_0), (3, .own 0 12), (10, .bool v7)], heapL [(0, .vec 9 1 ([[82, 69, 65, 68, 73, 78, 71], [83, 72, 79, 82, 84], [76, 79, 78, 71], [71, 65, 80], [79, 86, 69, 82, 76, 65, 80], [83, 72, 79, 84], [82, 79, 87, 83], [67, 79, 76, 83], [67, 72, 65, 82, 83], [83, 65, 70, 69], [84, 79, 76, 69, 82, 65, 78, 67, 69], [84, 69, 82, 77]].map D.str) false)], 1, 16⟩) h10 ?_ ?_
  · clear h
    intro v7 h
    refine rb_regionK fun K8 hK8 => ?_
    simp -implicitDefEqProofs only [vt, vm, ↓atI_fold, forall_const, implies_true, false_implies, sevalprocAttr, dd_UC]
    rcases ite_or h with ⟨k9, h⟩ | ⟨k9, h⟩
    · simp -implicitDefEqProofs only [vt, vm, ↓atI_fold, forall_const, implies_true, false_implies, sevalprocAttr, dd_UC, k9]
      subst hK8
      obtain rfl := Option.some.inj h
      exact eb_nil ⟨rfl, Wk.of (fun i => if i = 0 then some 1 else some i) _ _ _ (by simp -implicitDefEqProofs [kv, km, dd_UC, k9]) (by simp -implicitDefEqProofs [kv, km, dd_UC, k9])⟩
    · simp -implicitDefEqProofs only [vt, vm, ↓atI_fold, forall_const, implies_true, false_implies, sevalprocAttr, dd_UC, k9]
      subst hK8
      obtain rfl := Option.some.inj h
      exact eb_nil ⟨rfl, Wk.of (fun i => if i = 0 then some 1 else some i) _ _ _ (by simp -implicitDefEqProofs [kv, km, dd_UC, k9]) (by simp -implicitDefEqProofs [kv, km, dd_UC, k9])⟩
  · rcases ite_or h with ⟨k11, h⟩ | ⟨k11, h⟩
    · refine rb_true (by first | exact congrArg D.bool k11 | rfl) ?_
      refine rb_seq ?_
      refine rb_regionK fun K13 hK13 => ?_
      simp -implicitDefEqProofs only [vt, vm, ↓atI_fold, forall_const, implies_true, false_implies, sevalprocAttr, dd_UC, k11]
      subst hK13
      refine eb_seq ?_
      refine rb_ret ?_
      refine eb_seq_r ?_
      obtain rfl := Option.some.inj h
      refine eb_nil ?_
      simp -implicitDefEqProofs only [vt, vm, ↓atI_fold, forall_const, implies_true, false_implies, sevalprocAttr, retQ_r, Tryd.results71, dd_UC, k11] <;> first | rfl | (simp [List.map_append, dd_UC]; done)
    · refine rb_false (by first | exact congrArg D.bool k11 | rfl) ?_
      refine rb_skip ?_
      refine eb_seq ?_
      refine rb_seq ?_
      refine rb_regionK fun K20 hK20 => ?_
      simp -implicitDefEqProofs only [vt, vm, ↓atI_fold, forall_const, implies_true, false_implies, sevalprocAttr, dd_UC, k11]
      obtain ⟨y21, h22, h⟩ := bind_some h
      obtain ⟨h23, h24, h25⟩ := atI_own h22
      have h25 := h25 D.str
      simp only [List.map_cons, List.map_nil, dd_UC] at h25
      have h24 : (IntKind.u8.wrap (r_0 - 1)) < 12 := by simpa using h24
      simp -implicitDefEqProofs only [vt, vm, ↓atI_fold, forall_const, implies_true, false_implies, sevalprocAttr, dd_UC, k11, h23, h24, h25]
      subst hK20
      refine eb_seq ?_
      refine rb_ret ?_
      obtain rfl := Option.some.inj h
      refine eb_nil ?_
      simp -implicitDefEqProofs only [vt, vm, ↓atI_fold, forall_const, implies_true, false_implies, sevalprocAttr, retQ_r, Tryd.results71, dd_UC, k11, h23, h24, h25] <;> first | rfl | (simp [List.map_append, dd_UC]; done)
-- captionerref41.Text
def g_ref41_Text_s1 (l_0 : List T_api_Finding) (x7 : (List UInt8) × Int) : Option (Nx ((List UInt8) × Int) (Unit ⊕ ((List UInt8)))) :=
  (if (decide (x7.2 < (l_0.length : Int))) then ((atI l_0 x7.2).bind fun y142 => ((g_ref41_Name y142.Rule).bind fun r148 => (if (r148 == ([] : List UInt8)) then (some (.out (.inl ()))) else ((g_ref41_Name y142.Rule).bind fun r154 => (if r154.length + 1 ≤ 9223372036854775807 then ((g_ref07_Decimal y142.ID).bind fun r158 => (if (r154.length + 1) + r158.length ≤ 9223372036854775807 then (if ((r154.length + 1) + r158.length) + 1 ≤ 9223372036854775807 then ((g_ref07_Decimal y142.Other).bind fun r164 => (if (((r154.length + 1) + r158.length) + 1) + r164.length ≤ 9223372036854775807 then (if ((((r154.length + 1) + r158.length) + 1) + r164.length) + 1 ≤ 9223372036854775807 then ((g_ref07_Decimal y142.Amount).bind fun r170 => (if (((((r154.length + 1) + r158.length) + 1) + r164.length) + 1) + r170.length ≤ 9223372036854775807 then (if ((((((r154.length + 1) + r158.length) + 1) + r164.length) + 1) + r170.length) + 1 ≤ 9223372036854775807 then (if x7.1.length + (((((((r154.length + 1) + r158.length) + 1) + r164.length) + 1) + r170.length) + 1) ≤ 9223372036854775807 then (some (.go ((x7.1 ++ (((((((r154 ++ [32]) ++ r158) ++ [32]) ++ r164) ++ [32]) ++ r170) ++ [10])), (IntKind.i64.wrap (x7.2 + 1))))) else none) else none) else none)) else none) else none)) else none) else none)) else none))))) else (some (.out (.inr x7.1))))
def g_ref41_Text (l_0 : List T_api_Finding) : Option ((List UInt8) × Int) :=
  ((iter (g_ref41_Text_s1 l_0) ([], 0)).bind fun e8 => (match e8 with | Sum.inl e8 => (some ([], 3)) | Sum.inr (e8) => (some (e8, 0))))
theorem a_ref41_Text (I : World → Prop) (hI : Stab I) (l_0 : List T_api_Finding) {r : (List UInt8) × Int} (h : g_ref41_Text l_0 = some r) : AFun Tryd.prog I 32 [.sl (l_0.map T_api_Finding.d)] (.tup [.str r.1, .int .i64 r.2]) := by
  refine AFun.enterB hI Tryd.func32 rfl (by decide) (by simp [Tryd.f32]) (by kernel_rfl) ?_
  unfold g_ref41_Text at h
  simp only [S0, Tryd.ntmps32, dd_UC]
  refine rb_seq ?_
  refine rb_regionK fun K2 hK2 => ?_
  simp -implicitDefEqProofs only [vt, vm, ↓atI_fold, forall_const, implies_true, false_implies, sevalprocAttr, dd_UC]
  subst hK2
  refine eb_seq ?_
  refine rb_seq ?_
  refine rb_regionK fun K4 hK4 => ?_
  simp -implicitDefEqProofs only [vt, vm, ↓atI_fold, forall_const, implies_true, false_implies, sevalprocAttr, dd_UC]
  subst hK4
  refine eb_seq ?_
  refine rb_seq ?_
  refine rb_seq ?_
  refine rb_regionK fun K6 hK6 => ?_
  simp -implicitDefEqProofs only [vt, vm, ↓atI_fold, forall_const, implies_true, false_implies, sevalprocAttr, dd_UC]
  subst hK6
  refine eb_seq ?_
  refine rb_block ?_
  obtain ⟨e8, h179, h⟩ := bind_some h
  refine rb_loop (fun x7 => ⟨envL [(4, .str x7.1), (7, .sl (l_0.map T_api_Finding.d)), (8, .int .i64 (l_0.length : Int)), (9, .int .i64 x7.2)], heapL [], 0, 40⟩) (fun w => match w with | Sum.inl _ => .ret | Sum.inr (_) => .exit 0) (fun w => match w with | Sum.inl e8 => ⟨envL [(2, .str []), (3, .int .i64 3)], heapL [], 0, 40⟩ | Sum.inr (e8) => ⟨envL [(4, .str e8)], heapL [], 0, 40⟩) h179 (Wk.of (fun i => some i) _ _ _ (by simp -implicitDefEqProofs [kv, km, dd_UC]) (by simp -implicitDefEqProofs [kv, km, dd_UC])) (by intro w; rcases w with w | w <;> simp) ?_ ?_
  · clear h
    intro x7 y h
    unfold g_ref41_Text_s1 at h
    refine rb_seq ?_
    refine rb_regionK fun K95 hK95 => ?_
    simp -implicitDefEqProofs only [vt, vm, ↓atI_fold, forall_const, implies_true, false_implies, sevalprocAttr, dd_UC]
    subst hK95
    refine eb_seq ?_
    refine rb_seq ?_
    rcases ite_or h with ⟨k97, h⟩ | ⟨k97, h⟩
    · refine rb_true (by first | exact congrArg D.bool k97 | rfl) ?_
      refine rb_skip ?_
      refine eb_seq ?_
      refine rb_seq ?_
      refine rb_block ?_
      refine rb_seq ?_
      refine rb_regionK fun K141 hK141 => ?_
      simp -implicitDefEqProofs only [vt, vm, ↓atI_fold, forall_const, implies_true, false_implies, sevalprocAttr, dd_UC, k97]
      obtain ⟨y142, h143, h⟩ := bind_some h
      simp -implicitDefEqProofs only [vt, vm, ↓atI_fold, forall_const, implies_true, false_implies, sevalprocAttr, dd_UC, k97, h143]
      subst hK141
      refine eb_seq ?_
      refine rb_seq ?_
      refine rb_seq ?_
      refine rb_regionK fun K147 hK147 => ?_
      simp -implicitDefEqProofs only [vt, vm, ↓atI_fold, forall_const, implies_true, false_implies, sevalprocAttr, dd_UC, k97, h143]
      obtain ⟨r148, h149, h⟩ := bind_some h
      refine cW.intro (a_ref41_Name I hI y142.Rule h149) (by first | rfl | (simp [List.map_append, dd_UC]; done)) ?_
      simp -implicitDefEqProofs only [vt, vm, ↓atI_fold, forall_const, implies_true, false_implies, sevalprocAttr, dd_UC, k97, h143]
      subst hK147
      refine eb_seq ?_
      rcases ite_or h with ⟨k150, h⟩ | ⟨k150, h⟩
      · refine rb_true (by first | exact congrArg D.bool k150 | rfl) ?_
        refine rb_seq ?_
        refine rb_regionK fun K152 hK152 => ?_
        simp -implicitDefEqProofs only [vt, vm, ↓atI_fold, forall_const, implies_true, false_implies, sevalprocAttr, dd_UC, k97, h143, k150]
        subst hK152
        refine eb_seq ?_
        refine rb_ret ?_
        refine eb_seq_r ?_
        refine eb_blk_r ?_
        refine eb_seq_r ?_
        obtain rfl := Option.some.inj h
        exact eb_nil ⟨rfl, Wk.of (fun i => some i) _ _ _ (by simp -implicitDefEqProofs [kv, km, dd_UC, k97, k150]) (by simp -implicitDefEqProofs [kv, km, dd_UC, k97, k150])⟩
      · refine rb_false (by first | exact congrArg D.bool k150 | rfl) ?_
        refine rb_skip ?_
        refine eb_seq ?_
        refine rb_drawK hI (by kernel_rfl) (by kernel_rfl) fun K153 hK153 => ?_
        simp -implicitDefEqProofs only [vt, vm, ↓atI_fold, forall_const, implies_true, false_implies, sevalprocAttr, dd_UC, k97, h143, k150]
        obtain ⟨r154, h155, h⟩ := bind_some h
        refine cD'.intro (a_ref41_Name I hI y142.Rule h155) (by first | rfl | (simp [List.map_append, dd_UC]; done)) (by kernel_rfl) ?_
        simp -implicitDefEqProofs only [vt, vm, ↓atI_fold, forall_const, implies_true, false_implies, sevalprocAttr, dd_UC, k97, h143, k150]
        obtain ⟨h156, h⟩ := ite_on h
        have h157 : r154.length + ([32] : List UInt8).length ≤ 9223372036854775807 := by (try simp only [List.length_append, List.length_cons, List.length_nil]); omega
        try simp -implicitDefEqProofs only [vt, vm, ↓atI_fold, forall_const, implies_true, false_implies, sevalprocAttr, dd_UC, k97, h143, k150] at h157
        simp -implicitDefEqProofs only [vt, vm, ↓atI_fold, forall_const, implies_true, false_implies, sevalprocAttr, dd_UC, k97, h143, k150, h157, h156]
        obtain ⟨r158, h159, h⟩ := bind_some h
        refine cD'.intro (a_ref07_Decimal I hI y142.ID h159) (by first | rfl | (simp [List.map_append, dd_UC]; done)) (by kernel_rfl) ?_
        simp -implicitDefEqProofs only [vt, vm, ↓atI_fold, forall_const, implies_true, false_implies, sevalprocAttr, dd_UC, k97, h143, k150, h157, h156]
        obtain ⟨h160, h⟩ := ite_on h
        have h161 : (r154 ++ [32]).length + r158.length ≤ 9223372036854775807 := by (try simp only [List.length_append, List.length_cons, List.length_nil]); omega
        try simp -implicitDefEqProofs only [vt, vm, ↓atI_fold, forall_const, implies_true, false_implies, sevalprocAttr, dd_UC, k97, h143, k150, h157, h156] at h161
        simp -implicitDefEqProofs only [vt, vm, ↓atI_fold, forall_const, implies_true, false_implies, sevalprocAttr, dd_UC, k97, h143, k150, h157, h156, h161, h160]
        obtain ⟨h162, h⟩ := ite_on h
        have h163 : ((r154 ++ [32]) ++ r158).length + ([32] : List UInt8).length ≤ 9223372036854775807 := by (try simp only [List.length_append, List.length_cons, List.length_nil]); omega
        try simp -implicitDefEqProofs only [vt, vm, ↓atI_fold, forall_const, implies_true, false_implies, sevalprocAttr, dd_UC, k97, h143, k150, h157, h156, h161, h160] at h163
        simp -implicitDefEqProofs only [vt, vm, ↓atI_fold, forall_const, implies_true, false_implies, sevalprocAttr, dd_UC, k97, h143, k150, h157, h156, h161, h160, h163, h162]
        obtain ⟨r164, h165, h⟩ := bind_some h
        refine cD'.intro (a_ref07_Decimal I hI y142.Other h165) (by first | rfl | (simp [List.map_append, dd_UC]; done)) (by kernel_rfl) ?_
        simp -implicitDefEqProofs only [vt, vm, ↓atI_fold, forall_const, implies_true, false_implies, sevalprocAttr, dd_UC, k97, h143, k150, h157, h156, h161, h160, h163, h162]
        obtain ⟨h166, h⟩ := ite_on h
        have h167 : (((r154 ++ [32]) ++ r158) ++ [32]).length + r164.length ≤ 9223372036854775807 := by (try simp only [List.length_append, List.length_cons, List.length_nil]); omega
        try simp -implicitDefEqProofs only [vt, vm, ↓atI_fold, forall_const, implies_true, false_implies, sevalprocAttr, dd_UC, k97, h143, k150, h157, h156, h161, h160, h163, h162] at h167
        simp -implicitDefEqProofs only [vt, vm, ↓atI_fold, forall_const, implies_true, false_implies, sevalprocAttr, dd_UC, k97, h143, k150, h157, h156, h161, h160, h163, h162, h167, h166]
        obtain ⟨h168, h⟩ := ite_on h
        have h169 : ((((r154 ++ [32]) ++ r158) ++ [32]) ++ r164).length + ([32] : List UInt8).length ≤ 9223372036854775807 := by (try simp only [List.length_append, List.length_cons, List.length_nil]); omega
        try simp -implicitDefEqProofs only [vt, vm, ↓atI_fold, forall_const, implies_true, false_implies, sevalprocAttr, dd_UC, k97, h143, k150, h157, h156, h161, h160, h163, h162, h167, h166] at h169
        simp -implicitDefEqProofs only [vt, vm, ↓atI_fold, forall_const, implies_true, false_implies, sevalprocAttr, dd_UC, k97, h143, k150, h157, h156, h161, h160, h163, h162, h167, h166, h169, h168]
        obtain ⟨r170, h171, h⟩ := bind_some h
        refine cD'.intro (a_ref07_Decimal I hI y142.Amount h171) (by first | rfl | (simp [List.map_append, dd_UC]; done)) (by kernel_rfl) ?_
        simp -implicitDefEqProofs only [vt, vm, ↓atI_fold, forall_const, implies_true, false_implies, sevalprocAttr, dd_UC, k97, h143, k150, h157, h156, h161, h160, h163, h162, h167, h166, h169, h168]
        obtain ⟨h172, h⟩ := ite_on h
        have h173 : (((((r154 ++ [32]) ++ r158) ++ [32]) ++ r164) ++ [32]).length + r170.length ≤ 9223372036854775807 := by (try simp only [List.length_append, List.length_cons, List.length_nil]); omega
        try simp -implicitDefEqProofs only [vt, vm, ↓atI_fold, forall_const, implies_true, false_implies, sevalprocAttr, dd_UC, k97, h143, k150, h157, h156, h161, h160, h163, h162, h167, h166, h169, h168] at h173
        simp -implicitDefEqProofs only [vt, vm, ↓atI_fold, forall_const, implies_true, false_implies, sevalprocAttr, dd_UC, k97, h143, k150, h157, h156, h161, h160, h163, h162, h167, h166, h169, h168, h173, h172]
        obtain ⟨h174, h⟩ := ite_on h
        have h175 : ((((((r154 ++ [32]) ++ r158) ++ [32]) ++ r164) ++ [32]) ++ r170).length + ([10] : List UInt8).length ≤ 9223372036854775807 := by (try simp only [List.length_append, List.length_cons, List.length_nil]); omega
        try simp -implicitDefEqProofs only [vt, vm, ↓atI_fold, forall_const, implies_true, false_implies, sevalprocAttr, dd_UC, k97, h143, k150, h157, h156, h161, h160, h163, h162, h167, h166, h169, h168, h173, h172] at h175
        simp -implicitDefEqProofs only [vt, vm, ↓atI_fold, forall_const, implies_true, false_implies, sevalprocAttr, dd_UC, k97, h143, k150, h157, h156, h161, h160, h163, h162, h167, h166, h169, h168, h173, h172, h175, h174]
        obtain ⟨h176, h⟩ := ite_on h
        have h177 : x7.1.length + (((((((r154 ++ [32]) ++ r158) ++ [32]) ++ r164) ++ [32]) ++ r170) ++ [10]).length ≤ 9223372036854775807 := by (try simp only [List.length_append, List.length_cons, List.length_nil]); omega
        try simp -implicitDefEqProofs only [vt, vm, ↓atI_fold, forall_const, implies_true, false_implies, sevalprocAttr, dd_UC, k97, h143, k150, h157, h156, h161, h160, h163, h162, h167, h166, h169, h168, h173, h172, h175, h174] at h177
        simp -implicitDefEqProofs only [vt, vm, ↓atI_fold, forall_const, implies_true, false_implies, sevalprocAttr, dd_UC, k97, h143, k150, h157, h156, h161, h160, h163, h162, h167, h166, h169, h168, h173, h172, h175, h174, h177, h176]
        subst hK153
        refine eb_blk_n ?_
        refine eb_seq ?_
        refine rb_regionK fun K178 hK178 => ?_
        simp -implicitDefEqProofs only [vt, vm, ↓atI_fold, forall_const, implies_true, false_implies, sevalprocAttr, dd_UC, k97, h143, k150, h157, h156, h161, h160, h163, h162, h167, h166, h169, h168, h173, h172, h175, h174, h177, h176]
        subst hK178
        obtain rfl := Option.some.inj h
        exact eb_nil ⟨rfl, Wk.of (fun i => some i) _ _ _ (by simp -implicitDefEqProofs [kv, km, dd_UC, k97, k150]) (by simp -implicitDefEqProofs [kv, km, dd_UC, k97, k150])⟩
    · refine rb_false (by first | exact congrArg D.bool k97 | rfl) ?_
      refine rb_exit ?_
      refine eb_seq_e ?_
      obtain rfl := Option.some.inj h
      exact eb_nil ⟨rfl, Wk.of (fun i => some i) _ _ _ (by simp -implicitDefEqProofs [kv, km, dd_UC, k97]) (by simp -implicitDefEqProofs [kv, km, dd_UC, k97])⟩
  · rcases e8 with e8 | e8
    · try dsimp only at h ⊢
      refine eb_blk_r ?_
      refine eb_seq_r ?_
      obtain rfl := Option.some.inj h
      refine eb_nil ?_
      simp -implicitDefEqProofs only [vt, vm, ↓atI_fold, forall_const, implies_true, false_implies, sevalprocAttr, retQ_r, Tryd.results32, dd_UC] <;> first | rfl | (simp [List.map_append, dd_UC]; done)
    · try dsimp only at h ⊢
      refine eb_blk_hit ?_
      refine eb_seq ?_
      refine rb_seq ?_
      refine rb_regionK fun K181 hK181 => ?_
      simp -implicitDefEqProofs only [vt, vm, ↓atI_fold, forall_const, implies_true, false_implies, sevalprocAttr, dd_UC]
      subst hK181
      refine eb_seq ?_
      refine rb_ret ?_
      obtain rfl := Option.some.inj h
      refine eb_nil ?_
      simp -implicitDefEqProofs only [vt, vm, ↓atI_fold, forall_const, implies_true, false_implies, sevalprocAttr, retQ_r, Tryd.results32, dd_UC] <;> first | rfl | (simp [List.map_append, dd_UC]; done)
-- rules.finding
def g_rules_finding_s1 (r7 : (List (List UInt8))) (r20 : (List (List UInt8))) (x22 : Int × Int) : Option (Nx (Int × Int) (Int)) :=
  (if (decide (x22.1 < (r20.length : Int))) then ((atI r20 x22.1).bind fun y114 => ((atI r7 0).bind fun y120 => (if (y114 == y120) then (some (.go ((IntKind.i64.wrap (x22.1 + 1)), (IntKind.u8.wrap (1 + (IntKind.u8.wrap x22.1)))))) else (some (.go ((IntKind.i64.wrap (x22.1 + 1)), x22.2)))))) else (some (.out x22.2)))
def g_rules_finding_s2 (r7 : (List (List UInt8))) (x131 : Int × Int × Int × Int) : Option (Nx (Int × Int × Int × Int) (Unit ⊕ (Int × Int × Int))) :=
  (if (decide (x131.1 < 3)) then ((((atI r7 (IntKind.i64.wrap (x131.1 + 1))).bind fun y296 => ((g_lines_Number y296 (-9223372036854775808) 9223372036854775807).bind fun r298 => (if x131.1 == 0 then (some (r298.1, x131.2.2.1, x131.2.2.2, r298.2)) else (if x131.1 == 1 then (some (x131.2.1, r298.1, x131.2.2.2, r298.2)) else (if x131.1 == 2 then (some (x131.2.1, x131.2.2.1, r298.1, r298.2)) else none))))) : Option (Int × Int × Int × Int)).bind fun v294 => (if (v294.2.2.2 != 0) then (some (.out (.inl ()))) else (some (.go ((IntKind.i64.wrap (x131.1 + 1)), v294.1, v294.2.1, v294.2.2.1))))) else (some (.out (.inr (x131.2.1, x131.2.2.1, x131.2.2.2)))))
def g_rules_finding (s_0 : List UInt8) : Option (T_api_Finding × Bool) :=
  ((g_strings_Split s_0 [32]).bind fun r7 => (if ((r7.length : Int) != 4) then (some ((T_api_Finding.mk 0 0 0 0), false)) else ((g_rules_names).bind fun r20 => ((iter (g_rules_finding_s1 r7 r20) (0, 0)).bind fun e23 => ((iter (g_rules_finding_s2 r7) (0, 0, 0, 0)).bind fun e132 => (match e132 with | Sum.inl e132 => (some ((T_api_Finding.mk 0 0 0 0), false)) | Sum.inr (e132) => (some ((T_api_Finding.mk e23 e132.1 e132.2.1 e132.2.2), (e23 != 0)))))))))
theorem a_rules_finding (I : World → Prop) (hI : Stab I) (hPIv : ∀ w, I w → PIv w) (hShp : ∀ w, I w → Shp w) (s_0 : List UInt8) {r : T_api_Finding × Bool} (h : g_rules_finding s_0 = some r) : AFun Tryd.prog I 73 [.str s_0] (.tup [T_api_Finding.d r.1, .bool r.2]) := by
  refine AFun.enterB hI Tryd.func73 rfl (by decide) (by simp [Tryd.f73]) (by kernel_rfl) ?_
  unfold g_rules_finding at h
  simp only [S0, Tryd.ntmps73, dd_UC]
  refine rb_seq ?_
  refine rb_regionK fun K2 hK2 => ?_
  simp -implicitDefEqProofs only [vt, vm, ↓atI_fold, forall_const, implies_true, false_implies, sevalprocAttr, dd_UC]
  subst hK2
  refine eb_seq ?_
  refine rb_seq ?_
  refine rb_regionK fun K6 hK6 => ?_
  simp -implicitDefEqProofs only [vt, vm, ↓atI_fold, forall_const, implies_true, false_implies, sevalprocAttr, dd_UC]
  obtain ⟨r7, h8, h⟩ := bind_some h
  refine cW.intro (a_strings_Split I hI hShp s_0 [32] h8) (by first | rfl | (simp [List.map_append, dd_UC]; done)) ?_
  simp -implicitDefEqProofs only [vt, vm, ↓atI_fold, forall_const, implies_true, false_implies, sevalprocAttr, dd_UC]
  subst hK6
  refine eb_seq ?_
  refine rb_seq ?_
  refine rb_seq ?_
  refine rb_regionK fun K10 hK10 => ?_
  simp -implicitDefEqProofs only [vt, vm, ↓atI_fold, forall_const, implies_true, false_implies, sevalprocAttr, dd_UC]
  subst hK10
  refine eb_seq ?_
  rcases ite_or h with ⟨k11, h⟩ | ⟨k11, h⟩
  · refine rb_true (by first | exact congrArg D.bool k11 | rfl) ?_
    refine rb_seq ?_
    refine rb_regionK fun K13 hK13 => ?_
    simp -implicitDefEqProofs only [vt, vm, ↓atI_fold, forall_const, implies_true, false_implies, sevalprocAttr, dd_UC, k11]
    subst hK13
    refine eb_seq ?_
    refine rb_ret ?_
    refine eb_seq_r ?_
    obtain rfl := Option.some.inj h
    refine eb_nil ?_
    simp -implicitDefEqProofs only [vt, vm, ↓atI_fold, forall_const, implies_true, false_implies, sevalprocAttr, retQ_r, Tryd.results73, dd_UC, k11] <;> first | rfl | (simp [List.map_append, dd_UC]; done)
  · refine rb_false (by first | exact congrArg D.bool k11 | rfl) ?_
    refine rb_skip ?_
    refine eb_seq ?_
    refine rb_seq ?_
    refine rb_regionK fun K15 hK15 => ?_
    simp -implicitDefEqProofs only [vt, vm, ↓atI_fold, forall_const, implies_true, false_implies, sevalprocAttr, dd_UC, k11]
    subst hK15
    refine eb_seq ?_
    refine rb_seq ?_
    refine rb_seq ?_
    refine rb_regionK fun K19 hK19 => ?_
    simp -implicitDefEqProofs only [vt, vm, ↓atI_fold, forall_const, implies_true, false_implies, sevalprocAttr, dd_UC, k11]
    obtain ⟨r20, h21, h⟩ := bind_some h
    refine cW.intro (a_rules_names I hI h21) (by first | rfl | (simp [List.map_append, dd_UC]; done)) ?_
    simp -implicitDefEqProofs only [vt, vm, ↓atI_fold, forall_const, implies_true, false_implies, sevalprocAttr, dd_UC, k11]
    subst hK19
    refine eb_seq ?_
    refine rb_block ?_
    obtain ⟨e23, h126, h⟩ := bind_some h
    refine rb_loop (fun x22 => ⟨envL [(2, .ptr 0 0), (4, .sl (r7.map D.str)), (5, .ptr 1 0), (17, .sl (r20.map D.str)), (18, .int .i64 (r20.length : Int)), (19, .int .i64 x22.1)], heapL [(0, .box none [.int .u8 0, .int .i64 0, .int .i64 0, .int .i64 0]), (1, .box none [.int .u8 x22.2, .int .i64 0, .int .i64 0, .int .i64 0])], 2, 65⟩) (fun _ => .exit 0) (fun e23 => ⟨envL [(2, .ptr 0 0), (4, .sl (r7.map D.str)), (5, .ptr 1 0)], heapL [(0, .box none [.int .u8 0, .int .i64 0, .int .i64 0, .int .i64 0]), (1, .box none [.int .u8 e23, .int .i64 0, .int .i64 0, .int .i64 0])], 2, 65⟩) h126 (Wk.of (fun i => if i = 1 then some 8 else if i = 0 then some 0 else some i) _ _ _ (by simp -implicitDefEqProofs [kv, km, dd_UC, k11]) (by simp -implicitDefEqProofs [kv, km, dd_UC, k11])) (by intro w; simp) ?_ ?_
    · clear h
      intro x22 y h
      unfold g_rules_finding_s1 at h
      refine rb_seq ?_
      refine rb_regionK fun K93 hK93 => ?_
      simp -implicitDefEqProofs only [vt, vm, ↓atI_fold, forall_const, implies_true, false_implies, sevalprocAttr, dd_UC, k11]
      subst hK93
      refine eb_seq ?_
      refine rb_seq ?_
      rcases ite_or h with ⟨k95, h⟩ | ⟨k95, h⟩
      · refine rb_true (by first | exact congrArg D.bool k95 | rfl) ?_
        refine rb_skip ?_
        refine eb_seq ?_
        refine rb_seq ?_
        refine rb_block ?_
        refine rb_seq ?_
        refine rb_regionK fun K113 hK113 => ?_
        simp -implicitDefEqProofs only [vt, vm, ↓atI_fold, forall_const, implies_true, false_implies, sevalprocAttr, dd_UC, k11, k95]
        obtain ⟨y114, h115, h⟩ := bind_some h
        simp -implicitDefEqProofs only [vt, vm, ↓atI_fold, forall_const, implies_true, false_implies, sevalprocAttr, dd_UC, k11, k95, h115]
        subst hK113
        refine eb_seq ?_
        refine rb_seq ?_
        refine rb_regionK fun K119 hK119 => ?_
        simp -implicitDefEqProofs only [vt, vm, ↓atI_fold, forall_const, implies_true, false_implies, sevalprocAttr, dd_UC, k11, k95, h115]
        obtain ⟨y120, h121, h⟩ := bind_some h
        simp -implicitDefEqProofs only [vt, vm, ↓atI_fold, forall_const, implies_true, false_implies, sevalprocAttr, dd_UC, k11, k95, h115, h121]
        subst hK119
        refine eb_seq ?_
        rcases ite_or h with ⟨k122, h⟩ | ⟨k122, h⟩
        · refine rb_true (by first | exact congrArg D.bool k122 | rfl) ?_
          refine rb_regionK fun K123 hK123 => ?_
          simp -implicitDefEqProofs only [vt, vm, ↓atI_fold, forall_const, implies_true, false_implies, sevalprocAttr, dd_UC, k11, k95, h115, h121, k122]
          subst hK123
          refine eb_blk_n ?_
          refine eb_seq ?_
          refine rb_regionK fun K124 hK124 => ?_
          simp -implicitDefEqProofs only [vt, vm, ↓atI_fold, forall_const, implies_true, false_implies, sevalprocAttr, dd_UC, k11, k95, h115, h121, k122]
          subst hK124
          obtain rfl := Option.some.inj h
          exact eb_nil ⟨rfl, Wk.of (fun i => if i = 1 then some 1 else if i = 0 then some 0 else some i) _ _ _ (by simp -implicitDefEqProofs [kv, km, dd_UC, k11, k95, k122]) (by simp -implicitDefEqProofs [kv, km, dd_UC, k11, k95, k122])⟩
        · refine rb_false (by first | exact congrArg D.bool k122 | rfl) ?_
          refine rb_skip ?_
          refine eb_blk_n ?_
          refine eb_seq ?_
          refine rb_regionK fun K125 hK125 => ?_
          simp -implicitDefEqProofs only [vt, vm, ↓atI_fold, forall_const, implies_true, false_implies, sevalprocAttr, dd_UC, k11, k95, h115, h121, k122]
          subst hK125
          obtain rfl := Option.some.inj h
          exact eb_nil ⟨rfl, Wk.of (fun i => if i = 1 then some 1 else if i = 0 then some 0 else some i) _ _ _ (by simp -implicitDefEqProofs [kv, km, dd_UC, k11, k95, k122]) (by simp -implicitDefEqProofs [kv, km, dd_UC, k11, k95, k122])⟩
      · refine rb_false (by first | exact congrArg D.bool k95 | rfl) ?_
        refine rb_exit ?_
        refine eb_seq_e ?_
        obtain rfl := Option.some.inj h
        exact eb_nil ⟨rfl, Wk.of (fun i => if i = 1 then some 1 else if i = 0 then some 0 else some i) _ _ _ (by simp -implicitDefEqProofs [kv, km, dd_UC, k11, k95]) (by simp -implicitDefEqProofs [kv, km, dd_UC, k11, k95])⟩
    · refine eb_blk_hit ?_
      refine eb_seq ?_
      refine rb_seq ?_
      refine rb_regionK fun K128 hK128 => ?_
      simp -implicitDefEqProofs only [vt, vm, ↓atI_fold, forall_const, implies_true, false_implies, sevalprocAttr, dd_UC, k11]
      subst hK128
      refine eb_seq ?_
      refine rb_seq ?_
      refine rb_seq ?_
      refine rb_regionK fun K130 hK130 => ?_
      simp -implicitDefEqProofs only [vt, vm, ↓atI_fold, forall_const, implies_true, false_implies, sevalprocAttr, dd_UC, k11]
      subst hK130
      refine eb_seq ?_
      refine rb_block ?_
      obtain ⟨e132, h310, h⟩ := bind_some h
      refine rb_loop (fun x131 => ⟨envL [(2, .ptr 0 0), (4, .sl (r7.map D.str)), (5, .ptr 1 0), (8, .ptr 2 0), (34, .int .i64 x131.1)], heapL [(0, .box none [.int .u8 0, .int .i64 0, .int .i64 0, .int .i64 0]), (1, .box none [.int .u8 e23, .int .i64 0, .int .i64 0, .int .i64 0]), (2, .box none [.int .i64 x131.2.1, .int .i64 x131.2.2.1, .int .i64 x131.2.2.2])], 3, 65⟩) (fun w => match w with | Sum.inl _ => .ret | Sum.inr (_) => .exit 2) (fun w => match w with | Sum.inl e132 => ⟨envL [(2, .ptr 0 0), (3, .bool false)], heapL [(0, .box none [.int .u8 0, .int .i64 0, .int .i64 0, .int .i64 0])], 1, 65⟩ | Sum.inr (e132) => ⟨envL [(2, .ptr 0 0), (5, .ptr 1 0), (8, .ptr 2 0)], heapL [(0, .box none [.int .u8 0, .int .i64 0, .int .i64 0, .int .i64 0]), (1, .box none [.int .u8 e23, .int .i64 0, .int .i64 0, .int .i64 0]), (2, .box none [.int .i64 e132.1, .int .i64 e132.2.1, .int .i64 e132.2.2])], 3, 65⟩) h310 (Wk.of (fun i => if i = 2 then some 2 else if i = 1 then some 1 else if i = 0 then some 0 else some i) _ _ _ (by simp -implicitDefEqProofs [kv, km, dd_UC, k11]) (by simp -implicitDefEqProofs [kv, km, dd_UC, k11])) (by intro w; rcases w with w | w <;> simp) ?_ ?_
      · clear h
        intro x131 y h
        unfold g_rules_finding_s2 at h
        refine rb_seq ?_
        refine rb_regionK fun K252 hK252 => ?_
        simp -implicitDefEqProofs only [vt, vm, ↓atI_fold, forall_const, implies_true, false_implies, sevalprocAttr, dd_UC, k11]
        subst hK252
        refine eb_seq ?_
        refine rb_seq ?_
        rcases ite_or h with ⟨k254, h⟩ | ⟨k254, h⟩
        · refine rb_true (by first | exact congrArg D.bool k254 | rfl) ?_
          refine rb_skip ?_
          refine eb_seq ?_
          refine rb_seq ?_
          refine rb_block ?_
          refine rb_seq ?_
          refine rb_regionK fun K283 hK283 => ?_
          simp -implicitDefEqProofs only [vt, vm, ↓atI_fold, forall_const, implies_true, false_implies, sevalprocAttr, dd_UC, k11, k254]
          subst hK283
          refine eb_seq ?_
          refine rb_seq ?_
          refine rb_regionK fun K285 hK285 => ?_
          simp -implicitDefEqProofs only [vt, vm, ↓atI_fold, forall_const, implies_true, false_implies, sevalprocAttr, dd_UC, k11, k254]
          subst hK285
          refine eb_seq ?_
          obtain ⟨v294, h303, h⟩ := bind_some h
          refine rb_cut (fun v294 => ⟨envL [(2, .ptr 0 0), (4, .sl (r7.map D.str)), (5, .ptr 1 0), (8, .ptr 2 0), (10, .int .i64 v294.2.2.2), (34, .int .i64 x131.1)], heapL [(0, .box none [.int .u8 0, .int .i64 0, .int .i64 0, .int .i64 0]), (1, .box none [.int .u8 e23, .int .i64 0, .int .i64 0, .int .i64 0]), (2, .box none [.int .i64 v294.1, .int .i64 v294.2.1, .int .i64 v294.2.2.1])], 3, 65⟩) h303 ?_ ?_
          · clear h
            intro v294 h
            refine rb_regionK fun K295 hK295 => ?_
            simp -implicitDefEqProofs only [vt, vm, ↓atI_fold, forall_const, implies_true, false_implies, sevalprocAttr, dd_UC, k11, k254]
            obtain ⟨y296, h297, h⟩ := bind_some h
            simp -implicitDefEqProofs only [vt, vm, ↓atI_fold, forall_const, implies_true, false_implies, sevalprocAttr, dd_UC, k11, k254, h297]
            obtain ⟨r298, h299, h⟩ := bind_some h
            refine cW.intro (a_lines_Number I hI hPIv y296 (-9223372036854775808) 9223372036854775807 h299) (by first | rfl | (simp [List.map_append, dd_UC]; done)) ?_
            simp -implicitDefEqProofs only [vt, vm, ↓atI_fold, forall_const, implies_true, false_implies, sevalprocAttr, dd_UC, k11, k254, h297]
            rcases ite_or h with ⟨k300, h⟩ | ⟨_, h⟩
            · simp only [beq_iff_eq] at k300
              simp -implicitDefEqProofs only [vt, vm, ↓atI_fold, forall_const, implies_true, false_implies, sevalprocAttr, dd_UC, k11, k254, h297, k300]
              subst hK295
              obtain rfl := Option.some.inj h
              exact eb_nil ⟨rfl, Wk.of (fun i => if i = 2 then some 2 else if i = 1 then some 1 else if i = 0 then some 0 else some i) _ _ _ (by simp -implicitDefEqProofs [kv, km, dd_UC, k11, k254, k300]) (by simp -implicitDefEqProofs [kv, km, dd_UC, k11, k254, k300])⟩
            · rcases ite_or h with ⟨k301, h⟩ | ⟨_, h⟩
              · simp only [beq_iff_eq] at k301
                simp -implicitDefEqProofs only [vt, vm, ↓atI_fold, forall_const, implies_true, false_implies, sevalprocAttr, dd_UC, k11, k254, h297, k301]
                subst hK295
                obtain rfl := Option.some.inj h
                exact eb_nil ⟨rfl, Wk.of (fun i => if i = 2 then some 2 else if i = 1 then some 1 else if i = 0 then some 0 else some i) _ _ _ (by simp -implicitDefEqProofs [kv, km, dd_UC, k11, k254, k301]) (by simp -implicitDefEqProofs [kv, km, dd_UC, k11, k254, k301])⟩
              · rcases ite_or h with ⟨k302, h⟩ | ⟨_, h⟩
                · simp only [beq_iff_eq] at k302
                  simp -implicitDefEqProofs only [vt, vm, ↓atI_fold, forall_const, implies_true, false_implies, sevalprocAttr, dd_UC, k11, k254, h297, k302]
                  subst hK295
                  obtain rfl := Option.some.inj h
                  exact eb_nil ⟨rfl, Wk.of (fun i => if i = 2 then some 2 else if i = 1 then some 1 else if i = 0 then some 0 else some i) _ _ _ (by simp -implicitDefEqProofs [kv, km, dd_UC, k11, k254, k302]) (by simp -implicitDefEqProofs [kv, km, dd_UC, k11, k254, k302])⟩
                · cases h
          · refine rb_seq ?_
            refine rb_regionK fun K305 hK305 => ?_
            simp -implicitDefEqProofs only [vt, vm, ↓atI_fold, forall_const, implies_true, false_implies, sevalprocAttr, dd_UC, k11, k254]
            subst hK305
            refine eb_seq ?_
            rcases ite_or h with ⟨k306, h⟩ | ⟨k306, h⟩
            · refine rb_true (by first | exact congrArg D.bool k306 | rfl) ?_
              refine rb_seq ?_
              refine rb_regionK fun K308 hK308 => ?_
              simp -implicitDefEqProofs only [vt, vm, ↓atI_fold, forall_const, implies_true, false_implies, sevalprocAttr, dd_UC, k11, k254, k306]
              subst hK308
              refine eb_seq ?_
              refine rb_ret ?_
              refine eb_blk_r ?_
              refine eb_seq_r ?_
              obtain rfl := Option.some.inj h
              exact eb_nil ⟨rfl, Wk.of (fun i => if i = 0 then some 0 else some i) _ _ _ (by simp -implicitDefEqProofs [kv, km, dd_UC, k11, k254, k306]) (by simp -implicitDefEqProofs [kv, km, dd_UC, k11, k254, k306])⟩
            · refine rb_false (by first | exact congrArg D.bool k306 | rfl) ?_
              refine rb_skip ?_
              refine eb_blk_n ?_
              refine eb_seq ?_
              refine rb_regionK fun K309 hK309 => ?_
              simp -implicitDefEqProofs only [vt, vm, ↓atI_fold, forall_const, implies_true, false_implies, sevalprocAttr, dd_UC, k11, k254, k306]
              subst hK309
              obtain rfl := Option.some.inj h
              exact eb_nil ⟨rfl, Wk.of (fun i => if i = 2 then some 2 else if i = 1 then some 1 else if i = 0 then some 0 else some i) _ _ _ (by simp -implicitDefEqProofs [kv, km, dd_UC, k11, k254, k306]) (by simp -implicitDefEqProofs [kv, km, dd_UC, k11, k254, k306])⟩
        · refine rb_false (by first | exact congrArg D.bool k254 | rfl) ?_
          refine rb_exit ?_
          refine eb_seq_e ?_
          obtain rfl := Option.some.inj h
          exact eb_nil ⟨rfl, Wk.of (fun i => if i = 2 then some 2 else if i = 1 then some 1 else if i = 0 then some 0 else some i) _ _ _ (by simp -implicitDefEqProofs [kv, km, dd_UC, k11, k254]) (by simp -implicitDefEqProofs [kv, km, dd_UC, k11, k254])⟩
      · rcases e132 with e132 | e132
        · try dsimp only at h ⊢
          refine eb_blk_r ?_
          refine eb_seq_r ?_
          obtain rfl := Option.some.inj h
          refine eb_nil ?_
          simp -implicitDefEqProofs only [vt, vm, ↓atI_fold, forall_const, implies_true, false_implies, sevalprocAttr, retQ_r, Tryd.results73, dd_UC, k11] <;> first | rfl | (simp [List.map_append, dd_UC]; done)
        · try dsimp only at h ⊢
          refine eb_blk_hit ?_
          refine eb_seq ?_
          refine rb_seq ?_
          refine rb_drawP hI (by kernel_rfl) (by kernel_rfl) fun K312 hK312 => ?_
          refine rgP_cons ?_
          simp -implicitDefEqProofs only [vt, vm, ↓atI_fold, forall_const, implies_true, false_implies, sevalprocAttr, vq, dd_UC, k11]
          refine sP.foot (.ids [2]) (fun hN => FootOK.idsB [2] (by rfl) rfl hN) (by first | rfl | decide) (by first | exact .inl (by first | rfl | decide) | exact .inr (by kernel_rfl)) ?_
          refine rgP_cons ?_
          simp -implicitDefEqProofs only [vt, vm, ↓atI_fold, forall_const, implies_true, false_implies, sevalprocAttr, vq, dd_UC, k11]
          refine sP.foot (.cell 2 0 1) (fun _ => FootOK.ld rfl rfl rfl (by kernel_rfl) (by decide)) (by first | rfl | decide) (by first | exact .inl (by first | rfl | decide) | exact .inr (by kernel_rfl)) ?_
          refine rgP_cons ?_
          simp -implicitDefEqProofs only [vt, vm, ↓atI_fold, forall_const, implies_true, false_implies, sevalprocAttr, vq, dd_UC, k11]
          refine sP.foot (.ids [2]) (fun hN => FootOK.idsB [2] (by rfl) rfl hN) (by first | rfl | decide) (by first | exact .inl (by first | rfl | decide) | exact .inr (by kernel_rfl)) ?_
          refine rgP_cons ?_
          simp -implicitDefEqProofs only [vt, vm, ↓atI_fold, forall_const, implies_true, false_implies, sevalprocAttr, vq, dd_UC, k11]
          refine sP.foot (.cell 2 1 1) (fun _ => FootOK.ld rfl rfl rfl (by kernel_rfl) (by decide)) (by first | rfl | decide) (by first | exact .inl (by first | rfl | decide) | exact .inr (by kernel_rfl)) ?_
          refine rgP_cons ?_
          simp -implicitDefEqProofs only [vt, vm, ↓atI_fold, forall_const, implies_true, false_implies, sevalprocAttr, vq, dd_UC, k11]
          refine sP.foot (.ids [2]) (fun hN => FootOK.idsB [2] (by rfl) rfl hN) (by first | rfl | decide) (by first | exact .inl (by first | rfl | decide) | exact .inr (by kernel_rfl)) ?_
          refine rgP_cons ?_
          simp -implicitDefEqProofs only [vt, vm, ↓atI_fold, forall_const, implies_true, false_implies, sevalprocAttr, vq, dd_UC, k11]
          refine sP.foot (.cell 2 2 1) (fun _ => FootOK.ld rfl rfl rfl (by kernel_rfl) (by decide)) (by first | rfl | decide) (by first | exact .inl (by first | rfl | decide) | exact .inr (by kernel_rfl)) ?_
          refine rgP_cons ?_
          simp -implicitDefEqProofs only [vt, vm, ↓atI_fold, forall_const, implies_true, false_implies, sevalprocAttr, vq, dd_UC, k11]
          refine sP.light rfl (by first | rfl | decide) ?_
          refine rgP_cons ?_
          simp -implicitDefEqProofs only [vt, vm, ↓atI_fold, forall_const, implies_true, false_implies, sevalprocAttr, vq, dd_UC, k11]
          refine sP.pat 1 1 1 rfl rfl rfl ?_
          refine rgP_cons ?_
          simp -implicitDefEqProofs only [vt, vm, ↓atI_fold, forall_const, implies_true, false_implies, sevalprocAttr, vq, dd_UC, k11]
          refine sP.light rfl (by first | rfl | decide) ?_
          refine rgP_cons ?_
          simp -implicitDefEqProofs only [vt, vm, ↓atI_fold, forall_const, implies_true, false_implies, sevalprocAttr, vq, dd_UC, k11]
          refine sP.pat 1 2 1 rfl rfl rfl ?_
          refine rgP_cons ?_
          simp -implicitDefEqProofs only [vt, vm, ↓atI_fold, forall_const, implies_true, false_implies, sevalprocAttr, vq, dd_UC, k11]
          refine sP.light rfl (by first | rfl | decide) ?_
          refine rgP_cons ?_
          simp -implicitDefEqProofs only [vt, vm, ↓atI_fold, forall_const, implies_true, false_implies, sevalprocAttr, vq, dd_UC, k11]
          refine sP.pat 1 3 1 rfl rfl rfl ?_
          simp -implicitDefEqProofs only [vt, vm, ↓atI_fold, forall_const, implies_true, false_implies, sevalprocAttr, vq, dd_UC, k11]
          refine rgP_nil (by kernel_rfl) ?_
          subst hK312
          refine eb_seq ?_
          refine rb_seq ?_
          refine rb_drawP hI (by kernel_rfl) (by kernel_rfl) fun K314 hK314 => ?_
          refine rgP_cons ?_
          simp -implicitDefEqProofs only [vt, vm, ↓atI_fold, forall_const, implies_true, false_implies, sevalprocAttr, vq, dd_UC, k11]
          refine sP.foot (.cell 1 0 4) (fun _ => FootOK.ld rfl rfl rfl (by kernel_rfl) (by decide)) (by first | rfl | decide) (by first | exact .inl (by first | rfl | decide) | exact .inr (by kernel_rfl)) ?_
          refine rgP_cons ?_
          simp -implicitDefEqProofs only [vt, vm, ↓atI_fold, forall_const, implies_true, false_implies, sevalprocAttr, vq, dd_UC, k11]
          refine sP.light rfl (by first | rfl | decide) ?_
          refine rgP_cons ?_
          simp -implicitDefEqProofs only [vt, vm, ↓atI_fold, forall_const, implies_true, false_implies, sevalprocAttr, vq, dd_UC, k11]
          refine sP.foot (.cell 1 0 1) (fun _ => FootOK.ld rfl rfl rfl (by kernel_rfl) (by decide)) (by first | rfl | decide) (by first | exact .inl (by first | rfl | decide) | exact .inr (by kernel_rfl)) ?_
          refine rgP_cons ?_
          simp -implicitDefEqProofs only [vt, vm, ↓atI_fold, forall_const, implies_true, false_implies, sevalprocAttr, vq, dd_UC, k11]
          refine sP.light rfl (by first | rfl | decide) ?_
          refine rgP_cons ?_
          simp -implicitDefEqProofs only [vt, vm, ↓atI_fold, forall_const, implies_true, false_implies, sevalprocAttr, vq, dd_UC, k11]
          refine sP.pat 0 0 4 rfl rfl rfl ?_
          refine rgP_cons ?_
          simp -implicitDefEqProofs only [vt, vm, ↓atI_fold, forall_const, implies_true, false_implies, sevalprocAttr, vq, dd_UC, k11]
          refine sP.light rfl (by first | rfl | decide) ?_
          simp -implicitDefEqProofs only [vt, vm, ↓atI_fold, forall_const, implies_true, false_implies, sevalprocAttr, vq, dd_UC, k11]
          refine rgP_nil (by kernel_rfl) ?_
          subst hK314
          refine eb_seq ?_
          refine rb_ret ?_
          obtain rfl := Option.some.inj h
          refine eb_nil ?_
          simp -implicitDefEqProofs only [vt, vm, ↓atI_fold, forall_const, implies_true, false_implies, sevalprocAttr, retQ_r, Tryd.results73, dd_UC, k11] <;> first | rfl | (simp [List.map_append, dd_UC]; done)
-- rules.Parse
def g_rules_Parse_s1  (x97 : (List UInt8) × (List T_api_Finding)) : Option (Nx ((List UInt8) × (List T_api_Finding)) (((List T_api_Finding)) ⊕ Unit)) :=
  (if (x97.1 == ([] : List UInt8)) then (some (.out (.inl x97.2))) else ((g_strings_Cut x97.1 [10]).bind fun r164 => ((g_rules_finding r164.1).bind fun r170 => (((if r164.2.2 then (some (!r170.2)) else (some true)) : Option (Bool)).bind fun v174 => (if v174 then (some (.out (.inr ()))) else (if (x97.2.length + 1) * 32 ≤ 140737488355328 then (some (.go (r164.2.1, (x97.2 ++ [r170.1])))) else none))))))
def g_rules_Parse (s_0 : List UInt8) : Option ((List T_api_Finding) × Int) :=
  ((iter (g_rules_Parse_s1) (s_0, [])).bind fun e98 => (match e98 with | Sum.inl e98 => (some (e98, 0)) | Sum.inr (e98) => (some ([], 4))))
theorem a_rules_Parse (I : World → Prop) (hI : Stab I) (hPIv : ∀ w, I w → PIv w) (hShp : ∀ w, I w → Shp w) (s_0 : List UInt8) {r : (List T_api_Finding) × Int} (h : g_rules_Parse s_0 = some r) : AFun Tryd.prog I 33 [.str s_0] (.tup [.sl (r.1.map T_api_Finding.d), .int .i64 r.2]) := by
  refine AFun.enterB hI Tryd.func33 rfl (by decide) (by simp [Tryd.f33]) (by kernel_rfl) ?_
  unfold g_rules_Parse at h
  simp only [S0, Tryd.ntmps33, dd_UC]
  refine rb_seq ?_
  refine rb_regionK fun K2 hK2 => ?_
  simp -implicitDefEqProofs only [vt, vm, ↓atI_fold, forall_const, implies_true, false_implies, sevalprocAttr, dd_UC]
  subst hK2
  refine eb_seq ?_
  refine rb_seq ?_
  refine rb_regionK fun K4 hK4 => ?_
  simp -implicitDefEqProofs only [vt, vm, ↓atI_fold, forall_const, implies_true, false_implies, sevalprocAttr, dd_UC]
  subst hK4
  refine eb_seq ?_
  refine rb_seq ?_
  refine rb_block ?_
  obtain ⟨e98, h188, h⟩ := bind_some h
  refine rb_loop (fun x97 => ⟨envL [(0, .str x97.1), (4, .own 0 x97.2.length)], heapL [(0, .vec 48 4 (x97.2.map T_api_Finding.d) false)], 1, 35⟩) (fun w => match w with | Sum.inl _ => .exit 0 | Sum.inr (_) => .ret) (fun w => match w with | Sum.inl e98 => ⟨envL [(4, .own 0 e98.length)], heapL [(0, .vec 48 4 (e98.map T_api_Finding.d) false)], 1, 35⟩ | Sum.inr (e98) => ⟨envL [(2, .nils), (3, .int .i64 4)], heapL [], 0, 35⟩) h188 (Wk.of (fun i => if i = 0 then none else some i) _ _ _ (by simp -implicitDefEqProofs [kv, km, dd_UC]) (by simp -implicitDefEqProofs [kv, km, dd_UC])) (by intro w; rcases w with w | w <;> simp) ?_ ?_
  · clear h
    intro x97 y h
    unfold g_rules_Parse_s1 at h
    refine rb_seq ?_
    refine rb_seq ?_
    refine rb_regionK fun K158 hK158 => ?_
    simp -implicitDefEqProofs only [vt, vm, ↓atI_fold, forall_const, implies_true, false_implies, sevalprocAttr, dd_UC]
    subst hK158
    refine eb_seq ?_
    rcases ite_or h with ⟨k159, h⟩ | ⟨k159, h⟩
    · refine rb_false (by first | exact congrArg D.bool (congrArg Bool.not k159) | rfl) ?_
      refine rb_exit ?_
      refine eb_seq_e ?_
      obtain rfl := Option.some.inj h
      exact eb_nil ⟨rfl, Wk.of (fun i => if i = 0 then some 0 else some i) _ _ _ (by simp -implicitDefEqProofs [kv, km, dd_UC, k159]) (by simp -implicitDefEqProofs [kv, km, dd_UC, k159])⟩
    · refine rb_true (by first | exact congrArg D.bool (congrArg Bool.not k159) | rfl) ?_
      refine rb_skip ?_
      refine eb_seq ?_
      refine rb_block ?_
      refine rb_seq ?_
      refine rb_regionK fun K163 hK163 => ?_
      simp -implicitDefEqProofs only [vt, vm, ↓atI_fold, forall_const, implies_true, false_implies, sevalprocAttr, dd_UC, k159]
      obtain ⟨r164, h165, h⟩ := bind_some h
      refine cW.intro (a_strings_Cut I hI hShp x97.1 [10] h165) (by first | rfl | (simp [List.map_append, dd_UC]; done)) ?_
      simp -implicitDefEqProofs only [vt, vm, ↓atI_fold, forall_const, implies_true, false_implies, sevalprocAttr, dd_UC, k159]
      subst hK163
      refine eb_seq ?_
      refine rb_seq ?_
      refine rb_regionK fun K169 hK169 => ?_
      simp -implicitDefEqProofs only [vt, vm, ↓atI_fold, forall_const, implies_true, false_implies, sevalprocAttr, dd_UC, k159]
      obtain ⟨r170, h171, h⟩ := bind_some h
      refine cW.intro (a_rules_finding I hI hPIv hShp r164.1 h171) (by first | rfl | (simp [List.map_append, dd_UC]; done)) ?_
      simp -implicitDefEqProofs only [vt, vm, ↓atI_fold, forall_const, implies_true, false_implies, sevalprocAttr, dd_UC, k159]
      subst hK169
      refine eb_seq ?_
      refine rb_seq ?_
      obtain ⟨v174, h177, h⟩ := bind_some h
      refine rb_cut (fun v174 => ⟨envL [(4, .own 0 x97.2.length), (6, .str r164.2.1), (8, .ptr 1 0), (28, .bool v174)], heapL [(0, .vec 48 4 (x97.2.map T_api_Finding.d) false), (1, .box none [.int .u8 r170.1.Rule, .int .i64 r170.1.ID, .int .i64 r170.1.Other, .int .i64 r170.1.Amount])], 2, 35⟩) h177 ?_ ?_
      · clear h
        intro v174 h
        refine rb_regionK fun K175 hK175 => ?_
        simp -implicitDefEqProofs only [vt, vm, ↓atI_fold, forall_const, implies_true, false_implies, sevalprocAttr, dd_UC, k159]
        rcases ite_or h with ⟨k176, h⟩ | ⟨k176, h⟩
        · simp -implicitDefEqProofs only [vt, vm, ↓atI_fold, forall_const, implies_true, false_implies, sevalprocAttr, dd_UC, k159, k176]
          subst hK175
          obtain rfl := Option.some.inj h
          exact eb_nil ⟨rfl, Wk.of (fun i => if i = 1 then some 17 else if i = 0 then some 0 else some i) _ _ _ (by simp -implicitDefEqProofs [kv, km, dd_UC, k159, k176]) (by simp -implicitDefEqProofs [kv, km, dd_UC, k159, k176])⟩
        · simp -implicitDefEqProofs only [vt, vm, ↓atI_fold, forall_const, implies_true, false_implies, sevalprocAttr, dd_UC, k159, k176]
          subst hK175
          obtain rfl := Option.some.inj h
          exact eb_nil ⟨rfl, Wk.of (fun i => if i = 1 then some 17 else if i = 0 then some 0 else some i) _ _ _ (by simp -implicitDefEqProofs [kv, km, dd_UC, k159, k176]) (by simp -implicitDefEqProofs [kv, km, dd_UC, k159, k176])⟩
      · rcases ite_or h with ⟨k178, h⟩ | ⟨k178, h⟩
        · refine rb_true (by first | exact congrArg D.bool k178 | rfl) ?_
          refine rb_seq ?_
          refine rb_regionK fun K180 hK180 => ?_
          simp -implicitDefEqProofs only [vt, vm, ↓atI_fold, forall_const, implies_true, false_implies, sevalprocAttr, dd_UC, k159, k178]
          subst hK180
          refine eb_seq ?_
          refine rb_ret ?_
          refine eb_seq_r ?_
          refine eb_blk_r ?_
          obtain rfl := Option.some.inj h
          exact eb_nil ⟨rfl, Wk.of (fun i => some i) _ _ _ (by simp -implicitDefEqProofs [kv, km, dd_UC, k159, k178]) (by simp -implicitDefEqProofs [kv, km, dd_UC, k159, k178])⟩
        · refine rb_false (by first | exact congrArg D.bool k178 | rfl) ?_
          refine rb_skip ?_
          refine eb_seq ?_
          refine rb_seq ?_
          refine rb_regionK fun K184 hK184 => ?_
          simp -implicitDefEqProofs only [vt, vm, ↓atI_fold, forall_const, implies_true, false_implies, sevalprocAttr, dd_UC, k159, k178]
          obtain ⟨h185, h⟩ := ite_on h
          have h186 : x97.2.length + 1 ≤ 9223372036854775807 := by omega
          try simp only [Nat.reduceLeDiff] at h186
          simp -implicitDefEqProofs only [vt, vm, ↓atI_fold, forall_const, implies_true, false_implies, sevalprocAttr, dd_UC, k159, k178, h186, h185]
          subst hK184
          refine eb_seq ?_
          refine rb_regionK fun K187 hK187 => ?_
          simp -implicitDefEqProofs only [vt, vm, ↓atI_fold, forall_const, implies_true, false_implies, sevalprocAttr, dd_UC, k159, k178, h186, h185]
          subst hK187
          refine eb_blk_n ?_
          obtain rfl := Option.some.inj h
          exact eb_nil ⟨rfl, Wk.of (fun i => if i = 0 then some 5 else some i) _ _ _ (by simp -implicitDefEqProofs [kv, km, dd_UC, k159, k178]) (by simp -implicitDefEqProofs [kv, km, dd_UC, k159, k178])⟩
  · rcases e98 with e98 | e98
    · try dsimp only at h ⊢
      refine eb_blk_hit ?_
      refine eb_seq ?_
      refine rb_seq ?_
      refine rb_regionK fun K190 hK190 => ?_
      simp -implicitDefEqProofs only [vt, vm, ↓atI_fold, forall_const, implies_true, false_implies, sevalprocAttr, dd_UC]
      subst hK190
      refine eb_seq ?_
      refine rb_ret ?_
      obtain rfl := Option.some.inj h
      refine eb_nil ?_
      simp -implicitDefEqProofs only [vt, vm, ↓atI_fold, forall_const, implies_true, false_implies, sevalprocAttr, retQ_r, Tryd.results33, dd_UC] <;> first | rfl | (simp [List.map_append, dd_UC]; done)
    · try dsimp only at h ⊢
      refine eb_blk_r ?_
      refine eb_seq_r ?_
      obtain rfl := Option.some.inj h
      refine eb_nil ?_
      simp -implicitDefEqProofs only [vt, vm, ↓atI_fold, forall_const, implies_true, false_implies, sevalprocAttr, retQ_r, Tryd.results33, dd_UC] <;> first | rfl | (simp [List.map_append, dd_UC]; done)
-- captionerlaw41.RulesTexts
def g_law41_RulesTexts (l_0 : List T_api_Finding) : Option (Bool) :=
  ((g_law41_awake).bind fun r7 => (if r7 then ((subH l_0 (if 16 < (l_0.length : Int) then 16 else (l_0.length : Int))).bind fun z17 => ((g_rules_Text z17).bind fun r26 => ((g_ref41_Text z17).bind fun r32 => (((if (r26.1 == r32.1) then (some (r26.2 != r32.2)) else (some true)) : Option (Bool)).bind fun v36 => (if v36 then (some false) else (if (r26.2 != 0) then (some (r26.1 == ([] : List UInt8))) else ((g_rules_Parse r26.1).bind fun r52 => (if (r52.2 == 0) then ((g_slices_Equal_api_Finding_api_Finding z17 r52.1).bind fun r60 => (some r60)) else (some false))))))))) else (some false)))
theorem a_law41_RulesTexts (I : World → Prop) (hI : Stab I) (hPIv : ∀ w, I w → PIv w) (hShp : ∀ w, I w → Shp w) (hTab : ∀ w, I w → Tab w) (l_0 : List T_api_Finding) {r : Bool} (h : g_law41_RulesTexts l_0 = some r) : AFun Tryd.prog I 9 [.sl (l_0.map T_api_Finding.d)] (.bool r) := by
  refine AFun.enterB hI Tryd.func9 rfl (by decide) (by simp [Tryd.f9]) (by kernel_rfl) ?_
  unfold g_law41_RulesTexts at h
  simp only [S0, Tryd.ntmps9, dd_UC]
  refine rb_seq ?_
  refine rb_regionK fun K2 hK2 => ?_
  simp -implicitDefEqProofs only [vt, vm, ↓atI_fold, forall_const, implies_true, false_implies, sevalprocAttr, dd_UC]
  subst hK2
  refine eb_seq ?_
  refine rb_seq ?_
  refine rb_seq ?_
  refine rb_regionK fun K6 hK6 => ?_
  simp -implicitDefEqProofs only [vt, vm, ↓atI_fold, forall_const, implies_true, false_implies, sevalprocAttr, dd_UC]
  obtain ⟨r7, h8, h⟩ := bind_some h
  refine cW.intro (a_law41_awake I hI hTab h8) (by first | rfl | (simp [List.map_append, dd_UC]; done)) ?_
  simp -implicitDefEqProofs only [vt, vm, ↓atI_fold, forall_const, implies_true, false_implies, sevalprocAttr, dd_UC]
  subst hK6
  refine eb_seq ?_
  rcases ite_or h with ⟨k9, h⟩ | ⟨k9, h⟩
  · refine rb_false (by first | exact congrArg D.bool (congrArg Bool.not k9) | rfl) ?_
    refine rb_skip ?_
    refine eb_seq ?_
    refine rb_seq ?_
    refine rb_regionK fun K16 hK16 => ?_
    simp -implicitDefEqProofs only [vt, vm, ↓atI_fold, forall_const, implies_true, false_implies, sevalprocAttr, dd_UC, k9]
    obtain ⟨z17, h18, h⟩ := bind_some h
    obtain ⟨⟨h19, h20⟩, h21⟩ := subH_some h18
    try simp -implicitDefEqProofs only [vt, vm, ↓atI_fold, forall_const, implies_true, false_implies, sevalprocAttr, dd_UC, k9, h19, h20] at h21
    simp -implicitDefEqProofs only [vt, vm, ↓atI_fold, forall_const, implies_true, false_implies, sevalprocAttr, dd_UC, k9, h19, h20, h21]
    subst hK16
    refine eb_seq ?_
    refine rb_seq ?_
    refine rb_regionK fun K25 hK25 => ?_
    simp -implicitDefEqProofs only [vt, vm, ↓atI_fold, forall_const, implies_true, false_implies, sevalprocAttr, dd_UC, k9, h19, h20, h21]
    obtain ⟨r26, h27, h⟩ := bind_some h
    refine cW.intro (a_rules_Text I hI hTab z17 h27) (by first | rfl | (simp [List.map_append, dd_UC]; done)) ?_
    simp -implicitDefEqProofs only [vt, vm, ↓atI_fold, forall_const, implies_true, false_implies, sevalprocAttr, dd_UC, k9, h19, h20, h21]
    subst hK25
    refine eb_seq ?_
    refine rb_seq ?_
    refine rb_regionK fun K31 hK31 => ?_
    simp -implicitDefEqProofs only [vt, vm, ↓atI_fold, forall_const, implies_true, false_implies, sevalprocAttr, dd_UC, k9, h19, h20, h21]
    obtain ⟨r32, h33, h⟩ := bind_some h
    refine cW.intro (a_ref41_Text I hI z17 h33) (by first | rfl | (simp [List.map_append, dd_UC]; done)) ?_
    simp -implicitDefEqProofs only [vt, vm, ↓atI_fold, forall_const, implies_true, false_implies, sevalprocAttr, dd_UC, k9, h19, h20, h21]
    subst hK31
    refine eb_seq ?_
    refine rb_seq ?_
    obtain ⟨v36, h39, h⟩ := bind_some h
    refine rb_cut (fun v36 => ⟨envL [(0, .sl (z17.map T_api_Finding.d)), (3, .str r26.1), (4, .int .i64 r26.2), (33, .bool v36)], heapL [], 0, 50⟩) h39 ?_ ?_
    · clear h
      intro v36 h
      refine rb_regionK fun K37 hK37 => ?_
      simp -implicitDefEqProofs only [vt, vm, ↓atI_fold, forall_const, implies_true, false_implies, sevalprocAttr, dd_UC, k9, h19, h20, h21]
      rcases ite_or h with ⟨k38, h⟩ | ⟨k38, h⟩
      · simp -implicitDefEqProofs only [vt, vm, ↓atI_fold, forall_const, implies_true, false_implies, sevalprocAttr, dd_UC, k9, h19, h20, h21, k38]
        subst hK37
        obtain rfl := Option.some.inj h
        exact eb_nil ⟨rfl, Wk.of (fun i => some i) _ _ _ (by simp -implicitDefEqProofs [kv, km, dd_UC, k9, k38]) (by simp -implicitDefEqProofs [kv, km, dd_UC, k9, k38])⟩
      · simp -implicitDefEqProofs only [vt, vm, ↓atI_fold, forall_const, implies_true, false_implies, sevalprocAttr, dd_UC, k9, h19, h20, h21, k38]
        subst hK37
        obtain rfl := Option.some.inj h
        exact eb_nil ⟨rfl, Wk.of (fun i => some i) _ _ _ (by simp -implicitDefEqProofs [kv, km, dd_UC, k9, k38]) (by simp -implicitDefEqProofs [kv, km, dd_UC, k9, k38])⟩
    · rcases ite_or h with ⟨k40, h⟩ | ⟨k40, h⟩
      · refine rb_true (by first | exact congrArg D.bool k40 | rfl) ?_
        refine rb_seq ?_
        refine rb_regionK fun K42 hK42 => ?_
        simp -implicitDefEqProofs only [vt, vm, ↓atI_fold, forall_const, implies_true, false_implies, sevalprocAttr, dd_UC, k9, h19, h20, h21, k40]
        subst hK42
        refine eb_seq ?_
        refine rb_ret ?_
        refine eb_seq_r ?_
        obtain rfl := Option.some.inj h
        refine eb_nil ?_
        simp -implicitDefEqProofs only [vt, vm, ↓atI_fold, forall_const, implies_true, false_implies, sevalprocAttr, retQ_r, Tryd.results9, dd_UC, k9, h19, h20, h21, k40] <;> first | rfl | (simp [List.map_append, dd_UC]; done)
      · refine rb_false (by first | exact congrArg D.bool k40 | rfl) ?_
        refine rb_skip ?_
        refine eb_seq ?_
        refine rb_seq ?_
        refine rb_seq ?_
        refine rb_regionK fun K44 hK44 => ?_
        simp -implicitDefEqProofs only [vt, vm, ↓atI_fold, forall_const, implies_true, false_implies, sevalprocAttr, dd_UC, k9, h19, h20, h21, k40]
        subst hK44
        refine eb_seq ?_
        rcases ite_or h with ⟨k45, h⟩ | ⟨k45, h⟩
        · refine rb_true (by first | exact congrArg D.bool k45 | rfl) ?_
          refine rb_seq ?_
          refine rb_regionK fun K47 hK47 => ?_
          simp -implicitDefEqProofs only [vt, vm, ↓atI_fold, forall_const, implies_true, false_implies, sevalprocAttr, dd_UC, k9, h19, h20, h21, k40, k45]
          subst hK47
          refine eb_seq ?_
          refine rb_ret ?_
          refine eb_seq_r ?_
          obtain rfl := Option.some.inj h
          refine eb_nil ?_
          simp -implicitDefEqProofs only [vt, vm, ↓atI_fold, forall_const, implies_true, false_implies, sevalprocAttr, retQ_r, Tryd.results9, dd_UC, k9, h19, h20, h21, k40, k45] <;> first | rfl | (simp [List.map_append, dd_UC]; done)
        · refine rb_false (by first | exact congrArg D.bool k45 | rfl) ?_
          refine rb_skip ?_
          refine eb_seq ?_
          refine rb_seq ?_
          refine rb_regionK fun K51 hK51 => ?_
          simp -implicitDefEqProofs only [vt, vm, ↓atI_fold, forall_const, implies_true, false_implies, sevalprocAttr, dd_UC, k9, h19, h20, h21, k40, k45]
          obtain ⟨r52, h53, h⟩ := bind_some h
          refine cW.intro (a_rules_Parse I hI hPIv hShp r26.1 h53) (by first | rfl | (simp [List.map_append, dd_UC]; done)) ?_
          simp -implicitDefEqProofs only [vt, vm, ↓atI_fold, forall_const, implies_true, false_implies, sevalprocAttr, dd_UC, k9, h19, h20, h21, k40, k45]
          subst hK51
          refine eb_seq ?_
          refine rb_seq ?_
          refine rb_regionK fun K58 hK58 => ?_
          simp -implicitDefEqProofs only [vt, vm, ↓atI_fold, forall_const, implies_true, false_implies, sevalprocAttr, dd_UC, k9, h19, h20, h21, k40, k45]
          rcases ite_or h with ⟨k59, h⟩ | ⟨k59, h⟩
          · simp -implicitDefEqProofs only [vt, vm, ↓atI_fold, forall_const, implies_true, false_implies, sevalprocAttr, dd_UC, k9, h19, h20, h21, k40, k45, k59]
            obtain ⟨r60, h61, h⟩ := bind_some h
            refine cW.intro (a_slices_Equal_api_Finding_api_Finding I hI z17 r52.1 h61) (by first | rfl | (simp [List.map_append, dd_UC]; done)) ?_
            simp -implicitDefEqProofs only [vt, vm, ↓atI_fold, forall_const, implies_true, false_implies, sevalprocAttr, dd_UC, k9, h19, h20, h21, k40, k45, k59]
            subst hK58
            refine eb_seq ?_
            refine rb_ret ?_
            obtain rfl := Option.some.inj h
            refine eb_nil ?_
            simp -implicitDefEqProofs only [vt, vm, ↓atI_fold, forall_const, implies_true, false_implies, sevalprocAttr, retQ_r, Tryd.results9, dd_UC, k9, h19, h20, h21, k40, k45, k59] <;> first | rfl | (simp [List.map_append, dd_UC]; done)
          · simp -implicitDefEqProofs only [vt, vm, ↓atI_fold, forall_const, implies_true, false_implies, sevalprocAttr, dd_UC, k9, h19, h20, h21, k40, k45, k59]
            subst hK58
            refine eb_seq ?_
            refine rb_ret ?_
            obtain rfl := Option.some.inj h
            refine eb_nil ?_
            simp -implicitDefEqProofs only [vt, vm, ↓atI_fold, forall_const, implies_true, false_implies, sevalprocAttr, retQ_r, Tryd.results9, dd_UC, k9, h19, h20, h21, k40, k45, k59] <;> first | rfl | (simp [List.map_append, dd_UC]; done)
  · refine rb_true (by first | exact congrArg D.bool (congrArg Bool.not k9) | rfl) ?_
    refine rb_seq ?_
    refine rb_regionK fun K63 hK63 => ?_
    simp -implicitDefEqProofs only [vt, vm, ↓atI_fold, forall_const, implies_true, false_implies, sevalprocAttr, dd_UC, k9]
    subst hK63
    refine eb_seq ?_
    refine rb_ret ?_
    refine eb_seq_r ?_
    obtain rfl := Option.some.inj h
    refine eb_nil ?_
    simp -implicitDefEqProofs only [vt, vm, ↓atI_fold, forall_const, implies_true, false_implies, sevalprocAttr, retQ_r, Tryd.results9, dd_UC, k9] <;> first | rfl | (simp [List.map_append, dd_UC]; done)
-- captionerref41.words
def g_ref41_words_s1 (s_0 : List UInt8) (sep_1 : Int) (x9 : Int × Int × (List (List UInt8))) : Option (Nx (Int × Int × (List (List UInt8))) ((List (List UInt8)))) :=
  (if (decide (x9.2.1 ≤ (s_0.length : Int))) then (((if (x9.2.1 == (s_0.length : Int)) then (some true) else ((atI s_0 x9.2.1).bind fun b122 => (some ((b122.toNat : Int) == sep_1)))) : Option (Bool)).bind fun v119 => (if v119 then ((subI s_0 x9.1 x9.2.1).bind fun z137 => (if (x9.2.2.length + 1) * 16 ≤ 140737488355328 then (some (.go ((IntKind.i64.wrap (x9.2.1 + 1)), (IntKind.i64.wrap (x9.2.1 + 1)), (x9.2.2 ++ [z137])))) else none)) else (some (.go (x9.1, (IntKind.i64.wrap (x9.2.1 + 1)), x9.2.2))))) else (some (.out x9.2.2)))
def g_ref41_words (s_0 : List UInt8) (sep_1 : Int) : Option ((List (List UInt8))) :=
  ((iter (g_ref41_words_s1 s_0 sep_1) (0, 0, [])).bind fun e10 => (some e10))
theorem a_ref41_words (I : World → Prop) (hI : Stab I) (s_0 : List UInt8) (sep_1 : Int) {r : (List (List UInt8))} (h : g_ref41_words s_0 sep_1 = some r) : AFun Tryd.prog I 74 [.str s_0, .int .u8 sep_1] (.sl (r.map D.str)) := by
  refine AFun.enterB hI Tryd.func74 rfl (by decide) (by simp [Tryd.f74]) (by kernel_rfl) ?_
  unfold g_ref41_words at h
  simp only [S0, Tryd.ntmps74, dd_UC]
  refine rb_seq ?_
  refine rb_regionK fun K2 hK2 => ?_
  simp -implicitDefEqProofs only [vt, vm, ↓atI_fold, forall_const, implies_true, false_implies, sevalprocAttr, dd_UC]
  subst hK2
  refine eb_seq ?_
  refine rb_seq ?_
  refine rb_regionK fun K4 hK4 => ?_
  simp -implicitDefEqProofs only [vt, vm, ↓atI_fold, forall_const, implies_true, false_implies, sevalprocAttr, dd_UC]
  subst hK4
  refine eb_seq ?_
  refine rb_seq ?_
  refine rb_regionK fun K6 hK6 => ?_
  simp -implicitDefEqProofs only [vt, vm, ↓atI_fold, forall_const, implies_true, false_implies, sevalprocAttr, dd_UC]
  subst hK6
  refine eb_seq ?_
  refine rb_seq ?_
  refine rb_seq ?_
  refine rb_regionK fun K8 hK8 => ?_
  simp -implicitDefEqProofs only [vt, vm, ↓atI_fold, forall_const, implies_true, false_implies, sevalprocAttr, dd_UC]
  subst hK8
  refine eb_seq ?_
  refine rb_block ?_
  obtain ⟨e10, h149, h⟩ := bind_some h
  refine rb_loop (fun x9 => ⟨envL [(0, .str s_0), (1, .int .u8 sep_1), (5, .own 0 x9.2.2.length), (6, .int .i64 x9.1), (7, .int .i64 x9.2.1)], heapL [(0, .vec 9 1 (x9.2.2.map D.str) false)], 1, 36⟩) (fun _ => .exit 0) (fun e10 => ⟨envL [(5, .own 0 e10.length)], heapL [(0, .vec 9 1 (e10.map D.str) false)], 1, 36⟩) h149 (Wk.of (fun i => if i = 0 then some 1 else some i) _ _ _ (by simp -implicitDefEqProofs [kv, km, dd_UC]) (by simp -implicitDefEqProofs [kv, km, dd_UC])) (by intro w; simp) ?_ ?_
  · clear h
    intro x9 y h
    unfold g_ref41_words_s1 at h
    refine rb_seq ?_
    refine rb_seq ?_
    refine rb_regionK fun K81 hK81 => ?_
    simp -implicitDefEqProofs only [vt, vm, ↓atI_fold, forall_const, implies_true, false_implies, sevalprocAttr, dd_UC]
    subst hK81
    refine eb_seq ?_
    rcases ite_or h with ⟨k82, h⟩ | ⟨k82, h⟩
    · refine rb_true (by first | exact congrArg D.bool k82 | rfl) ?_
      refine rb_skip ?_
      refine eb_seq ?_
      refine rb_seq ?_
      refine rb_block ?_
      obtain ⟨v119, h124, h⟩ := bind_some h
      refine rb_cut (fun v119 => ⟨envL [(0, .str s_0), (1, .int .u8 sep_1), (5, .own 0 x9.2.2.length), (6, .int .i64 x9.1), (7, .int .i64 x9.2.1), (25, .bool v119)], heapL [(0, .vec 9 1 (x9.2.2.map D.str) false)], 1, 36⟩) h124 ?_ ?_
      · clear h
        intro v119 h
        refine rb_regionK fun K120 hK120 => ?_
        simp -implicitDefEqProofs only [vt, vm, ↓atI_fold, forall_const, implies_true, false_implies, sevalprocAttr, dd_UC, k82]
        rcases ite_or h with ⟨k121, h⟩ | ⟨k121, h⟩
        · simp -implicitDefEqProofs only [vt, vm, ↓atI_fold, forall_const, implies_true, false_implies, sevalprocAttr, dd_UC, k82, k121]
          subst hK120
          obtain rfl := Option.some.inj h
          exact eb_nil ⟨rfl, Wk.of (fun i => if i = 0 then some 0 else some i) _ _ _ (by simp -implicitDefEqProofs [kv, km, dd_UC, k82, k121]) (by simp -implicitDefEqProofs [kv, km, dd_UC, k82, k121])⟩
        · simp -implicitDefEqProofs only [vt, vm, ↓atI_fold, forall_const, implies_true, false_implies, sevalprocAttr, dd_UC, k82, k121]
          obtain ⟨b122, h123, h⟩ := bind_some h
          simp -implicitDefEqProofs only [vt, vm, ↓atI_fold, forall_const, implies_true, false_implies, sevalprocAttr, dd_UC, k82, k121, h123]
          subst hK120
          obtain rfl := Option.some.inj h
          exact eb_nil ⟨rfl, Wk.of (fun i => if i = 0 then some 0 else some i) _ _ _ (by simp -implicitDefEqProofs [kv, km, dd_UC, k82, k121]) (by simp -implicitDefEqProofs [kv, km, dd_UC, k82, k121])⟩
      · rcases ite_or h with ⟨k125, h⟩ | ⟨k125, h⟩
        · refine rb_true (by first | exact congrArg D.bool k125 | rfl) ?_
          refine rb_seq ?_
          refine rb_regionK fun K136 hK136 => ?_
          simp -implicitDefEqProofs only [vt, vm, ↓atI_fold, forall_const, implies_true, false_implies, sevalprocAttr, dd_UC, k82, k125]
          obtain ⟨z137, h138, h⟩ := bind_some h
          obtain ⟨⟨h139, h140, h141, h142⟩, h143⟩ := subI_some h138
          try simp -implicitDefEqProofs only [vt, vm, ↓atI_fold, forall_const, implies_true, false_implies, sevalprocAttr, dd_UC, k82, k125, h139, h140, h141, h142] at h143
          simp -implicitDefEqProofs only [vt, vm, ↓atI_fold, forall_const, implies_true, false_implies, sevalprocAttr, dd_UC, k82, k125, h139, h140, h141, h142, h143]
          obtain ⟨h144, h⟩ := ite_on h
          have h145 : x9.2.2.length + 1 ≤ 9223372036854775807 := by omega
          try simp only [Nat.reduceLeDiff] at h145
          simp -implicitDefEqProofs only [vt, vm, ↓atI_fold, forall_const, implies_true, false_implies, sevalprocAttr, dd_UC, k82, k125, h139, h140, h141, h142, h143, h145, h144]
          subst hK136
          refine eb_seq ?_
          refine rb_regionK fun K146 hK146 => ?_
          simp -implicitDefEqProofs only [vt, vm, ↓atI_fold, forall_const, implies_true, false_implies, sevalprocAttr, dd_UC, k82, k125, h139, h140, h141, h142, h143, h145, h144]
          subst hK146
          refine eb_blk_n ?_
          refine eb_seq ?_
          refine rb_regionK fun K147 hK147 => ?_
          simp -implicitDefEqProofs only [vt, vm, ↓atI_fold, forall_const, implies_true, false_implies, sevalprocAttr, dd_UC, k82, k125, h139, h140, h141, h142, h143, h145, h144]
          subst hK147
          obtain rfl := Option.some.inj h
          exact eb_nil ⟨rfl, Wk.of (fun i => if i = 0 then some 7 else some i) _ _ _ (by simp -implicitDefEqProofs [kv, km, dd_UC, k82, k125]) (by simp -implicitDefEqProofs [kv, km, dd_UC, k82, k125])⟩
        · refine rb_false (by first | exact congrArg D.bool k125 | rfl) ?_
          refine rb_skip ?_
          refine eb_blk_n ?_
          refine eb_seq ?_
          refine rb_regionK fun K148 hK148 => ?_
          simp -implicitDefEqProofs only [vt, vm, ↓atI_fold, forall_const, implies_true, false_implies, sevalprocAttr, dd_UC, k82, k125]
          subst hK148
          obtain rfl := Option.some.inj h
          exact eb_nil ⟨rfl, Wk.of (fun i => if i = 0 then some 0 else some i) _ _ _ (by simp -implicitDefEqProofs [kv, km, dd_UC, k82, k125]) (by simp -implicitDefEqProofs [kv, km, dd_UC, k82, k125])⟩
    · refine rb_false (by first | exact congrArg D.bool k82 | rfl) ?_
      refine rb_exit ?_
      refine eb_seq_e ?_
      obtain rfl := Option.some.inj h
      exact eb_nil ⟨rfl, Wk.of (fun i => if i = 0 then some 0 else some i) _ _ _ (by simp -implicitDefEqProofs [kv, km, dd_UC, k82]) (by simp -implicitDefEqProofs [kv, km, dd_UC, k82])⟩
  · refine eb_blk_hit ?_
    refine eb_seq ?_
    refine rb_seq ?_
    refine rb_regionK fun K151 hK151 => ?_
    simp -implicitDefEqProofs only [vt, vm, ↓atI_fold, forall_const, implies_true, false_implies, sevalprocAttr, dd_UC]
    subst hK151
    refine eb_seq ?_
    refine rb_ret ?_
    obtain rfl := Option.some.inj h
    refine eb_nil ?_
    simp -implicitDefEqProofs only [vt, vm, ↓atI_fold, forall_const, implies_true, false_implies, sevalprocAttr, retQ_r, Tryd.results74, dd_UC] <;> first | rfl | (simp [List.map_append, dd_UC]; done)
-- captionerref41.finding
def g_ref41_finding_s1 (r7 : (List (List UInt8))) (x18 : Int × Int) : Option (Nx (Int × Int) (Int)) :=
  (if (decide (x18.2 ≤ 12)) then ((g_ref41_Name x18.2).bind fun r99 => ((atI r7 0).bind fun y101 => (if (r99 == y101) then (some (.go (x18.2, (IntKind.u8.wrap (x18.2 + 1))))) else (some (.go (x18.1, (IntKind.u8.wrap (x18.2 + 1)))))))) else (some (.out x18.1)))
def g_ref41_finding_s2 (z117 : List (List UInt8)) (x122 : Int × (List Int)) : Option (Nx (Int × (List Int)) (Unit ⊕ ((List Int)))) :=
  (if (decide (x122.1 < (z117.length : Int))) then ((atI z117 x122.1).bind fun y242 => ((g_ref07_Number y242 (-9223372036854775808) 9223372036854775807).bind fun r248 => (if (r248.2 != 0) then (some (.out (.inl ()))) else (if (x122.2.length + 1) * 8 ≤ 140737488355328 then (some (.go ((IntKind.i64.wrap (x122.1 + 1)), (x122.2 ++ [r248.1])))) else none)))) else (some (.out (.inr x122.2))))
def g_ref41_finding (s_0 : List UInt8) : Option (T_api_Finding × Bool) :=
  ((g_ref41_words s_0 32).bind fun r7 => (if ((r7.length : Int) != 4) then (some ((T_api_Finding.mk 0 0 0 0), false)) else ((iter (g_ref41_finding_s1 r7) (0, 1)).bind fun e19 => ((subL r7 1).bind fun z117 => ((iter (g_ref41_finding_s2 z117) (0, [])).bind fun e123 => (match e123 with | Sum.inl e123 => (some ((T_api_Finding.mk 0 0 0 0), false)) | Sum.inr (e123) => ((atI e123 0).bind fun y277 => ((atI e123 1).bind fun y282 => ((atI e123 2).bind fun y287 => (some ((T_api_Finding.mk e19 y277 y282 y287), (e19 != 0))))))))))))
theorem a_ref41_finding (I : World → Prop) (hI : Stab I) (s_0 : List UInt8) {r : T_api_Finding × Bool} (h : g_ref41_finding s_0 = some r) : AFun Tryd.prog I 75 [.str s_0] (.tup [T_api_Finding.d r.1, .bool r.2]) := by
  refine AFun.enterB hI Tryd.func75 rfl (by decide) (by simp [Tryd.f75]) (by kernel_rfl) ?_
  unfold g_ref41_finding at h
  simp only [S0, Tryd.ntmps75, dd_UC]
  refine rb_seq ?_
  refine rb_regionK fun K2 hK2 => ?_
  simp -implicitDefEqProofs only [vt, vm, ↓atI_fold, forall_const, implies_true, false_implies, sevalprocAttr, dd_UC]
  subst hK2
  refine eb_seq ?_
  refine rb_seq ?_
  refine rb_regionK fun K6 hK6 => ?_
  simp -implicitDefEqProofs only [vt, vm, ↓atI_fold, forall_const, implies_true, false_implies, sevalprocAttr, dd_UC]
  obtain ⟨r7, h8, h⟩ := bind_some h
  refine cW.intro (a_ref41_words I hI s_0 32 h8) (by first | rfl | (simp [List.map_append, dd_UC]; done)) ?_
  simp -implicitDefEqProofs only [vt, vm, ↓atI_fold, forall_const, implies_true, false_implies, sevalprocAttr, dd_UC]
  subst hK6
  refine eb_seq ?_
  refine rb_seq ?_
  refine rb_seq ?_
  refine rb_regionK fun K10 hK10 => ?_
  simp -implicitDefEqProofs only [vt, vm, ↓atI_fold, forall_const, implies_true, false_implies, sevalprocAttr, dd_UC]
  subst hK10
  refine eb_seq ?_
  rcases ite_or h with ⟨k11, h⟩ | ⟨k11, h⟩
  · refine rb_true (by first | exact congrArg D.bool k11 | rfl) ?_
    refine rb_seq ?_
    refine rb_regionK fun K13 hK13 => ?_
    simp -implicitDefEqProofs only [vt, vm, ↓atI_fold, forall_const, implies_true, false_implies, sevalprocAttr, dd_UC, k11]
    subst hK13
    refine eb_seq ?_
    refine rb_ret ?_
    refine eb_seq_r ?_
    obtain rfl := Option.some.inj h
    refine eb_nil ?_
    simp -implicitDefEqProofs only [vt, vm, ↓atI_fold, forall_const, implies_true, false_implies, sevalprocAttr, retQ_r, Tryd.results75, dd_UC, k11] <;> first | rfl | (simp [List.map_append, dd_UC]; done)
  · refine rb_false (by first | exact congrArg D.bool k11 | rfl) ?_
    refine rb_skip ?_
    refine eb_seq ?_
    refine rb_seq ?_
    refine rb_regionK fun K15 hK15 => ?_
    simp -implicitDefEqProofs only [vt, vm, ↓atI_fold, forall_const, implies_true, false_implies, sevalprocAttr, dd_UC, k11]
    subst hK15
    refine eb_seq ?_
    refine rb_seq ?_
    refine rb_seq ?_
    refine rb_regionK fun K17 hK17 => ?_
    simp -implicitDefEqProofs only [vt, vm, ↓atI_fold, forall_const, implies_true, false_implies, sevalprocAttr, dd_UC, k11]
    subst hK17
    refine eb_seq ?_
    refine rb_block ?_
    obtain ⟨e19, h107, h⟩ := bind_some h
    refine rb_loop (fun x18 => ⟨envL [(2, .ptr 0 0), (4, .sl (r7.map D.str)), (5, .int .u8 x18.1), (6, .int .u8 x18.2)], heapL [(0, .box none [.int .u8 0, .int .i64 0, .int .i64 0, .int .i64 0])], 1, 63⟩) (fun _ => .exit 0) (fun e19 => ⟨envL [(2, .ptr 0 0), (4, .sl (r7.map D.str)), (5, .int .u8 e19)], heapL [(0, .box none [.int .u8 0, .int .i64 0, .int .i64 0, .int .i64 0])], 1, 63⟩) h107 (Wk.of (fun i => if i = 0 then some 0 else some i) _ _ _ (by simp -implicitDefEqProofs [kv, km, dd_UC, k11]) (by simp -implicitDefEqProofs [kv, km, dd_UC, k11])) (by intro w; simp) ?_ ?_
    · clear h
      intro x18 y h
      unfold g_ref41_finding_s1 at h
      refine rb_seq ?_
      refine rb_seq ?_
      refine rb_regionK fun K79 hK79 => ?_
      simp -implicitDefEqProofs only [vt, vm, ↓atI_fold, forall_const, implies_true, false_implies, sevalprocAttr, dd_UC, k11]
      subst hK79
      refine eb_seq ?_
      rcases ite_or h with ⟨k80, h⟩ | ⟨k80, h⟩
      · refine rb_true (by first | exact congrArg D.bool k80 | rfl) ?_
        refine rb_skip ?_
        refine eb_seq ?_
        refine rb_seq ?_
        refine rb_block ?_
        refine rb_seq ?_
        refine rb_drawK hI (by kernel_rfl) (by kernel_rfl) fun K98 hK98 => ?_
        simp -implicitDefEqProofs only [vt, vm, ↓atI_fold, forall_const, implies_true, false_implies, sevalprocAttr, dd_UC, k11, k80]
        obtain ⟨r99, h100, h⟩ := bind_some h
        refine cD'.intro (a_ref41_Name I hI x18.2 h100) (by first | rfl | (simp [List.map_append, dd_UC]; done)) (by kernel_rfl) ?_
        simp -implicitDefEqProofs only [vt, vm, ↓atI_fold, forall_const, implies_true, false_implies, sevalprocAttr, dd_UC, k11, k80]
        obtain ⟨y101, h102, h⟩ := bind_some h
        simp -implicitDefEqProofs only [vt, vm, ↓atI_fold, forall_const, implies_true, false_implies, sevalprocAttr, dd_UC, k11, k80, h102]
        subst hK98
        refine eb_seq ?_
        rcases ite_or h with ⟨k103, h⟩ | ⟨k103, h⟩
        · refine rb_true (by first | exact congrArg D.bool k103 | rfl) ?_
          refine rb_regionK fun K104 hK104 => ?_
          simp -implicitDefEqProofs only [vt, vm, ↓atI_fold, forall_const, implies_true, false_implies, sevalprocAttr, dd_UC, k11, k80, h102, k103]
          subst hK104
          refine eb_blk_n ?_
          refine eb_seq ?_
          refine rb_regionK fun K105 hK105 => ?_
          simp -implicitDefEqProofs only [vt, vm, ↓atI_fold, forall_const, implies_true, false_implies, sevalprocAttr, dd_UC, k11, k80, h102, k103]
          subst hK105
          obtain rfl := Option.some.inj h
          exact eb_nil ⟨rfl, Wk.of (fun i => if i = 0 then some 0 else some i) _ _ _ (by simp -implicitDefEqProofs [kv, km, dd_UC, k11, k80, k103]) (by simp -implicitDefEqProofs [kv, km, dd_UC, k11, k80, k103])⟩
        · refine rb_false (by first | exact congrArg D.bool k103 | rfl) ?_
          refine rb_skip ?_
          refine eb_blk_n ?_
          refine eb_seq ?_
          refine rb_regionK fun K106 hK106 => ?_
          simp -implicitDefEqProofs only [vt, vm, ↓atI_fold, forall_const, implies_true, false_implies, sevalprocAttr, dd_UC, k11, k80, h102, k103]
          subst hK106
          obtain rfl := Option.some.inj h
          exact eb_nil ⟨rfl, Wk.of (fun i => if i = 0 then some 0 else some i) _ _ _ (by simp -implicitDefEqProofs [kv, km, dd_UC, k11, k80, k103]) (by simp -implicitDefEqProofs [kv, km, dd_UC, k11, k80, k103])⟩
      · refine rb_false (by first | exact congrArg D.bool k80 | rfl) ?_
        refine rb_exit ?_
        refine eb_seq_e ?_
        obtain rfl := Option.some.inj h
        exact eb_nil ⟨rfl, Wk.of (fun i => if i = 0 then some 0 else some i) _ _ _ (by simp -implicitDefEqProofs [kv, km, dd_UC, k11, k80]) (by simp -implicitDefEqProofs [kv, km, dd_UC, k11, k80])⟩
    · refine eb_blk_hit ?_
      refine eb_seq ?_
      refine rb_seq ?_
      refine rb_regionK fun K109 hK109 => ?_
      simp -implicitDefEqProofs only [vt, vm, ↓atI_fold, forall_const, implies_true, false_implies, sevalprocAttr, dd_UC, k11]
      subst hK109
      refine eb_seq ?_
      refine rb_seq ?_
      refine rb_seq ?_
      refine rb_regionK fun K116 hK116 => ?_
      simp -implicitDefEqProofs only [vt, vm, ↓atI_fold, forall_const, implies_true, false_implies, sevalprocAttr, dd_UC, k11]
      obtain ⟨z117, h118, h⟩ := bind_some h
      obtain ⟨⟨h119, h120⟩, h121⟩ := subL_some h118
      try simp only [List.length_cons, List.length_nil, Nat.zero_add, Nat.reduceAdd, Int.reduceToNat] at h120
      try simp -implicitDefEqProofs only [vt, vm, ↓atI_fold, forall_const, implies_true, false_implies, sevalprocAttr, dd_UC, k11, h120] at h121
      simp -implicitDefEqProofs only [vt, vm, ↓atI_fold, forall_const, implies_true, false_implies, sevalprocAttr, dd_UC, k11, h120, h121]
      subst hK116
      refine eb_seq ?_
      refine rb_block ?_
      obtain ⟨e123, h259, h⟩ := bind_some h
      refine rb_loop (fun x122 => ⟨envL [(2, .ptr 0 0), (5, .int .u8 e19), (7, .own 1 x122.2.length), (31, .sl (z117.map D.str)), (32, .int .i64 (z117.length : Int)), (33, .int .i64 x122.1)], heapL [(0, .box none [.int .u8 0, .int .i64 0, .int .i64 0, .int .i64 0]), (1, .vec 2 1 (x122.2.map (D.int .i64)) false)], 2, 63⟩) (fun w => match w with | Sum.inl _ => .ret | Sum.inr (_) => .exit 2) (fun w => match w with | Sum.inl e123 => ⟨envL [(2, .ptr 0 0), (3, .bool false)], heapL [(0, .box none [.int .u8 0, .int .i64 0, .int .i64 0, .int .i64 0])], 1, 63⟩ | Sum.inr (e123) => ⟨envL [(2, .ptr 0 0), (5, .int .u8 e19), (7, .own 1 e123.length)], heapL [(0, .box none [.int .u8 0, .int .i64 0, .int .i64 0, .int .i64 0]), (1, .vec 2 1 (e123.map (D.int .i64)) false)], 2, 63⟩) h259 (Wk.of (fun i => if i = 1 then some 1 else if i = 0 then some 0 else some i) _ _ _ (by simp -implicitDefEqProofs [kv, km, dd_UC, k11]) (by simp -implicitDefEqProofs [kv, km, dd_UC, k11])) (by intro w; rcases w with w | w <;> simp) ?_ ?_
      · clear h
        intro x122 y h
        unfold g_ref41_finding_s2 at h
        refine rb_seq ?_
        refine rb_regionK fun K215 hK215 => ?_
        simp -implicitDefEqProofs only [vt, vm, ↓atI_fold, forall_const, implies_true, false_implies, sevalprocAttr, dd_UC, k11, h120, h121]
        subst hK215
        refine eb_seq ?_
        refine rb_seq ?_
        rcases ite_or h with ⟨k217, h⟩ | ⟨k217, h⟩
        · refine rb_true (by first | exact congrArg D.bool k217 | rfl) ?_
          refine rb_skip ?_
          refine eb_seq ?_
          refine rb_seq ?_
          refine rb_block ?_
          refine rb_seq ?_
          refine rb_regionK fun K241 hK241 => ?_
          simp -implicitDefEqProofs only [vt, vm, ↓atI_fold, forall_const, implies_true, false_implies, sevalprocAttr, dd_UC, k11, h120, h121, k217]
          obtain ⟨y242, h243, h⟩ := bind_some h
          simp -implicitDefEqProofs only [vt, vm, ↓atI_fold, forall_const, implies_true, false_implies, sevalprocAttr, dd_UC, k11, h120, h121, k217, h243]
          subst hK241
          refine eb_seq ?_
          refine rb_seq ?_
          refine rb_regionK fun K247 hK247 => ?_
          simp -implicitDefEqProofs only [vt, vm, ↓atI_fold, forall_const, implies_true, false_implies, sevalprocAttr, dd_UC, k11, h120, h121, k217, h243]
          obtain ⟨r248, h249, h⟩ := bind_some h
          refine cW.intro (a_ref07_Number I hI y242 (-9223372036854775808) 9223372036854775807 h249) (by first | rfl | (simp [List.map_append, dd_UC]; done)) ?_
          simp -implicitDefEqProofs only [vt, vm, ↓atI_fold, forall_const, implies_true, false_implies, sevalprocAttr, dd_UC, k11, h120, h121, k217, h243]
          subst hK247
          refine eb_seq ?_
          refine rb_seq ?_
          refine rb_seq ?_
          refine rb_regionK fun K251 hK251 => ?_
          simp -implicitDefEqProofs only [vt, vm, ↓atI_fold, forall_const, implies_true, false_implies, sevalprocAttr, dd_UC, k11, h120, h121, k217, h243]
          subst hK251
          refine eb_seq ?_
          rcases ite_or h with ⟨k252, h⟩ | ⟨k252, h⟩
          · refine rb_true (by first | exact congrArg D.bool k252 | rfl) ?_
            refine rb_seq ?_
            refine rb_regionK fun K254 hK254 => ?_
            simp -implicitDefEqProofs only [vt, vm, ↓atI_fold, forall_const, implies_true, false_implies, sevalprocAttr, dd_UC, k11, h120, h121, k217, h243, k252]
            subst hK254
            refine eb_seq ?_
            refine rb_ret ?_
            refine eb_seq_r ?_
            refine eb_blk_r ?_
            refine eb_seq_r ?_
            obtain rfl := Option.some.inj h
            exact eb_nil ⟨rfl, Wk.of (fun i => if i = 0 then some 0 else some i) _ _ _ (by simp -implicitDefEqProofs [kv, km, dd_UC, k11, k217, k252]) (by simp -implicitDefEqProofs [kv, km, dd_UC, k11, k217, k252])⟩
          · refine rb_false (by first | exact congrArg D.bool k252 | rfl) ?_
            refine rb_skip ?_
            refine eb_seq ?_
            refine rb_regionK fun K255 hK255 => ?_
            simp -implicitDefEqProofs only [vt, vm, ↓atI_fold, forall_const, implies_true, false_implies, sevalprocAttr, dd_UC, k11, h120, h121, k217, h243, k252]
            obtain ⟨h256, h⟩ := ite_on h
            have h257 : x122.2.length + 1 ≤ 9223372036854775807 := by omega
            try simp only [Nat.reduceLeDiff] at h257
            simp -implicitDefEqProofs only [vt, vm, ↓atI_fold, forall_const, implies_true, false_implies, sevalprocAttr, dd_UC, k11, h120, h121, k217, h243, k252, h257, h256]
            subst hK255
            refine eb_blk_n ?_
            refine eb_seq ?_
            refine rb_regionK fun K258 hK258 => ?_
            simp -implicitDefEqProofs only [vt, vm, ↓atI_fold, forall_const, implies_true, false_implies, sevalprocAttr, dd_UC, k11, h120, h121, k217, h243, k252, h257, h256]
            subst hK258
            obtain rfl := Option.some.inj h
            exact eb_nil ⟨rfl, Wk.of (fun i => if i = 1 then some 18 else if i = 0 then some 0 else some i) _ _ _ (by simp -implicitDefEqProofs [kv, km, dd_UC, k11, k217, k252]) (by simp -implicitDefEqProofs [kv, km, dd_UC, k11, k217, k252])⟩
        · refine rb_false (by first | exact congrArg D.bool k217 | rfl) ?_
          refine rb_exit ?_
          refine eb_seq_e ?_
          obtain rfl := Option.some.inj h
          exact eb_nil ⟨rfl, Wk.of (fun i => if i = 1 then some 1 else if i = 0 then some 0 else some i) _ _ _ (by simp -implicitDefEqProofs [kv, km, dd_UC, k11, k217]) (by simp -implicitDefEqProofs [kv, km, dd_UC, k11, k217])⟩
      · rcases e123 with e123 | e123
        · try dsimp only at h ⊢
          refine eb_blk_r ?_
          refine eb_seq_r ?_
          obtain rfl := Option.some.inj h
          refine eb_nil ?_
          simp -implicitDefEqProofs only [vt, vm, ↓atI_fold, forall_const, implies_true, false_implies, sevalprocAttr, retQ_r, Tryd.results75, dd_UC, k11, h120, h121] <;> first | rfl | (simp [List.map_append, dd_UC]; done)
        · try dsimp only at h ⊢
          refine eb_blk_hit ?_
          refine eb_seq ?_
          refine rb_seq ?_
          refine rb_drawK hI (by kernel_rfl) (by kernel_rfl) fun K276 hK276 => ?_
          simp -implicitDefEqProofs only [vt, vm, ↓atI_fold, forall_const, implies_true, false_implies, sevalprocAttr, dd_UC, k11, h120, h121]
          obtain ⟨y277, h278, h⟩ := bind_some h
          obtain ⟨h279, h280, h281⟩ := atI_own h278
          try simp only [Int.reduceToNat, Int.toNat_zero, Int.toNat_one] at h281
          simp -implicitDefEqProofs only [vt, vm, ↓atI_fold, forall_const, implies_true, false_implies, sevalprocAttr, dd_UC, k11, h120, h121, h279, h280, h281]
          obtain ⟨y282, h283, h⟩ := bind_some h
          obtain ⟨h284, h285, h286⟩ := atI_own h283
          try simp only [Int.reduceToNat, Int.toNat_zero, Int.toNat_one] at h286
          simp -implicitDefEqProofs only [vt, vm, ↓atI_fold, forall_const, implies_true, false_implies, sevalprocAttr, dd_UC, k11, h120, h121, h279, h280, h281, h284, h285, h286]
          obtain ⟨y287, h288, h⟩ := bind_some h
          obtain ⟨h289, h290, h291⟩ := atI_own h288
          try simp only [Int.reduceToNat, Int.toNat_zero, Int.toNat_one] at h291
          simp -implicitDefEqProofs only [vt, vm, ↓atI_fold, forall_const, implies_true, false_implies, sevalprocAttr, dd_UC, k11, h120, h121, h279, h280, h281, h284, h285, h286, h289, h290, h291]
          refine hD.intro (by kernel_rfl) ?_
          simp -implicitDefEqProofs only [vt, vm, ↓atI_fold, forall_const, implies_true, false_implies, sevalprocAttr, dd_UC, k11, h120, h121, h279, h280, h281, h284, h285, h286, h289, h290, h291]
          subst hK276
          refine eb_seq ?_
          refine rb_ret ?_
          obtain rfl := Option.some.inj h
          refine eb_nil ?_
          simp -implicitDefEqProofs only [vt, vm, ↓atI_fold, forall_const, implies_true, false_implies, sevalprocAttr, retQ_r, Tryd.results75, dd_UC, k11, h120, h121, h279, h280, h281, h284, h285, h286, h289, h290, h291] <;> first | rfl | (simp [List.map_append, dd_UC]; done)
-- captionerref41.Parse
def g_ref41_Parse_s1 (z25 : List (List UInt8)) (x30 : Int × (List T_api_Finding)) : Option (Nx (Int × (List T_api_Finding)) (Unit ⊕ ((List T_api_Finding)))) :=
  (if (decide (x30.1 < (z25.length : Int))) then ((atI z25 x30.1).bind fun y105 => ((g_ref41_finding y105).bind fun r111 => (if r111.2 then (if (x30.2.length + 1) * 32 ≤ 140737488355328 then (some (.go ((IntKind.i64.wrap (x30.1 + 1)), (x30.2 ++ [r111.1])))) else none) else (some (.out (.inl ())))))) else (some (.out (.inr x30.2))))
def g_ref41_Parse (s_0 : List UInt8) : Option ((List T_api_Finding) × Int) :=
  ((g_ref41_words s_0 10).bind fun r7 => ((atI r7 (IntKind.i64.wrap ((r7.length : Int) - 1))).bind fun y13 => (if (y13 == ([] : List UInt8)) then ((subH r7 (IntKind.i64.wrap ((r7.length : Int) - 1))).bind fun z25 => ((iter (g_ref41_Parse_s1 z25) (0, [])).bind fun e31 => (match e31 with | Sum.inl e31 => (some ([], 4)) | Sum.inr (e31) => (some (e31, 0))))) else (some ([], 4)))))
theorem a_ref41_Parse (I : World → Prop) (hI : Stab I) (s_0 : List UInt8) {r : (List T_api_Finding) × Int} (h : g_ref41_Parse s_0 = some r) : AFun Tryd.prog I 35 [.str s_0] (.tup [.sl (r.1.map T_api_Finding.d), .int .i64 r.2]) := by
  refine AFun.enterB hI Tryd.func35 rfl (by decide) (by simp [Tryd.f35]) (by kernel_rfl) ?_
  unfold g_ref41_Parse at h
  simp only [S0, Tryd.ntmps35, dd_UC]
  refine rb_seq ?_
  refine rb_regionK fun K2 hK2 => ?_
  simp -implicitDefEqProofs only [vt, vm, ↓atI_fold, forall_const, implies_true, false_implies, sevalprocAttr, dd_UC]
  subst hK2
  refine eb_seq ?_
  refine rb_seq ?_
  refine rb_regionK fun K6 hK6 => ?_
  simp -implicitDefEqProofs only [vt, vm, ↓atI_fold, forall_const, implies_true, false_implies, sevalprocAttr, dd_UC]
  obtain ⟨r7, h8, h⟩ := bind_some h
  refine cW.intro (a_ref41_words I hI s_0 10 h8) (by first | rfl | (simp [List.map_append, dd_UC]; done)) ?_
  simp -implicitDefEqProofs only [vt, vm, ↓atI_fold, forall_const, implies_true, false_implies, sevalprocAttr, dd_UC]
  subst hK6
  refine eb_seq ?_
  refine rb_seq ?_
  refine rb_seq ?_
  refine rb_regionK fun K12 hK12 => ?_
  simp -implicitDefEqProofs only [vt, vm, ↓atI_fold, forall_const, implies_true, false_implies, sevalprocAttr, dd_UC]
  obtain ⟨y13, h14, h⟩ := bind_some h
  simp -implicitDefEqProofs only [vt, vm, ↓atI_fold, forall_const, implies_true, false_implies, sevalprocAttr, dd_UC, h14]
  subst hK12
  refine eb_seq ?_
  rcases ite_or h with ⟨k15, h⟩ | ⟨k15, h⟩
  · refine rb_false (by first | exact congrArg D.bool (congrArg Bool.not k15) | rfl) ?_
    refine rb_skip ?_
    refine eb_seq ?_
    refine rb_seq ?_
    refine rb_regionK fun K17 hK17 => ?_
    simp -implicitDefEqProofs only [vt, vm, ↓atI_fold, forall_const, implies_true, false_implies, sevalprocAttr, dd_UC, h14, k15]
    subst hK17
    refine eb_seq ?_
    refine rb_seq ?_
    refine rb_seq ?_
    refine rb_regionK fun K24 hK24 => ?_
    simp -implicitDefEqProofs only [vt, vm, ↓atI_fold, forall_const, implies_true, false_implies, sevalprocAttr, dd_UC, h14, k15]
    obtain ⟨z25, h26, h⟩ := bind_some h
    obtain ⟨⟨h27, h28⟩, h29⟩ := subH_some h26
    try simp -implicitDefEqProofs only [vt, vm, ↓atI_fold, forall_const, implies_true, false_implies, sevalprocAttr, dd_UC, h14, k15, h27, h28] at h29
    simp -implicitDefEqProofs only [vt, vm, ↓atI_fold, forall_const, implies_true, false_implies, sevalprocAttr, dd_UC, h14, k15, h27, h28, h29]
    subst hK24
    refine eb_seq ?_
    refine rb_block ?_
    obtain ⟨e31, h122, h⟩ := bind_some h
    refine rb_loop (fun x30 => ⟨envL [(5, .own 0 x30.2.length), (24, .sl (z25.map D.str)), (25, .int .i64 (z25.length : Int)), (26, .int .i64 x30.1)], heapL [(0, .vec 48 4 (x30.2.map T_api_Finding.d) false)], 1, 43⟩) (fun w => match w with | Sum.inl _ => .ret | Sum.inr (_) => .exit 0) (fun w => match w with | Sum.inl e31 => ⟨envL [(2, .nils), (3, .int .i64 4)], heapL [], 0, 43⟩ | Sum.inr (e31) => ⟨envL [(5, .own 0 e31.length)], heapL [(0, .vec 48 4 (e31.map T_api_Finding.d) false)], 1, 43⟩) h122 (Wk.of (fun i => if i = 0 then some 12 else some i) _ _ _ (by simp -implicitDefEqProofs [kv, km, dd_UC, k15]) (by simp -implicitDefEqProofs [kv, km, dd_UC, k15])) (by intro w; rcases w with w | w <;> simp) ?_ ?_
    · clear h
      intro x30 y h
      unfold g_ref41_Parse_s1 at h
      refine rb_seq ?_
      refine rb_regionK fun K78 hK78 => ?_
      simp -implicitDefEqProofs only [vt, vm, ↓atI_fold, forall_const, implies_true, false_implies, sevalprocAttr, dd_UC, h14, k15, h27, h28, h29]
      subst hK78
      refine eb_seq ?_
      refine rb_seq ?_
      rcases ite_or h with ⟨k80, h⟩ | ⟨k80, h⟩
      · refine rb_true (by first | exact congrArg D.bool k80 | rfl) ?_
        refine rb_skip ?_
        refine eb_seq ?_
        refine rb_seq ?_
        refine rb_block ?_
        refine rb_seq ?_
        refine rb_regionK fun K104 hK104 => ?_
        simp -implicitDefEqProofs only [vt, vm, ↓atI_fold, forall_const, implies_true, false_implies, sevalprocAttr, dd_UC, h14, k15, h27, h28, h29, k80]
        obtain ⟨y105, h106, h⟩ := bind_some h
        simp -implicitDefEqProofs only [vt, vm, ↓atI_fold, forall_const, implies_true, false_implies, sevalprocAttr, dd_UC, h14, k15, h27, h28, h29, k80, h106]
        subst hK104
        refine eb_seq ?_
        refine rb_seq ?_
        refine rb_regionK fun K110 hK110 => ?_
        simp -implicitDefEqProofs only [vt, vm, ↓atI_fold, forall_const, implies_true, false_implies, sevalprocAttr, dd_UC, h14, k15, h27, h28, h29, k80, h106]
        obtain ⟨r111, h112, h⟩ := bind_some h
        refine cW.intro (a_ref41_finding I hI y105 h112) (by first | rfl | (simp [List.map_append, dd_UC]; done)) ?_
        simp -implicitDefEqProofs only [vt, vm, ↓atI_fold, forall_const, implies_true, false_implies, sevalprocAttr, dd_UC, h14, k15, h27, h28, h29, k80, h106]
        subst hK110
        refine eb_seq ?_
        refine rb_seq ?_
        refine rb_seq ?_
        refine rb_regionK fun K114 hK114 => ?_
        simp -implicitDefEqProofs only [vt, vm, ↓atI_fold, forall_const, implies_true, false_implies, sevalprocAttr, dd_UC, h14, k15, h27, h28, h29, k80, h106]
        subst hK114
        refine eb_seq ?_
        rcases ite_or h with ⟨k115, h⟩ | ⟨k115, h⟩
        · refine rb_false (by first | exact congrArg D.bool (congrArg Bool.not k115) | rfl) ?_
          refine rb_skip ?_
          refine eb_seq ?_
          refine rb_regionK fun K116 hK116 => ?_
          simp -implicitDefEqProofs only [vt, vm, ↓atI_fold, forall_const, implies_true, false_implies, sevalprocAttr, dd_UC, h14, k15, h27, h28, h29, k80, h106, k115]
          obtain ⟨h117, h⟩ := ite_on h
          have h118 : x30.2.length + 1 ≤ 9223372036854775807 := by omega
          try simp only [Nat.reduceLeDiff] at h118
          simp -implicitDefEqProofs only [vt, vm, ↓atI_fold, forall_const, implies_true, false_implies, sevalprocAttr, dd_UC, h14, k15, h27, h28, h29, k80, h106, k115, h118, h117]
          subst hK116
          refine eb_blk_n ?_
          refine eb_seq ?_
          refine rb_regionK fun K119 hK119 => ?_
          simp -implicitDefEqProofs only [vt, vm, ↓atI_fold, forall_const, implies_true, false_implies, sevalprocAttr, dd_UC, h14, k15, h27, h28, h29, k80, h106, k115, h118, h117]
          subst hK119
          obtain rfl := Option.some.inj h
          exact eb_nil ⟨rfl, Wk.of (fun i => if i = 0 then some 18 else some i) _ _ _ (by simp -implicitDefEqProofs [kv, km, dd_UC, k15, k80, k115]) (by simp -implicitDefEqProofs [kv, km, dd_UC, k15, k80, k115])⟩
        · refine rb_true (by first | exact congrArg D.bool (congrArg Bool.not k115) | rfl) ?_
          refine rb_seq ?_
          refine rb_regionK fun K121 hK121 => ?_
          simp -implicitDefEqProofs only [vt, vm, ↓atI_fold, forall_const, implies_true, false_implies, sevalprocAttr, dd_UC, h14, k15, h27, h28, h29, k80, h106, k115]
          subst hK121
          refine eb_seq ?_
          refine rb_ret ?_
          refine eb_seq_r ?_
          refine eb_blk_r ?_
          refine eb_seq_r ?_
          obtain rfl := Option.some.inj h
          exact eb_nil ⟨rfl, Wk.of (fun i => some i) _ _ _ (by simp -implicitDefEqProofs [kv, km, dd_UC, k15, k80, k115]) (by simp -implicitDefEqProofs [kv, km, dd_UC, k15, k80, k115])⟩
      · refine rb_false (by first | exact congrArg D.bool k80 | rfl) ?_
        refine rb_exit ?_
        refine eb_seq_e ?_
        obtain rfl := Option.some.inj h
        exact eb_nil ⟨rfl, Wk.of (fun i => if i = 0 then some 0 else some i) _ _ _ (by simp -implicitDefEqProofs [kv, km, dd_UC, k15, k80]) (by simp -implicitDefEqProofs [kv, km, dd_UC, k15, k80])⟩
    · rcases e31 with e31 | e31
      · try dsimp only at h ⊢
        refine eb_blk_r ?_
        refine eb_seq_r ?_
        obtain rfl := Option.some.inj h
        refine eb_nil ?_
        simp -implicitDefEqProofs only [vt, vm, ↓atI_fold, forall_const, implies_true, false_implies, sevalprocAttr, retQ_r, Tryd.results35, dd_UC, h14, k15, h27, h28, h29] <;> first | rfl | (simp [List.map_append, dd_UC]; done)
      · try dsimp only at h ⊢
        refine eb_blk_hit ?_
        refine eb_seq ?_
        refine rb_seq ?_
        refine rb_regionK fun K124 hK124 => ?_
        simp -implicitDefEqProofs only [vt, vm, ↓atI_fold, forall_const, implies_true, false_implies, sevalprocAttr, dd_UC, h14, k15, h27, h28, h29]
        subst hK124
        refine eb_seq ?_
        refine rb_ret ?_
        obtain rfl := Option.some.inj h
        refine eb_nil ?_
        simp -implicitDefEqProofs only [vt, vm, ↓atI_fold, forall_const, implies_true, false_implies, sevalprocAttr, retQ_r, Tryd.results35, dd_UC, h14, k15, h27, h28, h29] <;> first | rfl | (simp [List.map_append, dd_UC]; done)
  · refine rb_true (by first | exact congrArg D.bool (congrArg Bool.not k15) | rfl) ?_
    refine rb_seq ?_
    refine rb_regionK fun K126 hK126 => ?_
    simp -implicitDefEqProofs only [vt, vm, ↓atI_fold, forall_const, implies_true, false_implies, sevalprocAttr, dd_UC, h14, k15]
    subst hK126
    refine eb_seq ?_
    refine rb_ret ?_
    refine eb_seq_r ?_
    obtain rfl := Option.some.inj h
    refine eb_nil ?_
    simp -implicitDefEqProofs only [vt, vm, ↓atI_fold, forall_const, implies_true, false_implies, sevalprocAttr, retQ_r, Tryd.results35, dd_UC, h14, k15] <;> first | rfl | (simp [List.map_append, dd_UC]; done)
-- captionerlaw41.RulesParses
def g_law41_RulesParses (s_0 : List UInt8) : Option (Bool) :=
  ((g_law41_awake).bind fun r7 => (if r7 then ((subH s_0 (if 300 < (s_0.length : Int) then 300 else (s_0.length : Int))).bind fun z17 => ((g_rules_Parse z17).bind fun r26 => ((g_ref41_Parse z17).bind fun r32 => ((((g_slices_Equal_api_Finding_api_Finding r26.1 r32.1).bind fun r40 => (if r40 then (some (r26.2 != r32.2)) else (some true))) : Option (Bool)).bind fun v38 => (if v38 then (some false) else (if (r26.2 != 0) then (some true) else ((g_rules_Text r26.1).bind fun r56 => (if (r56.2 == 0) then (some (r56.1 == z17)) else (some false))))))))) else (some false)))
theorem a_law41_RulesParses (I : World → Prop) (hI : Stab I) (hPIv : ∀ w, I w → PIv w) (hShp : ∀ w, I w → Shp w) (hTab : ∀ w, I w → Tab w) (s_0 : List UInt8) {r : Bool} (h : g_law41_RulesParses s_0 = some r) : AFun Tryd.prog I 10 [.str s_0] (.bool r) := by
  refine AFun.enterB hI Tryd.func10 rfl (by decide) (by simp [Tryd.f10]) (by kernel_rfl) ?_
  unfold g_law41_RulesParses at h
  simp only [S0, Tryd.ntmps10, dd_UC]
  refine rb_seq ?_
  refine rb_regionK fun K2 hK2 => ?_
  simp -implicitDefEqProofs only [vt, vm, ↓atI_fold, forall_const, implies_true, false_implies, sevalprocAttr, dd_UC]
  subst hK2
  refine eb_seq ?_
  refine rb_seq ?_
  refine rb_seq ?_
  refine rb_regionK fun K6 hK6 => ?_
  simp -implicitDefEqProofs only [vt, vm, ↓atI_fold, forall_const, implies_true, false_implies, sevalprocAttr, dd_UC]
  obtain ⟨r7, h8, h⟩ := bind_some h
  refine cW.intro (a_law41_awake I hI hTab h8) (by first | rfl | (simp [List.map_append, dd_UC]; done)) ?_
  simp -implicitDefEqProofs only [vt, vm, ↓atI_fold, forall_const, implies_true, false_implies, sevalprocAttr, dd_UC]
  subst hK6
  refine eb_seq ?_
  rcases ite_or h with ⟨k9, h⟩ | ⟨k9, h⟩
  · refine rb_false (by first | exact congrArg D.bool (congrArg Bool.not k9) | rfl) ?_
    refine rb_skip ?_
    refine eb_seq ?_
    refine rb_seq ?_
    refine rb_regionK fun K16 hK16 => ?_
    simp -implicitDefEqProofs only [vt, vm, ↓atI_fold, forall_const, implies_true, false_implies, sevalprocAttr, dd_UC, k9]
    obtain ⟨z17, h18, h⟩ := bind_some h
    obtain ⟨⟨h19, h20⟩, h21⟩ := subH_some h18
    try simp -implicitDefEqProofs only [vt, vm, ↓atI_fold, forall_const, implies_true, false_implies, sevalprocAttr, dd_UC, k9, h19, h20] at h21
    simp -implicitDefEqProofs only [vt, vm, ↓atI_fold, forall_const, implies_true, false_implies, sevalprocAttr, dd_UC, k9, h19, h20, h21]
    subst hK16
    refine eb_seq ?_
    refine rb_seq ?_
    refine rb_regionK fun K25 hK25 => ?_
    simp -implicitDefEqProofs only [vt, vm, ↓atI_fold, forall_const, implies_true, false_implies, sevalprocAttr, dd_UC, k9, h19, h20, h21]
    obtain ⟨r26, h27, h⟩ := bind_some h
    refine cW.intro (a_rules_Parse I hI hPIv hShp z17 h27) (by first | rfl | (simp [List.map_append, dd_UC]; done)) ?_
    simp -implicitDefEqProofs only [vt, vm, ↓atI_fold, forall_const, implies_true, false_implies, sevalprocAttr, dd_UC, k9, h19, h20, h21]
    subst hK25
    refine eb_seq ?_
    refine rb_seq ?_
    refine rb_regionK fun K31 hK31 => ?_
    simp -implicitDefEqProofs only [vt, vm, ↓atI_fold, forall_const, implies_true, false_implies, sevalprocAttr, dd_UC, k9, h19, h20, h21]
    obtain ⟨r32, h33, h⟩ := bind_some h
    refine cW.intro (a_ref41_Parse I hI z17 h33) (by first | rfl | (simp [List.map_append, dd_UC]; done)) ?_
    simp -implicitDefEqProofs only [vt, vm, ↓atI_fold, forall_const, implies_true, false_implies, sevalprocAttr, dd_UC, k9, h19, h20, h21]
    subst hK31
    refine eb_seq ?_
    refine rb_seq ?_
    obtain ⟨v38, h43, h⟩ := bind_some h
    refine rb_cut (fun v38 => ⟨envL [(0, .str z17), (3, .sl (r26.1.map T_api_Finding.d)), (4, .int .i64 r26.2), (34, .bool v38)], heapL [], 0, 49⟩) h43 ?_ ?_
    · clear h
      intro v38 h
      refine rb_regionK fun K39 hK39 => ?_
      simp -implicitDefEqProofs only [vt, vm, ↓atI_fold, forall_const, implies_true, false_implies, sevalprocAttr, dd_UC, k9, h19, h20, h21]
      obtain ⟨r40, h41, h⟩ := bind_some h
      refine cW.intro (a_slices_Equal_api_Finding_api_Finding I hI r26.1 r32.1 h41) (by first | rfl | (simp [List.map_append, dd_UC]; done)) ?_
      simp -implicitDefEqProofs only [vt, vm, ↓atI_fold, forall_const, implies_true, false_implies, sevalprocAttr, dd_UC, k9, h19, h20, h21]
      rcases ite_or h with ⟨k42, h⟩ | ⟨k42, h⟩
      · simp -implicitDefEqProofs only [vt, vm, ↓atI_fold, forall_const, implies_true, false_implies, sevalprocAttr, dd_UC, k9, h19, h20, h21, k42]
        subst hK39
        obtain rfl := Option.some.inj h
        exact eb_nil ⟨rfl, Wk.of (fun i => some i) _ _ _ (by simp -implicitDefEqProofs [kv, km, dd_UC, k9, k42]) (by simp -implicitDefEqProofs [kv, km, dd_UC, k9, k42])⟩
      · simp -implicitDefEqProofs only [vt, vm, ↓atI_fold, forall_const, implies_true, false_implies, sevalprocAttr, dd_UC, k9, h19, h20, h21, k42]
        subst hK39
        obtain rfl := Option.some.inj h
        exact eb_nil ⟨rfl, Wk.of (fun i => some i) _ _ _ (by simp -implicitDefEqProofs [kv, km, dd_UC, k9, k42]) (by simp -implicitDefEqProofs [kv, km, dd_UC, k9, k42])⟩
    · rcases ite_or h with ⟨k44, h⟩ | ⟨k44, h⟩
      · refine rb_true (by first | exact congrArg D.bool k44 | rfl) ?_
        refine rb_seq ?_
        refine rb_regionK fun K46 hK46 => ?_
        simp -implicitDefEqProofs only [vt, vm, ↓atI_fold, forall_const, implies_true, false_implies, sevalprocAttr, dd_UC, k9, h19, h20, h21, k44]
        subst hK46
        refine eb_seq ?_
        refine rb_ret ?_
        refine eb_seq_r ?_
        obtain rfl := Option.some.inj h
        refine eb_nil ?_
        simp -implicitDefEqProofs only [vt, vm, ↓atI_fold, forall_const, implies_true, false_implies, sevalprocAttr, retQ_r, Tryd.results10, dd_UC, k9, h19, h20, h21, k44] <;> first | rfl | (simp [List.map_append, dd_UC]; done)
      · refine rb_false (by first | exact congrArg D.bool k44 | rfl) ?_
        refine rb_skip ?_
        refine eb_seq ?_
        refine rb_seq ?_
        refine rb_seq ?_
        refine rb_regionK fun K48 hK48 => ?_
        simp -implicitDefEqProofs only [vt, vm, ↓atI_fold, forall_const, implies_true, false_implies, sevalprocAttr, dd_UC, k9, h19, h20, h21, k44]
        subst hK48
        refine eb_seq ?_
        rcases ite_or h with ⟨k49, h⟩ | ⟨k49, h⟩
        · refine rb_true (by first | exact congrArg D.bool k49 | rfl) ?_
          refine rb_seq ?_
          refine rb_regionK fun K51 hK51 => ?_
          simp -implicitDefEqProofs only [vt, vm, ↓atI_fold, forall_const, implies_true, false_implies, sevalprocAttr, dd_UC, k9, h19, h20, h21, k44, k49]
          subst hK51
          refine eb_seq ?_
          refine rb_ret ?_
          refine eb_seq_r ?_
          obtain rfl := Option.some.inj h
          refine eb_nil ?_
          simp -implicitDefEqProofs only [vt, vm, ↓atI_fold, forall_const, implies_true, false_implies, sevalprocAttr, retQ_r, Tryd.results10, dd_UC, k9, h19, h20, h21, k44, k49] <;> first | rfl | (simp [List.map_append, dd_UC]; done)
        · refine rb_false (by first | exact congrArg D.bool k49 | rfl) ?_
          refine rb_skip ?_
          refine eb_seq ?_
          refine rb_seq ?_
          refine rb_regionK fun K55 hK55 => ?_
          simp -implicitDefEqProofs only [vt, vm, ↓atI_fold, forall_const, implies_true, false_implies, sevalprocAttr, dd_UC, k9, h19, h20, h21, k44, k49]
          obtain ⟨r56, h57, h⟩ := bind_some h
          refine cW.intro (a_rules_Text I hI hTab r26.1 h57) (by first | rfl | (simp [List.map_append, dd_UC]; done)) ?_
          simp -implicitDefEqProofs only [vt, vm, ↓atI_fold, forall_const, implies_true, false_implies, sevalprocAttr, dd_UC, k9, h19, h20, h21, k44, k49]
          subst hK55
          refine eb_seq ?_
          refine rb_seq ?_
          refine rb_regionK fun K60 hK60 => ?_
          simp -implicitDefEqProofs only [vt, vm, ↓atI_fold, forall_const, implies_true, false_implies, sevalprocAttr, dd_UC, k9, h19, h20, h21, k44, k49]
          rcases ite_or h with ⟨k61, h⟩ | ⟨k61, h⟩
          · simp -implicitDefEqProofs only [vt, vm, ↓atI_fold, forall_const, implies_true, false_implies, sevalprocAttr, dd_UC, k9, h19, h20, h21, k44, k49, k61]
            subst hK60
            refine eb_seq ?_
            refine rb_ret ?_
            obtain rfl := Option.some.inj h
            refine eb_nil ?_
            simp -implicitDefEqProofs only [vt, vm, ↓atI_fold, forall_const, implies_true, false_implies, sevalprocAttr, retQ_r, Tryd.results10, dd_UC, k9, h19, h20, h21, k44, k49, k61] <;> first | rfl | (simp [List.map_append, dd_UC]; done)
          · simp -implicitDefEqProofs only [vt, vm, ↓atI_fold, forall_const, implies_true, false_implies, sevalprocAttr, dd_UC, k9, h19, h20, h21, k44, k49, k61]
            subst hK60
            refine eb_seq ?_
            refine rb_ret ?_
            obtain rfl := Option.some.inj h
            refine eb_nil ?_
            simp -implicitDefEqProofs only [vt, vm, ↓atI_fold, forall_const, implies_true, false_implies, sevalprocAttr, retQ_r, Tryd.results10, dd_UC, k9, h19, h20, h21, k44, k49, k61] <;> first | rfl | (simp [List.map_append, dd_UC]; done)
  · refine rb_true (by first | exact congrArg D.bool (congrArg Bool.not k9) | rfl) ?_
    refine rb_seq ?_
    refine rb_regionK fun K63 hK63 => ?_
    simp -implicitDefEqProofs only [vt, vm, ↓atI_fold, forall_const, implies_true, false_implies, sevalprocAttr, dd_UC, k9]
    subst hK63
    refine eb_seq ?_
    refine rb_ret ?_
    refine eb_seq_r ?_
    obtain rfl := Option.some.inj h
    refine eb_nil ?_
    simp -implicitDefEqProofs only [vt, vm, ↓atI_fold, forall_const, implies_true, false_implies, sevalprocAttr, retQ_r, Tryd.results10, dd_UC, k9] <;> first | rfl | (simp [List.map_append, dd_UC]; done)
end Go.Proofs.YtipdmcpmedmicaaDoor
