/- What some functions compute, read off their texts by a program of mine (gen.py): definitions, and contracts (the text computes it). No condition but that the definition answers. -/
import Derived.Test.YtipdmcpmedmicaaDoorGu
import Derived.Test.YtipdmcpmedmicaaDoorGB
import Derived.Test.YtipdmcpmedmicaaDoorGf
namespace Go.Proofs.YtipdmcpmedmicaaDoor
open Go.RowKit
set_option maxRecDepth 100000
set_option linter.unusedVariables false
set_option linter.unusedSimpArgs false
set_option maxHeartbeats 10000000
structure T_timebase_rate where
  name_ : List UInt8
  ticks_ : Int
  nominal_ : Int
  drop_ : Bool
  deriving DecidableEq
def T_timebase_rate.d (x : T_timebase_rate) : D := .agg [.str x.name_, .int .i64 x.ticks_, .int .i64 x.nominal_, .bool x.drop_]
structure T_api_Profile where
  Name : List UInt8
  Reading : Int
  MinFrames : Int
  MaxFrames : Int
  MinGap : Int
  ShotBefore : Int
  ShotAfter : Int
  Rows : Int
  Cols : Int
  Forbidden : List UInt8
  SafeTop : Int
  SafeBottom : Int
  SafeLeft : Int
  SafeRight : Int
  deriving DecidableEq
def T_api_Profile.d (x : T_api_Profile) : D := .agg [.str x.Name, .int .i64 x.Reading, .int .i64 x.MinFrames, .int .i64 x.MaxFrames, .int .i64 x.MinGap, .int .i64 x.ShotBefore, .int .i64 x.ShotAfter, .int .i64 x.Rows, .int .i64 x.Cols, .str x.Forbidden, .int .i64 x.SafeTop, .int .i64 x.SafeBottom, .int .i64 x.SafeLeft, .int .i64 x.SafeRight]
structure T_api_Region where
  Name : List UInt8
  Top : Int
  Height : Int
  Left : Int
  Width : Int
  Align : Int
  Bottom : Bool
  deriving DecidableEq
def T_api_Region.d (x : T_api_Region) : D := .agg [.str x.Name, .int .i64 x.Top, .int .i64 x.Height, .int .i64 x.Left, .int .i64 x.Width, .int .u8 x.Align, .bool x.Bottom]
structure T_api_Span where
  In : Int
  Out : Int
  deriving DecidableEq
def T_api_Span.d (x : T_api_Span) : D := .agg [.int .i64 x.In, .int .i64 x.Out]
structure T_api_Style where
  Color : Int
  Italic : Bool
  Underline : Bool
  deriving DecidableEq
def T_api_Style.d (x : T_api_Style) : D := .agg [.int .u8 x.Color, .bool x.Italic, .bool x.Underline]
structure T_api_Run where
  Text : List UInt8
  Style : T_api_Style
  Ruby : List UInt8
  deriving DecidableEq
def T_api_Run.d (x : T_api_Run) : D := .agg [.str x.Text, .int .u8 x.Style.Color, .bool x.Style.Italic, .bool x.Style.Underline, .str x.Ruby]
structure T_api_Row where
  Runs : List T_api_Run
  deriving DecidableEq
def T_api_Row.d (x : T_api_Row) : D := .agg [.sl (x.Runs.map T_api_Run.d)]
structure T_api_Event where
  ID : Int
  Span : T_api_Span
  Region : List UInt8
  Kind : Int
  Speaker : List UInt8
  Rows : List T_api_Row
  deriving DecidableEq
def T_api_Event.d (x : T_api_Event) : D := .agg [.int .i64 x.ID, .int .i64 x.Span.In, .int .i64 x.Span.Out, .str x.Region, .int .u8 x.Kind, .str x.Speaker, .sl (x.Rows.map T_api_Row.d)]
structure T_api_Comment where
  ID : Int
  Event : Int
  From : Int
  To : Int
  Author : List UInt8
  Text : List UInt8
  Done : Bool
  Lost : Bool
  deriving DecidableEq
def T_api_Comment.d (x : T_api_Comment) : D := .agg [.int .i64 x.ID, .int .i64 x.Event, .int .i64 x.From, .int .i64 x.To, .str x.Author, .str x.Text, .bool x.Done, .bool x.Lost]
structure T_api_Document where
  Title : List UInt8
  Lang : List UInt8
  Rate : Int
  Drop : Bool
  Last : Int
  Regions : List T_api_Region
  Events : List T_api_Event
  Comments : List T_api_Comment
  deriving DecidableEq
def T_api_Document.d (x : T_api_Document) : D := .agg [.str x.Title, .str x.Lang, .int .u8 x.Rate, .bool x.Drop, .int .i64 x.Last, .sl (x.Regions.map T_api_Region.d), .sl (x.Events.map T_api_Event.d), .sl (x.Comments.map T_api_Comment.d)]
structure T_profile_limit where
  n_ : Int
  lo_ : Int
  hi_ : Int
  deriving DecidableEq
def T_profile_limit.d (x : T_profile_limit) : D := .agg [.int .i64 x.n_, .int .i64 x.lo_, .int .i64 x.hi_]
theorem dd_HA : (∀ x, T_timebase_rate.d x = .agg [.str x.name_, .int .i64 x.ticks_, .int .i64 x.nominal_, .bool x.drop_]) ∧ (∀ x, T_api_Profile.d x = .agg [.str x.Name, .int .i64 x.Reading, .int .i64 x.MinFrames, .int .i64 x.MaxFrames, .int .i64 x.MinGap, .int .i64 x.ShotBefore, .int .i64 x.ShotAfter, .int .i64 x.Rows, .int .i64 x.Cols, .str x.Forbidden, .int .i64 x.SafeTop, .int .i64 x.SafeBottom, .int .i64 x.SafeLeft, .int .i64 x.SafeRight]) ∧ (∀ x, T_api_Region.d x = .agg [.str x.Name, .int .i64 x.Top, .int .i64 x.Height, .int .i64 x.Left, .int .i64 x.Width, .int .u8 x.Align, .bool x.Bottom]) ∧ (∀ x, T_api_Span.d x = .agg [.int .i64 x.In, .int .i64 x.Out]) ∧ (∀ x, T_api_Style.d x = .agg [.int .u8 x.Color, .bool x.Italic, .bool x.Underline]) ∧ (∀ x, T_api_Run.d x = .agg [.str x.Text, .int .u8 x.Style.Color, .bool x.Style.Italic, .bool x.Style.Underline, .str x.Ruby]) ∧ (∀ x, T_api_Row.d x = .agg [.sl (x.Runs.map T_api_Run.d)]) ∧ (∀ x, T_api_Event.d x = .agg [.int .i64 x.ID, .int .i64 x.Span.In, .int .i64 x.Span.Out, .str x.Region, .int .u8 x.Kind, .str x.Speaker, .sl (x.Rows.map T_api_Row.d)]) ∧ (∀ x, T_api_Comment.d x = .agg [.int .i64 x.ID, .int .i64 x.Event, .int .i64 x.From, .int .i64 x.To, .str x.Author, .str x.Text, .bool x.Done, .bool x.Lost]) ∧ (∀ x, T_api_Document.d x = .agg [.str x.Title, .str x.Lang, .int .u8 x.Rate, .bool x.Drop, .int .i64 x.Last, .sl (x.Regions.map T_api_Region.d), .sl (x.Events.map T_api_Event.d), .sl (x.Comments.map T_api_Comment.d)]) ∧ (∀ x, T_profile_limit.d x = .agg [.int .i64 x.n_, .int .i64 x.lo_, .int .i64 x.hi_]) := ⟨fun _ => rfl, fun _ => rfl, fun _ => rfl, fun _ => rfl, fun _ => rfl, fun _ => rfl, fun _ => rfl, fun _ => rfl, fun _ => rfl, fun _ => rfl, fun _ => rfl⟩
-- timebase.of
def g_timebase_of (r_0 : Int) : Option (T_timebase_rate) :=
  (if (decide (8 ≤ (IntKind.i64.wrap r_0))) then (some (T_timebase_rate.mk [] 0 0 false)) else (if r_0 == 0 then (some (T_timebase_rate.mk [] 0 0 false)) else (if r_0 == 1 then (some (T_timebase_rate.mk [50, 51, 46, 57, 55, 54] 5005 24 false)) else (if r_0 == 2 then (some (T_timebase_rate.mk [50, 52] 5000 24 false)) else (if r_0 == 3 then (some (T_timebase_rate.mk [50, 53] 4800 25 false)) else (if r_0 == 4 then (some (T_timebase_rate.mk [50, 57, 46, 57, 55] 4004 30 true)) else (if r_0 == 5 then (some (T_timebase_rate.mk [51, 48] 4000 30 false)) else (if r_0 == 6 then (some (T_timebase_rate.mk [53, 48] 2400 50 false)) else (if r_0 == 7 then (some (T_timebase_rate.mk [53, 57, 46, 57, 52] 2002 60 true)) else none)))))))))
theorem a_timebase_of (I : World → Prop) (hI : Stab I) (r_0 : Int) {r : T_timebase_rate} (h : g_timebase_of r_0 = some r) : AFun Tryd.prog I 77 [.int .u8 r_0] (T_timebase_rate.d r) := by
  refine AFun.enterB hI Tryd.func77 rfl (by decide) (by simp [Tryd.f77]) (by kernel_rfl) ?_
  unfold g_timebase_of at h
  simp only [S0, Tryd.ntmps77, dd_HA]
  refine rb_seq ?_
  refine rb_regionK fun K2 hK2 => ?_
  simp -implicitDefEqProofs only [vt, vm, ↓atI_fold, forall_const, implies_true, sevalprocAttr, dd_HA]
  subst hK2
  refine eb_seq ?_
  refine rb_seq ?_
  refine rb_regionK fun K4 hK4 => ?_
  simp -implicitDefEqProofs only [vt, vm, ↓atI_fold, forall_const, implies_true, sevalprocAttr, dd_HA]
  subst hK4
  refine eb_seq ?_
  refine rb_seq ?_
  refine rb_seq ?_
  refine rb_regionK fun K6 hK6 => ?_
  simp -implicitDefEqProofs only [vt, vm, ↓atI_fold, forall_const, implies_true, sevalprocAttr, dd_HA]
  subst hK6
  refine eb_seq ?_
  rcases ite_or h with ⟨k7, h⟩ | ⟨k7, h⟩
  · refine rb_true (by first | exact congrArg D.bool k7 | rfl) ?_
    refine rb_seq ?_
    refine rb_regionK fun K9 hK9 => ?_
    simp -implicitDefEqProofs only [vt, vm, ↓atI_fold, forall_const, implies_true, sevalprocAttr, dd_HA, k7]
    subst hK9
    refine eb_seq ?_
    refine rb_ret ?_
    refine eb_seq_r ?_
    obtain rfl := Option.some.inj h
    refine eb_nil ?_
    simp -implicitDefEqProofs only [vt, vm, ↓atI_fold, forall_const, implies_true, sevalprocAttr, retQ_r, Tryd.results77, dd_HA, k7] <;> first | rfl | (simp [List.map_append, dd_HA]; done)
  · refine rb_false (by first | exact congrArg D.bool k7 | rfl) ?_
    refine rb_skip ?_
    refine eb_seq ?_
    refine rb_seq ?_
    refine rb_regionK fun K19 hK19 => ?_
    simp -implicitDefEqProofs only [vt, vm, ↓atI_fold, forall_const, implies_true, sevalprocAttr, dd_HA, k7]
    rcases ite_or h with ⟨k20, h⟩ | ⟨_, h⟩
    · simp only [beq_iff_eq] at k20
      simp -implicitDefEqProofs only [vt, vm, ↓atI_fold, forall_const, implies_true, sevalprocAttr, dd_HA, k7, k20]
      subst hK19
      refine eb_seq ?_
      refine rb_ret ?_
      obtain rfl := Option.some.inj h
      refine eb_nil ?_
      simp -implicitDefEqProofs only [vt, vm, ↓atI_fold, forall_const, implies_true, sevalprocAttr, retQ_r, Tryd.results77, dd_HA, k7, k20] <;> first | rfl | (simp [List.map_append, dd_HA]; done)
    · rcases ite_or h with ⟨k21, h⟩ | ⟨_, h⟩
      · simp only [beq_iff_eq] at k21
        simp -implicitDefEqProofs only [vt, vm, ↓atI_fold, forall_const, implies_true, sevalprocAttr, dd_HA, k7, k21]
        subst hK19
        refine eb_seq ?_
        refine rb_ret ?_
        obtain rfl := Option.some.inj h
        refine eb_nil ?_
        simp -implicitDefEqProofs only [vt, vm, ↓atI_fold, forall_const, implies_true, sevalprocAttr, retQ_r, Tryd.results77, dd_HA, k7, k21] <;> first | rfl | (simp [List.map_append, dd_HA]; done)
      · rcases ite_or h with ⟨k22, h⟩ | ⟨_, h⟩
        · simp only [beq_iff_eq] at k22
          simp -implicitDefEqProofs only [vt, vm, ↓atI_fold, forall_const, implies_true, sevalprocAttr, dd_HA, k7, k22]
          subst hK19
          refine eb_seq ?_
          refine rb_ret ?_
          obtain rfl := Option.some.inj h
          refine eb_nil ?_
          simp -implicitDefEqProofs only [vt, vm, ↓atI_fold, forall_const, implies_true, sevalprocAttr, retQ_r, Tryd.results77, dd_HA, k7, k22] <;> first | rfl | (simp [List.map_append, dd_HA]; done)
        · rcases ite_or h with ⟨k23, h⟩ | ⟨_, h⟩
          · simp only [beq_iff_eq] at k23
            simp -implicitDefEqProofs only [vt, vm, ↓atI_fold, forall_const, implies_true, sevalprocAttr, dd_HA, k7, k23]
            subst hK19
            refine eb_seq ?_
            refine rb_ret ?_
            obtain rfl := Option.some.inj h
            refine eb_nil ?_
            simp -implicitDefEqProofs only [vt, vm, ↓atI_fold, forall_const, implies_true, sevalprocAttr, retQ_r, Tryd.results77, dd_HA, k7, k23] <;> first | rfl | (simp [List.map_append, dd_HA]; done)
          · rcases ite_or h with ⟨k24, h⟩ | ⟨_, h⟩
            · simp only [beq_iff_eq] at k24
              simp -implicitDefEqProofs only [vt, vm, ↓atI_fold, forall_const, implies_true, sevalprocAttr, dd_HA, k7, k24]
              subst hK19
              refine eb_seq ?_
              refine rb_ret ?_
              obtain rfl := Option.some.inj h
              refine eb_nil ?_
              simp -implicitDefEqProofs only [vt, vm, ↓atI_fold, forall_const, implies_true, sevalprocAttr, retQ_r, Tryd.results77, dd_HA, k7, k24] <;> first | rfl | (simp [List.map_append, dd_HA]; done)
            · rcases ite_or h with ⟨k25, h⟩ | ⟨_, h⟩
              · simp only [beq_iff_eq] at k25
                simp -implicitDefEqProofs only [vt, vm, ↓atI_fold, forall_const, implies_true, sevalprocAttr, dd_HA, k7, k25]
                subst hK19
                refine eb_seq ?_
                refine rb_ret ?_
                obtain rfl := Option.some.inj h
                refine eb_nil ?_
                simp -implicitDefEqProofs only [vt, vm, ↓atI_fold, forall_const, implies_true, sevalprocAttr, retQ_r, Tryd.results77, dd_HA, k7, k25] <;> first | rfl | (simp [List.map_append, dd_HA]; done)
              · rcases ite_or h with ⟨k26, h⟩ | ⟨_, h⟩
                · simp only [beq_iff_eq] at k26
                  simp -implicitDefEqProofs only [vt, vm, ↓atI_fold, forall_const, implies_true, sevalprocAttr, dd_HA, k7, k26]
                  subst hK19
                  refine eb_seq ?_
                  refine rb_ret ?_
                  obtain rfl := Option.some.inj h
                  refine eb_nil ?_
                  simp -implicitDefEqProofs only [vt, vm, ↓atI_fold, forall_const, implies_true, sevalprocAttr, retQ_r, Tryd.results77, dd_HA, k7, k26] <;> first | rfl | (simp [List.map_append, dd_HA]; done)
                · rcases ite_or h with ⟨k27, h⟩ | ⟨_, h⟩
                  · simp only [beq_iff_eq] at k27
                    simp -implicitDefEqProofs only [vt, vm, ↓atI_fold, forall_const, implies_true, sevalprocAttr, dd_HA, k7, k27]
                    subst hK19
                    refine eb_seq ?_
                    refine rb_ret ?_
                    obtain rfl := Option.some.inj h
                    refine eb_nil ?_
                    simp -implicitDefEqProofs only [vt, vm, ↓atI_fold, forall_const, implies_true, sevalprocAttr, retQ_r, Tryd.results77, dd_HA, k7, k27] <;> first | rfl | (simp [List.map_append, dd_HA]; done)
                  · cases h
-- timebase.Valid
def g_timebase_Valid (r_0 : Int) : Option (Bool) :=
  ((g_timebase_of r_0).bind fun r7 => (some (decide (0 < r7.ticks_))))
theorem a_timebase_Valid (I : World → Prop) (hI : Stab I) (r_0 : Int) {r : Bool} (h : g_timebase_Valid r_0 = some r) : AFun Tryd.prog I 37 [.int .u8 r_0] (.bool r) := by
  refine AFun.enterB hI Tryd.func37 rfl (by decide) (by simp [Tryd.f37]) (by kernel_rfl) ?_
  unfold g_timebase_Valid at h
  simp only [S0, Tryd.ntmps37, dd_HA]
  refine rb_seq ?_
  refine rb_regionK fun K2 hK2 => ?_
  simp -implicitDefEqProofs only [vt, vm, ↓atI_fold, forall_const, implies_true, sevalprocAttr, dd_HA]
  subst hK2
  refine eb_seq ?_
  refine rb_seq ?_
  refine rb_regionK fun K6 hK6 => ?_
  simp -implicitDefEqProofs only [vt, vm, ↓atI_fold, forall_const, implies_true, sevalprocAttr, dd_HA]
  obtain ⟨r7, h8, h⟩ := bind_some h
  refine cW.intro (a_timebase_of I hI r_0 h8) (by first | rfl | (simp [List.map_append, dd_HA]; done)) ?_
  simp -implicitDefEqProofs only [vt, vm, ↓atI_fold, forall_const, implies_true, sevalprocAttr, dd_HA]
  subst hK6
  refine eb_seq ?_
  refine rb_ret ?_
  obtain rfl := Option.some.inj h
  refine eb_nil ?_
  simp -implicitDefEqProofs only [vt, vm, ↓atI_fold, forall_const, implies_true, sevalprocAttr, retQ_r, Tryd.results37, dd_HA] <;> first | rfl | (simp [List.map_append, dd_HA]; done)
-- timebase.Ticks
def g_timebase_Ticks (r_0 : Int) : Option (Int) :=
  ((g_timebase_of r_0).bind fun r7 => (some r7.ticks_))
theorem a_timebase_Ticks (I : World → Prop) (hI : Stab I) (r_0 : Int) {r : Int} (h : g_timebase_Ticks r_0 = some r) : AFun Tryd.prog I 41 [.int .u8 r_0] (.int .i64 r) := by
  refine AFun.enterB hI Tryd.func41 rfl (by decide) (by simp [Tryd.f41]) (by kernel_rfl) ?_
  unfold g_timebase_Ticks at h
  simp only [S0, Tryd.ntmps41, dd_HA]
  refine rb_seq ?_
  refine rb_regionK fun K2 hK2 => ?_
  simp -implicitDefEqProofs only [vt, vm, ↓atI_fold, forall_const, implies_true, sevalprocAttr, dd_HA]
  subst hK2
  refine eb_seq ?_
  refine rb_seq ?_
  refine rb_regionK fun K6 hK6 => ?_
  simp -implicitDefEqProofs only [vt, vm, ↓atI_fold, forall_const, implies_true, sevalprocAttr, dd_HA]
  obtain ⟨r7, h8, h⟩ := bind_some h
  refine cW.intro (a_timebase_of I hI r_0 h8) (by first | rfl | (simp [List.map_append, dd_HA]; done)) ?_
  simp -implicitDefEqProofs only [vt, vm, ↓atI_fold, forall_const, implies_true, sevalprocAttr, dd_HA]
  subst hK6
  refine eb_seq ?_
  refine rb_ret ?_
  obtain rfl := Option.some.inj h
  refine eb_nil ?_
  simp -implicitDefEqProofs only [vt, vm, ↓atI_fold, forall_const, implies_true, sevalprocAttr, retQ_r, Tryd.results41, dd_HA] <;> first | rfl | (simp [List.map_append, dd_HA]; done)
-- timebase.Nominal
def g_timebase_Nominal (r_0 : Int) : Option (Int) :=
  ((g_timebase_of r_0).bind fun r7 => (some r7.nominal_))
theorem a_timebase_Nominal (I : World → Prop) (hI : Stab I) (r_0 : Int) {r : Int} (h : g_timebase_Nominal r_0 = some r) : AFun Tryd.prog I 76 [.int .u8 r_0] (.int .i64 r) := by
  refine AFun.enterB hI Tryd.func76 rfl (by decide) (by simp [Tryd.f76]) (by kernel_rfl) ?_
  unfold g_timebase_Nominal at h
  simp only [S0, Tryd.ntmps76, dd_HA]
  refine rb_seq ?_
  refine rb_regionK fun K2 hK2 => ?_
  simp -implicitDefEqProofs only [vt, vm, ↓atI_fold, forall_const, implies_true, sevalprocAttr, dd_HA]
  subst hK2
  refine eb_seq ?_
  refine rb_seq ?_
  refine rb_regionK fun K6 hK6 => ?_
  simp -implicitDefEqProofs only [vt, vm, ↓atI_fold, forall_const, implies_true, sevalprocAttr, dd_HA]
  obtain ⟨r7, h8, h⟩ := bind_some h
  refine cW.intro (a_timebase_of I hI r_0 h8) (by first | rfl | (simp [List.map_append, dd_HA]; done)) ?_
  simp -implicitDefEqProofs only [vt, vm, ↓atI_fold, forall_const, implies_true, sevalprocAttr, dd_HA]
  subst hK6
  refine eb_seq ?_
  refine rb_ret ?_
  obtain rfl := Option.some.inj h
  refine eb_nil ?_
  simp -implicitDefEqProofs only [vt, vm, ↓atI_fold, forall_const, implies_true, sevalprocAttr, retQ_r, Tryd.results76, dd_HA] <;> first | rfl | (simp [List.map_append, dd_HA]; done)
-- timebase.CanDrop
def g_timebase_CanDrop (r_0 : Int) : Option (Bool) :=
  ((g_timebase_of r_0).bind fun r7 => (some r7.drop_))
theorem a_timebase_CanDrop (I : World → Prop) (hI : Stab I) (r_0 : Int) {r : Bool} (h : g_timebase_CanDrop r_0 = some r) : AFun Tryd.prog I 141 [.int .u8 r_0] (.bool r) := by
  refine AFun.enterB hI Tryd.func141 rfl (by decide) (by simp [Tryd.f141]) (by kernel_rfl) ?_
  unfold g_timebase_CanDrop at h
  simp only [S0, Tryd.ntmps141, dd_HA]
  refine rb_seq ?_
  refine rb_regionK fun K2 hK2 => ?_
  simp -implicitDefEqProofs only [vt, vm, ↓atI_fold, forall_const, implies_true, sevalprocAttr, dd_HA]
  subst hK2
  refine eb_seq ?_
  refine rb_seq ?_
  refine rb_regionK fun K6 hK6 => ?_
  simp -implicitDefEqProofs only [vt, vm, ↓atI_fold, forall_const, implies_true, sevalprocAttr, dd_HA]
  obtain ⟨r7, h8, h⟩ := bind_some h
  refine cW.intro (a_timebase_of I hI r_0 h8) (by first | rfl | (simp [List.map_append, dd_HA]; done)) ?_
  simp -implicitDefEqProofs only [vt, vm, ↓atI_fold, forall_const, implies_true, sevalprocAttr, dd_HA]
  subst hK6
  refine eb_seq ?_
  refine rb_ret ?_
  obtain rfl := Option.some.inj h
  refine eb_nil ?_
  simp -implicitDefEqProofs only [vt, vm, ↓atI_fold, forall_const, implies_true, sevalprocAttr, retQ_r, Tryd.results141, dd_HA] <;> first | rfl | (simp [List.map_append, dd_HA]; done)
-- reading.within
def g_reading_within (n_0 : Int) (lo_1 : Int) (hi_2 : Int) : Option (Bool) :=
  (if (decide (lo_1 ≤ n_0)) then (some (decide (n_0 ≤ hi_2))) else (some false))
theorem a_reading_within (I : World → Prop) (hI : Stab I) (n_0 : Int) (lo_1 : Int) (hi_2 : Int) {r : Bool} (h : g_reading_within n_0 lo_1 hi_2 = some r) : AFun Tryd.prog I 38 [.int .i64 n_0, .int .i64 lo_1, .int .i64 hi_2] (.bool r) := by
  refine AFun.enterB hI Tryd.func38 rfl (by decide) (by simp [Tryd.f38]) (by kernel_rfl) ?_
  unfold g_reading_within at h
  simp only [S0, Tryd.ntmps38, dd_HA]
  refine rb_seq ?_
  refine rb_regionK fun K2 hK2 => ?_
  simp -implicitDefEqProofs only [vt, vm, ↓atI_fold, forall_const, implies_true, sevalprocAttr, dd_HA]
  subst hK2
  refine eb_seq ?_
  refine rb_seq ?_
  refine rb_regionK fun K5 hK5 => ?_
  simp -implicitDefEqProofs only [vt, vm, ↓atI_fold, forall_const, implies_true, sevalprocAttr, dd_HA]
  rcases ite_or h with ⟨k6, h⟩ | ⟨k6, h⟩
  · simp -implicitDefEqProofs only [vt, vm, ↓atI_fold, forall_const, implies_true, sevalprocAttr, dd_HA, k6]
    subst hK5
    refine eb_seq ?_
    refine rb_ret ?_
    obtain rfl := Option.some.inj h
    refine eb_nil ?_
    simp -implicitDefEqProofs only [vt, vm, ↓atI_fold, forall_const, implies_true, sevalprocAttr, retQ_r, Tryd.results38, dd_HA, k6] <;> first | rfl | (simp [List.map_append, dd_HA]; done)
  · simp -implicitDefEqProofs only [vt, vm, ↓atI_fold, forall_const, implies_true, sevalprocAttr, dd_HA, k6]
    subst hK5
    refine eb_seq ?_
    refine rb_ret ?_
    obtain rfl := Option.some.inj h
    refine eb_nil ?_
    simp -implicitDefEqProofs only [vt, vm, ↓atI_fold, forall_const, implies_true, sevalprocAttr, retQ_r, Tryd.results38, dd_HA, k6] <;> first | rfl | (simp [List.map_append, dd_HA]; done)
-- reading.load
def g_reading_load (chars_0 : Int) : Option (Int) :=
  (some (IntKind.i64.wrap ((IntKind.i64.wrap (chars_0 * 100)) * 120000)))
theorem a_reading_load (I : World → Prop) (hI : Stab I) (chars_0 : Int) {r : Int} (h : g_reading_load chars_0 = some r) : AFun Tryd.prog I 40 [.int .i64 chars_0] (.int .i64 r) := by
  refine AFun.enterB hI Tryd.func40 rfl (by decide) (by simp [Tryd.f40]) (by kernel_rfl) ?_
  unfold g_reading_load at h
  simp only [S0, Tryd.ntmps40, dd_HA]
  refine rb_seq ?_
  refine rb_regionK fun K2 hK2 => ?_
  simp -implicitDefEqProofs only [vt, vm, ↓atI_fold, forall_const, implies_true, sevalprocAttr, dd_HA]
  subst hK2
  refine eb_seq ?_
  refine rb_seq ?_
  refine rb_regionK fun K4 hK4 => ?_
  simp -implicitDefEqProofs only [vt, vm, ↓atI_fold, forall_const, implies_true, sevalprocAttr, dd_HA]
  subst hK4
  refine eb_seq ?_
  refine rb_ret ?_
  obtain rfl := Option.some.inj h
  refine eb_nil ?_
  simp -implicitDefEqProofs only [vt, vm, ↓atI_fold, forall_const, implies_true, sevalprocAttr, retQ_r, Tryd.results40, dd_HA] <;> first | rfl | (simp [List.map_append, dd_HA]; done)
-- reading.up
def g_reading_up (a_0 : Int) (b_1 : Int) : Option (Int) :=
  (if ¬ b_1 = 0 then (some (IntKind.i64.wrap (Int.tdiv (IntKind.i64.wrap ((IntKind.i64.wrap (a_0 + b_1)) - 1)) b_1))) else none)
theorem a_reading_up (I : World → Prop) (hI : Stab I) (a_0 : Int) (b_1 : Int) {r : Int} (h : g_reading_up a_0 b_1 = some r) : AFun Tryd.prog I 39 [.int .i64 a_0, .int .i64 b_1] (.int .i64 r) := by
  refine AFun.enterB hI Tryd.func39 rfl (by decide) (by simp [Tryd.f39]) (by kernel_rfl) ?_
  unfold g_reading_up at h
  simp only [S0, Tryd.ntmps39, dd_HA]
  refine rb_seq ?_
  refine rb_regionK fun K2 hK2 => ?_
  simp -implicitDefEqProofs only [vt, vm, ↓atI_fold, forall_const, implies_true, sevalprocAttr, dd_HA]
  subst hK2
  refine eb_seq ?_
  refine rb_seq ?_
  refine rb_regionK fun K5 hK5 => ?_
  simp -implicitDefEqProofs only [vt, vm, ↓atI_fold, forall_const, implies_true, sevalprocAttr, dd_HA]
  obtain ⟨h6, h⟩ := ite_on h
  simp -implicitDefEqProofs only [vt, vm, ↓atI_fold, forall_const, implies_true, sevalprocAttr, dd_HA, h6]
  subst hK5
  refine eb_seq ?_
  refine rb_ret ?_
  obtain rfl := Option.some.inj h
  refine eb_nil ?_
  simp -implicitDefEqProofs only [vt, vm, ↓atI_fold, forall_const, implies_true, sevalprocAttr, retQ_r, Tryd.results39, dd_HA, h6] <;> first | rfl | (simp [List.map_append, dd_HA]; done)
-- reading.Needed
def g_reading_Needed (rate_0 : Int) (chars_1 : Int) (limit_2 : Int) : Option (Int × Int) :=
  ((g_timebase_Valid rate_0).bind fun r7 => (if r7 then ((((g_reading_within chars_1 0 10000).bind fun r18 => (if r18 then ((g_reading_within limit_2 1 10000).bind fun r21 => (some (!r21))) else (some true))) : Option (Bool)).bind fun v16 => (if v16 then (some (0, 2)) else ((g_reading_load chars_1).bind fun r35 => ((g_timebase_Ticks rate_0).bind fun r37 => ((g_reading_up r35 (IntKind.i64.wrap (limit_2 * r37))).bind fun r39 => (some (r39, 0))))))) else (some (0, 3))))
theorem a_reading_Needed (I : World → Prop) (hI : Stab I) (rate_0 : Int) (chars_1 : Int) (limit_2 : Int) {r : Int × Int} (h : g_reading_Needed rate_0 chars_1 limit_2 = some r) : AFun Tryd.prog I 12 [.int .u8 rate_0, .int .i64 chars_1, .int .i64 limit_2] (.tup [.int .i64 r.1, .int .i64 r.2]) := by
  refine AFun.enterB hI Tryd.func12 rfl (by decide) (by simp [Tryd.f12]) (by kernel_rfl) ?_
  unfold g_reading_Needed at h
  simp only [S0, Tryd.ntmps12, dd_HA]
  refine rb_seq ?_
  refine rb_regionK fun K2 hK2 => ?_
  simp -implicitDefEqProofs only [vt, vm, ↓atI_fold, forall_const, implies_true, sevalprocAttr, dd_HA]
  subst hK2
  refine eb_seq ?_
  refine rb_seq ?_
  refine rb_seq ?_
  refine rb_regionK fun K6 hK6 => ?_
  simp -implicitDefEqProofs only [vt, vm, ↓atI_fold, forall_const, implies_true, sevalprocAttr, dd_HA]
  obtain ⟨r7, h8, h⟩ := bind_some h
  refine cW.intro (a_timebase_Valid I hI rate_0 h8) (by first | rfl | (simp [List.map_append, dd_HA]; done)) ?_
  simp -implicitDefEqProofs only [vt, vm, ↓atI_fold, forall_const, implies_true, sevalprocAttr, dd_HA]
  subst hK6
  refine eb_seq ?_
  rcases ite_or h with ⟨k9, h⟩ | ⟨k9, h⟩
  · refine rb_false (by first | exact congrArg D.bool (congrArg Bool.not k9) | rfl) ?_
    refine rb_skip ?_
    refine eb_seq ?_
    refine rb_seq ?_
    obtain ⟨v16, h23, h⟩ := bind_some h
    refine rb_cut (fun v16 => ⟨envL [(0, .int .u8 rate_0), (1, .int .i64 chars_1), (2, .int .i64 limit_2), (18, .bool v16)], heapL [], 0, 26⟩) h23 ?_ ?_
    · clear h
      intro v16 h
      refine rb_regionK fun K17 hK17 => ?_
      simp -implicitDefEqProofs only [vt, vm, ↓atI_fold, forall_const, implies_true, sevalprocAttr, dd_HA, k9]
      obtain ⟨r18, h19, h⟩ := bind_some h
      refine cW.intro (a_reading_within I hI chars_1 0 10000 h19) (by first | rfl | (simp [List.map_append, dd_HA]; done)) ?_
      simp -implicitDefEqProofs only [vt, vm, ↓atI_fold, forall_const, implies_true, sevalprocAttr, dd_HA, k9]
      rcases ite_or h with ⟨k20, h⟩ | ⟨k20, h⟩
      · simp -implicitDefEqProofs only [vt, vm, ↓atI_fold, forall_const, implies_true, sevalprocAttr, dd_HA, k9, k20]
        obtain ⟨r21, h22, h⟩ := bind_some h
        refine cW.intro (a_reading_within I hI limit_2 1 10000 h22) (by first | rfl | (simp [List.map_append, dd_HA]; done)) ?_
        simp -implicitDefEqProofs only [vt, vm, ↓atI_fold, forall_const, implies_true, sevalprocAttr, dd_HA, k9, k20]
        subst hK17
        obtain rfl := Option.some.inj h
        exact eb_nil ⟨rfl, Wk.of (fun i => some i) _ _ _ (by simp -implicitDefEqProofs [kv, km, dd_HA, k9, k20]) (by simp -implicitDefEqProofs [kv, km, dd_HA, k9, k20])⟩
      · simp -implicitDefEqProofs only [vt, vm, ↓atI_fold, forall_const, implies_true, sevalprocAttr, dd_HA, k9, k20]
        subst hK17
        obtain rfl := Option.some.inj h
        exact eb_nil ⟨rfl, Wk.of (fun i => some i) _ _ _ (by simp -implicitDefEqProofs [kv, km, dd_HA, k9, k20]) (by simp -implicitDefEqProofs [kv, km, dd_HA, k9, k20])⟩
    · rcases ite_or h with ⟨k24, h⟩ | ⟨k24, h⟩
      · refine rb_true (by first | exact congrArg D.bool k24 | rfl) ?_
        refine rb_seq ?_
        refine rb_regionK fun K26 hK26 => ?_
        simp -implicitDefEqProofs only [vt, vm, ↓atI_fold, forall_const, implies_true, sevalprocAttr, dd_HA, k9, k24]
        subst hK26
        refine eb_seq ?_
        refine rb_ret ?_
        refine eb_seq_r ?_
        obtain rfl := Option.some.inj h
        refine eb_nil ?_
        simp -implicitDefEqProofs only [vt, vm, ↓atI_fold, forall_const, implies_true, sevalprocAttr, retQ_r, Tryd.results12, dd_HA, k9, k24] <;> first | rfl | (simp [List.map_append, dd_HA]; done)
      · refine rb_false (by first | exact congrArg D.bool k24 | rfl) ?_
        refine rb_skip ?_
        refine eb_seq ?_
        refine rb_seq ?_
        refine rb_regionK fun K34 hK34 => ?_
        simp -implicitDefEqProofs only [vt, vm, ↓atI_fold, forall_const, implies_true, sevalprocAttr, dd_HA, k9, k24]
        obtain ⟨r35, h36, h⟩ := bind_some h
        refine cW.intro (a_reading_load I hI chars_1 h36) (by first | rfl | (simp [List.map_append, dd_HA]; done)) ?_
        simp -implicitDefEqProofs only [vt, vm, ↓atI_fold, forall_const, implies_true, sevalprocAttr, dd_HA, k9, k24]
        obtain ⟨r37, h38, h⟩ := bind_some h
        refine cW.intro (a_timebase_Ticks I hI rate_0 h38) (by first | rfl | (simp [List.map_append, dd_HA]; done)) ?_
        simp -implicitDefEqProofs only [vt, vm, ↓atI_fold, forall_const, implies_true, sevalprocAttr, dd_HA, k9, k24]
        obtain ⟨r39, h40, h⟩ := bind_some h
        refine cW.intro (a_reading_up I hI r35 (IntKind.i64.wrap (limit_2 * r37)) h40) (by first | rfl | (simp [List.map_append, dd_HA]; done)) ?_
        simp -implicitDefEqProofs only [vt, vm, ↓atI_fold, forall_const, implies_true, sevalprocAttr, dd_HA, k9, k24]
        subst hK34
        refine eb_seq ?_
        refine rb_ret ?_
        obtain rfl := Option.some.inj h
        refine eb_nil ?_
        simp -implicitDefEqProofs only [vt, vm, ↓atI_fold, forall_const, implies_true, sevalprocAttr, retQ_r, Tryd.results12, dd_HA, k9, k24] <;> first | rfl | (simp [List.map_append, dd_HA]; done)
  · refine rb_true (by first | exact congrArg D.bool (congrArg Bool.not k9) | rfl) ?_
    refine rb_seq ?_
    refine rb_regionK fun K42 hK42 => ?_
    simp -implicitDefEqProofs only [vt, vm, ↓atI_fold, forall_const, implies_true, sevalprocAttr, dd_HA, k9]
    subst hK42
    refine eb_seq ?_
    refine rb_ret ?_
    refine eb_seq_r ?_
    obtain rfl := Option.some.inj h
    refine eb_nil ?_
    simp -implicitDefEqProofs only [vt, vm, ↓atI_fold, forall_const, implies_true, sevalprocAttr, retQ_r, Tryd.results12, dd_HA, k9] <;> first | rfl | (simp [List.map_append, dd_HA]; done)
-- reading.Speed
def g_reading_Speed (rate_0 : Int) (chars_1 : Int) (frames_2 : Int) : Option (Int × Int) :=
  ((g_timebase_Valid rate_0).bind fun r7 => (if r7 then ((((g_reading_within chars_1 0 10000).bind fun r18 => (if r18 then ((g_reading_within frames_2 1 5184000).bind fun r21 => (some (!r21))) else (some true))) : Option (Bool)).bind fun v16 => (if v16 then (some (0, 2)) else ((g_reading_load chars_1).bind fun r35 => ((g_timebase_Ticks rate_0).bind fun r37 => ((g_reading_up r35 (IntKind.i64.wrap (frames_2 * r37))).bind fun r39 => (some (r39, 0))))))) else (some (0, 3))))
theorem a_reading_Speed (I : World → Prop) (hI : Stab I) (rate_0 : Int) (chars_1 : Int) (frames_2 : Int) {r : Int × Int} (h : g_reading_Speed rate_0 chars_1 frames_2 = some r) : AFun Tryd.prog I 14 [.int .u8 rate_0, .int .i64 chars_1, .int .i64 frames_2] (.tup [.int .i64 r.1, .int .i64 r.2]) := by
  refine AFun.enterB hI Tryd.func14 rfl (by decide) (by simp [Tryd.f14]) (by kernel_rfl) ?_
  unfold g_reading_Speed at h
  simp only [S0, Tryd.ntmps14, dd_HA]
  refine rb_seq ?_
  refine rb_regionK fun K2 hK2 => ?_
  simp -implicitDefEqProofs only [vt, vm, ↓atI_fold, forall_const, implies_true, sevalprocAttr, dd_HA]
  subst hK2
  refine eb_seq ?_
  refine rb_seq ?_
  refine rb_seq ?_
  refine rb_regionK fun K6 hK6 => ?_
  simp -implicitDefEqProofs only [vt, vm, ↓atI_fold, forall_const, implies_true, sevalprocAttr, dd_HA]
  obtain ⟨r7, h8, h⟩ := bind_some h
  refine cW.intro (a_timebase_Valid I hI rate_0 h8) (by first | rfl | (simp [List.map_append, dd_HA]; done)) ?_
  simp -implicitDefEqProofs only [vt, vm, ↓atI_fold, forall_const, implies_true, sevalprocAttr, dd_HA]
  subst hK6
  refine eb_seq ?_
  rcases ite_or h with ⟨k9, h⟩ | ⟨k9, h⟩
  · refine rb_false (by first | exact congrArg D.bool (congrArg Bool.not k9) | rfl) ?_
    refine rb_skip ?_
    refine eb_seq ?_
    refine rb_seq ?_
    obtain ⟨v16, h23, h⟩ := bind_some h
    refine rb_cut (fun v16 => ⟨envL [(0, .int .u8 rate_0), (1, .int .i64 chars_1), (2, .int .i64 frames_2), (18, .bool v16)], heapL [], 0, 26⟩) h23 ?_ ?_
    · clear h
      intro v16 h
      refine rb_regionK fun K17 hK17 => ?_
      simp -implicitDefEqProofs only [vt, vm, ↓atI_fold, forall_const, implies_true, sevalprocAttr, dd_HA, k9]
      obtain ⟨r18, h19, h⟩ := bind_some h
      refine cW.intro (a_reading_within I hI chars_1 0 10000 h19) (by first | rfl | (simp [List.map_append, dd_HA]; done)) ?_
      simp -implicitDefEqProofs only [vt, vm, ↓atI_fold, forall_const, implies_true, sevalprocAttr, dd_HA, k9]
      rcases ite_or h with ⟨k20, h⟩ | ⟨k20, h⟩
      · simp -implicitDefEqProofs only [vt, vm, ↓atI_fold, forall_const, implies_true, sevalprocAttr, dd_HA, k9, k20]
        obtain ⟨r21, h22, h⟩ := bind_some h
        refine cW.intro (a_reading_within I hI frames_2 1 5184000 h22) (by first | rfl | (simp [List.map_append, dd_HA]; done)) ?_
        simp -implicitDefEqProofs only [vt, vm, ↓atI_fold, forall_const, implies_true, sevalprocAttr, dd_HA, k9, k20]
        subst hK17
        obtain rfl := Option.some.inj h
        exact eb_nil ⟨rfl, Wk.of (fun i => some i) _ _ _ (by simp -implicitDefEqProofs [kv, km, dd_HA, k9, k20]) (by simp -implicitDefEqProofs [kv, km, dd_HA, k9, k20])⟩
      · simp -implicitDefEqProofs only [vt, vm, ↓atI_fold, forall_const, implies_true, sevalprocAttr, dd_HA, k9, k20]
        subst hK17
        obtain rfl := Option.some.inj h
        exact eb_nil ⟨rfl, Wk.of (fun i => some i) _ _ _ (by simp -implicitDefEqProofs [kv, km, dd_HA, k9, k20]) (by simp -implicitDefEqProofs [kv, km, dd_HA, k9, k20])⟩
    · rcases ite_or h with ⟨k24, h⟩ | ⟨k24, h⟩
      · refine rb_true (by first | exact congrArg D.bool k24 | rfl) ?_
        refine rb_seq ?_
        refine rb_regionK fun K26 hK26 => ?_
        simp -implicitDefEqProofs only [vt, vm, ↓atI_fold, forall_const, implies_true, sevalprocAttr, dd_HA, k9, k24]
        subst hK26
        refine eb_seq ?_
        refine rb_ret ?_
        refine eb_seq_r ?_
        obtain rfl := Option.some.inj h
        refine eb_nil ?_
        simp -implicitDefEqProofs only [vt, vm, ↓atI_fold, forall_const, implies_true, sevalprocAttr, retQ_r, Tryd.results14, dd_HA, k9, k24] <;> first | rfl | (simp [List.map_append, dd_HA]; done)
      · refine rb_false (by first | exact congrArg D.bool k24 | rfl) ?_
        refine rb_skip ?_
        refine eb_seq ?_
        refine rb_seq ?_
        refine rb_regionK fun K34 hK34 => ?_
        simp -implicitDefEqProofs only [vt, vm, ↓atI_fold, forall_const, implies_true, sevalprocAttr, dd_HA, k9, k24]
        obtain ⟨r35, h36, h⟩ := bind_some h
        refine cW.intro (a_reading_load I hI chars_1 h36) (by first | rfl | (simp [List.map_append, dd_HA]; done)) ?_
        simp -implicitDefEqProofs only [vt, vm, ↓atI_fold, forall_const, implies_true, sevalprocAttr, dd_HA, k9, k24]
        obtain ⟨r37, h38, h⟩ := bind_some h
        refine cW.intro (a_timebase_Ticks I hI rate_0 h38) (by first | rfl | (simp [List.map_append, dd_HA]; done)) ?_
        simp -implicitDefEqProofs only [vt, vm, ↓atI_fold, forall_const, implies_true, sevalprocAttr, dd_HA, k9, k24]
        obtain ⟨r39, h40, h⟩ := bind_some h
        refine cW.intro (a_reading_up I hI r35 (IntKind.i64.wrap (frames_2 * r37)) h40) (by first | rfl | (simp [List.map_append, dd_HA]; done)) ?_
        simp -implicitDefEqProofs only [vt, vm, ↓atI_fold, forall_const, implies_true, sevalprocAttr, dd_HA, k9, k24]
        subst hK34
        refine eb_seq ?_
        refine rb_ret ?_
        obtain rfl := Option.some.inj h
        refine eb_nil ?_
        simp -implicitDefEqProofs only [vt, vm, ↓atI_fold, forall_const, implies_true, sevalprocAttr, retQ_r, Tryd.results14, dd_HA, k9, k24] <;> first | rfl | (simp [List.map_append, dd_HA]; done)
  · refine rb_true (by first | exact congrArg D.bool (congrArg Bool.not k9) | rfl) ?_
    refine rb_seq ?_
    refine rb_regionK fun K42 hK42 => ?_
    simp -implicitDefEqProofs only [vt, vm, ↓atI_fold, forall_const, implies_true, sevalprocAttr, dd_HA, k9]
    subst hK42
    refine eb_seq ?_
    refine rb_ret ?_
    refine eb_seq_r ?_
    obtain rfl := Option.some.inj h
    refine eb_nil ?_
    simp -implicitDefEqProofs only [vt, vm, ↓atI_fold, forall_const, implies_true, sevalprocAttr, retQ_r, Tryd.results14, dd_HA, k9] <;> first | rfl | (simp [List.map_append, dd_HA]; done)
-- profile.Standard
def g_profile_Standard (rate_0 : Int) : Option (T_api_Profile × Int) :=
  ((g_timebase_Valid rate_0).bind fun r7 => (if r7 then ((g_timebase_Nominal rate_0).bind fun r14 => (some ((T_api_Profile.mk [83, 84, 65, 78, 68, 65, 82, 68] 1700 (IntKind.i64.wrap (Int.tdiv (IntKind.i64.wrap (r14 * 5)) 6)) (IntKind.i64.wrap (7 * r14)) 2 (IntKind.i64.wrap (Int.tdiv r14 2)) (IntKind.i64.wrap (Int.tdiv r14 2)) 2 32 [] 1 0 0 0), 0))) else (some ((T_api_Profile.mk [] 0 0 0 0 0 0 0 0 [] 0 0 0 0), 13))))
theorem a_profile_Standard (I : World → Prop) (hI : Stab I) (rate_0 : Int) {r : T_api_Profile × Int} (h : g_profile_Standard rate_0 = some r) : AFun Tryd.prog I 36 [.int .u8 rate_0] (.tup [T_api_Profile.d r.1, .int .i64 r.2]) := by
  refine AFun.enterB hI Tryd.func36 rfl (by decide) (by simp [Tryd.f36]) (by kernel_rfl) ?_
  unfold g_profile_Standard at h
  simp only [S0, Tryd.ntmps36, dd_HA]
  refine rb_seq ?_
  refine rb_regionK fun K2 hK2 => ?_
  simp -implicitDefEqProofs only [vt, vm, ↓atI_fold, forall_const, implies_true, sevalprocAttr, dd_HA]
  subst hK2
  refine eb_seq ?_
  refine rb_seq ?_
  refine rb_seq ?_
  refine rb_regionK fun K6 hK6 => ?_
  simp -implicitDefEqProofs only [vt, vm, ↓atI_fold, forall_const, implies_true, sevalprocAttr, dd_HA]
  obtain ⟨r7, h8, h⟩ := bind_some h
  refine cW.intro (a_timebase_Valid I hI rate_0 h8) (by first | rfl | (simp [List.map_append, dd_HA]; done)) ?_
  simp -implicitDefEqProofs only [vt, vm, ↓atI_fold, forall_const, implies_true, sevalprocAttr, dd_HA]
  subst hK6
  refine eb_seq ?_
  rcases ite_or h with ⟨k9, h⟩ | ⟨k9, h⟩
  · refine rb_false (by first | exact congrArg D.bool (congrArg Bool.not k9) | rfl) ?_
    refine rb_skip ?_
    refine eb_seq ?_
    refine rb_seq ?_
    refine rb_regionK fun K13 hK13 => ?_
    simp -implicitDefEqProofs only [vt, vm, ↓atI_fold, forall_const, implies_true, sevalprocAttr, dd_HA, k9]
    obtain ⟨r14, h15, h⟩ := bind_some h
    refine cW.intro (a_timebase_Nominal I hI rate_0 h15) (by first | rfl | (simp [List.map_append, dd_HA]; done)) ?_
    simp -implicitDefEqProofs only [vt, vm, ↓atI_fold, forall_const, implies_true, sevalprocAttr, dd_HA, k9]
    subst hK13
    refine eb_seq ?_
    refine rb_seq ?_
    refine rb_regionK fun K17 hK17 => ?_
    simp -implicitDefEqProofs only [vt, vm, ↓atI_fold, forall_const, implies_true, sevalprocAttr, dd_HA, k9]
    subst hK17
    refine eb_seq ?_
    refine rb_ret ?_
    obtain rfl := Option.some.inj h
    refine eb_nil ?_
    simp -implicitDefEqProofs only [vt, vm, ↓atI_fold, forall_const, implies_true, sevalprocAttr, retQ_r, Tryd.results36, dd_HA, k9] <;> first | rfl | (simp [List.map_append, dd_HA]; done)
  · refine rb_true (by first | exact congrArg D.bool (congrArg Bool.not k9) | rfl) ?_
    refine rb_seq ?_
    refine rb_regionK fun K19 hK19 => ?_
    simp -implicitDefEqProofs only [vt, vm, ↓atI_fold, forall_const, implies_true, sevalprocAttr, dd_HA, k9]
    subst hK19
    refine eb_seq ?_
    refine rb_ret ?_
    refine eb_seq_r ?_
    obtain rfl := Option.some.inj h
    refine eb_nil ?_
    simp -implicitDefEqProofs only [vt, vm, ↓atI_fold, forall_const, implies_true, sevalprocAttr, retQ_r, Tryd.results36, dd_HA, k9] <;> first | rfl | (simp [List.map_append, dd_HA]; done)
-- charset.place
def g_charset_place_s1 (s_0 : List UInt8) (r_1 : Int) (x7 : Int × Nat) : Option (Nx (Int × Nat) (Int ⊕ Unit)) :=
  (if (decide (x7.2 < s_0.length)) then (if ((runeAt s_0 x7.2) == r_1) then (some (.out (.inl x7.1))) else (some (.go ((IntKind.i64.wrap (x7.1 + 1)), (x7.2 + widthAt s_0 x7.2))))) else (some (.out (.inr ()))))
def g_charset_place (s_0 : List UInt8) (r_1 : Int) : Option (Int) :=
  ((iter (g_charset_place_s1 s_0 r_1) (0, 0)).bind fun e8 => (match e8 with | Sum.inl e8 => (some e8) | Sum.inr (e8) => (some (-1))))
theorem a_charset_place (I : World → Prop) (hI : Stab I) (s_0 : List UInt8) (r_1 : Int) {r : Int} (h : g_charset_place s_0 r_1 = some r) : AFun Tryd.prog I 148 [.str s_0, .int .i32 r_1] (.int .i64 r) := by
  refine AFun.enterB hI Tryd.func148 rfl (by decide) (by simp [Tryd.f148]) (by kernel_rfl) ?_
  unfold g_charset_place at h
  simp only [S0, Tryd.ntmps148, dd_HA]
  refine rb_seq ?_
  refine rb_regionK fun K2 hK2 => ?_
  simp -implicitDefEqProofs only [vt, vm, ↓atI_fold, forall_const, implies_true, sevalprocAttr, dd_HA]
  subst hK2
  refine eb_seq ?_
  refine rb_seq ?_
  refine rb_regionK fun K4 hK4 => ?_
  simp -implicitDefEqProofs only [vt, vm, ↓atI_fold, forall_const, implies_true, sevalprocAttr, dd_HA]
  subst hK4
  refine eb_seq ?_
  refine rb_seq ?_
  refine rb_seq ?_
  refine rb_regionK fun K6 hK6 => ?_
  simp -implicitDefEqProofs only [vt, vm, ↓atI_fold, forall_const, implies_true, sevalprocAttr, dd_HA]
  subst hK6
  refine eb_seq ?_
  refine rb_block ?_
  obtain ⟨e8, h33, h⟩ := bind_some h
  refine rb_loop (fun x7 => ⟨envL [(1, .int .i32 r_1), (5, .int .i64 x7.1), (9, .ptr 0 0)], heapL [(0, .iter s_0 x7.2)], 1, 19⟩) (fun w => match w with | Sum.inl _ => .ret | Sum.inr (_) => .exit 0) (fun w => match w with | Sum.inl e8 => ⟨envL [(4, .int .i64 e8)], heapL [], 0, 19⟩ | Sum.inr (e8) => ⟨envL [], heapL [], 0, 19⟩) h33 (Wk.of (fun i => if i = 0 then some 3 else some i) _ _ _ (by simp -implicitDefEqProofs [kv, km, dd_HA]) (by simp -implicitDefEqProofs [kv, km, dd_HA])) (by intro w; rcases w with w | w <;> simp) ?_ ?_
  · clear h
    intro x7 y h
    unfold g_charset_place_s1 at h
    refine rb_seq ?_
    refine rb_regionK fun K23 hK23 => ?_
    simp -implicitDefEqProofs only [vt, vm, ↓atI_fold, forall_const, implies_true, sevalprocAttr, dd_HA]
    rcases ite_or h with ⟨k24, h⟩ | ⟨k24, h⟩
    · simp only [decide_eq_true_eq] at k24
      simp -implicitDefEqProofs only [vt, vm, ↓atI_fold, forall_const, implies_true, sevalprocAttr, dd_HA, k24]
      subst hK23
      refine eb_seq ?_
      refine rb_seq ?_
      refine rb_true (rfl) ?_
      refine rb_skip ?_
      refine eb_seq ?_
      refine rb_block ?_
      refine rb_seq ?_
      refine rb_regionK fun K26 hK26 => ?_
      simp -implicitDefEqProofs only [vt, vm, ↓atI_fold, forall_const, implies_true, sevalprocAttr, dd_HA, k24]
      subst hK26
      refine eb_seq ?_
      refine rb_seq ?_
      refine rb_seq ?_
      refine rb_regionK fun K28 hK28 => ?_
      simp -implicitDefEqProofs only [vt, vm, ↓atI_fold, forall_const, implies_true, sevalprocAttr, dd_HA, k24]
      subst hK28
      refine eb_seq ?_
      rcases ite_or h with ⟨k29, h⟩ | ⟨k29, h⟩
      · refine rb_true (by first | exact congrArg D.bool k29 | rfl) ?_
        refine rb_seq ?_
        refine rb_regionK fun K31 hK31 => ?_
        simp -implicitDefEqProofs only [vt, vm, ↓atI_fold, forall_const, implies_true, sevalprocAttr, dd_HA, k24, k29]
        subst hK31
        refine eb_seq ?_
        refine rb_ret ?_
        refine eb_seq_r ?_
        refine eb_blk_r ?_
        obtain rfl := Option.some.inj h
        exact eb_nil ⟨rfl, Wk.of (fun i => some i) _ _ _ (by simp -implicitDefEqProofs [kv, km, dd_HA, k24, k29]) (by simp -implicitDefEqProofs [kv, km, dd_HA, k24, k29])⟩
      · refine rb_false (by first | exact congrArg D.bool k29 | rfl) ?_
        refine rb_skip ?_
        refine eb_seq ?_
        refine rb_regionK fun K32 hK32 => ?_
        simp -implicitDefEqProofs only [vt, vm, ↓atI_fold, forall_const, implies_true, sevalprocAttr, dd_HA, k24, k29]
        subst hK32
        refine eb_blk_n ?_
        obtain rfl := Option.some.inj h
        exact eb_nil ⟨rfl, Wk.of (fun i => if i = 0 then some 0 else some i) _ _ _ (by simp -implicitDefEqProofs [kv, km, dd_HA, k24, k29]) (by simp -implicitDefEqProofs [kv, km, dd_HA, k24, k29])⟩
    · simp only [decide_eq_false_iff_not] at k24
      simp -implicitDefEqProofs only [vt, vm, ↓atI_fold, forall_const, implies_true, sevalprocAttr, dd_HA, k24]
      subst hK23
      refine eb_seq ?_
      refine rb_seq ?_
      refine rb_false (rfl) ?_
      refine rb_exit ?_
      refine eb_seq_e ?_
      obtain rfl := Option.some.inj h
      exact eb_nil ⟨rfl, Wk.of (fun i => some i) _ _ _ (by simp -implicitDefEqProofs [kv, km, dd_HA, k24]) (by simp -implicitDefEqProofs [kv, km, dd_HA, k24])⟩
  · rcases e8 with e8 | e8
    · try dsimp only at h ⊢
      refine eb_blk_r ?_
      refine eb_seq_r ?_
      obtain rfl := Option.some.inj h
      refine eb_nil ?_
      simp -implicitDefEqProofs only [vt, vm, ↓atI_fold, forall_const, implies_true, sevalprocAttr, retQ_r, Tryd.results148, dd_HA] <;> first | rfl | (simp [List.map_append, dd_HA]; done)
    · try dsimp only at h ⊢
      refine eb_blk_hit ?_
      refine eb_seq ?_
      refine rb_seq ?_
      refine rb_regionK fun K35 hK35 => ?_
      simp -implicitDefEqProofs only [vt, vm, ↓atI_fold, forall_const, implies_true, sevalprocAttr, dd_HA]
      subst hK35
      refine eb_seq ?_
      refine rb_ret ?_
      obtain rfl := Option.some.inj h
      refine eb_nil ?_
      simp -implicitDefEqProofs only [vt, vm, ↓atI_fold, forall_const, implies_true, sevalprocAttr, retQ_r, Tryd.results148, dd_HA] <;> first | rfl | (simp [List.map_append, dd_HA]; done)
-- charset.Index
def g_charset_Index (r_0 : Int) : Option (Int) :=
  (((if (decide (32 ≤ r_0)) then (some (decide (r_0 ≤ 126))) else (some false)) : Option (Bool)).bind fun v5 => (if v5 then (some (IntKind.i64.wrap (IntKind.i32.wrap (r_0 - 32)))) else ((g_charset_place [32, 33, 34, 35, 36, 37, 38, 39, 40, 41, 42, 43, 44, 45, 46, 47, 48, 49, 50, 51, 52, 53, 54, 55, 56, 57, 58, 59, 60, 61, 62, 63, 64, 65, 66, 67, 68, 69, 70, 71, 72, 73, 74, 75, 76, 77, 78, 79, 80, 81, 82, 83, 84, 85, 86, 87, 88, 89, 90, 91, 92, 93, 94, 95, 96, 97, 98, 99, 100, 101, 102, 103, 104, 105, 106, 107, 108, 109, 110, 111, 112, 113, 114, 115, 116, 117, 118, 119, 120, 121, 122, 123, 124, 125, 126, 194, 161, 194, 162, 194, 163, 194, 164, 194, 165, 194, 166, 194, 167, 194, 169, 194, 171, 194, 174, 194, 176, 194, 183, 194, 187, 194, 189, 194, 191, 195, 128, 195, 129, 195, 130, 195, 131, 195, 132, 195, 133, 195, 134, 195, 135, 195, 136, 195, 137, 195, 138, 195, 139, 195, 140, 195, 141, 195, 142, 195, 143, 195, 145, 195, 146, 195, 147, 195, 148, 195, 149, 195, 150, 195, 152, 195, 153, 195, 154, 195, 155, 195, 156, 195, 159, 195, 160, 195, 161, 195, 162, 195, 163, 195, 164, 195, 165, 195, 166, 195, 167, 195, 168, 195, 169, 195, 170, 195, 171, 195, 172, 195, 173, 195, 174, 195, 175, 195, 177, 195, 178, 195, 179, 195, 180, 195, 181, 195, 182, 195, 184, 195, 185, 195, 186, 195, 187, 195, 188, 197, 146, 197, 147, 226, 128, 148, 226, 128, 152, 226, 128, 153, 226, 128, 156, 226, 128, 157, 226, 128, 162, 226, 128, 166, 226, 132, 162, 226, 153, 170] r_0).bind fun r16 => (some r16))))
theorem a_charset_Index (I : World → Prop) (hI : Stab I) (r_0 : Int) {r : Int} (h : g_charset_Index r_0 = some r) : AFun Tryd.prog I 119 [.int .i32 r_0] (.int .i64 r) := by
  refine AFun.enterB hI Tryd.func119 rfl (by decide) (by simp [Tryd.f119]) (by kernel_rfl) ?_
  unfold g_charset_Index at h
  simp only [S0, Tryd.ntmps119, dd_HA]
  refine rb_seq ?_
  refine rb_regionK fun K2 hK2 => ?_
  simp -implicitDefEqProofs only [vt, vm, ↓atI_fold, forall_const, implies_true, sevalprocAttr, dd_HA]
  subst hK2
  refine eb_seq ?_
  refine rb_seq ?_
  obtain ⟨v5, h8, h⟩ := bind_some h
  refine rb_cut (fun v5 => ⟨envL [(0, .int .i32 r_0), (8, .bool v5)], heapL [], 0, 14⟩) h8 ?_ ?_
  · clear h
    intro v5 h
    refine rb_regionK fun K6 hK6 => ?_
    simp -implicitDefEqProofs only [vt, vm, ↓atI_fold, forall_const, implies_true, sevalprocAttr, dd_HA]
    rcases ite_or h with ⟨k7, h⟩ | ⟨k7, h⟩
    · simp -implicitDefEqProofs only [vt, vm, ↓atI_fold, forall_const, implies_true, sevalprocAttr, dd_HA, k7]
      subst hK6
      obtain rfl := Option.some.inj h
      exact eb_nil ⟨rfl, Wk.of (fun i => some i) _ _ _ (by simp -implicitDefEqProofs [kv, km, dd_HA, k7]) (by simp -implicitDefEqProofs [kv, km, dd_HA, k7])⟩
    · simp -implicitDefEqProofs only [vt, vm, ↓atI_fold, forall_const, implies_true, sevalprocAttr, dd_HA, k7]
      subst hK6
      obtain rfl := Option.some.inj h
      exact eb_nil ⟨rfl, Wk.of (fun i => some i) _ _ _ (by simp -implicitDefEqProofs [kv, km, dd_HA, k7]) (by simp -implicitDefEqProofs [kv, km, dd_HA, k7])⟩
  · rcases ite_or h with ⟨k9, h⟩ | ⟨k9, h⟩
    · refine rb_true (by first | exact congrArg D.bool k9 | rfl) ?_
      refine rb_seq ?_
      refine rb_regionK fun K11 hK11 => ?_
      simp -implicitDefEqProofs only [vt, vm, ↓atI_fold, forall_const, implies_true, sevalprocAttr, dd_HA, k9]
      subst hK11
      refine eb_seq ?_
      refine rb_ret ?_
      refine eb_seq_r ?_
      obtain rfl := Option.some.inj h
      refine eb_nil ?_
      simp -implicitDefEqProofs only [vt, vm, ↓atI_fold, forall_const, implies_true, sevalprocAttr, retQ_r, Tryd.results119, dd_HA, k9] <;> first | rfl | (simp [List.map_append, dd_HA]; done)
    · refine rb_false (by first | exact congrArg D.bool k9 | rfl) ?_
      refine rb_skip ?_
      refine eb_seq ?_
      refine rb_seq ?_
      refine rb_regionK fun K15 hK15 => ?_
      simp -implicitDefEqProofs only [vt, vm, ↓atI_fold, forall_const, implies_true, sevalprocAttr, dd_HA, k9]
      obtain ⟨r16, h17, h⟩ := bind_some h
      refine cW.intro (a_charset_place I hI [32, 33, 34, 35, 36, 37, 38, 39, 40, 41, 42, 43, 44, 45, 46, 47, 48, 49, 50, 51, 52, 53, 54, 55, 56, 57, 58, 59, 60, 61, 62, 63, 64, 65, 66, 67, 68, 69, 70, 71, 72, 73, 74, 75, 76, 77, 78, 79, 80, 81, 82, 83, 84, 85, 86, 87, 88, 89, 90, 91, 92, 93, 94, 95, 96, 97, 98, 99, 100, 101, 102, 103, 104, 105, 106, 107, 108, 109, 110, 111, 112, 113, 114, 115, 116, 117, 118, 119, 120, 121, 122, 123, 124, 125, 126, 194, 161, 194, 162, 194, 163, 194, 164, 194, 165, 194, 166, 194, 167, 194, 169, 194, 171, 194, 174, 194, 176, 194, 183, 194, 187, 194, 189, 194, 191, 195, 128, 195, 129, 195, 130, 195, 131, 195, 132, 195, 133, 195, 134, 195, 135, 195, 136, 195, 137, 195, 138, 195, 139, 195, 140, 195, 141, 195, 142, 195, 143, 195, 145, 195, 146, 195, 147, 195, 148, 195, 149, 195, 150, 195, 152, 195, 153, 195, 154, 195, 155, 195, 156, 195, 159, 195, 160, 195, 161, 195, 162, 195, 163, 195, 164, 195, 165, 195, 166, 195, 167, 195, 168, 195, 169, 195, 170, 195, 171, 195, 172, 195, 173, 195, 174, 195, 175, 195, 177, 195, 178, 195, 179, 195, 180, 195, 181, 195, 182, 195, 184, 195, 185, 195, 186, 195, 187, 195, 188, 197, 146, 197, 147, 226, 128, 148, 226, 128, 152, 226, 128, 153, 226, 128, 156, 226, 128, 157, 226, 128, 162, 226, 128, 166, 226, 132, 162, 226, 153, 170] r_0 h17) (by first | rfl | (simp [List.map_append, dd_HA]; done)) ?_
      simp -implicitDefEqProofs only [vt, vm, ↓atI_fold, forall_const, implies_true, sevalprocAttr, dd_HA, k9]
      subst hK15
      refine eb_seq ?_
      refine rb_ret ?_
      obtain rfl := Option.some.inj h
      refine eb_nil ?_
      simp -implicitDefEqProofs only [vt, vm, ↓atI_fold, forall_const, implies_true, sevalprocAttr, retQ_r, Tryd.results119, dd_HA, k9] <;> first | rfl | (simp [List.map_append, dd_HA]; done)
-- charset.Valid
def g_charset_Valid_s1 (s_0 : List UInt8) (x12 : Nat) : Option (Nx (Nat) (Unit ⊕ Unit)) :=
  (if (decide (x12 < s_0.length)) then ((g_charset_Index (runeAt s_0 x12)).bind fun r39 => (if (decide (r39 < 0)) then (some (.out (.inl ()))) else (some (.go (x12 + widthAt s_0 x12))))) else (some (.out (.inr ()))))
def g_charset_Valid (s_0 : List UInt8) : Option (Bool) :=
  ((g_unicode_utf8_ValidString s_0).bind fun r7 => (if r7 then ((iter (g_charset_Valid_s1 s_0) 0).bind fun e13 => (match e13 with | Sum.inl e13 => (some false) | Sum.inr (e13) => (some true))) else (some false)))
theorem a_charset_Valid (I : World → Prop) (hI : Stab I) (hU8T : ∀ w, I w → U8T w) (s_0 : List UInt8) {r : Bool} (h : g_charset_Valid s_0 = some r) : AFun Tryd.prog I 85 [.str s_0] (.bool r) := by
  refine AFun.enterB hI Tryd.func85 rfl (by decide) (by simp [Tryd.f85]) (by kernel_rfl) ?_
  unfold g_charset_Valid at h
  simp only [S0, Tryd.ntmps85, dd_HA]
  refine rb_seq ?_
  refine rb_regionK fun K2 hK2 => ?_
  simp -implicitDefEqProofs only [vt, vm, ↓atI_fold, forall_const, implies_true, sevalprocAttr, dd_HA]
  subst hK2
  refine eb_seq ?_
  refine rb_seq ?_
  refine rb_seq ?_
  refine rb_regionK fun K6 hK6 => ?_
  simp -implicitDefEqProofs only [vt, vm, ↓atI_fold, forall_const, implies_true, sevalprocAttr, dd_HA]
  obtain ⟨r7, h8, h⟩ := bind_some h
  refine cW.intro (a_unicode_utf8_ValidString I hI hU8T s_0 h8) (by first | rfl | (simp [List.map_append, dd_HA]; done)) ?_
  simp -implicitDefEqProofs only [vt, vm, ↓atI_fold, forall_const, implies_true, sevalprocAttr, dd_HA]
  subst hK6
  refine eb_seq ?_
  rcases ite_or h with ⟨k9, h⟩ | ⟨k9, h⟩
  · refine rb_false (by first | exact congrArg D.bool (congrArg Bool.not k9) | rfl) ?_
    refine rb_skip ?_
    refine eb_seq ?_
    refine rb_seq ?_
    refine rb_seq ?_
    refine rb_regionK fun K11 hK11 => ?_
    simp -implicitDefEqProofs only [vt, vm, ↓atI_fold, forall_const, implies_true, sevalprocAttr, dd_HA, k9]
    subst hK11
    refine eb_seq ?_
    refine rb_block ?_
    obtain ⟨e13, h44, h⟩ := bind_some h
    refine rb_loop (fun x12 => ⟨envL [(9, .ptr 0 0)], heapL [(0, .iter s_0 x12)], 1, 16⟩) (fun w => match w with | Sum.inl _ => .ret | Sum.inr (_) => .exit 0) (fun w => match w with | Sum.inl e13 => ⟨envL [(2, .bool false)], heapL [], 0, 16⟩ | Sum.inr (e13) => ⟨envL [], heapL [], 0, 16⟩) h44 (Wk.of (fun i => if i = 0 then some 5 else some i) _ _ _ (by simp -implicitDefEqProofs [kv, km, dd_HA, k9]) (by simp -implicitDefEqProofs [kv, km, dd_HA, k9])) (by intro w; rcases w with w | w <;> simp) ?_ ?_
    · clear h
      intro x12 y h
      unfold g_charset_Valid_s1 at h
      refine rb_seq ?_
      refine rb_regionK fun K31 hK31 => ?_
      simp -implicitDefEqProofs only [vt, vm, ↓atI_fold, forall_const, implies_true, sevalprocAttr, dd_HA, k9]
      rcases ite_or h with ⟨k32, h⟩ | ⟨k32, h⟩
      · simp only [decide_eq_true_eq] at k32
        simp -implicitDefEqProofs only [vt, vm, ↓atI_fold, forall_const, implies_true, sevalprocAttr, dd_HA, k9, k32]
        subst hK31
        refine eb_seq ?_
        refine rb_seq ?_
        refine rb_true (rfl) ?_
        refine rb_skip ?_
        refine eb_seq ?_
        refine rb_block ?_
        refine rb_seq ?_
        refine rb_regionK fun K34 hK34 => ?_
        simp -implicitDefEqProofs only [vt, vm, ↓atI_fold, forall_const, implies_true, sevalprocAttr, dd_HA, k9, k32]
        subst hK34
        refine eb_seq ?_
        refine rb_seq ?_
        refine rb_regionK fun K38 hK38 => ?_
        simp -implicitDefEqProofs only [vt, vm, ↓atI_fold, forall_const, implies_true, sevalprocAttr, dd_HA, k9, k32]
        obtain ⟨r39, h40, h⟩ := bind_some h
        refine cW.intro (a_charset_Index I hI (runeAt s_0 x12) h40) (by first | rfl | (simp [List.map_append, dd_HA]; done)) ?_
        simp -implicitDefEqProofs only [vt, vm, ↓atI_fold, forall_const, implies_true, sevalprocAttr, dd_HA, k9, k32]
        subst hK38
        refine eb_seq ?_
        rcases ite_or h with ⟨k41, h⟩ | ⟨k41, h⟩
        · refine rb_true (by first | exact congrArg D.bool k41 | rfl) ?_
          refine rb_seq ?_
          refine rb_regionK fun K43 hK43 => ?_
          simp -implicitDefEqProofs only [vt, vm, ↓atI_fold, forall_const, implies_true, sevalprocAttr, dd_HA, k9, k32, k41]
          subst hK43
          refine eb_seq ?_
          refine rb_ret ?_
          refine eb_blk_r ?_
          obtain rfl := Option.some.inj h
          exact eb_nil ⟨rfl, Wk.of (fun i => some i) _ _ _ (by simp -implicitDefEqProofs [kv, km, dd_HA, k9, k32, k41]) (by simp -implicitDefEqProofs [kv, km, dd_HA, k9, k32, k41])⟩
        · refine rb_false (by first | exact congrArg D.bool k41 | rfl) ?_
          refine rb_skip ?_
          refine eb_blk_n ?_
          obtain rfl := Option.some.inj h
          exact eb_nil ⟨rfl, Wk.of (fun i => if i = 0 then some 0 else some i) _ _ _ (by simp -implicitDefEqProofs [kv, km, dd_HA, k9, k32, k41]) (by simp -implicitDefEqProofs [kv, km, dd_HA, k9, k32, k41])⟩
      · simp only [decide_eq_false_iff_not] at k32
        simp -implicitDefEqProofs only [vt, vm, ↓atI_fold, forall_const, implies_true, sevalprocAttr, dd_HA, k9, k32]
        subst hK31
        refine eb_seq ?_
        refine rb_seq ?_
        refine rb_false (rfl) ?_
        refine rb_exit ?_
        refine eb_seq_e ?_
        obtain rfl := Option.some.inj h
        exact eb_nil ⟨rfl, Wk.of (fun i => some i) _ _ _ (by simp -implicitDefEqProofs [kv, km, dd_HA, k9, k32]) (by simp -implicitDefEqProofs [kv, km, dd_HA, k9, k32])⟩
    · rcases e13 with e13 | e13
      · try dsimp only at h ⊢
        refine eb_blk_r ?_
        refine eb_seq_r ?_
        obtain rfl := Option.some.inj h
        refine eb_nil ?_
        simp -implicitDefEqProofs only [vt, vm, ↓atI_fold, forall_const, implies_true, sevalprocAttr, retQ_r, Tryd.results85, dd_HA, k9] <;> first | rfl | (simp [List.map_append, dd_HA]; done)
      · try dsimp only at h ⊢
        refine eb_blk_hit ?_
        refine eb_seq ?_
        refine rb_seq ?_
        refine rb_regionK fun K46 hK46 => ?_
        simp -implicitDefEqProofs only [vt, vm, ↓atI_fold, forall_const, implies_true, sevalprocAttr, dd_HA, k9]
        subst hK46
        refine eb_seq ?_
        refine rb_ret ?_
        obtain rfl := Option.some.inj h
        refine eb_nil ?_
        simp -implicitDefEqProofs only [vt, vm, ↓atI_fold, forall_const, implies_true, sevalprocAttr, retQ_r, Tryd.results85, dd_HA, k9] <;> first | rfl | (simp [List.map_append, dd_HA]; done)
  · refine rb_true (by first | exact congrArg D.bool (congrArg Bool.not k9) | rfl) ?_
    refine rb_seq ?_
    refine rb_regionK fun K48 hK48 => ?_
    simp -implicitDefEqProofs only [vt, vm, ↓atI_fold, forall_const, implies_true, sevalprocAttr, dd_HA, k9]
    subst hK48
    refine eb_seq ?_
    refine rb_ret ?_
    refine eb_seq_r ?_
    obtain rfl := Option.some.inj h
    refine eb_nil ?_
    simp -implicitDefEqProofs only [vt, vm, ↓atI_fold, forall_const, implies_true, sevalprocAttr, retQ_r, Tryd.results85, dd_HA, k9] <;> first | rfl | (simp [List.map_append, dd_HA]; done)
-- charset.Len
def g_charset_Len (s_0 : List UInt8) : Option (Int) :=
  ((g_charset_Valid s_0).bind fun r7 => (if r7 then ((g_unicode_utf8_RuneCountInString s_0).bind fun r14 => (some r14)) else (some (-1))))
theorem a_charset_Len (I : World → Prop) (hI : Stab I) (hU8T : ∀ w, I w → U8T w) (s_0 : List UInt8) {r : Int} (h : g_charset_Len s_0 = some r) : AFun Tryd.prog I 120 [.str s_0] (.int .i64 r) := by
  refine AFun.enterB hI Tryd.func120 rfl (by decide) (by simp [Tryd.f120]) (by kernel_rfl) ?_
  unfold g_charset_Len at h
  simp only [S0, Tryd.ntmps120, dd_HA]
  refine rb_seq ?_
  refine rb_regionK fun K2 hK2 => ?_
  simp -implicitDefEqProofs only [vt, vm, ↓atI_fold, forall_const, implies_true, sevalprocAttr, dd_HA]
  subst hK2
  refine eb_seq ?_
  refine rb_seq ?_
  refine rb_seq ?_
  refine rb_regionK fun K6 hK6 => ?_
  simp -implicitDefEqProofs only [vt, vm, ↓atI_fold, forall_const, implies_true, sevalprocAttr, dd_HA]
  obtain ⟨r7, h8, h⟩ := bind_some h
  refine cW.intro (a_charset_Valid I hI hU8T s_0 h8) (by first | rfl | (simp [List.map_append, dd_HA]; done)) ?_
  simp -implicitDefEqProofs only [vt, vm, ↓atI_fold, forall_const, implies_true, sevalprocAttr, dd_HA]
  subst hK6
  refine eb_seq ?_
  rcases ite_or h with ⟨k9, h⟩ | ⟨k9, h⟩
  · refine rb_false (by first | exact congrArg D.bool (congrArg Bool.not k9) | rfl) ?_
    refine rb_skip ?_
    refine eb_seq ?_
    refine rb_seq ?_
    refine rb_regionK fun K13 hK13 => ?_
    simp -implicitDefEqProofs only [vt, vm, ↓atI_fold, forall_const, implies_true, sevalprocAttr, dd_HA, k9]
    obtain ⟨r14, h15, h⟩ := bind_some h
    refine cW.intro (a_unicode_utf8_RuneCountInString I hI s_0 h15) (by first | rfl | (simp [List.map_append, dd_HA]; done)) ?_
    simp -implicitDefEqProofs only [vt, vm, ↓atI_fold, forall_const, implies_true, sevalprocAttr, dd_HA, k9]
    subst hK13
    refine eb_seq ?_
    refine rb_ret ?_
    obtain rfl := Option.some.inj h
    refine eb_nil ?_
    simp -implicitDefEqProofs only [vt, vm, ↓atI_fold, forall_const, implies_true, sevalprocAttr, retQ_r, Tryd.results120, dd_HA, k9] <;> first | rfl | (simp [List.map_append, dd_HA]; done)
  · refine rb_true (by first | exact congrArg D.bool (congrArg Bool.not k9) | rfl) ?_
    refine rb_seq ?_
    refine rb_regionK fun K17 hK17 => ?_
    simp -implicitDefEqProofs only [vt, vm, ↓atI_fold, forall_const, implies_true, sevalprocAttr, dd_HA, k9]
    subst hK17
    refine eb_seq ?_
    refine rb_ret ?_
    refine eb_seq_r ?_
    obtain rfl := Option.some.inj h
    refine eb_nil ?_
    simp -implicitDefEqProofs only [vt, vm, ↓atI_fold, forall_const, implies_true, sevalprocAttr, retQ_r, Tryd.results120, dd_HA, k9] <;> first | rfl | (simp [List.map_append, dd_HA]; done)
-- lines.Name
def g_lines_Name_s1 (s_0 : List UInt8) (x22 : Int) : Option (Nx (Int) (Unit ⊕ Unit)) :=
  (if (decide (x22 < (s_0.length : Int))) then ((atI s_0 x22).bind fun b144 => (((if (decide ((b144.toNat : Int) < 65)) then (if (decide ((b144.toNat : Int) < 48)) then (if ((b144.toNat : Int) != 95) then (some ((b144.toNat : Int) != 45)) else (some false)) else (if (decide (57 < (b144.toNat : Int))) then (if ((b144.toNat : Int) != 95) then (some ((b144.toNat : Int) != 45)) else (some false)) else (some false))) else (if (decide (90 < (b144.toNat : Int))) then (if (decide ((b144.toNat : Int) < 48)) then (if ((b144.toNat : Int) != 95) then (some ((b144.toNat : Int) != 45)) else (some false)) else (if (decide (57 < (b144.toNat : Int))) then (if ((b144.toNat : Int) != 95) then (some ((b144.toNat : Int) != 45)) else (some false)) else (some false))) else (some false))) : Option (Bool)).bind fun v157 => (if v157 then (some (.out (.inl ()))) else (some (.go (IntKind.i64.wrap (x22 + 1))))))) else (some (.out (.inr ()))))
def g_lines_Name (s_0 : List UInt8) : Option (Bool) :=
  (((if (decide ((s_0.length : Int) < 1)) then (some true) else (if (decide (16 < (s_0.length : Int))) then (some true) else ((atI s_0 0).bind fun b13 => (if (decide ((b13.toNat : Int) < 65)) then (some true) else (some (decide (90 < (b13.toNat : Int)))))))) : Option (Bool)).bind fun v9 => (if v9 then (some false) else ((iter (g_lines_Name_s1 s_0) 0).bind fun e23 => (match e23 with | Sum.inl e23 => (some false) | Sum.inr (e23) => (some true)))))
theorem a_lines_Name (I : World → Prop) (hI : Stab I) (s_0 : List UInt8) {r : Bool} (h : g_lines_Name s_0 = some r) : AFun Tryd.prog I 83 [.str s_0] (.bool r) := by
  refine AFun.enterB hI Tryd.func83 rfl (by decide) (by simp [Tryd.f83]) (by kernel_rfl) ?_
  unfold g_lines_Name at h
  simp only [S0, Tryd.ntmps83, dd_HA]
  refine rb_seq ?_
  refine rb_regionK fun K2 hK2 => ?_
  simp -implicitDefEqProofs only [vt, vm, ↓atI_fold, forall_const, implies_true, sevalprocAttr, dd_HA]
  subst hK2
  refine eb_seq ?_
  refine rb_seq ?_
  obtain ⟨v9, h16, h⟩ := bind_some h
  refine rb_cut (fun v9 => ⟨envL [(0, .str s_0), (22, .bool v9)], heapL [], 0, 54⟩) h16 ?_ ?_
  · clear h
    intro v9 h
    refine rb_regionK fun K10 hK10 => ?_
    simp -implicitDefEqProofs only [vt, vm, ↓atI_fold, forall_const, implies_true, sevalprocAttr, dd_HA]
    rcases ite_or h with ⟨k11, h⟩ | ⟨k11, h⟩
    · simp -implicitDefEqProofs only [vt, vm, ↓atI_fold, forall_const, implies_true, sevalprocAttr, dd_HA, k11]
      subst hK10
      obtain rfl := Option.some.inj h
      exact eb_nil ⟨rfl, Wk.of (fun i => some i) _ _ _ (by simp -implicitDefEqProofs [kv, km, dd_HA, k11]) (by simp -implicitDefEqProofs [kv, km, dd_HA, k11])⟩
    · simp -implicitDefEqProofs only [vt, vm, ↓atI_fold, forall_const, implies_true, sevalprocAttr, dd_HA, k11]
      rcases ite_or h with ⟨k12, h⟩ | ⟨k12, h⟩
      · simp -implicitDefEqProofs only [vt, vm, ↓atI_fold, forall_const, implies_true, sevalprocAttr, dd_HA, k11, k12]
        subst hK10
        obtain rfl := Option.some.inj h
        exact eb_nil ⟨rfl, Wk.of (fun i => some i) _ _ _ (by simp -implicitDefEqProofs [kv, km, dd_HA, k11, k12]) (by simp -implicitDefEqProofs [kv, km, dd_HA, k11, k12])⟩
      · simp -implicitDefEqProofs only [vt, vm, ↓atI_fold, forall_const, implies_true, sevalprocAttr, dd_HA, k11, k12]
        obtain ⟨b13, h14, h⟩ := bind_some h
        simp -implicitDefEqProofs only [vt, vm, ↓atI_fold, forall_const, implies_true, sevalprocAttr, dd_HA, k11, k12, h14]
        rcases ite_or h with ⟨k15, h⟩ | ⟨k15, h⟩
        · simp -implicitDefEqProofs only [vt, vm, ↓atI_fold, forall_const, implies_true, sevalprocAttr, dd_HA, k11, k12, h14, k15]
          subst hK10
          obtain rfl := Option.some.inj h
          exact eb_nil ⟨rfl, Wk.of (fun i => some i) _ _ _ (by simp -implicitDefEqProofs [kv, km, dd_HA, k11, k12, k15]) (by simp -implicitDefEqProofs [kv, km, dd_HA, k11, k12, k15])⟩
        · simp -implicitDefEqProofs only [vt, vm, ↓atI_fold, forall_const, implies_true, sevalprocAttr, dd_HA, k11, k12, h14, k15]
          subst hK10
          obtain rfl := Option.some.inj h
          exact eb_nil ⟨rfl, Wk.of (fun i => some i) _ _ _ (by simp -implicitDefEqProofs [kv, km, dd_HA, k11, k12, k15]) (by simp -implicitDefEqProofs [kv, km, dd_HA, k11, k12, k15])⟩
  · rcases ite_or h with ⟨k17, h⟩ | ⟨k17, h⟩
    · refine rb_true (by first | exact congrArg D.bool k17 | rfl) ?_
      refine rb_seq ?_
      refine rb_regionK fun K19 hK19 => ?_
      simp -implicitDefEqProofs only [vt, vm, ↓atI_fold, forall_const, implies_true, sevalprocAttr, dd_HA, k17]
      subst hK19
      refine eb_seq ?_
      refine rb_ret ?_
      refine eb_seq_r ?_
      obtain rfl := Option.some.inj h
      refine eb_nil ?_
      simp -implicitDefEqProofs only [vt, vm, ↓atI_fold, forall_const, implies_true, sevalprocAttr, retQ_r, Tryd.results83, dd_HA, k17] <;> first | rfl | (simp [List.map_append, dd_HA]; done)
    · refine rb_false (by first | exact congrArg D.bool k17 | rfl) ?_
      refine rb_skip ?_
      refine eb_seq ?_
      refine rb_seq ?_
      refine rb_seq ?_
      refine rb_regionK fun K21 hK21 => ?_
      simp -implicitDefEqProofs only [vt, vm, ↓atI_fold, forall_const, implies_true, sevalprocAttr, dd_HA, k17]
      subst hK21
      refine eb_seq ?_
      refine rb_block ?_
      obtain ⟨e23, h174, h⟩ := bind_some h
      refine rb_loop (fun x22 => ⟨envL [(0, .str s_0), (24, .int .i64 (s_0.length : Int)), (25, .int .i64 x22)], heapL [], 0, 54⟩) (fun w => match w with | Sum.inl _ => .ret | Sum.inr (_) => .exit 0) (fun w => match w with | Sum.inl e23 => ⟨envL [(2, .bool false)], heapL [], 0, 54⟩ | Sum.inr (e23) => ⟨envL [], heapL [], 0, 54⟩) h174 (Wk.of (fun i => some i) _ _ _ (by simp -implicitDefEqProofs [kv, km, dd_HA, k17]) (by simp -implicitDefEqProofs [kv, km, dd_HA, k17])) (by intro w; rcases w with w | w <;> simp) ?_ ?_
      · clear h
        intro x22 y h
        unfold g_lines_Name_s1 at h
        refine rb_seq ?_
        refine rb_regionK fun K100 hK100 => ?_
        simp -implicitDefEqProofs only [vt, vm, ↓atI_fold, forall_const, implies_true, sevalprocAttr, dd_HA, k17]
        subst hK100
        refine eb_seq ?_
        refine rb_seq ?_
        rcases ite_or h with ⟨k102, h⟩ | ⟨k102, h⟩
        · refine rb_true (by first | exact congrArg D.bool k102 | rfl) ?_
          refine rb_skip ?_
          refine eb_seq ?_
          refine rb_seq ?_
          refine rb_block ?_
          refine rb_seq ?_
          refine rb_regionK fun K139 hK139 => ?_
          simp -implicitDefEqProofs only [vt, vm, ↓atI_fold, forall_const, implies_true, sevalprocAttr, dd_HA, k17, k102]
          subst hK139
          refine eb_seq ?_
          refine rb_seq ?_
          refine rb_regionK fun K143 hK143 => ?_
          simp -implicitDefEqProofs only [vt, vm, ↓atI_fold, forall_const, implies_true, sevalprocAttr, dd_HA, k17, k102]
          obtain ⟨b144, h145, h⟩ := bind_some h
          simp -implicitDefEqProofs only [vt, vm, ↓atI_fold, forall_const, implies_true, sevalprocAttr, dd_HA, k17, k102, h145]
          subst hK143
          refine eb_seq ?_
          obtain ⟨v157, h169, h⟩ := bind_some h
          refine rb_cut (fun v157 => ⟨envL [(0, .str s_0), (24, .int .i64 (s_0.length : Int)), (25, .int .i64 x22), (52, .bool v157)], heapL [], 0, 54⟩) h169 ?_ ?_
          · clear h
            intro v157 h
            refine rb_regionK fun K158 hK158 => ?_
            simp -implicitDefEqProofs only [vt, vm, ↓atI_fold, forall_const, implies_true, sevalprocAttr, dd_HA, k17, k102, h145]
            rcases ite_or h with ⟨k159, h⟩ | ⟨k159, h⟩
            · simp -implicitDefEqProofs only [vt, vm, ↓atI_fold, forall_const, implies_true, sevalprocAttr, dd_HA, k17, k102, h145, k159]
              rcases ite_or h with ⟨k160, h⟩ | ⟨k160, h⟩
              · simp -implicitDefEqProofs only [vt, vm, ↓atI_fold, forall_const, implies_true, sevalprocAttr, dd_HA, k17, k102, h145, k159, k160]
                rcases ite_or h with ⟨k161, h⟩ | ⟨k161, h⟩
                · simp -implicitDefEqProofs only [vt, vm, ↓atI_fold, forall_const, implies_true, sevalprocAttr, dd_HA, k17, k102, h145, k159, k160, k161]
                  subst hK158
                  obtain rfl := Option.some.inj h
                  exact eb_nil ⟨rfl, Wk.of (fun i => some i) _ _ _ (by simp -implicitDefEqProofs [kv, km, dd_HA, k17, k102, k159, k160, k161]) (by simp -implicitDefEqProofs [kv, km, dd_HA, k17, k102, k159, k160, k161])⟩
                · simp -implicitDefEqProofs only [vt, vm, ↓atI_fold, forall_const, implies_true, sevalprocAttr, dd_HA, k17, k102, h145, k159, k160, k161]
                  subst hK158
                  obtain rfl := Option.some.inj h
                  exact eb_nil ⟨rfl, Wk.of (fun i => some i) _ _ _ (by simp -implicitDefEqProofs [kv, km, dd_HA, k17, k102, k159, k160, k161]) (by simp -implicitDefEqProofs [kv, km, dd_HA, k17, k102, k159, k160, k161])⟩
              · simp -implicitDefEqProofs only [vt, vm, ↓atI_fold, forall_const, implies_true, sevalprocAttr, dd_HA, k17, k102, h145, k159, k160]
                rcases ite_or h with ⟨k162, h⟩ | ⟨k162, h⟩
                · simp -implicitDefEqProofs only [vt, vm, ↓atI_fold, forall_const, implies_true, sevalprocAttr, dd_HA, k17, k102, h145, k159, k160, k162]
                  rcases ite_or h with ⟨k163, h⟩ | ⟨k163, h⟩
                  · simp -implicitDefEqProofs only [vt, vm, ↓atI_fold, forall_const, implies_true, sevalprocAttr, dd_HA, k17, k102, h145, k159, k160, k162, k163]
                    subst hK158
                    obtain rfl := Option.some.inj h
                    exact eb_nil ⟨rfl, Wk.of (fun i => some i) _ _ _ (by simp -implicitDefEqProofs [kv, km, dd_HA, k17, k102, k159, k160, k162, k163]) (by simp -implicitDefEqProofs [kv, km, dd_HA, k17, k102, k159, k160, k162, k163])⟩
                  · simp -implicitDefEqProofs only [vt, vm, ↓atI_fold, forall_const, implies_true, sevalprocAttr, dd_HA, k17, k102, h145, k159, k160, k162, k163]
                    subst hK158
                    obtain rfl := Option.some.inj h
                    exact eb_nil ⟨rfl, Wk.of (fun i => some i) _ _ _ (by simp -implicitDefEqProofs [kv, km, dd_HA, k17, k102, k159, k160, k162, k163]) (by simp -implicitDefEqProofs [kv, km, dd_HA, k17, k102, k159, k160, k162, k163])⟩
                · simp -implicitDefEqProofs only [vt, vm, ↓atI_fold, forall_const, implies_true, sevalprocAttr, dd_HA, k17, k102, h145, k159, k160, k162]
                  subst hK158
                  obtain rfl := Option.some.inj h
                  exact eb_nil ⟨rfl, Wk.of (fun i => some i) _ _ _ (by simp -implicitDefEqProofs [kv, km, dd_HA, k17, k102, k159, k160, k162]) (by simp -implicitDefEqProofs [kv, km, dd_HA, k17, k102, k159, k160, k162])⟩
            · simp -implicitDefEqProofs only [vt, vm, ↓atI_fold, forall_const, implies_true, sevalprocAttr, dd_HA, k17, k102, h145, k159]
              rcases ite_or h with ⟨k164, h⟩ | ⟨k164, h⟩
              · simp -implicitDefEqProofs only [vt, vm, ↓atI_fold, forall_const, implies_true, sevalprocAttr, dd_HA, k17, k102, h145, k159, k164]
                rcases ite_or h with ⟨k165, h⟩ | ⟨k165, h⟩
                · simp -implicitDefEqProofs only [vt, vm, ↓atI_fold, forall_const, implies_true, sevalprocAttr, dd_HA, k17, k102, h145, k159, k164, k165]
                  rcases ite_or h with ⟨k166, h⟩ | ⟨k166, h⟩
                  · simp -implicitDefEqProofs only [vt, vm, ↓atI_fold, forall_const, implies_true, sevalprocAttr, dd_HA, k17, k102, h145, k159, k164, k165, k166]
                    subst hK158
                    obtain rfl := Option.some.inj h
                    exact eb_nil ⟨rfl, Wk.of (fun i => some i) _ _ _ (by simp -implicitDefEqProofs [kv, km, dd_HA, k17, k102, k159, k164, k165, k166]) (by simp -implicitDefEqProofs [kv, km, dd_HA, k17, k102, k159, k164, k165, k166])⟩
                  · simp -implicitDefEqProofs only [vt, vm, ↓atI_fold, forall_const, implies_true, sevalprocAttr, dd_HA, k17, k102, h145, k159, k164, k165, k166]
                    subst hK158
                    obtain rfl := Option.some.inj h
                    exact eb_nil ⟨rfl, Wk.of (fun i => some i) _ _ _ (by simp -implicitDefEqProofs [kv, km, dd_HA, k17, k102, k159, k164, k165, k166]) (by simp -implicitDefEqProofs [kv, km, dd_HA, k17, k102, k159, k164, k165, k166])⟩
                · simp -implicitDefEqProofs only [vt, vm, ↓atI_fold, forall_const, implies_true, sevalprocAttr, dd_HA, k17, k102, h145, k159, k164, k165]
                  rcases ite_or h with ⟨k167, h⟩ | ⟨k167, h⟩
                  · simp -implicitDefEqProofs only [vt, vm, ↓atI_fold, forall_const, implies_true, sevalprocAttr, dd_HA, k17, k102, h145, k159, k164, k165, k167]
                    rcases ite_or h with ⟨k168, h⟩ | ⟨k168, h⟩
                    · simp -implicitDefEqProofs only [vt, vm, ↓atI_fold, forall_const, implies_true, sevalprocAttr, dd_HA, k17, k102, h145, k159, k164, k165, k167, k168]
                      subst hK158
                      obtain rfl := Option.some.inj h
                      exact eb_nil ⟨rfl, Wk.of (fun i => some i) _ _ _ (by simp -implicitDefEqProofs [kv, km, dd_HA, k17, k102, k159, k164, k165, k167, k168]) (by simp -implicitDefEqProofs [kv, km, dd_HA, k17, k102, k159, k164, k165, k167, k168])⟩
                    · simp -implicitDefEqProofs only [vt, vm, ↓atI_fold, forall_const, implies_true, sevalprocAttr, dd_HA, k17, k102, h145, k159, k164, k165, k167, k168]
                      subst hK158
                      obtain rfl := Option.some.inj h
                      exact eb_nil ⟨rfl, Wk.of (fun i => some i) _ _ _ (by simp -implicitDefEqProofs [kv, km, dd_HA, k17, k102, k159, k164, k165, k167, k168]) (by simp -implicitDefEqProofs [kv, km, dd_HA, k17, k102, k159, k164, k165, k167, k168])⟩
                  · simp -implicitDefEqProofs only [vt, vm, ↓atI_fold, forall_const, implies_true, sevalprocAttr, dd_HA, k17, k102, h145, k159, k164, k165, k167]
                    subst hK158
                    obtain rfl := Option.some.inj h
                    exact eb_nil ⟨rfl, Wk.of (fun i => some i) _ _ _ (by simp -implicitDefEqProofs [kv, km, dd_HA, k17, k102, k159, k164, k165, k167]) (by simp -implicitDefEqProofs [kv, km, dd_HA, k17, k102, k159, k164, k165, k167])⟩
              · simp -implicitDefEqProofs only [vt, vm, ↓atI_fold, forall_const, implies_true, sevalprocAttr, dd_HA, k17, k102, h145, k159, k164]
                subst hK158
                obtain rfl := Option.some.inj h
                exact eb_nil ⟨rfl, Wk.of (fun i => some i) _ _ _ (by simp -implicitDefEqProofs [kv, km, dd_HA, k17, k102, k159, k164]) (by simp -implicitDefEqProofs [kv, km, dd_HA, k17, k102, k159, k164])⟩
          · rcases ite_or h with ⟨k170, h⟩ | ⟨k170, h⟩
            · refine rb_true (by first | exact congrArg D.bool k170 | rfl) ?_
              refine rb_seq ?_
              refine rb_regionK fun K172 hK172 => ?_
              simp -implicitDefEqProofs only [vt, vm, ↓atI_fold, forall_const, implies_true, sevalprocAttr, dd_HA, k17, k102, h145, k170]
              subst hK172
              refine eb_seq ?_
              refine rb_ret ?_
              refine eb_blk_r ?_
              refine eb_seq_r ?_
              obtain rfl := Option.some.inj h
              exact eb_nil ⟨rfl, Wk.of (fun i => some i) _ _ _ (by simp -implicitDefEqProofs [kv, km, dd_HA, k17, k102, k170]) (by simp -implicitDefEqProofs [kv, km, dd_HA, k17, k102, k170])⟩
            · refine rb_false (by first | exact congrArg D.bool k170 | rfl) ?_
              refine rb_skip ?_
              refine eb_blk_n ?_
              refine eb_seq ?_
              refine rb_regionK fun K173 hK173 => ?_
              simp -implicitDefEqProofs only [vt, vm, ↓atI_fold, forall_const, implies_true, sevalprocAttr, dd_HA, k17, k102, h145, k170]
              subst hK173
              obtain rfl := Option.some.inj h
              exact eb_nil ⟨rfl, Wk.of (fun i => some i) _ _ _ (by simp -implicitDefEqProofs [kv, km, dd_HA, k17, k102, k170]) (by simp -implicitDefEqProofs [kv, km, dd_HA, k17, k102, k170])⟩
        · refine rb_false (by first | exact congrArg D.bool k102 | rfl) ?_
          refine rb_exit ?_
          refine eb_seq_e ?_
          obtain rfl := Option.some.inj h
          exact eb_nil ⟨rfl, Wk.of (fun i => some i) _ _ _ (by simp -implicitDefEqProofs [kv, km, dd_HA, k17, k102]) (by simp -implicitDefEqProofs [kv, km, dd_HA, k17, k102])⟩
      · rcases e23 with e23 | e23
        · try dsimp only at h ⊢
          refine eb_blk_r ?_
          refine eb_seq_r ?_
          obtain rfl := Option.some.inj h
          refine eb_nil ?_
          simp -implicitDefEqProofs only [vt, vm, ↓atI_fold, forall_const, implies_true, sevalprocAttr, retQ_r, Tryd.results83, dd_HA, k17] <;> first | rfl | (simp [List.map_append, dd_HA]; done)
        · try dsimp only at h ⊢
          refine eb_blk_hit ?_
          refine eb_seq ?_
          refine rb_seq ?_
          refine rb_regionK fun K176 hK176 => ?_
          simp -implicitDefEqProofs only [vt, vm, ↓atI_fold, forall_const, implies_true, sevalprocAttr, dd_HA, k17]
          subst hK176
          refine eb_seq ?_
          refine rb_ret ?_
          obtain rfl := Option.some.inj h
          refine eb_nil ?_
          simp -implicitDefEqProofs only [vt, vm, ↓atI_fold, forall_const, implies_true, sevalprocAttr, retQ_r, Tryd.results83, dd_HA, k17] <;> first | rfl | (simp [List.map_append, dd_HA]; done)
-- document.rate
def g_document_rate (r_0 : Int) (drop_1 : Bool) : Option (Int) :=
  ((g_timebase_Valid r_0).bind fun r11 => (if r11 then (if drop_1 then ((g_timebase_CanDrop r_0).bind fun r15 => (if r15 then (some 0) else (some 13))) else (some 0)) else (some 13)))
theorem a_document_rate (I : World → Prop) (hI : Stab I) (r_0 : Int) (drop_1 : Bool) {r : Int} (h : g_document_rate r_0 drop_1 = some r) : AFun Tryd.prog I 110 [.int .u8 r_0, .bool drop_1] (.int .i64 r) := by
  refine AFun.enterB hI Tryd.func110 rfl (by decide) (by simp [Tryd.f110]) (by kernel_rfl) ?_
  unfold g_document_rate at h
  simp only [S0, Tryd.ntmps110, dd_HA]
  refine rb_seq ?_
  refine rb_regionK fun K2 hK2 => ?_
  simp -implicitDefEqProofs only [vt, vm, ↓atI_fold, forall_const, implies_true, sevalprocAttr, dd_HA]
  subst hK2
  refine eb_seq ?_
  refine rb_seq ?_
  refine rb_seq ?_
  refine rb_regionK fun K10 hK10 => ?_
  simp -implicitDefEqProofs only [vt, vm, ↓atI_fold, forall_const, implies_true, sevalprocAttr, dd_HA]
  obtain ⟨r11, h12, h⟩ := bind_some h
  refine cW.intro (a_timebase_Valid I hI r_0 h12) (by first | rfl | (simp [List.map_append, dd_HA]; done)) ?_
  simp -implicitDefEqProofs only [vt, vm, ↓atI_fold, forall_const, implies_true, sevalprocAttr, dd_HA]
  rcases ite_or h with ⟨k13, h⟩ | ⟨k13, h⟩
  · simp -implicitDefEqProofs only [vt, vm, ↓atI_fold, forall_const, implies_true, sevalprocAttr, dd_HA, k13]
    rcases ite_or h with ⟨k14, h⟩ | ⟨k14, h⟩
    · simp -implicitDefEqProofs only [vt, vm, ↓atI_fold, forall_const, implies_true, sevalprocAttr, dd_HA, k13, k14]
      obtain ⟨r15, h16, h⟩ := bind_some h
      refine cW.intro (a_timebase_CanDrop I hI r_0 h16) (by first | rfl | (simp [List.map_append, dd_HA]; done)) ?_
      simp -implicitDefEqProofs only [vt, vm, ↓atI_fold, forall_const, implies_true, sevalprocAttr, dd_HA, k13, k14]
      subst hK10
      refine eb_seq ?_
      rcases ite_or h with ⟨k17, h⟩ | ⟨k17, h⟩
      · refine rb_false (by first | exact congrArg D.bool (congrArg Bool.not k17) | rfl) ?_
        refine rb_skip ?_
        refine eb_seq ?_
        refine rb_seq ?_
        refine rb_regionK fun K19 hK19 => ?_
        simp -implicitDefEqProofs only [vt, vm, ↓atI_fold, forall_const, implies_true, sevalprocAttr, dd_HA, k13, k14, k17]
        subst hK19
        refine eb_seq ?_
        refine rb_ret ?_
        obtain rfl := Option.some.inj h
        refine eb_nil ?_
        simp -implicitDefEqProofs only [vt, vm, ↓atI_fold, forall_const, implies_true, sevalprocAttr, retQ_r, Tryd.results110, dd_HA, k13, k14, k17] <;> first | rfl | (simp [List.map_append, dd_HA]; done)
      · refine rb_true (by first | exact congrArg D.bool (congrArg Bool.not k17) | rfl) ?_
        refine rb_seq ?_
        refine rb_regionK fun K21 hK21 => ?_
        simp -implicitDefEqProofs only [vt, vm, ↓atI_fold, forall_const, implies_true, sevalprocAttr, dd_HA, k13, k14, k17]
        subst hK21
        refine eb_seq ?_
        refine rb_ret ?_
        refine eb_seq_r ?_
        obtain rfl := Option.some.inj h
        refine eb_nil ?_
        simp -implicitDefEqProofs only [vt, vm, ↓atI_fold, forall_const, implies_true, sevalprocAttr, retQ_r, Tryd.results110, dd_HA, k13, k14, k17] <;> first | rfl | (simp [List.map_append, dd_HA]; done)
    · simp -implicitDefEqProofs only [vt, vm, ↓atI_fold, forall_const, implies_true, sevalprocAttr, dd_HA, k13, k14]
      subst hK10
      refine eb_seq ?_
      refine rb_false (rfl) ?_
      refine rb_skip ?_
      refine eb_seq ?_
      refine rb_seq ?_
      refine rb_regionK fun K23 hK23 => ?_
      simp -implicitDefEqProofs only [vt, vm, ↓atI_fold, forall_const, implies_true, sevalprocAttr, dd_HA, k13, k14]
      subst hK23
      refine eb_seq ?_
      refine rb_ret ?_
      obtain rfl := Option.some.inj h
      refine eb_nil ?_
      simp -implicitDefEqProofs only [vt, vm, ↓atI_fold, forall_const, implies_true, sevalprocAttr, retQ_r, Tryd.results110, dd_HA, k13, k14] <;> first | rfl | (simp [List.map_append, dd_HA]; done)
  · simp -implicitDefEqProofs only [vt, vm, ↓atI_fold, forall_const, implies_true, sevalprocAttr, dd_HA, k13]
    subst hK10
    refine eb_seq ?_
    refine rb_true (rfl) ?_
    refine rb_seq ?_
    refine rb_regionK fun K25 hK25 => ?_
    simp -implicitDefEqProofs only [vt, vm, ↓atI_fold, forall_const, implies_true, sevalprocAttr, dd_HA, k13]
    subst hK25
    refine eb_seq ?_
    refine rb_ret ?_
    refine eb_seq_r ?_
    obtain rfl := Option.some.inj h
    refine eb_nil ?_
    simp -implicitDefEqProofs only [vt, vm, ↓atI_fold, forall_const, implies_true, sevalprocAttr, retQ_r, Tryd.results110, dd_HA, k13] <;> first | rfl | (simp [List.map_append, dd_HA]; done)
-- document.header
def g_document_header (d_0 : T_api_Document) : Option (Int) :=
  ((((g_charset_Valid d_0.Title).bind fun r33 => (if r33 then (if (decide (400 < (d_0.Title.length : Int))) then (some (.out 9)) else (if (d_0.Lang == ([] : List UInt8)) then (some (.go ())) else ((g_lines_Name d_0.Lang).bind fun r47 => (if r47 then (some (.go ())) else (some (.out 5)))))) else (some (.out 10)))) : Option (Nx (Unit) (Int))).bind fun w55 => match w55 with | .go v28 => ((g_document_rate d_0.Rate d_0.Drop).bind fun r61 => (if (r61 != 0) then (some r61) else (if (decide (d_0.Last < 0)) then (some 2) else (if (decide (1099511627776 < d_0.Last)) then (some 2) else (some 0))))) | .out e56 => (some e56))
theorem a_document_header (I : World → Prop) (hI : Stab I) (hU8T : ∀ w, I w → U8T w) (d_0 : T_api_Document) {r : Int} (h : g_document_header d_0 = some r) : AFun Tryd.prog I 78 [T_api_Document.d d_0] (.int .i64 r) := by
  refine AFun.enterB hI Tryd.func78 rfl (by decide) (by simp [Tryd.f78]) (by kernel_rfl) ?_
  unfold g_document_header at h
  simp only [S0, Tryd.ntmps78, dd_HA]
  refine rb_seq ?_
  refine rb_regionK fun K2 hK2 => ?_
  simp -implicitDefEqProofs only [vt, vm, ↓atI_fold, forall_const, implies_true, sevalprocAttr, dd_HA]
  subst hK2
  refine eb_seq ?_
  obtain ⟨w55, h54, h⟩ := bind_some h
  refine rb_seg (fun v28 => ⟨envL [(1, .ptr 0 0)], heapL [(0, .box none [.str d_0.Title, .str d_0.Lang, .int .u8 d_0.Rate, .bool d_0.Drop, .int .i64 d_0.Last, .sl (d_0.Regions.map T_api_Region.d), .sl (d_0.Events.map T_api_Event.d), .sl (d_0.Comments.map T_api_Comment.d)])], 1, 40⟩) (fun _ => .ret) (fun e56 => ⟨envL [(2, .int .i64 e56)], heapL [], 0, 40⟩) h54 (by intro w; simp) ?_ ?_ ?_
  · clear h
    intro w55 h
    refine rb_block ?_
    refine rb_seq ?_
    refine rb_regionK fun K32 hK32 => ?_
    simp -implicitDefEqProofs only [vt, vm, ↓atI_fold, forall_const, implies_true, sevalprocAttr, dd_HA]
    obtain ⟨r33, h34, h⟩ := bind_some h
    refine cW.intro (a_charset_Valid I hI hU8T d_0.Title h34) (by first | rfl | (simp [List.map_append, dd_HA]; done)) ?_
    simp -implicitDefEqProofs only [vt, vm, ↓atI_fold, forall_const, implies_true, sevalprocAttr, dd_HA]
    subst hK32
    refine eb_seq ?_
    rcases ite_or h with ⟨k35, h⟩ | ⟨k35, h⟩
    · refine rb_false (by first | exact congrArg D.bool (congrArg Bool.not k35) | rfl) ?_
      refine rb_seq ?_
      refine rb_regionK fun K37 hK37 => ?_
      simp -implicitDefEqProofs only [vt, vm, ↓atI_fold, forall_const, implies_true, sevalprocAttr, dd_HA, k35]
      subst hK37
      refine eb_seq ?_
      rcases ite_or h with ⟨k38, h⟩ | ⟨k38, h⟩
      · refine rb_true (by first | exact congrArg D.bool k38 | rfl) ?_
        refine rb_seq ?_
        refine rb_regionK fun K40 hK40 => ?_
        simp -implicitDefEqProofs only [vt, vm, ↓atI_fold, forall_const, implies_true, sevalprocAttr, dd_HA, k35, k38]
        subst hK40
        refine eb_seq ?_
        refine rb_ret ?_
        refine eb_blk_r ?_
        obtain rfl := Option.some.inj h
        exact eb_nil ⟨rfl, Wk.of (fun i => some i) _ _ _ (by simp -implicitDefEqProofs [kv, km, dd_HA, k35, k38]) (by simp -implicitDefEqProofs [kv, km, dd_HA, k35, k38])⟩
      · refine rb_false (by first | exact congrArg D.bool k38 | rfl) ?_
        refine rb_seq ?_
        refine rb_regionK fun K45 hK45 => ?_
        simp -implicitDefEqProofs only [vt, vm, ↓atI_fold, forall_const, implies_true, sevalprocAttr, dd_HA, k35, k38]
        rcases ite_or h with ⟨k46, h⟩ | ⟨k46, h⟩
        · simp -implicitDefEqProofs only [vt, vm, ↓atI_fold, forall_const, implies_true, sevalprocAttr, dd_HA, k35, k38, k46]
          subst hK45
          refine eb_seq ?_
          refine rb_false (rfl) ?_
          refine rb_skip ?_
          refine eb_blk_n ?_
          obtain rfl := Option.some.inj h
          exact eb_nil ⟨rfl, Wk.of (fun i => if i = 0 then some 0 else some i) _ _ _ (by simp -implicitDefEqProofs [kv, km, dd_HA, k35, k38, k46]) (by simp -implicitDefEqProofs [kv, km, dd_HA, k35, k38, k46])⟩
        · simp -implicitDefEqProofs only [vt, vm, ↓atI_fold, forall_const, implies_true, sevalprocAttr, dd_HA, k35, k38, k46]
          obtain ⟨r47, h48, h⟩ := bind_some h
          refine cW.intro (a_lines_Name I hI d_0.Lang h48) (by first | rfl | (simp [List.map_append, dd_HA]; done)) ?_
          simp -implicitDefEqProofs only [vt, vm, ↓atI_fold, forall_const, implies_true, sevalprocAttr, dd_HA, k35, k38, k46]
          subst hK45
          refine eb_seq ?_
          rcases ite_or h with ⟨k49, h⟩ | ⟨k49, h⟩
          · refine rb_false (by first | exact congrArg D.bool (congrArg Bool.not k49) | rfl) ?_
            refine rb_skip ?_
            refine eb_blk_n ?_
            obtain rfl := Option.some.inj h
            exact eb_nil ⟨rfl, Wk.of (fun i => if i = 0 then some 0 else some i) _ _ _ (by simp -implicitDefEqProofs [kv, km, dd_HA, k35, k38, k46, k49]) (by simp -implicitDefEqProofs [kv, km, dd_HA, k35, k38, k46, k49])⟩
          · refine rb_true (by first | exact congrArg D.bool (congrArg Bool.not k49) | rfl) ?_
            refine rb_seq ?_
            refine rb_regionK fun K51 hK51 => ?_
            simp -implicitDefEqProofs only [vt, vm, ↓atI_fold, forall_const, implies_true, sevalprocAttr, dd_HA, k35, k38, k46, k49]
            subst hK51
            refine eb_seq ?_
            refine rb_ret ?_
            refine eb_blk_r ?_
            obtain rfl := Option.some.inj h
            exact eb_nil ⟨rfl, Wk.of (fun i => some i) _ _ _ (by simp -implicitDefEqProofs [kv, km, dd_HA, k35, k38, k46, k49]) (by simp -implicitDefEqProofs [kv, km, dd_HA, k35, k38, k46, k49])⟩
    · refine rb_true (by first | exact congrArg D.bool (congrArg Bool.not k35) | rfl) ?_
      refine rb_seq ?_
      refine rb_regionK fun K53 hK53 => ?_
      simp -implicitDefEqProofs only [vt, vm, ↓atI_fold, forall_const, implies_true, sevalprocAttr, dd_HA, k35]
      subst hK53
      refine eb_seq ?_
      refine rb_ret ?_
      refine eb_blk_r ?_
      obtain rfl := Option.some.inj h
      exact eb_nil ⟨rfl, Wk.of (fun i => some i) _ _ _ (by simp -implicitDefEqProofs [kv, km, dd_HA, k35]) (by simp -implicitDefEqProofs [kv, km, dd_HA, k35])⟩
  · rintro v28 rfl
    dsimp only at h
    refine rb_seq ?_
    refine rb_seq ?_
    refine rb_regionK fun K60 hK60 => ?_
    simp -implicitDefEqProofs only [vt, vm, ↓atI_fold, forall_const, implies_true, sevalprocAttr, dd_HA]
    obtain ⟨r61, h62, h⟩ := bind_some h
    refine cW.intro (a_document_rate I hI d_0.Rate d_0.Drop h62) (by first | rfl | (simp [List.map_append, dd_HA]; done)) ?_
    simp -implicitDefEqProofs only [vt, vm, ↓atI_fold, forall_const, implies_true, sevalprocAttr, dd_HA]
    subst hK60
    refine eb_seq ?_
    refine rb_seq ?_
    refine rb_regionK fun K64 hK64 => ?_
    simp -implicitDefEqProofs only [vt, vm, ↓atI_fold, forall_const, implies_true, sevalprocAttr, dd_HA]
    subst hK64
    refine eb_seq ?_
    rcases ite_or h with ⟨k65, h⟩ | ⟨k65, h⟩
    · refine rb_true (by first | exact congrArg D.bool k65 | rfl) ?_
      refine rb_seq ?_
      refine rb_regionK fun K67 hK67 => ?_
      simp -implicitDefEqProofs only [vt, vm, ↓atI_fold, forall_const, implies_true, sevalprocAttr, dd_HA, k65]
      subst hK67
      refine eb_seq ?_
      refine rb_ret ?_
      refine eb_seq_r ?_
      obtain rfl := Option.some.inj h
      refine eb_nil ?_
      simp -implicitDefEqProofs only [vt, vm, ↓atI_fold, forall_const, implies_true, sevalprocAttr, retQ_r, Tryd.results78, dd_HA, k65] <;> first | rfl | (simp [List.map_append, dd_HA]; done)
    · refine rb_false (by first | exact congrArg D.bool k65 | rfl) ?_
      refine rb_skip ?_
      refine eb_seq ?_
      refine rb_seq ?_
      refine rb_seq ?_
      refine rb_regionK fun K70 hK70 => ?_
      simp -implicitDefEqProofs only [vt, vm, ↓atI_fold, forall_const, implies_true, sevalprocAttr, dd_HA, k65]
      rcases ite_or h with ⟨k71, h⟩ | ⟨k71, h⟩
      · simp -implicitDefEqProofs only [vt, vm, ↓atI_fold, forall_const, implies_true, sevalprocAttr, dd_HA, k65, k71]
        subst hK70
        refine eb_seq ?_
        refine rb_true (rfl) ?_
        refine rb_seq ?_
        refine rb_regionK fun K73 hK73 => ?_
        simp -implicitDefEqProofs only [vt, vm, ↓atI_fold, forall_const, implies_true, sevalprocAttr, dd_HA, k65, k71]
        subst hK73
        refine eb_seq ?_
        refine rb_ret ?_
        refine eb_seq_r ?_
        obtain rfl := Option.some.inj h
        refine eb_nil ?_
        simp -implicitDefEqProofs only [vt, vm, ↓atI_fold, forall_const, implies_true, sevalprocAttr, retQ_r, Tryd.results78, dd_HA, k65, k71] <;> first | rfl | (simp [List.map_append, dd_HA]; done)
      · simp -implicitDefEqProofs only [vt, vm, ↓atI_fold, forall_const, implies_true, sevalprocAttr, dd_HA, k65, k71]
        subst hK70
        refine eb_seq ?_
        rcases ite_or h with ⟨k74, h⟩ | ⟨k74, h⟩
        · refine rb_true (by first | exact congrArg D.bool k74 | rfl) ?_
          refine rb_seq ?_
          refine rb_regionK fun K76 hK76 => ?_
          simp -implicitDefEqProofs only [vt, vm, ↓atI_fold, forall_const, implies_true, sevalprocAttr, dd_HA, k65, k71, k74]
          subst hK76
          refine eb_seq ?_
          refine rb_ret ?_
          refine eb_seq_r ?_
          obtain rfl := Option.some.inj h
          refine eb_nil ?_
          simp -implicitDefEqProofs only [vt, vm, ↓atI_fold, forall_const, implies_true, sevalprocAttr, retQ_r, Tryd.results78, dd_HA, k65, k71, k74] <;> first | rfl | (simp [List.map_append, dd_HA]; done)
        · refine rb_false (by first | exact congrArg D.bool k74 | rfl) ?_
          refine rb_skip ?_
          refine eb_seq ?_
          refine rb_seq ?_
          refine rb_regionK fun K78 hK78 => ?_
          simp -implicitDefEqProofs only [vt, vm, ↓atI_fold, forall_const, implies_true, sevalprocAttr, dd_HA, k65, k71, k74]
          subst hK78
          refine eb_seq ?_
          refine rb_ret ?_
          obtain rfl := Option.some.inj h
          refine eb_nil ?_
          simp -implicitDefEqProofs only [vt, vm, ↓atI_fold, forall_const, implies_true, sevalprocAttr, retQ_r, Tryd.results78, dd_HA, k65, k71, k74] <;> first | rfl | (simp [List.map_append, dd_HA]; done)
  · rintro e56 rfl
    dsimp only at h
    obtain rfl := Option.some.inj h
    refine eb_nil ?_
    simp -implicitDefEqProofs only [vt, vm, ↓atI_fold, forall_const, implies_true, sevalprocAttr, retQ_r, Tryd.results78, dd_HA] <;> first | rfl | (simp [List.map_append, dd_HA]; done)
-- profile.limits
def g_profile_limits_s1 (p_0 : T_api_Profile) (x7 : Int × (List T_profile_limit)) : Option (Nx (Int × (List T_profile_limit)) ((List T_profile_limit))) :=
  (if (decide (x7.1 < 4)) then ((atI [p_0.SafeTop, p_0.SafeBottom, p_0.SafeLeft, p_0.SafeRight] x7.1).bind fun y105 => (if (x7.2.length + 1) * 24 ≤ 140737488355328 then (some (.go ((IntKind.i64.wrap (x7.1 + 1)), (x7.2 ++ [(T_profile_limit.mk y105 0 31)])))) else none)) else (some (.out x7.2)))
def g_profile_limits (p_0 : T_api_Profile) : Option ((List T_profile_limit)) :=
  ((iter (g_profile_limits_s1 p_0) (0, [(T_profile_limit.mk p_0.Reading 1 10000), (T_profile_limit.mk p_0.MinFrames 1 5184000), (T_profile_limit.mk p_0.MaxFrames 1 5184000), (T_profile_limit.mk p_0.MinGap 0 1000), (T_profile_limit.mk p_0.ShotBefore 0 1000), (T_profile_limit.mk p_0.ShotAfter 0 1000), (T_profile_limit.mk p_0.Rows 1 4), (T_profile_limit.mk p_0.Cols 1 32)])).bind fun e8 => (some e8))
theorem a_profile_limits (I : World → Prop) (hI : Stab I) (p_0 : T_api_Profile) {r : (List T_profile_limit)} (h : g_profile_limits p_0 = some r) : AFun Tryd.prog I 84 [T_api_Profile.d p_0] (.sl (r.map T_profile_limit.d)) := by
  refine AFun.enterB hI Tryd.func84 rfl (by decide) (by simp [Tryd.f84]) (by kernel_rfl) ?_
  unfold g_profile_limits at h
  simp only [S0, Tryd.ntmps84, dd_HA]
  refine rb_seq ?_
  refine rb_regionK fun K2 hK2 => ?_
  simp -implicitDefEqProofs only [vt, vm, ↓atI_fold, forall_const, implies_true, sevalprocAttr, dd_HA]
  subst hK2
  refine eb_seq ?_
  refine rb_seq ?_
  refine rb_regionK fun K4 hK4 => ?_
  simp -implicitDefEqProofs only [vt, vm, ↓atI_fold, forall_const, implies_true, sevalprocAttr, dd_HA]
  subst hK4
  refine eb_seq ?_
  refine rb_seq ?_
  refine rb_seq ?_
  refine rb_regionK fun K6 hK6 => ?_
  simp -implicitDefEqProofs only [vt, vm, ↓atI_fold, forall_const, implies_true, sevalprocAttr, dd_HA]
  subst hK6
  refine eb_seq ?_
  refine rb_block ?_
  obtain ⟨e8, h114, h⟩ := bind_some h
  refine rb_loop (fun x7 => ⟨envL [(3, .own 0 x7.2.length), (39, .own 1 4), (40, .int .i64 4), (41, .int .i64 x7.1)], heapL [(0, .vec 154 3 (x7.2.map T_profile_limit.d) false), (1, .vec 3 1 ([p_0.SafeTop, p_0.SafeBottom, p_0.SafeLeft, p_0.SafeRight].map (D.int .i64)) false)], 2, 52⟩) (fun _ => .exit 0) (fun e8 => ⟨envL [(3, .own 0 e8.length)], heapL [(0, .vec 154 3 (e8.map T_profile_limit.d) false)], 1, 52⟩) h114 (Wk.of (fun i => if i = 1 then some 36 else if i = 0 then some 26 else some i) _ _ _ (by simp -implicitDefEqProofs [kv, km, dd_HA]) (by simp -implicitDefEqProofs [kv, km, dd_HA])) (by intro w; simp) ?_ ?_
  · clear h
    intro x7 y h
    unfold g_profile_limits_s1 at h
    refine rb_seq ?_
    refine rb_regionK fun K80 hK80 => ?_
    simp -implicitDefEqProofs only [vt, vm, ↓atI_fold, forall_const, implies_true, sevalprocAttr, dd_HA]
    subst hK80
    refine eb_seq ?_
    refine rb_seq ?_
    rcases ite_or h with ⟨k82, h⟩ | ⟨k82, h⟩
    · refine rb_true (by first | exact congrArg D.bool k82 | rfl) ?_
      refine rb_skip ?_
      refine eb_seq ?_
      refine rb_seq ?_
      refine rb_block ?_
      refine rb_seq ?_
      refine rb_regionK fun K104 hK104 => ?_
      simp -implicitDefEqProofs only [vt, vm, ↓atI_fold, forall_const, implies_true, sevalprocAttr, dd_HA, k82]
      obtain ⟨y105, h106, h⟩ := bind_some h
      obtain ⟨h107, h108, h109⟩ := atI_own h106
      have h109 := h109 (D.int .i64)
      simp only [List.map_cons, List.map_nil, dd_HA] at h109
      have h108 : x7.1 < 4 := by simpa using h108
      simp -implicitDefEqProofs only [vt, vm, ↓atI_fold, forall_const, implies_true, sevalprocAttr, dd_HA, k82, h107, h108, h109]
      subst hK104
      refine eb_seq ?_
      refine rb_regionK fun K110 hK110 => ?_
      simp -implicitDefEqProofs only [vt, vm, ↓atI_fold, forall_const, implies_true, sevalprocAttr, dd_HA, k82, h107, h108, h109]
      obtain ⟨h111, h⟩ := ite_on h
      have h112 : x7.2.length + 1 ≤ 9223372036854775807 := by omega
      try simp only [Nat.reduceLeDiff] at h112
      simp -implicitDefEqProofs only [vt, vm, ↓atI_fold, forall_const, implies_true, sevalprocAttr, dd_HA, k82, h107, h108, h109, h112, h111]
      subst hK110
      refine eb_blk_n ?_
      refine eb_seq ?_
      refine rb_regionK fun K113 hK113 => ?_
      simp -implicitDefEqProofs only [vt, vm, ↓atI_fold, forall_const, implies_true, sevalprocAttr, dd_HA, k82, h107, h108, h109, h112, h111]
      subst hK113
      obtain rfl := Option.some.inj h
      exact eb_nil ⟨rfl, Wk.of (fun i => if i = 1 then some 1 else if i = 0 then some 10 else some i) _ _ _ (by simp -implicitDefEqProofs [kv, km, dd_HA, k82]) (by simp -implicitDefEqProofs [kv, km, dd_HA, k82])⟩
    · refine rb_false (by first | exact congrArg D.bool k82 | rfl) ?_
      refine rb_exit ?_
      refine eb_seq_e ?_
      obtain rfl := Option.some.inj h
      exact eb_nil ⟨rfl, Wk.of (fun i => if i = 0 then some 0 else some i) _ _ _ (by simp -implicitDefEqProofs [kv, km, dd_HA, k82]) (by simp -implicitDefEqProofs [kv, km, dd_HA, k82])⟩
  · refine eb_blk_hit ?_
    refine eb_seq ?_
    refine rb_seq ?_
    refine rb_regionK fun K116 hK116 => ?_
    simp -implicitDefEqProofs only [vt, vm, ↓atI_fold, forall_const, implies_true, sevalprocAttr, dd_HA]
    subst hK116
    refine eb_seq ?_
    refine rb_ret ?_
    obtain rfl := Option.some.inj h
    refine eb_nil ?_
    simp -implicitDefEqProofs only [vt, vm, ↓atI_fold, forall_const, implies_true, sevalprocAttr, retQ_r, Tryd.results84, dd_HA] <;> first | rfl | (simp [List.map_append, dd_HA]; done)
-- profile.Check
def g_profile_Check_s1 (r14 : (List T_profile_limit)) (x16 : Int) : Option (Nx (Int) (Unit ⊕ Unit)) :=
  (if (decide (x16 < (r14.length : Int))) then ((atI r14 x16).bind fun y111 => (if (decide (y111.n_ < y111.lo_)) then (some (.out (.inl ()))) else (if (decide (y111.hi_ < y111.n_)) then (some (.out (.inl ()))) else (some (.go (IntKind.i64.wrap (x16 + 1))))))) else (some (.out (.inr ()))))
def g_profile_Check_s2 (p_0 : T_api_Profile) (x172 : Int × Nat) : Option (Nx (Int × Nat) (Unit ⊕ Unit)) :=
  (if (decide (x172.2 < p_0.Forbidden.length)) then (if (decide ((runeAt p_0.Forbidden x172.2) ≤ x172.1)) then (some (.out (.inl ()))) else (some (.go ((runeAt p_0.Forbidden x172.2), (x172.2 + widthAt p_0.Forbidden x172.2))))) else (some (.out (.inr ()))))
def g_profile_Check (p_0 : T_api_Profile) : Option (Int) :=
  ((g_lines_Name p_0.Name).bind fun r7 => (if r7 then ((g_profile_limits p_0).bind fun r14 => ((iter (g_profile_Check_s1 r14) 0).bind fun e17 => (match e17 with | Sum.inl e17 => (some 2) | Sum.inr (e17) => (((if (decide (15 ≤ (IntKind.i64.wrap (p_0.SafeTop + p_0.SafeBottom)))) then (some true) else (some (decide (32 ≤ (IntKind.i64.wrap (p_0.SafeLeft + p_0.SafeRight)))))) : Option (Bool)).bind fun v149 => (if v149 then (some 2) else (if (decide (p_0.MaxFrames < p_0.MinFrames)) then (some 8) else ((g_charset_Valid p_0.Forbidden).bind fun r165 => (if r165 then ((iter (g_profile_Check_s2 p_0) (-1, 0)).bind fun e173 => (match e173 with | Sum.inl e173 => (some 8) | Sum.inr (e173) => (some 0))) else (some 10))))))))) else (some 5)))
theorem a_profile_Check (I : World → Prop) (hI : Stab I) (hU8T : ∀ w, I w → U8T w) (p_0 : T_api_Profile) {r : Int} (h : g_profile_Check p_0 = some r) : AFun Tryd.prog I 46 [T_api_Profile.d p_0] (.int .i64 r) := by
  refine AFun.enterB hI Tryd.func46 rfl (by decide) (by simp [Tryd.f46]) (by kernel_rfl) ?_
  unfold g_profile_Check at h
  simp only [S0, Tryd.ntmps46, dd_HA]
  refine rb_seq ?_
  refine rb_regionK fun K2 hK2 => ?_
  simp -implicitDefEqProofs only [vt, vm, ↓atI_fold, forall_const, implies_true, sevalprocAttr, dd_HA]
  subst hK2
  refine eb_seq ?_
  refine rb_seq ?_
  refine rb_seq ?_
  refine rb_regionK fun K6 hK6 => ?_
  simp -implicitDefEqProofs only [vt, vm, ↓atI_fold, forall_const, implies_true, sevalprocAttr, dd_HA]
  obtain ⟨r7, h8, h⟩ := bind_some h
  refine cW.intro (a_lines_Name I hI p_0.Name h8) (by first | rfl | (simp [List.map_append, dd_HA]; done)) ?_
  simp -implicitDefEqProofs only [vt, vm, ↓atI_fold, forall_const, implies_true, sevalprocAttr, dd_HA]
  subst hK6
  refine eb_seq ?_
  rcases ite_or h with ⟨k9, h⟩ | ⟨k9, h⟩
  · refine rb_false (by first | exact congrArg D.bool (congrArg Bool.not k9) | rfl) ?_
    refine rb_skip ?_
    refine eb_seq ?_
    refine rb_seq ?_
    refine rb_seq ?_
    refine rb_regionK fun K13 hK13 => ?_
    simp -implicitDefEqProofs only [vt, vm, ↓atI_fold, forall_const, implies_true, sevalprocAttr, dd_HA, k9]
    obtain ⟨r14, h15, h⟩ := bind_some h
    refine cW.intro (a_profile_limits I hI p_0 h15) (by first | rfl | (simp [List.map_append, dd_HA]; done)) ?_
    simp -implicitDefEqProofs only [vt, vm, ↓atI_fold, forall_const, implies_true, sevalprocAttr, dd_HA, k9]
    subst hK13
    refine eb_seq ?_
    refine rb_block ?_
    obtain ⟨e17, h123, h⟩ := bind_some h
    refine rb_loop (fun x16 => ⟨envL [(1, .ptr 0 0), (13, .sl (r14.map T_profile_limit.d)), (14, .int .i64 (r14.length : Int)), (15, .int .i64 x16)], heapL [(0, .box none [.str p_0.Name, .int .i64 p_0.Reading, .int .i64 p_0.MinFrames, .int .i64 p_0.MaxFrames, .int .i64 p_0.MinGap, .int .i64 p_0.ShotBefore, .int .i64 p_0.ShotAfter, .int .i64 p_0.Rows, .int .i64 p_0.Cols, .str p_0.Forbidden, .int .i64 p_0.SafeTop, .int .i64 p_0.SafeBottom, .int .i64 p_0.SafeLeft, .int .i64 p_0.SafeRight])], 1, 68⟩) (fun w => match w with | Sum.inl _ => .ret | Sum.inr (_) => .exit 0) (fun w => match w with | Sum.inl e17 => ⟨envL [(2, .int .i64 2)], heapL [], 0, 68⟩ | Sum.inr (e17) => ⟨envL [(1, .ptr 0 0)], heapL [(0, .box none [.str p_0.Name, .int .i64 p_0.Reading, .int .i64 p_0.MinFrames, .int .i64 p_0.MaxFrames, .int .i64 p_0.MinGap, .int .i64 p_0.ShotBefore, .int .i64 p_0.ShotAfter, .int .i64 p_0.Rows, .int .i64 p_0.Cols, .str p_0.Forbidden, .int .i64 p_0.SafeTop, .int .i64 p_0.SafeBottom, .int .i64 p_0.SafeLeft, .int .i64 p_0.SafeRight])], 1, 68⟩) h123 (Wk.of (fun i => if i = 0 then some 0 else some i) _ _ _ (by simp -implicitDefEqProofs [kv, km, dd_HA, k9]) (by simp -implicitDefEqProofs [kv, km, dd_HA, k9])) (by intro w; rcases w with w | w <;> simp) ?_ ?_
    · clear h
      intro x16 y h
      unfold g_profile_Check_s1 at h
      refine rb_seq ?_
      refine rb_regionK fun K89 hK89 => ?_
      simp -implicitDefEqProofs only [vt, vm, ↓atI_fold, forall_const, implies_true, sevalprocAttr, dd_HA, k9]
      subst hK89
      refine eb_seq ?_
      refine rb_seq ?_
      rcases ite_or h with ⟨k91, h⟩ | ⟨k91, h⟩
      · refine rb_true (by first | exact congrArg D.bool k91 | rfl) ?_
        refine rb_skip ?_
        refine eb_seq ?_
        refine rb_seq ?_
        refine rb_block ?_
        refine rb_seq ?_
        refine rb_regionK fun K110 hK110 => ?_
        simp -implicitDefEqProofs only [vt, vm, ↓atI_fold, forall_const, implies_true, sevalprocAttr, dd_HA, k9, k91]
        obtain ⟨y111, h112, h⟩ := bind_some h
        simp -implicitDefEqProofs only [vt, vm, ↓atI_fold, forall_const, implies_true, sevalprocAttr, dd_HA, k9, k91, h112]
        subst hK110
        refine eb_seq ?_
        refine rb_seq ?_
        refine rb_regionK fun K115 hK115 => ?_
        simp -implicitDefEqProofs only [vt, vm, ↓atI_fold, forall_const, implies_true, sevalprocAttr, dd_HA, k9, k91, h112]
        rcases ite_or h with ⟨k116, h⟩ | ⟨k116, h⟩
        · simp -implicitDefEqProofs only [vt, vm, ↓atI_fold, forall_const, implies_true, sevalprocAttr, dd_HA, k9, k91, h112, k116]
          subst hK115
          refine eb_seq ?_
          refine rb_true (rfl) ?_
          refine rb_seq ?_
          refine rb_regionK fun K118 hK118 => ?_
          simp -implicitDefEqProofs only [vt, vm, ↓atI_fold, forall_const, implies_true, sevalprocAttr, dd_HA, k9, k91, h112, k116]
          subst hK118
          refine eb_seq ?_
          refine rb_ret ?_
          refine eb_blk_r ?_
          refine eb_seq_r ?_
          obtain rfl := Option.some.inj h
          exact eb_nil ⟨rfl, Wk.of (fun i => some i) _ _ _ (by simp -implicitDefEqProofs [kv, km, dd_HA, k9, k91, k116]) (by simp -implicitDefEqProofs [kv, km, dd_HA, k9, k91, k116])⟩
        · simp -implicitDefEqProofs only [vt, vm, ↓atI_fold, forall_const, implies_true, sevalprocAttr, dd_HA, k9, k91, h112, k116]
          subst hK115
          refine eb_seq ?_
          rcases ite_or h with ⟨k119, h⟩ | ⟨k119, h⟩
          · refine rb_true (by first | exact congrArg D.bool k119 | rfl) ?_
            refine rb_seq ?_
            refine rb_regionK fun K121 hK121 => ?_
            simp -implicitDefEqProofs only [vt, vm, ↓atI_fold, forall_const, implies_true, sevalprocAttr, dd_HA, k9, k91, h112, k116, k119]
            subst hK121
            refine eb_seq ?_
            refine rb_ret ?_
            refine eb_blk_r ?_
            refine eb_seq_r ?_
            obtain rfl := Option.some.inj h
            exact eb_nil ⟨rfl, Wk.of (fun i => some i) _ _ _ (by simp -implicitDefEqProofs [kv, km, dd_HA, k9, k91, k116, k119]) (by simp -implicitDefEqProofs [kv, km, dd_HA, k9, k91, k116, k119])⟩
          · refine rb_false (by first | exact congrArg D.bool k119 | rfl) ?_
            refine rb_skip ?_
            refine eb_blk_n ?_
            refine eb_seq ?_
            refine rb_regionK fun K122 hK122 => ?_
            simp -implicitDefEqProofs only [vt, vm, ↓atI_fold, forall_const, implies_true, sevalprocAttr, dd_HA, k9, k91, h112, k116, k119]
            subst hK122
            obtain rfl := Option.some.inj h
            exact eb_nil ⟨rfl, Wk.of (fun i => if i = 0 then some 0 else some i) _ _ _ (by simp -implicitDefEqProofs [kv, km, dd_HA, k9, k91, k116, k119]) (by simp -implicitDefEqProofs [kv, km, dd_HA, k9, k91, k116, k119])⟩
      · refine rb_false (by first | exact congrArg D.bool k91 | rfl) ?_
        refine rb_exit ?_
        refine eb_seq_e ?_
        obtain rfl := Option.some.inj h
        exact eb_nil ⟨rfl, Wk.of (fun i => if i = 0 then some 0 else some i) _ _ _ (by simp -implicitDefEqProofs [kv, km, dd_HA, k9, k91]) (by simp -implicitDefEqProofs [kv, km, dd_HA, k9, k91])⟩
    · rcases e17 with e17 | e17
      · try dsimp only at h ⊢
        refine eb_blk_r ?_
        refine eb_seq_r ?_
        obtain rfl := Option.some.inj h
        refine eb_nil ?_
        simp -implicitDefEqProofs only [vt, vm, ↓atI_fold, forall_const, implies_true, sevalprocAttr, retQ_r, Tryd.results46, dd_HA, k9] <;> first | rfl | (simp [List.map_append, dd_HA]; done)
      · try dsimp only at h ⊢
        refine eb_blk_hit ?_
        refine eb_seq ?_
        refine rb_seq ?_
        refine rb_block ?_
        obtain ⟨v149, h152, h⟩ := bind_some h
        refine rb_cut (fun v149 => ⟨envL [(1, .ptr 0 0), (32, .bool v149)], heapL [(0, .box none [.str p_0.Name, .int .i64 p_0.Reading, .int .i64 p_0.MinFrames, .int .i64 p_0.MaxFrames, .int .i64 p_0.MinGap, .int .i64 p_0.ShotBefore, .int .i64 p_0.ShotAfter, .int .i64 p_0.Rows, .int .i64 p_0.Cols, .str p_0.Forbidden, .int .i64 p_0.SafeTop, .int .i64 p_0.SafeBottom, .int .i64 p_0.SafeLeft, .int .i64 p_0.SafeRight])], 1, 68⟩) h152 ?_ ?_
        · clear h
          intro v149 h
          refine rb_regionK fun K150 hK150 => ?_
          simp -implicitDefEqProofs only [vt, vm, ↓atI_fold, forall_const, implies_true, sevalprocAttr, dd_HA, k9]
          rcases ite_or h with ⟨k151, h⟩ | ⟨k151, h⟩
          · simp -implicitDefEqProofs only [vt, vm, ↓atI_fold, forall_const, implies_true, sevalprocAttr, dd_HA, k9, k151]
            subst hK150
            obtain rfl := Option.some.inj h
            exact eb_nil ⟨rfl, Wk.of (fun i => if i = 0 then some 0 else some i) _ _ _ (by simp -implicitDefEqProofs [kv, km, dd_HA, k9, k151]) (by simp -implicitDefEqProofs [kv, km, dd_HA, k9, k151])⟩
          · simp -implicitDefEqProofs only [vt, vm, ↓atI_fold, forall_const, implies_true, sevalprocAttr, dd_HA, k9, k151]
            subst hK150
            obtain rfl := Option.some.inj h
            exact eb_nil ⟨rfl, Wk.of (fun i => if i = 0 then some 0 else some i) _ _ _ (by simp -implicitDefEqProofs [kv, km, dd_HA, k9, k151]) (by simp -implicitDefEqProofs [kv, km, dd_HA, k9, k151])⟩
        · rcases ite_or h with ⟨k153, h⟩ | ⟨k153, h⟩
          · refine rb_true (by first | exact congrArg D.bool k153 | rfl) ?_
            refine rb_seq ?_
            refine rb_regionK fun K155 hK155 => ?_
            simp -implicitDefEqProofs only [vt, vm, ↓atI_fold, forall_const, implies_true, sevalprocAttr, dd_HA, k9, k153]
            subst hK155
            refine eb_seq ?_
            refine rb_ret ?_
            refine eb_blk_r ?_
            refine eb_seq_r ?_
            obtain rfl := Option.some.inj h
            refine eb_nil ?_
            simp -implicitDefEqProofs only [vt, vm, ↓atI_fold, forall_const, implies_true, sevalprocAttr, retQ_r, Tryd.results46, dd_HA, k9, k153] <;> first | rfl | (simp [List.map_append, dd_HA]; done)
          · refine rb_false (by first | exact congrArg D.bool k153 | rfl) ?_
            refine rb_seq ?_
            refine rb_regionK fun K157 hK157 => ?_
            simp -implicitDefEqProofs only [vt, vm, ↓atI_fold, forall_const, implies_true, sevalprocAttr, dd_HA, k9, k153]
            subst hK157
            refine eb_seq ?_
            rcases ite_or h with ⟨k158, h⟩ | ⟨k158, h⟩
            · refine rb_true (by first | exact congrArg D.bool k158 | rfl) ?_
              refine rb_seq ?_
              refine rb_regionK fun K160 hK160 => ?_
              simp -implicitDefEqProofs only [vt, vm, ↓atI_fold, forall_const, implies_true, sevalprocAttr, dd_HA, k9, k153, k158]
              subst hK160
              refine eb_seq ?_
              refine rb_ret ?_
              refine eb_blk_r ?_
              refine eb_seq_r ?_
              obtain rfl := Option.some.inj h
              refine eb_nil ?_
              simp -implicitDefEqProofs only [vt, vm, ↓atI_fold, forall_const, implies_true, sevalprocAttr, retQ_r, Tryd.results46, dd_HA, k9, k153, k158] <;> first | rfl | (simp [List.map_append, dd_HA]; done)
            · refine rb_false (by first | exact congrArg D.bool k158 | rfl) ?_
              refine rb_seq ?_
              refine rb_regionK fun K164 hK164 => ?_
              simp -implicitDefEqProofs only [vt, vm, ↓atI_fold, forall_const, implies_true, sevalprocAttr, dd_HA, k9, k153, k158]
              obtain ⟨r165, h166, h⟩ := bind_some h
              refine cW.intro (a_charset_Valid I hI hU8T p_0.Forbidden h166) (by first | rfl | (simp [List.map_append, dd_HA]; done)) ?_
              simp -implicitDefEqProofs only [vt, vm, ↓atI_fold, forall_const, implies_true, sevalprocAttr, dd_HA, k9, k153, k158]
              subst hK164
              refine eb_seq ?_
              rcases ite_or h with ⟨k167, h⟩ | ⟨k167, h⟩
              · refine rb_false (by first | exact congrArg D.bool (congrArg Bool.not k167) | rfl) ?_
                refine rb_skip ?_
                refine eb_blk_n ?_
                refine eb_seq ?_
                refine rb_seq ?_
                refine rb_regionK fun K169 hK169 => ?_
                simp -implicitDefEqProofs only [vt, vm, ↓atI_fold, forall_const, implies_true, sevalprocAttr, dd_HA, k9, k153, k158, k167]
                subst hK169
                refine eb_seq ?_
                refine rb_seq ?_
                refine rb_seq ?_
                refine rb_regionK fun K171 hK171 => ?_
                simp -implicitDefEqProofs only [vt, vm, ↓atI_fold, forall_const, implies_true, sevalprocAttr, dd_HA, k9, k153, k158, k167]
                subst hK171
                refine eb_seq ?_
                refine rb_block ?_
                obtain ⟨e173, h198, h⟩ := bind_some h
                refine rb_loop (fun x172 => ⟨envL [(5, .int .i32 x172.1), (60, .ptr 0 0)], heapL [(0, .iter p_0.Forbidden x172.2)], 1, 68⟩) (fun w => match w with | Sum.inl _ => .ret | Sum.inr (_) => .exit 3) (fun w => match w with | Sum.inl e173 => ⟨envL [(2, .int .i64 8)], heapL [], 0, 68⟩ | Sum.inr (e173) => ⟨envL [], heapL [], 0, 68⟩) h198 (Wk.of (fun i => if i = 0 then some 15 else some i) _ _ _ (by simp -implicitDefEqProofs [kv, km, dd_HA, k9, k153, k158, k167]) (by simp -implicitDefEqProofs [kv, km, dd_HA, k9, k153, k158, k167])) (by intro w; rcases w with w | w <;> simp) ?_ ?_
                · clear h
                  intro x172 y h
                  unfold g_profile_Check_s2 at h
                  refine rb_seq ?_
                  refine rb_regionK fun K188 hK188 => ?_
                  simp -implicitDefEqProofs only [vt, vm, ↓atI_fold, forall_const, implies_true, sevalprocAttr, dd_HA, k9, k153, k158, k167]
                  rcases ite_or h with ⟨k189, h⟩ | ⟨k189, h⟩
                  · simp only [decide_eq_true_eq] at k189
                    simp -implicitDefEqProofs only [vt, vm, ↓atI_fold, forall_const, implies_true, sevalprocAttr, dd_HA, k9, k153, k158, k167, k189]
                    subst hK188
                    refine eb_seq ?_
                    refine rb_seq ?_
                    refine rb_true (rfl) ?_
                    refine rb_skip ?_
                    refine eb_seq ?_
                    refine rb_block ?_
                    refine rb_seq ?_
                    refine rb_regionK fun K191 hK191 => ?_
                    simp -implicitDefEqProofs only [vt, vm, ↓atI_fold, forall_const, implies_true, sevalprocAttr, dd_HA, k9, k153, k158, k167, k189]
                    subst hK191
                    refine eb_seq ?_
                    refine rb_seq ?_
                    refine rb_seq ?_
                    refine rb_regionK fun K193 hK193 => ?_
                    simp -implicitDefEqProofs only [vt, vm, ↓atI_fold, forall_const, implies_true, sevalprocAttr, dd_HA, k9, k153, k158, k167, k189]
                    subst hK193
                    refine eb_seq ?_
                    rcases ite_or h with ⟨k194, h⟩ | ⟨k194, h⟩
                    · refine rb_true (by first | exact congrArg D.bool k194 | rfl) ?_
                      refine rb_seq ?_
                      refine rb_regionK fun K196 hK196 => ?_
                      simp -implicitDefEqProofs only [vt, vm, ↓atI_fold, forall_const, implies_true, sevalprocAttr, dd_HA, k9, k153, k158, k167, k189, k194]
                      subst hK196
                      refine eb_seq ?_
                      refine rb_ret ?_
                      refine eb_seq_r ?_
                      refine eb_blk_r ?_
                      obtain rfl := Option.some.inj h
                      exact eb_nil ⟨rfl, Wk.of (fun i => some i) _ _ _ (by simp -implicitDefEqProofs [kv, km, dd_HA, k9, k153, k158, k167, k189, k194]) (by simp -implicitDefEqProofs [kv, km, dd_HA, k9, k153, k158, k167, k189, k194])⟩
                    · refine rb_false (by first | exact congrArg D.bool k194 | rfl) ?_
                      refine rb_skip ?_
                      refine eb_seq ?_
                      refine rb_regionK fun K197 hK197 => ?_
                      simp -implicitDefEqProofs only [vt, vm, ↓atI_fold, forall_const, implies_true, sevalprocAttr, dd_HA, k9, k153, k158, k167, k189, k194]
                      subst hK197
                      refine eb_blk_n ?_
                      obtain rfl := Option.some.inj h
                      exact eb_nil ⟨rfl, Wk.of (fun i => if i = 0 then some 0 else some i) _ _ _ (by simp -implicitDefEqProofs [kv, km, dd_HA, k9, k153, k158, k167, k189, k194]) (by simp -implicitDefEqProofs [kv, km, dd_HA, k9, k153, k158, k167, k189, k194])⟩
                  · simp only [decide_eq_false_iff_not] at k189
                    simp -implicitDefEqProofs only [vt, vm, ↓atI_fold, forall_const, implies_true, sevalprocAttr, dd_HA, k9, k153, k158, k167, k189]
                    subst hK188
                    refine eb_seq ?_
                    refine rb_seq ?_
                    refine rb_false (rfl) ?_
                    refine rb_exit ?_
                    refine eb_seq_e ?_
                    obtain rfl := Option.some.inj h
                    exact eb_nil ⟨rfl, Wk.of (fun i => some i) _ _ _ (by simp -implicitDefEqProofs [kv, km, dd_HA, k9, k153, k158, k167, k189]) (by simp -implicitDefEqProofs [kv, km, dd_HA, k9, k153, k158, k167, k189])⟩
                · rcases e173 with e173 | e173
                  · try dsimp only at h ⊢
                    refine eb_blk_r ?_
                    refine eb_seq_r ?_
                    obtain rfl := Option.some.inj h
                    refine eb_nil ?_
                    simp -implicitDefEqProofs only [vt, vm, ↓atI_fold, forall_const, implies_true, sevalprocAttr, retQ_r, Tryd.results46, dd_HA, k9, k153, k158, k167] <;> first | rfl | (simp [List.map_append, dd_HA]; done)
                  · try dsimp only at h ⊢
                    refine eb_blk_hit ?_
                    refine eb_seq ?_
                    refine rb_seq ?_
                    refine rb_regionK fun K200 hK200 => ?_
                    simp -implicitDefEqProofs only [vt, vm, ↓atI_fold, forall_const, implies_true, sevalprocAttr, dd_HA, k9, k153, k158, k167]
                    subst hK200
                    refine eb_seq ?_
                    refine rb_ret ?_
                    obtain rfl := Option.some.inj h
                    refine eb_nil ?_
                    simp -implicitDefEqProofs only [vt, vm, ↓atI_fold, forall_const, implies_true, sevalprocAttr, retQ_r, Tryd.results46, dd_HA, k9, k153, k158, k167] <;> first | rfl | (simp [List.map_append, dd_HA]; done)
              · refine rb_true (by first | exact congrArg D.bool (congrArg Bool.not k167) | rfl) ?_
                refine rb_seq ?_
                refine rb_regionK fun K202 hK202 => ?_
                simp -implicitDefEqProofs only [vt, vm, ↓atI_fold, forall_const, implies_true, sevalprocAttr, dd_HA, k9, k153, k158, k167]
                subst hK202
                refine eb_seq ?_
                refine rb_ret ?_
                refine eb_blk_r ?_
                refine eb_seq_r ?_
                obtain rfl := Option.some.inj h
                refine eb_nil ?_
                simp -implicitDefEqProofs only [vt, vm, ↓atI_fold, forall_const, implies_true, sevalprocAttr, retQ_r, Tryd.results46, dd_HA, k9, k153, k158, k167] <;> first | rfl | (simp [List.map_append, dd_HA]; done)
  · refine rb_true (by first | exact congrArg D.bool (congrArg Bool.not k9) | rfl) ?_
    refine rb_seq ?_
    refine rb_regionK fun K204 hK204 => ?_
    simp -implicitDefEqProofs only [vt, vm, ↓atI_fold, forall_const, implies_true, sevalprocAttr, dd_HA, k9]
    subst hK204
    refine eb_seq ?_
    refine rb_ret ?_
    refine eb_seq_r ?_
    obtain rfl := Option.some.inj h
    refine eb_nil ?_
    simp -implicitDefEqProofs only [vt, vm, ↓atI_fold, forall_const, implies_true, sevalprocAttr, retQ_r, Tryd.results46, dd_HA, k9] <;> first | rfl | (simp [List.map_append, dd_HA]; done)
-- cmp.isNaN[int64]
def g_cmp_isNaN_int64 (x_0 : Int) : Option (Bool) :=
  (some (x_0 != x_0))
theorem a_cmp_isNaN_int64 (I : World → Prop) (hI : Stab I) (x_0 : Int) {r : Bool} (h : g_cmp_isNaN_int64 x_0 = some r) : AFun Tryd.prog I 145 [.int .i64 x_0] (.bool r) := by
  refine AFun.enterB hI Tryd.func145 rfl (by decide) (by simp [Tryd.f145]) (by kernel_rfl) ?_
  unfold g_cmp_isNaN_int64 at h
  simp only [S0, Tryd.ntmps145, dd_HA]
  refine rb_seq ?_
  refine rb_regionK fun K2 hK2 => ?_
  simp -implicitDefEqProofs only [vt, vm, ↓atI_fold, forall_const, implies_true, sevalprocAttr, dd_HA]
  subst hK2
  refine eb_seq ?_
  refine rb_seq ?_
  refine rb_regionK fun K4 hK4 => ?_
  simp -implicitDefEqProofs only [vt, vm, ↓atI_fold, forall_const, implies_true, sevalprocAttr, dd_HA]
  subst hK4
  refine eb_seq ?_
  refine rb_ret ?_
  obtain rfl := Option.some.inj h
  refine eb_nil ?_
  simp -implicitDefEqProofs only [vt, vm, ↓atI_fold, forall_const, implies_true, sevalprocAttr, retQ_r, Tryd.results145, dd_HA] <;> first | rfl | (simp [List.map_append, dd_HA]; done)
-- cmp.Compare[int64]
def g_cmp_Compare_int64 (x_0 : Int) (y_1 : Int) : Option (Int) :=
  ((g_cmp_isNaN_int64 x_0).bind fun r7 => ((g_cmp_isNaN_int64 y_1).bind fun r13 => (if r7 then (if r13 then (some 0) else (some (-1))) else (if r13 then (some 1) else (if (decide (x_0 < y_1)) then (some (-1)) else (if (decide (y_1 < x_0)) then (some 1) else (some 0)))))))
theorem a_cmp_Compare_int64 (I : World → Prop) (hI : Stab I) (x_0 : Int) (y_1 : Int) {r : Int} (h : g_cmp_Compare_int64 x_0 y_1 = some r) : AFun Tryd.prog I 116 [.int .i64 x_0, .int .i64 y_1] (.int .i64 r) := by
  refine AFun.enterB hI Tryd.func116 rfl (by decide) (by simp [Tryd.f116]) (by kernel_rfl) ?_
  unfold g_cmp_Compare_int64 at h
  simp only [S0, Tryd.ntmps116, dd_HA]
  refine rb_seq ?_
  refine rb_regionK fun K2 hK2 => ?_
  simp -implicitDefEqProofs only [vt, vm, ↓atI_fold, forall_const, implies_true, sevalprocAttr, dd_HA]
  subst hK2
  refine eb_seq ?_
  refine rb_seq ?_
  refine rb_regionK fun K6 hK6 => ?_
  simp -implicitDefEqProofs only [vt, vm, ↓atI_fold, forall_const, implies_true, sevalprocAttr, dd_HA]
  obtain ⟨r7, h8, h⟩ := bind_some h
  refine cW.intro (a_cmp_isNaN_int64 I hI x_0 h8) (by first | rfl | (simp [List.map_append, dd_HA]; done)) ?_
  simp -implicitDefEqProofs only [vt, vm, ↓atI_fold, forall_const, implies_true, sevalprocAttr, dd_HA]
  subst hK6
  refine eb_seq ?_
  refine rb_seq ?_
  refine rb_regionK fun K12 hK12 => ?_
  simp -implicitDefEqProofs only [vt, vm, ↓atI_fold, forall_const, implies_true, sevalprocAttr, dd_HA]
  obtain ⟨r13, h14, h⟩ := bind_some h
  refine cW.intro (a_cmp_isNaN_int64 I hI y_1 h14) (by first | rfl | (simp [List.map_append, dd_HA]; done)) ?_
  simp -implicitDefEqProofs only [vt, vm, ↓atI_fold, forall_const, implies_true, sevalprocAttr, dd_HA]
  subst hK12
  refine eb_seq ?_
  refine rb_seq ?_
  refine rb_seq ?_
  refine rb_regionK fun K16 hK16 => ?_
  simp -implicitDefEqProofs only [vt, vm, ↓atI_fold, forall_const, implies_true, sevalprocAttr, dd_HA]
  subst hK16
  refine eb_seq ?_
  rcases ite_or h with ⟨k17, h⟩ | ⟨k17, h⟩
  · refine rb_true (by first | exact congrArg D.bool k17 | rfl) ?_
    refine rb_seq ?_
    refine rb_seq ?_
    refine rb_regionK fun K19 hK19 => ?_
    simp -implicitDefEqProofs only [vt, vm, ↓atI_fold, forall_const, implies_true, sevalprocAttr, dd_HA, k17]
    subst hK19
    refine eb_seq ?_
    rcases ite_or h with ⟨k20, h⟩ | ⟨k20, h⟩
    · refine rb_true (by first | exact congrArg D.bool k20 | rfl) ?_
      refine rb_seq ?_
      refine rb_regionK fun K22 hK22 => ?_
      simp -implicitDefEqProofs only [vt, vm, ↓atI_fold, forall_const, implies_true, sevalprocAttr, dd_HA, k17, k20]
      subst hK22
      refine eb_seq ?_
      refine rb_ret ?_
      refine eb_seq_r ?_
      refine eb_seq_r ?_
      obtain rfl := Option.some.inj h
      refine eb_nil ?_
      simp -implicitDefEqProofs only [vt, vm, ↓atI_fold, forall_const, implies_true, sevalprocAttr, retQ_r, Tryd.results116, dd_HA, k17, k20] <;> first | rfl | (simp [List.map_append, dd_HA]; done)
    · refine rb_false (by first | exact congrArg D.bool k20 | rfl) ?_
      refine rb_skip ?_
      refine eb_seq ?_
      refine rb_seq ?_
      refine rb_regionK fun K24 hK24 => ?_
      simp -implicitDefEqProofs only [vt, vm, ↓atI_fold, forall_const, implies_true, sevalprocAttr, dd_HA, k17, k20]
      subst hK24
      refine eb_seq ?_
      refine rb_ret ?_
      refine eb_seq_r ?_
      obtain rfl := Option.some.inj h
      refine eb_nil ?_
      simp -implicitDefEqProofs only [vt, vm, ↓atI_fold, forall_const, implies_true, sevalprocAttr, retQ_r, Tryd.results116, dd_HA, k17, k20] <;> first | rfl | (simp [List.map_append, dd_HA]; done)
  · refine rb_false (by first | exact congrArg D.bool k17 | rfl) ?_
    refine rb_skip ?_
    refine eb_seq ?_
    refine rb_seq ?_
    refine rb_seq ?_
    refine rb_regionK fun K26 hK26 => ?_
    simp -implicitDefEqProofs only [vt, vm, ↓atI_fold, forall_const, implies_true, sevalprocAttr, dd_HA, k17]
    subst hK26
    refine eb_seq ?_
    rcases ite_or h with ⟨k27, h⟩ | ⟨k27, h⟩
    · refine rb_true (by first | exact congrArg D.bool k27 | rfl) ?_
      refine rb_seq ?_
      refine rb_regionK fun K29 hK29 => ?_
      simp -implicitDefEqProofs only [vt, vm, ↓atI_fold, forall_const, implies_true, sevalprocAttr, dd_HA, k17, k27]
      subst hK29
      refine eb_seq ?_
      refine rb_ret ?_
      refine eb_seq_r ?_
      obtain rfl := Option.some.inj h
      refine eb_nil ?_
      simp -implicitDefEqProofs only [vt, vm, ↓atI_fold, forall_const, implies_true, sevalprocAttr, retQ_r, Tryd.results116, dd_HA, k17, k27] <;> first | rfl | (simp [List.map_append, dd_HA]; done)
    · refine rb_false (by first | exact congrArg D.bool k27 | rfl) ?_
      refine rb_skip ?_
      refine eb_seq ?_
      refine rb_seq ?_
      refine rb_seq ?_
      refine rb_regionK fun K31 hK31 => ?_
      simp -implicitDefEqProofs only [vt, vm, ↓atI_fold, forall_const, implies_true, sevalprocAttr, dd_HA, k17, k27]
      subst hK31
      refine eb_seq ?_
      rcases ite_or h with ⟨k32, h⟩ | ⟨k32, h⟩
      · refine rb_true (by first | exact congrArg D.bool k32 | rfl) ?_
        refine rb_seq ?_
        refine rb_regionK fun K34 hK34 => ?_
        simp -implicitDefEqProofs only [vt, vm, ↓atI_fold, forall_const, implies_true, sevalprocAttr, dd_HA, k17, k27, k32]
        subst hK34
        refine eb_seq ?_
        refine rb_ret ?_
        refine eb_seq_r ?_
        obtain rfl := Option.some.inj h
        refine eb_nil ?_
        simp -implicitDefEqProofs only [vt, vm, ↓atI_fold, forall_const, implies_true, sevalprocAttr, retQ_r, Tryd.results116, dd_HA, k17, k27, k32] <;> first | rfl | (simp [List.map_append, dd_HA]; done)
      · refine rb_false (by first | exact congrArg D.bool k32 | rfl) ?_
        refine rb_skip ?_
        refine eb_seq ?_
        refine rb_seq ?_
        refine rb_seq ?_
        refine rb_regionK fun K36 hK36 => ?_
        simp -implicitDefEqProofs only [vt, vm, ↓atI_fold, forall_const, implies_true, sevalprocAttr, dd_HA, k17, k27, k32]
        subst hK36
        refine eb_seq ?_
        rcases ite_or h with ⟨k37, h⟩ | ⟨k37, h⟩
        · refine rb_true (by first | exact congrArg D.bool k37 | rfl) ?_
          refine rb_seq ?_
          refine rb_regionK fun K39 hK39 => ?_
          simp -implicitDefEqProofs only [vt, vm, ↓atI_fold, forall_const, implies_true, sevalprocAttr, dd_HA, k17, k27, k32, k37]
          subst hK39
          refine eb_seq ?_
          refine rb_ret ?_
          refine eb_seq_r ?_
          obtain rfl := Option.some.inj h
          refine eb_nil ?_
          simp -implicitDefEqProofs only [vt, vm, ↓atI_fold, forall_const, implies_true, sevalprocAttr, retQ_r, Tryd.results116, dd_HA, k17, k27, k32, k37] <;> first | rfl | (simp [List.map_append, dd_HA]; done)
        · refine rb_false (by first | exact congrArg D.bool k37 | rfl) ?_
          refine rb_skip ?_
          refine eb_seq ?_
          refine rb_seq ?_
          refine rb_regionK fun K41 hK41 => ?_
          simp -implicitDefEqProofs only [vt, vm, ↓atI_fold, forall_const, implies_true, sevalprocAttr, dd_HA, k17, k27, k32, k37]
          subst hK41
          refine eb_seq ?_
          refine rb_ret ?_
          obtain rfl := Option.some.inj h
          refine eb_nil ?_
          simp -implicitDefEqProofs only [vt, vm, ↓atI_fold, forall_const, implies_true, sevalprocAttr, retQ_r, Tryd.results116, dd_HA, k17, k27, k32, k37] <;> first | rfl | (simp [List.map_append, dd_HA]; done)
-- cmp.Or[int]
def g_cmp_Or_int_s1 (vals_0 : List Int) (x7 : Int) : Option (Nx (Int) (Int ⊕ Unit)) :=
  (if (decide (x7 < (vals_0.length : Int))) then ((atI vals_0 x7).bind fun y55 => (if (y55 != 0) then (some (.out (.inl y55))) else (some (.go (IntKind.i64.wrap (x7 + 1)))))) else (some (.out (.inr ()))))
def g_cmp_Or_int (vals_0 : List Int) : Option (Int) :=
  ((iter (g_cmp_Or_int_s1 vals_0) 0).bind fun e8 => (match e8 with | Sum.inl e8 => (some e8) | Sum.inr (e8) => (some 0)))
theorem a_cmp_Or_int (I : World → Prop) (hI : Stab I) (vals_0 : List Int) {r : Int} (h : g_cmp_Or_int vals_0 = some r) : AFun Tryd.prog I 115 [.sl (vals_0.map (D.int .i64))] (.int .i64 r) := by
  refine AFun.enterB hI Tryd.func115 rfl (by decide) (by simp [Tryd.f115]) (by kernel_rfl) ?_
  unfold g_cmp_Or_int at h
  simp only [S0, Tryd.ntmps115, dd_HA]
  refine rb_seq ?_
  refine rb_regionK fun K2 hK2 => ?_
  simp -implicitDefEqProofs only [vt, vm, ↓atI_fold, forall_const, implies_true, sevalprocAttr, dd_HA]
  subst hK2
  refine eb_seq ?_
  refine rb_seq ?_
  refine rb_regionK fun K4 hK4 => ?_
  simp -implicitDefEqProofs only [vt, vm, ↓atI_fold, forall_const, implies_true, sevalprocAttr, dd_HA]
  subst hK4
  refine eb_seq ?_
  refine rb_seq ?_
  refine rb_seq ?_
  refine rb_regionK fun K6 hK6 => ?_
  simp -implicitDefEqProofs only [vt, vm, ↓atI_fold, forall_const, implies_true, sevalprocAttr, dd_HA]
  subst hK6
  refine eb_seq ?_
  refine rb_block ?_
  obtain ⟨e8, h63, h⟩ := bind_some h
  refine rb_loop (fun x7 => ⟨envL [(3, .int .i64 0), (6, .sl (vals_0.map (D.int .i64))), (7, .int .i64 (vals_0.length : Int)), (8, .int .i64 x7)], heapL [], 0, 18⟩) (fun w => match w with | Sum.inl _ => .ret | Sum.inr (_) => .exit 0) (fun w => match w with | Sum.inl e8 => ⟨envL [(2, .int .i64 e8)], heapL [], 0, 18⟩ | Sum.inr (e8) => ⟨envL [(3, .int .i64 0)], heapL [], 0, 18⟩) h63 (Wk.of (fun i => some i) _ _ _ (by simp -implicitDefEqProofs [kv, km, dd_HA]) (by simp -implicitDefEqProofs [kv, km, dd_HA])) (by intro w; rcases w with w | w <;> simp) ?_ ?_
  · clear h
    intro x7 y h
    unfold g_cmp_Or_int_s1 at h
    refine rb_seq ?_
    refine rb_regionK fun K37 hK37 => ?_
    simp -implicitDefEqProofs only [vt, vm, ↓atI_fold, forall_const, implies_true, sevalprocAttr, dd_HA]
    subst hK37
    refine eb_seq ?_
    refine rb_seq ?_
    rcases ite_or h with ⟨k39, h⟩ | ⟨k39, h⟩
    · refine rb_true (by first | exact congrArg D.bool k39 | rfl) ?_
      refine rb_skip ?_
      refine eb_seq ?_
      refine rb_seq ?_
      refine rb_block ?_
      refine rb_seq ?_
      refine rb_regionK fun K54 hK54 => ?_
      simp -implicitDefEqProofs only [vt, vm, ↓atI_fold, forall_const, implies_true, sevalprocAttr, dd_HA, k39]
      obtain ⟨y55, h56, h⟩ := bind_some h
      simp -implicitDefEqProofs only [vt, vm, ↓atI_fold, forall_const, implies_true, sevalprocAttr, dd_HA, k39, h56]
      subst hK54
      refine eb_seq ?_
      refine rb_seq ?_
      refine rb_regionK fun K58 hK58 => ?_
      simp -implicitDefEqProofs only [vt, vm, ↓atI_fold, forall_const, implies_true, sevalprocAttr, dd_HA, k39, h56]
      subst hK58
      refine eb_seq ?_
      rcases ite_or h with ⟨k59, h⟩ | ⟨k59, h⟩
      · refine rb_true (by first | exact congrArg D.bool k59 | rfl) ?_
        refine rb_seq ?_
        refine rb_regionK fun K61 hK61 => ?_
        simp -implicitDefEqProofs only [vt, vm, ↓atI_fold, forall_const, implies_true, sevalprocAttr, dd_HA, k39, h56, k59]
        subst hK61
        refine eb_seq ?_
        refine rb_ret ?_
        refine eb_blk_r ?_
        refine eb_seq_r ?_
        obtain rfl := Option.some.inj h
        exact eb_nil ⟨rfl, Wk.of (fun i => some i) _ _ _ (by simp -implicitDefEqProofs [kv, km, dd_HA, k39, k59]) (by simp -implicitDefEqProofs [kv, km, dd_HA, k39, k59])⟩
      · refine rb_false (by first | exact congrArg D.bool k59 | rfl) ?_
        refine rb_skip ?_
        refine eb_blk_n ?_
        refine eb_seq ?_
        refine rb_regionK fun K62 hK62 => ?_
        simp -implicitDefEqProofs only [vt, vm, ↓atI_fold, forall_const, implies_true, sevalprocAttr, dd_HA, k39, h56, k59]
        subst hK62
        obtain rfl := Option.some.inj h
        exact eb_nil ⟨rfl, Wk.of (fun i => some i) _ _ _ (by simp -implicitDefEqProofs [kv, km, dd_HA, k39, k59]) (by simp -implicitDefEqProofs [kv, km, dd_HA, k39, k59])⟩
    · refine rb_false (by first | exact congrArg D.bool k39 | rfl) ?_
      refine rb_exit ?_
      refine eb_seq_e ?_
      obtain rfl := Option.some.inj h
      exact eb_nil ⟨rfl, Wk.of (fun i => some i) _ _ _ (by simp -implicitDefEqProofs [kv, km, dd_HA, k39]) (by simp -implicitDefEqProofs [kv, km, dd_HA, k39])⟩
  · rcases e8 with e8 | e8
    · try dsimp only at h ⊢
      refine eb_blk_r ?_
      refine eb_seq_r ?_
      obtain rfl := Option.some.inj h
      refine eb_nil ?_
      simp -implicitDefEqProofs only [vt, vm, ↓atI_fold, forall_const, implies_true, sevalprocAttr, retQ_r, Tryd.results115, dd_HA] <;> first | rfl | (simp [List.map_append, dd_HA]; done)
    · try dsimp only at h ⊢
      refine eb_blk_hit ?_
      refine eb_seq ?_
      refine rb_seq ?_
      refine rb_regionK fun K65 hK65 => ?_
      simp -implicitDefEqProofs only [vt, vm, ↓atI_fold, forall_const, implies_true, sevalprocAttr, dd_HA]
      subst hK65
      refine eb_seq ?_
      refine rb_ret ?_
      obtain rfl := Option.some.inj h
      refine eb_nil ?_
      simp -implicitDefEqProofs only [vt, vm, ↓atI_fold, forall_const, implies_true, sevalprocAttr, retQ_r, Tryd.results115, dd_HA] <;> first | rfl | (simp [List.map_append, dd_HA]; done)
end Go.Proofs.YtipdmcpmedmicaaDoor
