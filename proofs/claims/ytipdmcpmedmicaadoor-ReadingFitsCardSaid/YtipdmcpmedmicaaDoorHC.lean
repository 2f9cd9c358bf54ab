/- What some functions compute, read off their texts by a program of mine (gen.py): definitions, and contracts (the text computes it). No condition but that the definition answers. -/
import Derived.Test.YtipdmcpmedmicaaDoorHB
namespace Go.Proofs.YtipdmcpmedmicaaDoor
open Go.RowKit
set_option maxRecDepth 100000
set_option linter.unusedVariables false
set_option linter.unusedSimpArgs false
set_option maxHeartbeats 10000000
structure T_api_Finding where
  Rule : Int
  ID : Int
  Other : Int
  Amount : Int
  deriving DecidableEq
def T_api_Finding.d (x : T_api_Finding) : D := .agg [.int .u8 x.Rule, .int .i64 x.ID, .int .i64 x.Other, .int .i64 x.Amount]
theorem dd_HC : (∀ x, T_api_Region.d x = .agg [.str x.Name, .int .i64 x.Top, .int .i64 x.Height, .int .i64 x.Left, .int .i64 x.Width, .int .u8 x.Align, .bool x.Bottom]) ∧ (∀ x, T_api_Span.d x = .agg [.int .i64 x.In, .int .i64 x.Out]) ∧ (∀ x, T_api_Style.d x = .agg [.int .u8 x.Color, .bool x.Italic, .bool x.Underline]) ∧ (∀ x, T_api_Run.d x = .agg [.str x.Text, .int .u8 x.Style.Color, .bool x.Style.Italic, .bool x.Style.Underline, .str x.Ruby]) ∧ (∀ x, T_api_Row.d x = .agg [.sl (x.Runs.map T_api_Run.d)]) ∧ (∀ x, T_api_Event.d x = .agg [.int .i64 x.ID, .int .i64 x.Span.In, .int .i64 x.Span.Out, .str x.Region, .int .u8 x.Kind, .str x.Speaker, .sl (x.Rows.map T_api_Row.d)]) ∧ (∀ x, T_api_Comment.d x = .agg [.int .i64 x.ID, .int .i64 x.Event, .int .i64 x.From, .int .i64 x.To, .str x.Author, .str x.Text, .bool x.Done, .bool x.Lost]) ∧ (∀ x, T_api_Document.d x = .agg [.str x.Title, .str x.Lang, .int .u8 x.Rate, .bool x.Drop, .int .i64 x.Last, .sl (x.Regions.map T_api_Region.d), .sl (x.Events.map T_api_Event.d), .sl (x.Comments.map T_api_Comment.d)]) ∧ (∀ x, T_api_Profile.d x = .agg [.str x.Name, .int .i64 x.Reading, .int .i64 x.MinFrames, .int .i64 x.MaxFrames, .int .i64 x.MinGap, .int .i64 x.ShotBefore, .int .i64 x.ShotAfter, .int .i64 x.Rows, .int .i64 x.Cols, .str x.Forbidden, .int .i64 x.SafeTop, .int .i64 x.SafeBottom, .int .i64 x.SafeLeft, .int .i64 x.SafeRight]) ∧ (∀ x, T_api_Spot.d x = .agg [.int .i64 x.Row, .int .i64 x.Col, .int .i64 x.Len]) ∧ (∀ x, T_api_Finding.d x = .agg [.int .u8 x.Rule, .int .i64 x.ID, .int .i64 x.Other, .int .i64 x.Amount]) := ⟨fun _ => rfl, fun _ => rfl, fun _ => rfl, fun _ => rfl, fun _ => rfl, fun _ => rfl, fun _ => rfl, fun _ => rfl, fun _ => rfl, fun _ => rfl, fun _ => rfl⟩
-- document.anchored
def g_document_anchored (d_0 : T_api_Document) (c_1 : T_api_Comment) (events_2 : MI Int) : Option (Int) :=
  (if (decide (c_1.Event < 1)) then (some 2) else (if (decide (d_0.Last < c_1.Event)) then (some 2) else (if c_1.Lost then (((if (c_1.From != 0) then (some true) else (some (c_1.To != 0))) : Option (Bool)).bind fun v17 => (if v17 then (some 2) else (some 0))) else (if (events_2.ks.contains c_1.Event) then (if (decide (c_1.From < 0)) then (some 2) else (if (decide (c_1.To ≤ c_1.From)) then (some 2) else ((atI d_0.Events (lookV events_2.ks events_2.vs c_1.Event 0)).bind fun y45 => ((g_event_Len y45).bind fun r47 => (if (decide (r47 < c_1.To)) then (some 2) else (some 0)))))) else (some 6)))))
theorem a_document_anchored (I : World → Prop) (hI : Stab I) (hU8T : ∀ w, I w → U8T w) (d_0 : T_api_Document) (c_1 : T_api_Comment) (events_2 : MI Int) {r : Int} (h : g_document_anchored d_0 c_1 events_2 = some r) : AFun Tryd.prog I 117 [T_api_Document.d d_0, T_api_Comment.d c_1, .mp .i64 events_2.ks (events_2.vs.map (D.int .i64))] (.int .i64 r) := by
  refine AFun.enterB hI Tryd.func117 rfl (by decide) (by simp [Tryd.f117]) (by kernel_rfl) ?_
  unfold g_document_anchored at h
  simp only [S0, Tryd.ntmps117, dd_HC]
  refine rb_seq ?_
  refine rb_regionK fun K2 hK2 => ?_
  simp -implicitDefEqProofs only [vt, vm, ↓atI_fold, forall_const, implies_true, sevalprocAttr, dd_HC]
  subst hK2
  refine eb_seq ?_
  refine rb_seq ?_
  refine rb_seq ?_
  refine rb_regionK fun K5 hK5 => ?_
  simp -implicitDefEqProofs only [vt, vm, ↓atI_fold, forall_const, implies_true, sevalprocAttr, dd_HC]
  rcases ite_or h with ⟨k6, h⟩ | ⟨k6, h⟩
  · simp -implicitDefEqProofs only [vt, vm, ↓atI_fold, forall_const, implies_true, sevalprocAttr, dd_HC, k6]
    subst hK5
    refine eb_seq ?_
    refine rb_true (rfl) ?_
    refine rb_seq ?_
    refine rb_regionK fun K8 hK8 => ?_
    simp -implicitDefEqProofs only [vt, vm, ↓atI_fold, forall_const, implies_true, sevalprocAttr, dd_HC, k6]
    subst hK8
    refine eb_seq ?_
    refine rb_ret ?_
    refine eb_seq_r ?_
    obtain rfl := Option.some.inj h
    refine eb_nil ?_
    simp -implicitDefEqProofs only [vt, vm, ↓atI_fold, forall_const, implies_true, sevalprocAttr, retQ_r, Tryd.results117, dd_HC, k6] <;> first | rfl | (simp [List.map_append, dd_HC]; done)
  · simp -implicitDefEqProofs only [vt, vm, ↓atI_fold, forall_const, implies_true, sevalprocAttr, dd_HC, k6]
    subst hK5
    refine eb_seq ?_
    rcases ite_or h with ⟨k9, h⟩ | ⟨k9, h⟩
    · refine rb_true (by first | exact congrArg D.bool k9 | rfl) ?_
      refine rb_seq ?_
      refine rb_regionK fun K11 hK11 => ?_
      simp -implicitDefEqProofs only [vt, vm, ↓atI_fold, forall_const, implies_true, sevalprocAttr, dd_HC, k6, k9]
      subst hK11
      refine eb_seq ?_
      refine rb_ret ?_
      refine eb_seq_r ?_
      obtain rfl := Option.some.inj h
      refine eb_nil ?_
      simp -implicitDefEqProofs only [vt, vm, ↓atI_fold, forall_const, implies_true, sevalprocAttr, retQ_r, Tryd.results117, dd_HC, k6, k9] <;> first | rfl | (simp [List.map_append, dd_HC]; done)
    · refine rb_false (by first | exact congrArg D.bool k9 | rfl) ?_
      refine rb_skip ?_
      refine eb_seq ?_
      refine rb_seq ?_
      refine rb_seq ?_
      refine rb_regionK fun K13 hK13 => ?_
      simp -implicitDefEqProofs only [vt, vm, ↓atI_fold, forall_const, implies_true, sevalprocAttr, dd_HC, k6, k9]
      subst hK13
      refine eb_seq ?_
      rcases ite_or h with ⟨k14, h⟩ | ⟨k14, h⟩
      · refine rb_true (by first | exact congrArg D.bool k14 | rfl) ?_
        refine rb_seq ?_
        obtain ⟨v17, h20, h⟩ := bind_some h
        refine rb_cut (fun v17 => ⟨envL [(28, .bool v17)], heapL [], 0, 59⟩) h20 ?_ ?_
        · clear h
          intro v17 h
          refine rb_regionK fun K18 hK18 => ?_
          simp -implicitDefEqProofs only [vt, vm, ↓atI_fold, forall_const, implies_true, sevalprocAttr, dd_HC, k6, k9, k14]
          rcases ite_or h with ⟨k19, h⟩ | ⟨k19, h⟩
          · simp -implicitDefEqProofs only [vt, vm, ↓atI_fold, forall_const, implies_true, sevalprocAttr, dd_HC, k6, k9, k14, k19]
            subst hK18
            obtain rfl := Option.some.inj h
            exact eb_nil ⟨rfl, Wk.of (fun i => some i) _ _ _ (by simp -implicitDefEqProofs [kv, km, dd_HC, k6, k9, k14, k19]) (by simp -implicitDefEqProofs [kv, km, dd_HC, k6, k9, k14, k19])⟩
          · simp -implicitDefEqProofs only [vt, vm, ↓atI_fold, forall_const, implies_true, sevalprocAttr, dd_HC, k6, k9, k14, k19]
            subst hK18
            obtain rfl := Option.some.inj h
            exact eb_nil ⟨rfl, Wk.of (fun i => some i) _ _ _ (by simp -implicitDefEqProofs [kv, km, dd_HC, k6, k9, k14, k19]) (by simp -implicitDefEqProofs [kv, km, dd_HC, k6, k9, k14, k19])⟩
        · rcases ite_or h with ⟨k21, h⟩ | ⟨k21, h⟩
          · refine rb_true (by first | exact congrArg D.bool k21 | rfl) ?_
            refine rb_seq ?_
            refine rb_regionK fun K23 hK23 => ?_
            simp -implicitDefEqProofs only [vt, vm, ↓atI_fold, forall_const, implies_true, sevalprocAttr, dd_HC, k6, k9, k14, k21]
            subst hK23
            refine eb_seq ?_
            refine rb_ret ?_
            refine eb_seq_r ?_
            refine eb_seq_r ?_
            obtain rfl := Option.some.inj h
            refine eb_nil ?_
            simp -implicitDefEqProofs only [vt, vm, ↓atI_fold, forall_const, implies_true, sevalprocAttr, retQ_r, Tryd.results117, dd_HC, k6, k9, k14, k21] <;> first | rfl | (simp [List.map_append, dd_HC]; done)
          · refine rb_false (by first | exact congrArg D.bool k21 | rfl) ?_
            refine rb_skip ?_
            refine eb_seq ?_
            refine rb_seq ?_
            refine rb_regionK fun K25 hK25 => ?_
            simp -implicitDefEqProofs only [vt, vm, ↓atI_fold, forall_const, implies_true, sevalprocAttr, dd_HC, k6, k9, k14, k21]
            subst hK25
            refine eb_seq ?_
            refine rb_ret ?_
            refine eb_seq_r ?_
            obtain rfl := Option.some.inj h
            refine eb_nil ?_
            simp -implicitDefEqProofs only [vt, vm, ↓atI_fold, forall_const, implies_true, sevalprocAttr, retQ_r, Tryd.results117, dd_HC, k6, k9, k14, k21] <;> first | rfl | (simp [List.map_append, dd_HC]; done)
      · refine rb_false (by first | exact congrArg D.bool k14 | rfl) ?_
        refine rb_skip ?_
        refine eb_seq ?_
        refine rb_seq ?_
        refine rb_regionK fun K27 hK27 => ?_
        simp -implicitDefEqProofs only [vt, vm, ↓atI_fold, forall_const, implies_true, sevalprocAttr, dd_HC, k6, k9, k14]
        subst hK27
        refine eb_seq ?_
        refine rb_seq ?_
        refine rb_seq ?_
        refine rb_regionK fun K29 hK29 => ?_
        simp -implicitDefEqProofs only [vt, vm, ↓atI_fold, forall_const, implies_true, sevalprocAttr, dd_HC, k6, k9, k14]
        subst hK29
        refine eb_seq ?_
        rcases ite_or h with ⟨k30, h⟩ | ⟨k30, h⟩
        · refine rb_false (by first | exact congrArg D.bool (congrArg Bool.not k30) | rfl) ?_
          refine rb_skip ?_
          refine eb_seq ?_
          refine rb_seq ?_
          refine rb_seq ?_
          refine rb_drawK hI (by kernel_rfl) (by kernel_rfl) fun K38 hK38 => ?_
          simp -implicitDefEqProofs only [vt, vm, ↓atI_fold, forall_const, implies_true, sevalprocAttr, dd_HC, k6, k9, k14, k30]
          rcases ite_or h with ⟨k39, h⟩ | ⟨k39, h⟩
          · simp -implicitDefEqProofs only [vt, vm, ↓atI_fold, forall_const, implies_true, sevalprocAttr, dd_HC, k6, k9, k14, k30, k39]
            subst hK38
            refine eb_seq ?_
            refine rb_true (rfl) ?_
            refine rb_seq ?_
            refine rb_regionK fun K41 hK41 => ?_
            simp -implicitDefEqProofs only [vt, vm, ↓atI_fold, forall_const, implies_true, sevalprocAttr, dd_HC, k6, k9, k14, k30, k39]
            subst hK41
            refine eb_seq ?_
            refine rb_ret ?_
            refine eb_seq_r ?_
            obtain rfl := Option.some.inj h
            refine eb_nil ?_
            simp -implicitDefEqProofs only [vt, vm, ↓atI_fold, forall_const, implies_true, sevalprocAttr, retQ_r, Tryd.results117, dd_HC, k6, k9, k14, k30, k39] <;> first | rfl | (simp [List.map_append, dd_HC]; done)
          · simp -implicitDefEqProofs only [vt, vm, ↓atI_fold, forall_const, implies_true, sevalprocAttr, dd_HC, k6, k9, k14, k30, k39]
            rcases ite_or h with ⟨k42, h⟩ | ⟨k42, h⟩
            · simp -implicitDefEqProofs only [vt, vm, ↓atI_fold, forall_const, implies_true, sevalprocAttr, dd_HC, k6, k9, k14, k30, k39, k42]
              subst hK38
              refine eb_seq ?_
              refine rb_true (rfl) ?_
              refine rb_seq ?_
              refine rb_regionK fun K44 hK44 => ?_
              simp -implicitDefEqProofs only [vt, vm, ↓atI_fold, forall_const, implies_true, sevalprocAttr, dd_HC, k6, k9, k14, k30, k39, k42]
              subst hK44
              refine eb_seq ?_
              refine rb_ret ?_
              refine eb_seq_r ?_
              obtain rfl := Option.some.inj h
              refine eb_nil ?_
              simp -implicitDefEqProofs only [vt, vm, ↓atI_fold, forall_const, implies_true, sevalprocAttr, retQ_r, Tryd.results117, dd_HC, k6, k9, k14, k30, k39, k42] <;> first | rfl | (simp [List.map_append, dd_HC]; done)
            · simp -implicitDefEqProofs only [vt, vm, ↓atI_fold, forall_const, implies_true, sevalprocAttr, dd_HC, k6, k9, k14, k30, k39, k42]
              obtain ⟨y45, h46, h⟩ := bind_some h
              simp -implicitDefEqProofs only [vt, vm, ↓atI_fold, forall_const, implies_true, sevalprocAttr, dd_HC, k6, k9, k14, k30, k39, k42, h46]
              obtain ⟨r47, h48, h⟩ := bind_some h
              refine cD'.intro (a_event_Len I hI hU8T y45 h48) (by first | rfl | (simp [List.map_append, dd_HC]; done)) (by kernel_rfl) ?_
              simp -implicitDefEqProofs only [vt, vm, ↓atI_fold, forall_const, implies_true, sevalprocAttr, dd_HC, k6, k9, k14, k30, k39, k42, h46]
              subst hK38
              refine eb_seq ?_
              rcases ite_or h with ⟨k49, h⟩ | ⟨k49, h⟩
              · refine rb_true (by first | exact congrArg D.bool k49 | rfl) ?_
                refine rb_seq ?_
                refine rb_regionK fun K51 hK51 => ?_
                simp -implicitDefEqProofs only [vt, vm, ↓atI_fold, forall_const, implies_true, sevalprocAttr, dd_HC, k6, k9, k14, k30, k39, k42, h46, k49]
                subst hK51
                refine eb_seq ?_
                refine rb_ret ?_
                refine eb_seq_r ?_
                obtain rfl := Option.some.inj h
                refine eb_nil ?_
                simp -implicitDefEqProofs only [vt, vm, ↓atI_fold, forall_const, implies_true, sevalprocAttr, retQ_r, Tryd.results117, dd_HC, k6, k9, k14, k30, k39, k42, h46, k49] <;> first | rfl | (simp [List.map_append, dd_HC]; done)
              · refine rb_false (by first | exact congrArg D.bool k49 | rfl) ?_
                refine rb_skip ?_
                refine eb_seq ?_
                refine rb_seq ?_
                refine rb_regionK fun K53 hK53 => ?_
                simp -implicitDefEqProofs only [vt, vm, ↓atI_fold, forall_const, implies_true, sevalprocAttr, dd_HC, k6, k9, k14, k30, k39, k42, h46, k49]
                subst hK53
                refine eb_seq ?_
                refine rb_ret ?_
                obtain rfl := Option.some.inj h
                refine eb_nil ?_
                simp -implicitDefEqProofs only [vt, vm, ↓atI_fold, forall_const, implies_true, sevalprocAttr, retQ_r, Tryd.results117, dd_HC, k6, k9, k14, k30, k39, k42, h46, k49] <;> first | rfl | (simp [List.map_append, dd_HC]; done)
        · refine rb_true (by first | exact congrArg D.bool (congrArg Bool.not k30) | rfl) ?_
          refine rb_seq ?_
          refine rb_regionK fun K55 hK55 => ?_
          simp -implicitDefEqProofs only [vt, vm, ↓atI_fold, forall_const, implies_true, sevalprocAttr, dd_HC, k6, k9, k14, k30]
          subst hK55
          refine eb_seq ?_
          refine rb_ret ?_
          refine eb_seq_r ?_
          obtain rfl := Option.some.inj h
          refine eb_nil ?_
          simp -implicitDefEqProofs only [vt, vm, ↓atI_fold, forall_const, implies_true, sevalprocAttr, retQ_r, Tryd.results117, dd_HC, k6, k9, k14, k30] <;> first | rfl | (simp [List.map_append, dd_HC]; done)
-- document.comments
def g_document_comments_s1 (d_0 : T_api_Document) (events_1 : MI Int) (x10 : Int) : Option (Nx (Int) (Int ⊕ Unit)) :=
  (if (decide (x10 < (d_0.Comments.length : Int))) then ((atI d_0.Comments x10).bind fun y762 => (if (decide (y762.ID < 1)) then (some (.out (.inl 2))) else (if (decide (d_0.Last < y762.ID)) then (some (.out (.inl 2))) else (if (decide (0 < x10)) then ((atI d_0.Comments (IntKind.i64.wrap (x10 - 1))).bind fun y811 => (if (decide (y762.ID ≤ y811.ID)) then (some (.out (.inl 8))) else (if (events_1.ks.contains y762.ID) then (some (.out (.inl 7))) else ((g_document_anchored d_0 y762 events_1).bind fun r825 => (if (r825 != 0) then (some (.out (.inl r825))) else ((g_lines_Name y762.Author).bind fun r836 => (if r836 then ((g_charset_Valid y762.Text).bind fun r843 => (if r843 then (if (y762.Text == ([] : List UInt8)) then (some (.out (.inl 4))) else (if (decide (400 < (y762.Text.length : Int))) then (some (.out (.inl 9))) else (some (.go (IntKind.i64.wrap (x10 + 1)))))) else (some (.out (.inl 10))))) else (some (.out (.inl 5)))))))))) else (if (events_1.ks.contains y762.ID) then (some (.out (.inl 7))) else ((g_document_anchored d_0 y762 events_1).bind fun r870 => (if (r870 != 0) then (some (.out (.inl r870))) else ((g_lines_Name y762.Author).bind fun r881 => (if r881 then ((g_charset_Valid y762.Text).bind fun r888 => (if r888 then (if (y762.Text == ([] : List UInt8)) then (some (.out (.inl 4))) else (if (decide (400 < (y762.Text.length : Int))) then (some (.out (.inl 9))) else (some (.go (IntKind.i64.wrap (x10 + 1)))))) else (some (.out (.inl 10))))) else (some (.out (.inl 5)))))))))))) else (some (.out (.inr ()))))
def g_document_comments (d_0 : T_api_Document) (events_1 : MI Int) : Option (Int) :=
  (if (decide (64 < (d_0.Comments.length : Int))) then (some 9) else ((iter (g_document_comments_s1 d_0 events_1) 0).bind fun e11 => (match e11 with | Sum.inl e11 => (some e11) | Sum.inr (e11) => (some 0))))
theorem a_document_comments (I : World → Prop) (hI : Stab I) (hU8T : ∀ w, I w → U8T w) (d_0 : T_api_Document) (events_1 : MI Int) {r : Int} (h : g_document_comments d_0 events_1 = some r) : AFun Tryd.prog I 82 [T_api_Document.d d_0, .mp .i64 events_1.ks (events_1.vs.map (D.int .i64))] (.int .i64 r) := by
  refine AFun.enterB hI Tryd.func82 rfl (by decide) (by simp [Tryd.f82]) (by kernel_rfl) ?_
  unfold g_document_comments at h
  simp only [S0, Tryd.ntmps82, dd_HC]
  refine rb_seq ?_
  refine rb_regionK fun K2 hK2 => ?_
  simp -implicitDefEqProofs only [vt, vm, ↓atI_fold, forall_const, implies_true, sevalprocAttr, dd_HC]
  subst hK2
  refine eb_seq ?_
  refine rb_seq ?_
  refine rb_seq ?_
  refine rb_regionK fun K4 hK4 => ?_
  simp -implicitDefEqProofs only [vt, vm, ↓atI_fold, forall_const, implies_true, sevalprocAttr, dd_HC]
  subst hK4
  refine eb_seq ?_
  rcases ite_or h with ⟨k5, h⟩ | ⟨k5, h⟩
  · refine rb_true (by first | exact congrArg D.bool k5 | rfl) ?_
    refine rb_seq ?_
    refine rb_regionK fun K7 hK7 => ?_
    simp -implicitDefEqProofs only [vt, vm, ↓atI_fold, forall_const, implies_true, sevalprocAttr, dd_HC, k5]
    subst hK7
    refine eb_seq ?_
    refine rb_ret ?_
    refine eb_seq_r ?_
    obtain rfl := Option.some.inj h
    refine eb_nil ?_
    simp -implicitDefEqProofs only [vt, vm, ↓atI_fold, forall_const, implies_true, sevalprocAttr, retQ_r, Tryd.results82, dd_HC, k5] <;> first | rfl | (simp [List.map_append, dd_HC]; done)
  · refine rb_false (by first | exact congrArg D.bool k5 | rfl) ?_
    refine rb_skip ?_
    refine eb_seq ?_
    refine rb_seq ?_
    refine rb_seq ?_
    refine rb_regionK fun K9 hK9 => ?_
    simp -implicitDefEqProofs only [vt, vm, ↓atI_fold, forall_const, implies_true, sevalprocAttr, dd_HC, k5]
    subst hK9
    refine eb_seq ?_
    refine rb_block ?_
    obtain ⟨e11, h906, h⟩ := bind_some h
    refine rb_loop (fun x10 => ⟨envL [(1, .mp .i64 events_1.ks (events_1.vs.map (D.int .i64))), (2, .ptr 0 0), (15, .sl (d_0.Comments.map T_api_Comment.d)), (16, .int .i64 (d_0.Comments.length : Int)), (17, .int .i64 x10)], heapL [(0, .box none [.str d_0.Title, .str d_0.Lang, .int .u8 d_0.Rate, .bool d_0.Drop, .int .i64 d_0.Last, .sl (d_0.Regions.map T_api_Region.d), .sl (d_0.Events.map T_api_Event.d), .sl (d_0.Comments.map T_api_Comment.d)])], 1, 84⟩) (fun w => match w with | Sum.inl _ => .ret | Sum.inr (_) => .exit 0) (fun w => match w with | Sum.inl e11 => ⟨envL [(4, .int .i64 e11)], heapL [], 0, 84⟩ | Sum.inr (e11) => ⟨envL [], heapL [], 0, 84⟩) h906 (Wk.of (fun i => if i = 0 then some 0 else some i) _ _ _ (by simp -implicitDefEqProofs [kv, km, dd_HC, k5]) (by simp -implicitDefEqProofs [kv, km, dd_HC, k5])) (by intro w; rcases w with w | w <;> simp) ?_ ?_
    · clear h
      intro x10 y h
      unfold g_document_comments_s1 at h
      refine rb_seq ?_
      refine rb_regionK fun K609 hK609 => ?_
      simp -implicitDefEqProofs only [vt, vm, ↓atI_fold, forall_const, implies_true, sevalprocAttr, dd_HC, k5]
      subst hK609
      refine eb_seq ?_
      refine rb_seq ?_
      rcases ite_or h with ⟨k611, h⟩ | ⟨k611, h⟩
      · refine rb_true (by first | exact congrArg D.bool k611 | rfl) ?_
        refine rb_skip ?_
        refine eb_seq ?_
        refine rb_seq ?_
        refine rb_block ?_
        refine rb_seq ?_
        refine rb_regionK fun K761 hK761 => ?_
        simp -implicitDefEqProofs only [vt, vm, ↓atI_fold, forall_const, implies_true, sevalprocAttr, dd_HC, k5, k611]
        obtain ⟨y762, h763, h⟩ := bind_some h
        simp -implicitDefEqProofs only [vt, vm, ↓atI_fold, forall_const, implies_true, sevalprocAttr, dd_HC, k5, k611, h763]
        subst hK761
        refine eb_seq ?_
        refine rb_seq ?_
        refine rb_regionK fun K765 hK765 => ?_
        simp -implicitDefEqProofs only [vt, vm, ↓atI_fold, forall_const, implies_true, sevalprocAttr, dd_HC, k5, k611, h763]
        subst hK765
        refine eb_seq ?_
        refine rb_seq ?_
        refine rb_block ?_
        refine rb_seq ?_
        refine rb_regionK fun K798 hK798 => ?_
        simp -implicitDefEqProofs only [vt, vm, ↓atI_fold, forall_const, implies_true, sevalprocAttr, dd_HC, k5, k611, h763]
        rcases ite_or h with ⟨k799, h⟩ | ⟨k799, h⟩
        · simp -implicitDefEqProofs only [vt, vm, ↓atI_fold, forall_const, implies_true, sevalprocAttr, dd_HC, k5, k611, h763, k799]
          subst hK798
          refine eb_seq ?_
          refine rb_true (rfl) ?_
          refine rb_seq ?_
          refine rb_regionK fun K801 hK801 => ?_
          simp -implicitDefEqProofs only [vt, vm, ↓atI_fold, forall_const, implies_true, sevalprocAttr, dd_HC, k5, k611, h763, k799]
          subst hK801
          refine eb_seq ?_
          refine rb_ret ?_
          refine eb_blk_r ?_
          refine eb_seq_r ?_
          refine eb_blk_r ?_
          refine eb_seq_r ?_
          obtain rfl := Option.some.inj h
          exact eb_nil ⟨rfl, Wk.of (fun i => some i) _ _ _ (by simp -implicitDefEqProofs [kv, km, dd_HC, k5, k611, k799]) (by simp -implicitDefEqProofs [kv, km, dd_HC, k5, k611, k799])⟩
        · simp -implicitDefEqProofs only [vt, vm, ↓atI_fold, forall_const, implies_true, sevalprocAttr, dd_HC, k5, k611, h763, k799]
          subst hK798
          refine eb_seq ?_
          rcases ite_or h with ⟨k802, h⟩ | ⟨k802, h⟩
          · refine rb_true (by first | exact congrArg D.bool k802 | rfl) ?_
            refine rb_seq ?_
            refine rb_regionK fun K804 hK804 => ?_
            simp -implicitDefEqProofs only [vt, vm, ↓atI_fold, forall_const, implies_true, sevalprocAttr, dd_HC, k5, k611, h763, k799, k802]
            subst hK804
            refine eb_seq ?_
            refine rb_ret ?_
            refine eb_blk_r ?_
            refine eb_seq_r ?_
            refine eb_blk_r ?_
            refine eb_seq_r ?_
            obtain rfl := Option.some.inj h
            exact eb_nil ⟨rfl, Wk.of (fun i => some i) _ _ _ (by simp -implicitDefEqProofs [kv, km, dd_HC, k5, k611, k799, k802]) (by simp -implicitDefEqProofs [kv, km, dd_HC, k5, k611, k799, k802])⟩
          · refine rb_false (by first | exact congrArg D.bool k802 | rfl) ?_
            refine rb_seq ?_
            refine rb_drawK hI (by kernel_rfl) (by kernel_rfl) fun K809 hK809 => ?_
            simp -implicitDefEqProofs only [vt, vm, ↓atI_fold, forall_const, implies_true, sevalprocAttr, dd_HC, k5, k611, h763, k799, k802]
            rcases ite_or h with ⟨k810, h⟩ | ⟨k810, h⟩
            · simp -implicitDefEqProofs only [vt, vm, ↓atI_fold, forall_const, implies_true, sevalprocAttr, dd_HC, k5, k611, h763, k799, k802, k810]
              obtain ⟨y811, h812, h⟩ := bind_some h
              simp -implicitDefEqProofs only [vt, vm, ↓atI_fold, forall_const, implies_true, sevalprocAttr, dd_HC, k5, k611, h763, k799, k802, k810, h812]
              subst hK809
              refine eb_seq ?_
              rcases ite_or h with ⟨k813, h⟩ | ⟨k813, h⟩
              · refine rb_true (by first | exact congrArg D.bool k813 | rfl) ?_
                refine rb_seq ?_
                refine rb_regionK fun K815 hK815 => ?_
                simp -implicitDefEqProofs only [vt, vm, ↓atI_fold, forall_const, implies_true, sevalprocAttr, dd_HC, k5, k611, h763, k799, k802, k810, h812, k813]
                subst hK815
                refine eb_seq ?_
                refine rb_ret ?_
                refine eb_blk_r ?_
                refine eb_seq_r ?_
                refine eb_blk_r ?_
                refine eb_seq_r ?_
                obtain rfl := Option.some.inj h
                exact eb_nil ⟨rfl, Wk.of (fun i => some i) _ _ _ (by simp -implicitDefEqProofs [kv, km, dd_HC, k5, k611, k799, k802, k810, k813]) (by simp -implicitDefEqProofs [kv, km, dd_HC, k5, k611, k799, k802, k810, k813])⟩
              · refine rb_false (by first | exact congrArg D.bool k813 | rfl) ?_
                refine rb_seq ?_
                refine rb_regionK fun K817 hK817 => ?_
                simp -implicitDefEqProofs only [vt, vm, ↓atI_fold, forall_const, implies_true, sevalprocAttr, dd_HC, k5, k611, h763, k799, k802, k810, h812, k813]
                subst hK817
                refine eb_seq ?_
                rcases ite_or h with ⟨k818, h⟩ | ⟨k818, h⟩
                · refine rb_true (by first | exact congrArg D.bool k818 | rfl) ?_
                  refine rb_seq ?_
                  refine rb_regionK fun K820 hK820 => ?_
                  simp -implicitDefEqProofs only [vt, vm, ↓atI_fold, forall_const, implies_true, sevalprocAttr, dd_HC, k5, k611, h763, k799, k802, k810, h812, k813, k818]
                  subst hK820
                  refine eb_seq ?_
                  refine rb_ret ?_
                  refine eb_blk_r ?_
                  refine eb_seq_r ?_
                  refine eb_blk_r ?_
                  refine eb_seq_r ?_
                  obtain rfl := Option.some.inj h
                  exact eb_nil ⟨rfl, Wk.of (fun i => some i) _ _ _ (by simp -implicitDefEqProofs [kv, km, dd_HC, k5, k611, k799, k802, k810, k813, k818]) (by simp -implicitDefEqProofs [kv, km, dd_HC, k5, k611, k799, k802, k810, k813, k818])⟩
                · refine rb_false (by first | exact congrArg D.bool k818 | rfl) ?_
                  refine rb_skip ?_
                  refine eb_blk_n ?_
                  refine eb_seq ?_
                  refine rb_seq ?_
                  refine rb_seq ?_
                  refine rb_regionK fun K824 hK824 => ?_
                  simp -implicitDefEqProofs only [vt, vm, ↓atI_fold, forall_const, implies_true, sevalprocAttr, dd_HC, k5, k611, h763, k799, k802, k810, h812, k813, k818]
                  obtain ⟨r825, h826, h⟩ := bind_some h
                  refine cW.intro (a_document_anchored I hI hU8T d_0 y762 events_1 h826) (by first | rfl | (simp [List.map_append, dd_HC]; done)) ?_
                  simp -implicitDefEqProofs only [vt, vm, ↓atI_fold, forall_const, implies_true, sevalprocAttr, dd_HC, k5, k611, h763, k799, k802, k810, h812, k813, k818]
                  subst hK824
                  refine eb_seq ?_
                  refine rb_seq ?_
                  refine rb_regionK fun K828 hK828 => ?_
                  simp -implicitDefEqProofs only [vt, vm, ↓atI_fold, forall_const, implies_true, sevalprocAttr, dd_HC, k5, k611, h763, k799, k802, k810, h812, k813, k818]
                  subst hK828
                  refine eb_seq ?_
                  rcases ite_or h with ⟨k829, h⟩ | ⟨k829, h⟩
                  · refine rb_true (by first | exact congrArg D.bool k829 | rfl) ?_
                    refine rb_seq ?_
                    refine rb_regionK fun K831 hK831 => ?_
                    simp -implicitDefEqProofs only [vt, vm, ↓atI_fold, forall_const, implies_true, sevalprocAttr, dd_HC, k5, k611, h763, k799, k802, k810, h812, k813, k818, k829]
                    subst hK831
                    refine eb_seq ?_
                    refine rb_ret ?_
                    refine eb_seq_r ?_
                    refine eb_blk_r ?_
                    refine eb_seq_r ?_
                    obtain rfl := Option.some.inj h
                    exact eb_nil ⟨rfl, Wk.of (fun i => some i) _ _ _ (by simp -implicitDefEqProofs [kv, km, dd_HC, k5, k611, k799, k802, k810, k813, k818, k829]) (by simp -implicitDefEqProofs [kv, km, dd_HC, k5, k611, k799, k802, k810, k813, k818, k829])⟩
                  · refine rb_false (by first | exact congrArg D.bool k829 | rfl) ?_
                    refine rb_skip ?_
                    refine eb_seq ?_
                    refine rb_block ?_
                    refine rb_seq ?_
                    refine rb_regionK fun K835 hK835 => ?_
                    simp -implicitDefEqProofs only [vt, vm, ↓atI_fold, forall_const, implies_true, sevalprocAttr, dd_HC, k5, k611, h763, k799, k802, k810, h812, k813, k818, k829]
                    obtain ⟨r836, h837, h⟩ := bind_some h
                    refine cW.intro (a_lines_Name I hI y762.Author h837) (by first | rfl | (simp [List.map_append, dd_HC]; done)) ?_
                    simp -implicitDefEqProofs only [vt, vm, ↓atI_fold, forall_const, implies_true, sevalprocAttr, dd_HC, k5, k611, h763, k799, k802, k810, h812, k813, k818, k829]
                    subst hK835
                    refine eb_seq ?_
                    rcases ite_or h with ⟨k838, h⟩ | ⟨k838, h⟩
                    · refine rb_false (by first | exact congrArg D.bool (congrArg Bool.not k838) | rfl) ?_
                      refine rb_seq ?_
                      refine rb_regionK fun K842 hK842 => ?_
                      simp -implicitDefEqProofs only [vt, vm, ↓atI_fold, forall_const, implies_true, sevalprocAttr, dd_HC, k5, k611, h763, k799, k802, k810, h812, k813, k818, k829, k838]
                      obtain ⟨r843, h844, h⟩ := bind_some h
                      refine cW.intro (a_charset_Valid I hI hU8T y762.Text h844) (by first | rfl | (simp [List.map_append, dd_HC]; done)) ?_
                      simp -implicitDefEqProofs only [vt, vm, ↓atI_fold, forall_const, implies_true, sevalprocAttr, dd_HC, k5, k611, h763, k799, k802, k810, h812, k813, k818, k829, k838]
                      subst hK842
                      refine eb_seq ?_
                      rcases ite_or h with ⟨k845, h⟩ | ⟨k845, h⟩
                      · refine rb_false (by first | exact congrArg D.bool (congrArg Bool.not k845) | rfl) ?_
                        refine rb_seq ?_
                        refine rb_regionK fun K847 hK847 => ?_
                        simp -implicitDefEqProofs only [vt, vm, ↓atI_fold, forall_const, implies_true, sevalprocAttr, dd_HC, k5, k611, h763, k799, k802, k810, h812, k813, k818, k829, k838, k845]
                        subst hK847
                        refine eb_seq ?_
                        rcases ite_or h with ⟨k848, h⟩ | ⟨k848, h⟩
                        · refine rb_true (by first | exact congrArg D.bool k848 | rfl) ?_
                          refine rb_seq ?_
                          refine rb_regionK fun K850 hK850 => ?_
                          simp -implicitDefEqProofs only [vt, vm, ↓atI_fold, forall_const, implies_true, sevalprocAttr, dd_HC, k5, k611, h763, k799, k802, k810, h812, k813, k818, k829, k838, k845, k848]
                          subst hK850
                          refine eb_seq ?_
                          refine rb_ret ?_
                          refine eb_blk_r ?_
                          refine eb_blk_r ?_
                          refine eb_seq_r ?_
                          obtain rfl := Option.some.inj h
                          exact eb_nil ⟨rfl, Wk.of (fun i => some i) _ _ _ (by simp -implicitDefEqProofs [kv, km, dd_HC, k5, k611, k799, k802, k810, k813, k818, k829, k838, k845, k848]) (by simp -implicitDefEqProofs [kv, km, dd_HC, k5, k611, k799, k802, k810, k813, k818, k829, k838, k845, k848])⟩
                        · refine rb_false (by first | exact congrArg D.bool k848 | rfl) ?_
                          refine rb_seq ?_
                          refine rb_regionK fun K852 hK852 => ?_
                          simp -implicitDefEqProofs only [vt, vm, ↓atI_fold, forall_const, implies_true, sevalprocAttr, dd_HC, k5, k611, h763, k799, k802, k810, h812, k813, k818, k829, k838, k845, k848]
                          subst hK852
                          refine eb_seq ?_
                          rcases ite_or h with ⟨k853, h⟩ | ⟨k853, h⟩
                          · refine rb_true (by first | exact congrArg D.bool k853 | rfl) ?_
                            refine rb_seq ?_
                            refine rb_regionK fun K855 hK855 => ?_
                            simp -implicitDefEqProofs only [vt, vm, ↓atI_fold, forall_const, implies_true, sevalprocAttr, dd_HC, k5, k611, h763, k799, k802, k810, h812, k813, k818, k829, k838, k845, k848, k853]
                            subst hK855
                            refine eb_seq ?_
                            refine rb_ret ?_
                            refine eb_blk_r ?_
                            refine eb_blk_r ?_
                            refine eb_seq_r ?_
                            obtain rfl := Option.some.inj h
                            exact eb_nil ⟨rfl, Wk.of (fun i => some i) _ _ _ (by simp -implicitDefEqProofs [kv, km, dd_HC, k5, k611, k799, k802, k810, k813, k818, k829, k838, k845, k848, k853]) (by simp -implicitDefEqProofs [kv, km, dd_HC, k5, k611, k799, k802, k810, k813, k818, k829, k838, k845, k848, k853])⟩
                          · refine rb_false (by first | exact congrArg D.bool k853 | rfl) ?_
                            refine rb_skip ?_
                            refine eb_blk_n ?_
                            refine eb_blk_n ?_
                            refine eb_seq ?_
                            refine rb_regionK fun K856 hK856 => ?_
                            simp -implicitDefEqProofs only [vt, vm, ↓atI_fold, forall_const, implies_true, sevalprocAttr, dd_HC, k5, k611, h763, k799, k802, k810, h812, k813, k818, k829, k838, k845, k848, k853]
                            subst hK856
                            obtain rfl := Option.some.inj h
                            exact eb_nil ⟨rfl, Wk.of (fun i => if i = 0 then some 0 else some i) _ _ _ (by simp -implicitDefEqProofs [kv, km, dd_HC, k5, k611, k799, k802, k810, k813, k818, k829, k838, k845, k848, k853]) (by simp -implicitDefEqProofs [kv, km, dd_HC, k5, k611, k799, k802, k810, k813, k818, k829, k838, k845, k848, k853])⟩
                      · refine rb_true (by first | exact congrArg D.bool (congrArg Bool.not k845) | rfl) ?_
                        refine rb_seq ?_
                        refine rb_regionK fun K858 hK858 => ?_
                        simp -implicitDefEqProofs only [vt, vm, ↓atI_fold, forall_const, implies_true, sevalprocAttr, dd_HC, k5, k611, h763, k799, k802, k810, h812, k813, k818, k829, k838, k845]
                        subst hK858
                        refine eb_seq ?_
                        refine rb_ret ?_
                        refine eb_blk_r ?_
                        refine eb_blk_r ?_
                        refine eb_seq_r ?_
                        obtain rfl := Option.some.inj h
                        exact eb_nil ⟨rfl, Wk.of (fun i => some i) _ _ _ (by simp -implicitDefEqProofs [kv, km, dd_HC, k5, k611, k799, k802, k810, k813, k818, k829, k838, k845]) (by simp -implicitDefEqProofs [kv, km, dd_HC, k5, k611, k799, k802, k810, k813, k818, k829, k838, k845])⟩
                    · refine rb_true (by first | exact congrArg D.bool (congrArg Bool.not k838) | rfl) ?_
                      refine rb_seq ?_
                      refine rb_regionK fun K860 hK860 => ?_
                      simp -implicitDefEqProofs only [vt, vm, ↓atI_fold, forall_const, implies_true, sevalprocAttr, dd_HC, k5, k611, h763, k799, k802, k810, h812, k813, k818, k829, k838]
                      subst hK860
                      refine eb_seq ?_
                      refine rb_ret ?_
                      refine eb_blk_r ?_
                      refine eb_blk_r ?_
                      refine eb_seq_r ?_
                      obtain rfl := Option.some.inj h
                      exact eb_nil ⟨rfl, Wk.of (fun i => some i) _ _ _ (by simp -implicitDefEqProofs [kv, km, dd_HC, k5, k611, k799, k802, k810, k813, k818, k829, k838]) (by simp -implicitDefEqProofs [kv, km, dd_HC, k5, k611, k799, k802, k810, k813, k818, k829, k838])⟩
            · simp -implicitDefEqProofs only [vt, vm, ↓atI_fold, forall_const, implies_true, sevalprocAttr, dd_HC, k5, k611, h763, k799, k802, k810]
              subst hK809
              refine eb_seq ?_
              refine rb_false (rfl) ?_
              refine rb_seq ?_
              refine rb_regionK fun K862 hK862 => ?_
              simp -implicitDefEqProofs only [vt, vm, ↓atI_fold, forall_const, implies_true, sevalprocAttr, dd_HC, k5, k611, h763, k799, k802, k810]
              subst hK862
              refine eb_seq ?_
              rcases ite_or h with ⟨k863, h⟩ | ⟨k863, h⟩
              · refine rb_true (by first | exact congrArg D.bool k863 | rfl) ?_
                refine rb_seq ?_
                refine rb_regionK fun K865 hK865 => ?_
                simp -implicitDefEqProofs only [vt, vm, ↓atI_fold, forall_const, implies_true, sevalprocAttr, dd_HC, k5, k611, h763, k799, k802, k810, k863]
                subst hK865
                refine eb_seq ?_
                refine rb_ret ?_
                refine eb_blk_r ?_
                refine eb_seq_r ?_
                refine eb_blk_r ?_
                refine eb_seq_r ?_
                obtain rfl := Option.some.inj h
                exact eb_nil ⟨rfl, Wk.of (fun i => some i) _ _ _ (by simp -implicitDefEqProofs [kv, km, dd_HC, k5, k611, k799, k802, k810, k863]) (by simp -implicitDefEqProofs [kv, km, dd_HC, k5, k611, k799, k802, k810, k863])⟩
              · refine rb_false (by first | exact congrArg D.bool k863 | rfl) ?_
                refine rb_skip ?_
                refine eb_blk_n ?_
                refine eb_seq ?_
                refine rb_seq ?_
                refine rb_seq ?_
                refine rb_regionK fun K869 hK869 => ?_
                simp -implicitDefEqProofs only [vt, vm, ↓atI_fold, forall_const, implies_true, sevalprocAttr, dd_HC, k5, k611, h763, k799, k802, k810, k863]
                obtain ⟨r870, h871, h⟩ := bind_some h
                refine cW.intro (a_document_anchored I hI hU8T d_0 y762 events_1 h871) (by first | rfl | (simp [List.map_append, dd_HC]; done)) ?_
                simp -implicitDefEqProofs only [vt, vm, ↓atI_fold, forall_const, implies_true, sevalprocAttr, dd_HC, k5, k611, h763, k799, k802, k810, k863]
                subst hK869
                refine eb_seq ?_
                refine rb_seq ?_
                refine rb_regionK fun K873 hK873 => ?_
                simp -implicitDefEqProofs only [vt, vm, ↓atI_fold, forall_const, implies_true, sevalprocAttr, dd_HC, k5, k611, h763, k799, k802, k810, k863]
                subst hK873
                refine eb_seq ?_
                rcases ite_or h with ⟨k874, h⟩ | ⟨k874, h⟩
                · refine rb_true (by first | exact congrArg D.bool k874 | rfl) ?_
                  refine rb_seq ?_
                  refine rb_regionK fun K876 hK876 => ?_
                  simp -implicitDefEqProofs only [vt, vm, ↓atI_fold, forall_const, implies_true, sevalprocAttr, dd_HC, k5, k611, h763, k799, k802, k810, k863, k874]
                  subst hK876
                  refine eb_seq ?_
                  refine rb_ret ?_
                  refine eb_seq_r ?_
                  refine eb_blk_r ?_
                  refine eb_seq_r ?_
                  obtain rfl := Option.some.inj h
                  exact eb_nil ⟨rfl, Wk.of (fun i => some i) _ _ _ (by simp -implicitDefEqProofs [kv, km, dd_HC, k5, k611, k799, k802, k810, k863, k874]) (by simp -implicitDefEqProofs [kv, km, dd_HC, k5, k611, k799, k802, k810, k863, k874])⟩
                · refine rb_false (by first | exact congrArg D.bool k874 | rfl) ?_
                  refine rb_skip ?_
                  refine eb_seq ?_
                  refine rb_block ?_
                  refine rb_seq ?_
                  refine rb_regionK fun K880 hK880 => ?_
                  simp -implicitDefEqProofs only [vt, vm, ↓atI_fold, forall_const, implies_true, sevalprocAttr, dd_HC, k5, k611, h763, k799, k802, k810, k863, k874]
                  obtain ⟨r881, h882, h⟩ := bind_some h
                  refine cW.intro (a_lines_Name I hI y762.Author h882) (by first | rfl | (simp [List.map_append, dd_HC]; done)) ?_
                  simp -implicitDefEqProofs only [vt, vm, ↓atI_fold, forall_const, implies_true, sevalprocAttr, dd_HC, k5, k611, h763, k799, k802, k810, k863, k874]
                  subst hK880
                  refine eb_seq ?_
                  rcases ite_or h with ⟨k883, h⟩ | ⟨k883, h⟩
                  · refine rb_false (by first | exact congrArg D.bool (congrArg Bool.not k883) | rfl) ?_
                    refine rb_seq ?_
                    refine rb_regionK fun K887 hK887 => ?_
                    simp -implicitDefEqProofs only [vt, vm, ↓atI_fold, forall_const, implies_true, sevalprocAttr, dd_HC, k5, k611, h763, k799, k802, k810, k863, k874, k883]
                    obtain ⟨r888, h889, h⟩ := bind_some h
                    refine cW.intro (a_charset_Valid I hI hU8T y762.Text h889) (by first | rfl | (simp [List.map_append, dd_HC]; done)) ?_
                    simp -implicitDefEqProofs only [vt, vm, ↓atI_fold, forall_const, implies_true, sevalprocAttr, dd_HC, k5, k611, h763, k799, k802, k810, k863, k874, k883]
                    subst hK887
                    refine eb_seq ?_
                    rcases ite_or h with ⟨k890, h⟩ | ⟨k890, h⟩
                    · refine rb_false (by first | exact congrArg D.bool (congrArg Bool.not k890) | rfl) ?_
                      refine rb_seq ?_
                      refine rb_regionK fun K892 hK892 => ?_
                      simp -implicitDefEqProofs only [vt, vm, ↓atI_fold, forall_const, implies_true, sevalprocAttr, dd_HC, k5, k611, h763, k799, k802, k810, k863, k874, k883, k890]
                      subst hK892
                      refine eb_seq ?_
                      rcases ite_or h with ⟨k893, h⟩ | ⟨k893, h⟩
                      · refine rb_true (by first | exact congrArg D.bool k893 | rfl) ?_
                        refine rb_seq ?_
                        refine rb_regionK fun K895 hK895 => ?_
                        simp -implicitDefEqProofs only [vt, vm, ↓atI_fold, forall_const, implies_true, sevalprocAttr, dd_HC, k5, k611, h763, k799, k802, k810, k863, k874, k883, k890, k893]
                        subst hK895
                        refine eb_seq ?_
                        refine rb_ret ?_
                        refine eb_blk_r ?_
                        refine eb_blk_r ?_
                        refine eb_seq_r ?_
                        obtain rfl := Option.some.inj h
                        exact eb_nil ⟨rfl, Wk.of (fun i => some i) _ _ _ (by simp -implicitDefEqProofs [kv, km, dd_HC, k5, k611, k799, k802, k810, k863, k874, k883, k890, k893]) (by simp -implicitDefEqProofs [kv, km, dd_HC, k5, k611, k799, k802, k810, k863, k874, k883, k890, k893])⟩
                      · refine rb_false (by first | exact congrArg D.bool k893 | rfl) ?_
                        refine rb_seq ?_
                        refine rb_regionK fun K897 hK897 => ?_
                        simp -implicitDefEqProofs only [vt, vm, ↓atI_fold, forall_const, implies_true, sevalprocAttr, dd_HC, k5, k611, h763, k799, k802, k810, k863, k874, k883, k890, k893]
                        subst hK897
                        refine eb_seq ?_
                        rcases ite_or h with ⟨k898, h⟩ | ⟨k898, h⟩
                        · refine rb_true (by first | exact congrArg D.bool k898 | rfl) ?_
                          refine rb_seq ?_
                          refine rb_regionK fun K900 hK900 => ?_
                          simp -implicitDefEqProofs only [vt, vm, ↓atI_fold, forall_const, implies_true, sevalprocAttr, dd_HC, k5, k611, h763, k799, k802, k810, k863, k874, k883, k890, k893, k898]
                          subst hK900
                          refine eb_seq ?_
                          refine rb_ret ?_
                          refine eb_blk_r ?_
                          refine eb_blk_r ?_
                          refine eb_seq_r ?_
                          obtain rfl := Option.some.inj h
                          exact eb_nil ⟨rfl, Wk.of (fun i => some i) _ _ _ (by simp -implicitDefEqProofs [kv, km, dd_HC, k5, k611, k799, k802, k810, k863, k874, k883, k890, k893, k898]) (by simp -implicitDefEqProofs [kv, km, dd_HC, k5, k611, k799, k802, k810, k863, k874, k883, k890, k893, k898])⟩
                        · refine rb_false (by first | exact congrArg D.bool k898 | rfl) ?_
                          refine rb_skip ?_
                          refine eb_blk_n ?_
                          refine eb_blk_n ?_
                          refine eb_seq ?_
                          refine rb_regionK fun K901 hK901 => ?_
                          simp -implicitDefEqProofs only [vt, vm, ↓atI_fold, forall_const, implies_true, sevalprocAttr, dd_HC, k5, k611, h763, k799, k802, k810, k863, k874, k883, k890, k893, k898]
                          subst hK901
                          obtain rfl := Option.some.inj h
                          exact eb_nil ⟨rfl, Wk.of (fun i => if i = 0 then some 0 else some i) _ _ _ (by simp -implicitDefEqProofs [kv, km, dd_HC, k5, k611, k799, k802, k810, k863, k874, k883, k890, k893, k898]) (by simp -implicitDefEqProofs [kv, km, dd_HC, k5, k611, k799, k802, k810, k863, k874, k883, k890, k893, k898])⟩
                    · refine rb_true (by first | exact congrArg D.bool (congrArg Bool.not k890) | rfl) ?_
                      refine rb_seq ?_
                      refine rb_regionK fun K903 hK903 => ?_
                      simp -implicitDefEqProofs only [vt, vm, ↓atI_fold, forall_const, implies_true, sevalprocAttr, dd_HC, k5, k611, h763, k799, k802, k810, k863, k874, k883, k890]
                      subst hK903
                      refine eb_seq ?_
                      refine rb_ret ?_
                      refine eb_blk_r ?_
                      refine eb_blk_r ?_
                      refine eb_seq_r ?_
                      obtain rfl := Option.some.inj h
                      exact eb_nil ⟨rfl, Wk.of (fun i => some i) _ _ _ (by simp -implicitDefEqProofs [kv, km, dd_HC, k5, k611, k799, k802, k810, k863, k874, k883, k890]) (by simp -implicitDefEqProofs [kv, km, dd_HC, k5, k611, k799, k802, k810, k863, k874, k883, k890])⟩
                  · refine rb_true (by first | exact congrArg D.bool (congrArg Bool.not k883) | rfl) ?_
                    refine rb_seq ?_
                    refine rb_regionK fun K905 hK905 => ?_
                    simp -implicitDefEqProofs only [vt, vm, ↓atI_fold, forall_const, implies_true, sevalprocAttr, dd_HC, k5, k611, h763, k799, k802, k810, k863, k874, k883]
                    subst hK905
                    refine eb_seq ?_
                    refine rb_ret ?_
                    refine eb_blk_r ?_
                    refine eb_blk_r ?_
                    refine eb_seq_r ?_
                    obtain rfl := Option.some.inj h
                    exact eb_nil ⟨rfl, Wk.of (fun i => some i) _ _ _ (by simp -implicitDefEqProofs [kv, km, dd_HC, k5, k611, k799, k802, k810, k863, k874, k883]) (by simp -implicitDefEqProofs [kv, km, dd_HC, k5, k611, k799, k802, k810, k863, k874, k883])⟩
      · refine rb_false (by first | exact congrArg D.bool k611 | rfl) ?_
        refine rb_exit ?_
        refine eb_seq_e ?_
        obtain rfl := Option.some.inj h
        exact eb_nil ⟨rfl, Wk.of (fun i => some i) _ _ _ (by simp -implicitDefEqProofs [kv, km, dd_HC, k5, k611]) (by simp -implicitDefEqProofs [kv, km, dd_HC, k5, k611])⟩
    · rcases e11 with e11 | e11
      · try dsimp only at h ⊢
        refine eb_blk_r ?_
        refine eb_seq_r ?_
        obtain rfl := Option.some.inj h
        refine eb_nil ?_
        simp -implicitDefEqProofs only [vt, vm, ↓atI_fold, forall_const, implies_true, sevalprocAttr, retQ_r, Tryd.results82, dd_HC, k5] <;> first | rfl | (simp [List.map_append, dd_HC]; done)
      · try dsimp only at h ⊢
        refine eb_blk_hit ?_
        refine eb_seq ?_
        refine rb_seq ?_
        refine rb_regionK fun K908 hK908 => ?_
        simp -implicitDefEqProofs only [vt, vm, ↓atI_fold, forall_const, implies_true, sevalprocAttr, dd_HC, k5]
        subst hK908
        refine eb_seq ?_
        refine rb_ret ?_
        obtain rfl := Option.some.inj h
        refine eb_nil ?_
        simp -implicitDefEqProofs only [vt, vm, ↓atI_fold, forall_const, implies_true, sevalprocAttr, retQ_r, Tryd.results82, dd_HC, k5] <;> first | rfl | (simp [List.map_append, dd_HC]; done)
-- document.Check
def g_document_Check_s1 (d_0 : T_api_Document) (x34 : Int × (List Int) × (List Int)) : Option (Nx (Int × (List Int) × (List Int)) (Int ⊕ ((List Int) × (List Int)))) :=
  (if (decide (x34.1 < (d_0.Events.length : Int))) then ((atI d_0.Events x34.1).bind fun y453 => ((g_event_Check y453 d_0.Regions).bind fun r459 => (if (r459 != 0) then (some (.out (.inl r459))) else (((if (decide (d_0.Last < y453.ID)) then (some (.out 2)) else (if (decide (0 < x34.1)) then ((atI d_0.Events (IntKind.i64.wrap (x34.1 - 1))).bind fun y512 => ((g_event_Less y512 y453).bind fun r514 => (if r514 then (if (x34.2.1.contains y453.ID) then (some (.out 7)) else (some (.go ()))) else (some (.out 8))))) else (if (x34.2.1.contains y453.ID) then (some (.out 7)) else (some (.go ()))))) : Option (Nx (Unit) (Int))).bind fun w530 => match w530 with | .go v498 => (some (.go ((IntKind.i64.wrap (x34.1 + 1)), (putK x34.2.1 y453.ID), (putV x34.2.1 x34.2.2 y453.ID x34.1)))) | .out e531 => (some (.out (.inl e531))))))) else (some (.out (.inr (x34.2.1, x34.2.2)))))
def g_document_Check (d_0 : T_api_Document) : Option (Int) :=
  ((g_document_header d_0).bind fun r7 => (if (r7 != 0) then (some r7) else ((g_region_CheckList d_0.Regions).bind fun r18 => (if (r18 != 0) then (some r18) else (if (decide (400 < (d_0.Events.length : Int))) then (some 9) else ((iter (g_document_Check_s1 d_0) (0, ([] : List Int), ([] : List Int))).bind fun e35 => (match e35 with | Sum.inl e35 => (some e35) | Sum.inr (e35) => ((g_document_comments d_0 (MI.mk e35.1 e35.2)).bind fun r539 => (some r539)))))))))
theorem a_document_Check (I : World → Prop) (hI : Stab I) (hShp : ∀ w, I w → Shp w) (hU8T : ∀ w, I w → U8T w) (d_0 : T_api_Document) {r : Int} (h : g_document_Check d_0 = some r) : AFun Tryd.prog I 45 [T_api_Document.d d_0] (.int .i64 r) := by
  refine AFun.enterB hI Tryd.func45 rfl (by decide) (by simp [Tryd.f45]) (by kernel_rfl) ?_
  unfold g_document_Check at h
  simp only [S0, Tryd.ntmps45, dd_HC]
  refine rb_seq ?_
  refine rb_regionK fun K2 hK2 => ?_
  simp -implicitDefEqProofs only [vt, vm, ↓atI_fold, forall_const, implies_true, sevalprocAttr, dd_HC]
  subst hK2
  refine eb_seq ?_
  refine rb_seq ?_
  refine rb_seq ?_
  refine rb_regionK fun K6 hK6 => ?_
  simp -implicitDefEqProofs only [vt, vm, ↓atI_fold, forall_const, implies_true, sevalprocAttr, dd_HC]
  obtain ⟨r7, h8, h⟩ := bind_some h
  refine cW.intro (a_document_header I hI hU8T d_0 h8) (by first | rfl | (simp [List.map_append, dd_HC]; done)) ?_
  simp -implicitDefEqProofs only [vt, vm, ↓atI_fold, forall_const, implies_true, sevalprocAttr, dd_HC]
  subst hK6
  refine eb_seq ?_
  refine rb_seq ?_
  refine rb_regionK fun K10 hK10 => ?_
  simp -implicitDefEqProofs only [vt, vm, ↓atI_fold, forall_const, implies_true, sevalprocAttr, dd_HC]
  subst hK10
  refine eb_seq ?_
  rcases ite_or h with ⟨k11, h⟩ | ⟨k11, h⟩
  · refine rb_true (by first | exact congrArg D.bool k11 | rfl) ?_
    refine rb_seq ?_
    refine rb_regionK fun K13 hK13 => ?_
    simp -implicitDefEqProofs only [vt, vm, ↓atI_fold, forall_const, implies_true, sevalprocAttr, dd_HC, k11]
    subst hK13
    refine eb_seq ?_
    refine rb_ret ?_
    refine eb_seq_r ?_
    obtain rfl := Option.some.inj h
    refine eb_nil ?_
    simp -implicitDefEqProofs only [vt, vm, ↓atI_fold, forall_const, implies_true, sevalprocAttr, retQ_r, Tryd.results45, dd_HC, k11] <;> first | rfl | (simp [List.map_append, dd_HC]; done)
  · refine rb_false (by first | exact congrArg D.bool k11 | rfl) ?_
    refine rb_skip ?_
    refine eb_seq ?_
    refine rb_seq ?_
    refine rb_seq ?_
    refine rb_regionK fun K17 hK17 => ?_
    simp -implicitDefEqProofs only [vt, vm, ↓atI_fold, forall_const, implies_true, sevalprocAttr, dd_HC, k11]
    obtain ⟨r18, h19, h⟩ := bind_some h
    refine cW.intro (a_region_CheckList I hI d_0.Regions h19) (by first | rfl | (simp [List.map_append, dd_HC]; done)) ?_
    simp -implicitDefEqProofs only [vt, vm, ↓atI_fold, forall_const, implies_true, sevalprocAttr, dd_HC, k11]
    subst hK17
    refine eb_seq ?_
    refine rb_seq ?_
    refine rb_regionK fun K21 hK21 => ?_
    simp -implicitDefEqProofs only [vt, vm, ↓atI_fold, forall_const, implies_true, sevalprocAttr, dd_HC, k11]
    subst hK21
    refine eb_seq ?_
    rcases ite_or h with ⟨k22, h⟩ | ⟨k22, h⟩
    · refine rb_true (by first | exact congrArg D.bool k22 | rfl) ?_
      refine rb_seq ?_
      refine rb_regionK fun K24 hK24 => ?_
      simp -implicitDefEqProofs only [vt, vm, ↓atI_fold, forall_const, implies_true, sevalprocAttr, dd_HC, k11, k22]
      subst hK24
      refine eb_seq ?_
      refine rb_ret ?_
      refine eb_seq_r ?_
      obtain rfl := Option.some.inj h
      refine eb_nil ?_
      simp -implicitDefEqProofs only [vt, vm, ↓atI_fold, forall_const, implies_true, sevalprocAttr, retQ_r, Tryd.results45, dd_HC, k11, k22] <;> first | rfl | (simp [List.map_append, dd_HC]; done)
    · refine rb_false (by first | exact congrArg D.bool k22 | rfl) ?_
      refine rb_skip ?_
      refine eb_seq ?_
      refine rb_seq ?_
      refine rb_seq ?_
      refine rb_regionK fun K26 hK26 => ?_
      simp -implicitDefEqProofs only [vt, vm, ↓atI_fold, forall_const, implies_true, sevalprocAttr, dd_HC, k11, k22]
      subst hK26
      refine eb_seq ?_
      rcases ite_or h with ⟨k27, h⟩ | ⟨k27, h⟩
      · refine rb_true (by first | exact congrArg D.bool k27 | rfl) ?_
        refine rb_seq ?_
        refine rb_regionK fun K29 hK29 => ?_
        simp -implicitDefEqProofs only [vt, vm, ↓atI_fold, forall_const, implies_true, sevalprocAttr, dd_HC, k11, k22, k27]
        subst hK29
        refine eb_seq ?_
        refine rb_ret ?_
        refine eb_seq_r ?_
        obtain rfl := Option.some.inj h
        refine eb_nil ?_
        simp -implicitDefEqProofs only [vt, vm, ↓atI_fold, forall_const, implies_true, sevalprocAttr, retQ_r, Tryd.results45, dd_HC, k11, k22, k27] <;> first | rfl | (simp [List.map_append, dd_HC]; done)
      · refine rb_false (by first | exact congrArg D.bool k27 | rfl) ?_
        refine rb_skip ?_
        refine eb_seq ?_
        refine rb_seq ?_
        refine rb_regionK fun K31 hK31 => ?_
        simp -implicitDefEqProofs only [vt, vm, ↓atI_fold, forall_const, implies_true, sevalprocAttr, dd_HC, k11, k22, k27]
        subst hK31
        refine eb_seq ?_
        refine rb_seq ?_
        refine rb_seq ?_
        refine rb_regionK fun K33 hK33 => ?_
        simp -implicitDefEqProofs only [vt, vm, ↓atI_fold, forall_const, implies_true, sevalprocAttr, dd_HC, k11, k22, k27]
        subst hK33
        refine eb_seq ?_
        refine rb_block ?_
        obtain ⟨e35, h534, h⟩ := bind_some h
        refine rb_loop (fun x34 => ⟨envL [(1, .ptr 0 0), (5, .omp 1), (28, .sl (d_0.Events.map T_api_Event.d)), (29, .int .i64 (d_0.Events.length : Int)), (30, .int .i64 x34.1)], heapL [(0, .box none [.str d_0.Title, .str d_0.Lang, .int .u8 d_0.Rate, .bool d_0.Drop, .int .i64 d_0.Last, .sl (d_0.Regions.map T_api_Region.d), .sl (d_0.Events.map T_api_Event.d), .sl (d_0.Comments.map T_api_Comment.d)]), (1, .mp .i64 x34.2.1 (x34.2.2.map (D.int .i64)) false)], 2, 79⟩) (fun w => match w with | Sum.inl _ => .ret | Sum.inr (_) => .exit 0) (fun w => match w with | Sum.inl e35 => ⟨envL [(2, .int .i64 e35)], heapL [], 0, 79⟩ | Sum.inr (e35) => ⟨envL [(1, .ptr 0 0), (5, .omp 1)], heapL [(0, .box none [.str d_0.Title, .str d_0.Lang, .int .u8 d_0.Rate, .bool d_0.Drop, .int .i64 d_0.Last, .sl (d_0.Regions.map T_api_Region.d), .sl (d_0.Events.map T_api_Event.d), .sl (d_0.Comments.map T_api_Comment.d)]), (1, .mp .i64 e35.1 (e35.2.map (D.int .i64)) false)], 2, 79⟩) h534 (Wk.of (fun i => if i = 1 then some 17 else if i = 0 then some 0 else some i) _ _ _ (by simp -implicitDefEqProofs [kv, km, dd_HC, k11, k22, k27]) (by simp -implicitDefEqProofs [kv, km, dd_HC, k11, k22, k27])) (by intro w; rcases w with w | w <;> simp) ?_ ?_
        · clear h
          intro x34 y h
          unfold g_document_Check_s1 at h
          refine rb_seq ?_
          refine rb_regionK fun K369 hK369 => ?_
          simp -implicitDefEqProofs only [vt, vm, ↓atI_fold, forall_const, implies_true, sevalprocAttr, dd_HC, k11, k22, k27]
          subst hK369
          refine eb_seq ?_
          refine rb_seq ?_
          rcases ite_or h with ⟨k371, h⟩ | ⟨k371, h⟩
          · refine rb_true (by first | exact congrArg D.bool k371 | rfl) ?_
            refine rb_skip ?_
            refine eb_seq ?_
            refine rb_seq ?_
            refine rb_block ?_
            refine rb_seq ?_
            refine rb_regionK fun K452 hK452 => ?_
            simp -implicitDefEqProofs only [vt, vm, ↓atI_fold, forall_const, implies_true, sevalprocAttr, dd_HC, k11, k22, k27, k371]
            obtain ⟨y453, h454, h⟩ := bind_some h
            simp -implicitDefEqProofs only [vt, vm, ↓atI_fold, forall_const, implies_true, sevalprocAttr, dd_HC, k11, k22, k27, k371, h454]
            subst hK452
            refine eb_seq ?_
            refine rb_seq ?_
            refine rb_seq ?_
            refine rb_regionK fun K458 hK458 => ?_
            simp -implicitDefEqProofs only [vt, vm, ↓atI_fold, forall_const, implies_true, sevalprocAttr, dd_HC, k11, k22, k27, k371, h454]
            obtain ⟨r459, h460, h⟩ := bind_some h
            refine cW.intro (a_event_Check I hI hShp hU8T y453 d_0.Regions h460) (by first | rfl | (simp [List.map_append, dd_HC]; done)) ?_
            simp -implicitDefEqProofs only [vt, vm, ↓atI_fold, forall_const, implies_true, sevalprocAttr, dd_HC, k11, k22, k27, k371, h454]
            subst hK458
            refine eb_seq ?_
            refine rb_seq ?_
            refine rb_regionK fun K462 hK462 => ?_
            simp -implicitDefEqProofs only [vt, vm, ↓atI_fold, forall_const, implies_true, sevalprocAttr, dd_HC, k11, k22, k27, k371, h454]
            subst hK462
            refine eb_seq ?_
            rcases ite_or h with ⟨k463, h⟩ | ⟨k463, h⟩
            · refine rb_true (by first | exact congrArg D.bool k463 | rfl) ?_
              refine rb_seq ?_
              refine rb_regionK fun K465 hK465 => ?_
              simp -implicitDefEqProofs only [vt, vm, ↓atI_fold, forall_const, implies_true, sevalprocAttr, dd_HC, k11, k22, k27, k371, h454, k463]
              subst hK465
              refine eb_seq ?_
              refine rb_ret ?_
              refine eb_seq_r ?_
              refine eb_blk_r ?_
              refine eb_seq_r ?_
              obtain rfl := Option.some.inj h
              exact eb_nil ⟨rfl, Wk.of (fun i => some i) _ _ _ (by simp -implicitDefEqProofs [kv, km, dd_HC, k11, k22, k27, k371, k463]) (by simp -implicitDefEqProofs [kv, km, dd_HC, k11, k22, k27, k371, k463])⟩
            · refine rb_false (by first | exact congrArg D.bool k463 | rfl) ?_
              refine rb_skip ?_
              refine eb_seq ?_
              refine rb_seq ?_
              refine rb_regionK fun K467 hK467 => ?_
              simp -implicitDefEqProofs only [vt, vm, ↓atI_fold, forall_const, implies_true, sevalprocAttr, dd_HC, k11, k22, k27, k371, h454, k463]
              subst hK467
              refine eb_seq ?_
              obtain ⟨w530, h529, h⟩ := bind_some h
              refine rb_seg (fun v498 => ⟨envL [(1, .ptr 0 0), (5, .omp 1), (6, .int .i64 x34.1), (7, .ptr 2 0), (28, .sl (d_0.Events.map T_api_Event.d)), (29, .int .i64 (d_0.Events.length : Int)), (30, .int .i64 x34.1)], heapL [(0, .box none [.str d_0.Title, .str d_0.Lang, .int .u8 d_0.Rate, .bool d_0.Drop, .int .i64 d_0.Last, .sl (d_0.Regions.map T_api_Region.d), .sl (d_0.Events.map T_api_Event.d), .sl (d_0.Comments.map T_api_Comment.d)]), (1, .mp .i64 x34.2.1 (x34.2.2.map (D.int .i64)) false), (2, .box none [.int .i64 y453.ID, .int .i64 y453.Span.In, .int .i64 y453.Span.Out, .str y453.Region, .int .u8 y453.Kind, .str y453.Speaker, .sl (y453.Rows.map T_api_Row.d)])], 3, 79⟩) (fun _ => .ret) (fun e531 => ⟨envL [(2, .int .i64 e531)], heapL [], 0, 79⟩) h529 (by intro w; simp) ?_ ?_ ?_
              · clear h
                intro w530 h
                refine rb_block ?_
                refine rb_seq ?_
                refine rb_regionK fun K500 hK500 => ?_
                simp -implicitDefEqProofs only [vt, vm, ↓atI_fold, forall_const, implies_true, sevalprocAttr, dd_HC, k11, k22, k27, k371, h454, k463]
                subst hK500
                refine eb_seq ?_
                rcases ite_or h with ⟨k501, h⟩ | ⟨k501, h⟩
                · refine rb_true (by first | exact congrArg D.bool k501 | rfl) ?_
                  refine rb_seq ?_
                  refine rb_regionK fun K503 hK503 => ?_
                  simp -implicitDefEqProofs only [vt, vm, ↓atI_fold, forall_const, implies_true, sevalprocAttr, dd_HC, k11, k22, k27, k371, h454, k463, k501]
                  subst hK503
                  refine eb_seq ?_
                  refine rb_ret ?_
                  refine eb_blk_r ?_
                  obtain rfl := Option.some.inj h
                  exact eb_nil ⟨rfl, Wk.of (fun i => some i) _ _ _ (by simp -implicitDefEqProofs [kv, km, dd_HC, k11, k22, k27, k371, k463, k501]) (by simp -implicitDefEqProofs [kv, km, dd_HC, k11, k22, k27, k371, k463, k501])⟩
                · refine rb_false (by first | exact congrArg D.bool k501 | rfl) ?_
                  refine rb_seq ?_
                  refine rb_drawK hI (by kernel_rfl) (by kernel_rfl) fun K510 hK510 => ?_
                  simp -implicitDefEqProofs only [vt, vm, ↓atI_fold, forall_const, implies_true, sevalprocAttr, dd_HC, k11, k22, k27, k371, h454, k463, k501]
                  rcases ite_or h with ⟨k511, h⟩ | ⟨k511, h⟩
                  · simp -implicitDefEqProofs only [vt, vm, ↓atI_fold, forall_const, implies_true, sevalprocAttr, dd_HC, k11, k22, k27, k371, h454, k463, k501, k511]
                    obtain ⟨y512, h513, h⟩ := bind_some h
                    simp -implicitDefEqProofs only [vt, vm, ↓atI_fold, forall_const, implies_true, sevalprocAttr, dd_HC, k11, k22, k27, k371, h454, k463, k501, k511, h513]
                    obtain ⟨r514, h515, h⟩ := bind_some h
                    refine cD'.intro (a_event_Less I hI y512 y453 h515) (by first | rfl | (simp [List.map_append, dd_HC]; done)) (by kernel_rfl) ?_
                    simp -implicitDefEqProofs only [vt, vm, ↓atI_fold, forall_const, implies_true, sevalprocAttr, dd_HC, k11, k22, k27, k371, h454, k463, k501, k511, h513]
                    subst hK510
                    refine eb_seq ?_
                    rcases ite_or h with ⟨k516, h⟩ | ⟨k516, h⟩
                    · refine rb_false (by first | exact congrArg D.bool (congrArg Bool.not k516) | rfl) ?_
                      refine rb_seq ?_
                      refine rb_regionK fun K518 hK518 => ?_
                      simp -implicitDefEqProofs only [vt, vm, ↓atI_fold, forall_const, implies_true, sevalprocAttr, dd_HC, k11, k22, k27, k371, h454, k463, k501, k511, h513, k516]
                      subst hK518
                      refine eb_seq ?_
                      rcases ite_or h with ⟨k519, h⟩ | ⟨k519, h⟩
                      · refine rb_true (by first | exact congrArg D.bool k519 | rfl) ?_
                        refine rb_seq ?_
                        refine rb_regionK fun K521 hK521 => ?_
                        simp -implicitDefEqProofs only [vt, vm, ↓atI_fold, forall_const, implies_true, sevalprocAttr, dd_HC, k11, k22, k27, k371, h454, k463, k501, k511, h513, k516, k519]
                        subst hK521
                        refine eb_seq ?_
                        refine rb_ret ?_
                        refine eb_blk_r ?_
                        obtain rfl := Option.some.inj h
                        exact eb_nil ⟨rfl, Wk.of (fun i => some i) _ _ _ (by simp -implicitDefEqProofs [kv, km, dd_HC, k11, k22, k27, k371, k463, k501, k511, k516, k519]) (by simp -implicitDefEqProofs [kv, km, dd_HC, k11, k22, k27, k371, k463, k501, k511, k516, k519])⟩
                      · refine rb_false (by first | exact congrArg D.bool k519 | rfl) ?_
                        refine rb_skip ?_
                        refine eb_blk_n ?_
                        obtain rfl := Option.some.inj h
                        exact eb_nil ⟨rfl, Wk.of (fun i => if i = 2 then some 6 else if i = 1 then some 1 else if i = 0 then some 0 else some i) _ _ _ (by simp -implicitDefEqProofs [kv, km, dd_HC, k11, k22, k27, k371, k463, k501, k511, k516, k519]) (by simp -implicitDefEqProofs [kv, km, dd_HC, k11, k22, k27, k371, k463, k501, k511, k516, k519])⟩
                    · refine rb_true (by first | exact congrArg D.bool (congrArg Bool.not k516) | rfl) ?_
                      refine rb_seq ?_
                      refine rb_regionK fun K523 hK523 => ?_
                      simp -implicitDefEqProofs only [vt, vm, ↓atI_fold, forall_const, implies_true, sevalprocAttr, dd_HC, k11, k22, k27, k371, h454, k463, k501, k511, h513, k516]
                      subst hK523
                      refine eb_seq ?_
                      refine rb_ret ?_
                      refine eb_blk_r ?_
                      obtain rfl := Option.some.inj h
                      exact eb_nil ⟨rfl, Wk.of (fun i => some i) _ _ _ (by simp -implicitDefEqProofs [kv, km, dd_HC, k11, k22, k27, k371, k463, k501, k511, k516]) (by simp -implicitDefEqProofs [kv, km, dd_HC, k11, k22, k27, k371, k463, k501, k511, k516])⟩
                  · simp -implicitDefEqProofs only [vt, vm, ↓atI_fold, forall_const, implies_true, sevalprocAttr, dd_HC, k11, k22, k27, k371, h454, k463, k501, k511]
                    subst hK510
                    refine eb_seq ?_
                    refine rb_false (rfl) ?_
                    refine rb_seq ?_
                    refine rb_regionK fun K525 hK525 => ?_
                    simp -implicitDefEqProofs only [vt, vm, ↓atI_fold, forall_const, implies_true, sevalprocAttr, dd_HC, k11, k22, k27, k371, h454, k463, k501, k511]
                    subst hK525
                    refine eb_seq ?_
                    rcases ite_or h with ⟨k526, h⟩ | ⟨k526, h⟩
                    · refine rb_true (by first | exact congrArg D.bool k526 | rfl) ?_
                      refine rb_seq ?_
                      refine rb_regionK fun K528 hK528 => ?_
                      simp -implicitDefEqProofs only [vt, vm, ↓atI_fold, forall_const, implies_true, sevalprocAttr, dd_HC, k11, k22, k27, k371, h454, k463, k501, k511, k526]
                      subst hK528
                      refine eb_seq ?_
                      refine rb_ret ?_
                      refine eb_blk_r ?_
                      obtain rfl := Option.some.inj h
                      exact eb_nil ⟨rfl, Wk.of (fun i => some i) _ _ _ (by simp -implicitDefEqProofs [kv, km, dd_HC, k11, k22, k27, k371, k463, k501, k511, k526]) (by simp -implicitDefEqProofs [kv, km, dd_HC, k11, k22, k27, k371, k463, k501, k511, k526])⟩
                    · refine rb_false (by first | exact congrArg D.bool k526 | rfl) ?_
                      refine rb_skip ?_
                      refine eb_blk_n ?_
                      obtain rfl := Option.some.inj h
                      exact eb_nil ⟨rfl, Wk.of (fun i => if i = 2 then some 6 else if i = 1 then some 1 else if i = 0 then some 0 else some i) _ _ _ (by simp -implicitDefEqProofs [kv, km, dd_HC, k11, k22, k27, k371, k463, k501, k511, k526]) (by simp -implicitDefEqProofs [kv, km, dd_HC, k11, k22, k27, k371, k463, k501, k511, k526])⟩
              · rintro v498 rfl
                dsimp only at h
                refine rb_regionK fun K532 hK532 => ?_
                simp -implicitDefEqProofs only [vt, vm, ↓atI_fold, forall_const, implies_true, sevalprocAttr, dd_HC, k11, k22, k27, k371, h454, k463]
                subst hK532
                refine eb_blk_n ?_
                refine eb_seq ?_
                refine rb_regionK fun K533 hK533 => ?_
                simp -implicitDefEqProofs only [vt, vm, ↓atI_fold, forall_const, implies_true, sevalprocAttr, dd_HC, k11, k22, k27, k371, h454, k463]
                subst hK533
                obtain rfl := Option.some.inj h
                exact eb_nil ⟨rfl, Wk.of (fun i => if i = 1 then some 1 else if i = 0 then some 0 else some i) _ _ _ (by simp -implicitDefEqProofs [kv, km, dd_HC, k11, k22, k27, k371, k463]) (by simp -implicitDefEqProofs [kv, km, dd_HC, k11, k22, k27, k371, k463])⟩
              · rintro e531 rfl
                dsimp only at h
                refine eb_blk_r ?_
                refine eb_seq_r ?_
                obtain rfl := Option.some.inj h
                exact eb_nil ⟨rfl, Wk.of (fun i => some i) _ _ _ (by simp -implicitDefEqProofs [kv, km, dd_HC, k11, k22, k27, k371, k463]) (by simp -implicitDefEqProofs [kv, km, dd_HC, k11, k22, k27, k371, k463])⟩
          · refine rb_false (by first | exact congrArg D.bool k371 | rfl) ?_
            refine rb_exit ?_
            refine eb_seq_e ?_
            obtain rfl := Option.some.inj h
            exact eb_nil ⟨rfl, Wk.of (fun i => if i = 1 then some 1 else if i = 0 then some 0 else some i) _ _ _ (by simp -implicitDefEqProofs [kv, km, dd_HC, k11, k22, k27, k371]) (by simp -implicitDefEqProofs [kv, km, dd_HC, k11, k22, k27, k371])⟩
        · rcases e35 with e35 | e35
          · try dsimp only at h ⊢
            refine eb_blk_r ?_
            refine eb_seq_r ?_
            obtain rfl := Option.some.inj h
            refine eb_nil ?_
            simp -implicitDefEqProofs only [vt, vm, ↓atI_fold, forall_const, implies_true, sevalprocAttr, retQ_r, Tryd.results45, dd_HC, k11, k22, k27] <;> first | rfl | (simp [List.map_append, dd_HC]; done)
          · try dsimp only at h ⊢
            refine eb_blk_hit ?_
            refine eb_seq ?_
            refine rb_seq ?_
            refine rb_regionK fun K538 hK538 => ?_
            simp -implicitDefEqProofs only [vt, vm, ↓atI_fold, forall_const, implies_true, sevalprocAttr, dd_HC, k11, k22, k27]
            obtain ⟨r539, h540, h⟩ := bind_some h
            refine cW.intro (a_document_comments I hI hU8T d_0 (MI.mk e35.1 e35.2) h540) (by first | rfl | (simp [List.map_append, dd_HC]; done)) ?_
            simp -implicitDefEqProofs only [vt, vm, ↓atI_fold, forall_const, implies_true, sevalprocAttr, dd_HC, k11, k22, k27]
            subst hK538
            refine eb_seq ?_
            refine rb_ret ?_
            obtain rfl := Option.some.inj h
            refine eb_nil ?_
            simp -implicitDefEqProofs only [vt, vm, ↓atI_fold, forall_const, implies_true, sevalprocAttr, retQ_r, Tryd.results45, dd_HC, k11, k22, k27] <;> first | rfl | (simp [List.map_append, dd_HC]; done)
-- reading.counts
def g_reading_counts_s2 (forbidden_1 : List UInt8) (r251 : (List UInt8)) (x253 : Int × Int × Nat) : Option (Nx (Int × Int × Nat) (Int × Int)) :=
  (if (decide (x253.2.2 < r251.length)) then (if ((runeAt r251 x253.2.2) != 32) then ((g_strings_ContainsRune forbidden_1 (runeAt r251 x253.2.2)).bind fun r295 => (if r295 then (some (.go ((IntKind.i64.wrap (x253.1 + 1)), (IntKind.i64.wrap (x253.2.1 + 1)), (x253.2.2 + widthAt r251 x253.2.2)))) else (some (.go ((IntKind.i64.wrap (x253.1 + 1)), x253.2.1, (x253.2.2 + widthAt r251 x253.2.2)))))) else ((g_strings_ContainsRune forbidden_1 (runeAt r251 x253.2.2)).bind fun r303 => (if r303 then (some (.go (x253.1, (IntKind.i64.wrap (x253.2.1 + 1)), (x253.2.2 + widthAt r251 x253.2.2)))) else (some (.go (x253.1, x253.2.1, (x253.2.2 + widthAt r251 x253.2.2))))))) else (some (.out (x253.1, x253.2.1))))
def g_reading_counts_s1 (e_0 : T_api_Event) (forbidden_1 : List UInt8) (x5 : Int × Int × Int × Int) : Option (Nx (Int × Int × Int × Int) (Int × Int × Int)) :=
  (if (decide (x5.2.2.2 < (e_0.Rows.length : Int))) then ((atI e_0.Rows x5.2.2.2).bind fun y239 => ((g_style_Len y239).bind fun r245 => ((g_style_Plain y239).bind fun r251 => ((iter (g_reading_counts_s2 forbidden_1 r251) (x5.1, x5.2.1, 0)).bind fun e254 => (some (.go (e254.1, e254.2, (if r245 > x5.2.2.1 then r245 else x5.2.2.1), (IntKind.i64.wrap (x5.2.2.2 + 1))))))))) else (some (.out (x5.1, x5.2.1, x5.2.2.1))))
def g_reading_counts (e_0 : T_api_Event) (forbidden_1 : List UInt8) : Option (Int × Int × Int) :=
  ((iter (g_reading_counts_s1 e_0 forbidden_1) (0, 0, 0, 0)).bind fun e6 => (some (e6.1, e6.2.1, e6.2.2)))
theorem a_reading_counts (I : World → Prop) (hI : Stab I) (hU8T : ∀ w, I w → U8T w) (e_0 : T_api_Event) (forbidden_1 : List UInt8) {r : Int × Int × Int} (h : g_reading_counts e_0 forbidden_1 = some r) : AFun Tryd.prog I 47 [T_api_Event.d e_0, .str forbidden_1] (.tup [.int .i64 r.1, .int .i64 r.2.1, .int .i64 r.2.2]) := by
  refine AFun.enterB hI Tryd.func47 rfl (by decide) (by simp [Tryd.f47]) (by kernel_rfl) ?_
  unfold g_reading_counts at h
  simp only [S0, Tryd.ntmps47, dd_HC]
  refine rb_seq ?_
  refine rb_regionK fun K2 hK2 => ?_
  simp -implicitDefEqProofs only [vt, vm, ↓atI_fold, forall_const, implies_true, sevalprocAttr, dd_HC]
  subst hK2
  refine eb_seq ?_
  refine rb_seq ?_
  refine rb_seq ?_
  refine rb_regionK fun K4 hK4 => ?_
  simp -implicitDefEqProofs only [vt, vm, ↓atI_fold, forall_const, implies_true, sevalprocAttr, dd_HC]
  subst hK4
  refine eb_seq ?_
  refine rb_block ?_
  obtain ⟨e6, h309, h⟩ := bind_some h
  refine rb_loop (fun x5 => ⟨envL [(1, .str forbidden_1), (4, .int .i64 x5.1), (5, .int .i64 x5.2.1), (6, .int .i64 x5.2.2.1), (12, .sl (e_0.Rows.map T_api_Row.d)), (13, .int .i64 (e_0.Rows.length : Int)), (14, .int .i64 x5.2.2.2)], heapL [], 0, 41⟩) (fun _ => .exit 0) (fun e6 => ⟨envL [(4, .int .i64 e6.1), (5, .int .i64 e6.2.1), (6, .int .i64 e6.2.2)], heapL [], 0, 41⟩) h309 (Wk.of (fun i => some i) _ _ _ (by simp -implicitDefEqProofs [kv, km, dd_HC]) (by simp -implicitDefEqProofs [kv, km, dd_HC])) (by intro w; simp) ?_ ?_
  · clear h
    intro x5 y h
    unfold g_reading_counts_s1 at h
    refine rb_seq ?_
    refine rb_regionK fun K159 hK159 => ?_
    simp -implicitDefEqProofs only [vt, vm, ↓atI_fold, forall_const, implies_true, sevalprocAttr, dd_HC]
    subst hK159
    refine eb_seq ?_
    refine rb_seq ?_
    rcases ite_or h with ⟨k161, h⟩ | ⟨k161, h⟩
    · refine rb_true (by first | exact congrArg D.bool k161 | rfl) ?_
      refine rb_skip ?_
      refine eb_seq ?_
      refine rb_seq ?_
      refine rb_block ?_
      refine rb_seq ?_
      refine rb_regionK fun K238 hK238 => ?_
      simp -implicitDefEqProofs only [vt, vm, ↓atI_fold, forall_const, implies_true, sevalprocAttr, dd_HC, k161]
      obtain ⟨y239, h240, h⟩ := bind_some h
      simp -implicitDefEqProofs only [vt, vm, ↓atI_fold, forall_const, implies_true, sevalprocAttr, dd_HC, k161, h240]
      subst hK238
      refine eb_seq ?_
      refine rb_seq ?_
      refine rb_regionK fun K244 hK244 => ?_
      simp -implicitDefEqProofs only [vt, vm, ↓atI_fold, forall_const, implies_true, sevalprocAttr, dd_HC, k161, h240]
      obtain ⟨r245, h246, h⟩ := bind_some h
      refine cW.intro (a_style_Len I hI hU8T y239 h246) (by first | rfl | (simp [List.map_append, dd_HC]; done)) ?_
      simp -implicitDefEqProofs only [vt, vm, ↓atI_fold, forall_const, implies_true, sevalprocAttr, dd_HC, k161, h240]
      subst hK244
      refine eb_seq ?_
      refine rb_seq ?_
      refine rb_regionK fun K250 hK250 => ?_
      simp -implicitDefEqProofs only [vt, vm, ↓atI_fold, forall_const, implies_true, sevalprocAttr, dd_HC, k161, h240]
      obtain ⟨r251, h252, h⟩ := bind_some h
      refine cW.intro (a_style_Plain I hI y239 h252) (by first | rfl | (simp [List.map_append, dd_HC]; done)) ?_
      simp -implicitDefEqProofs only [vt, vm, ↓atI_fold, forall_const, implies_true, sevalprocAttr, dd_HC, k161, h240]
      subst hK250
      refine eb_seq ?_
      refine rb_block ?_
      obtain ⟨e254, h307, h⟩ := bind_some h
      refine rb_loop (fun x253 => ⟨envL [(1, .str forbidden_1), (4, .int .i64 x253.1), (5, .int .i64 x253.2.1), (6, .int .i64 (if r245 > x5.2.2.1 then r245 else x5.2.2.1)), (12, .sl (e_0.Rows.map T_api_Row.d)), (13, .int .i64 (e_0.Rows.length : Int)), (14, .int .i64 x5.2.2.2), (24, .ptr 0 0)], heapL [(0, .iter r251 x253.2.2)], 1, 41⟩) (fun _ => .exit 2) (fun e254 => ⟨envL [(1, .str forbidden_1), (4, .int .i64 e254.1), (5, .int .i64 e254.2), (6, .int .i64 (if r245 > x5.2.2.1 then r245 else x5.2.2.1)), (12, .sl (e_0.Rows.map T_api_Row.d)), (13, .int .i64 (e_0.Rows.length : Int)), (14, .int .i64 x5.2.2.2)], heapL [], 0, 41⟩) h307 (Wk.of (fun i => if i = 0 then some 12 else some i) _ _ _ (by simp -implicitDefEqProofs [kv, km, dd_HC, k161]) (by simp -implicitDefEqProofs [kv, km, dd_HC, k161])) (by intro w; simp) ?_ ?_
      · clear h
        intro x253 y h
        unfold g_reading_counts_s2 at h
        refine rb_seq ?_
        refine rb_regionK fun K283 hK283 => ?_
        simp -implicitDefEqProofs only [vt, vm, ↓atI_fold, forall_const, implies_true, sevalprocAttr, dd_HC, k161, h240]
        rcases ite_or h with ⟨k284, h⟩ | ⟨k284, h⟩
        · simp only [decide_eq_true_eq] at k284
          simp -implicitDefEqProofs only [vt, vm, ↓atI_fold, forall_const, implies_true, sevalprocAttr, dd_HC, k161, h240, k284]
          subst hK283
          refine eb_seq ?_
          refine rb_seq ?_
          refine rb_true (rfl) ?_
          refine rb_skip ?_
          refine eb_seq ?_
          refine rb_block ?_
          refine rb_seq ?_
          refine rb_regionK fun K286 hK286 => ?_
          simp -implicitDefEqProofs only [vt, vm, ↓atI_fold, forall_const, implies_true, sevalprocAttr, dd_HC, k161, h240, k284]
          subst hK286
          refine eb_seq ?_
          refine rb_seq ?_
          refine rb_seq ?_
          refine rb_regionK fun K288 hK288 => ?_
          simp -implicitDefEqProofs only [vt, vm, ↓atI_fold, forall_const, implies_true, sevalprocAttr, dd_HC, k161, h240, k284]
          subst hK288
          refine eb_seq ?_
          rcases ite_or h with ⟨k289, h⟩ | ⟨k289, h⟩
          · refine rb_true (by first | exact congrArg D.bool k289 | rfl) ?_
            refine rb_regionK fun K290 hK290 => ?_
            simp -implicitDefEqProofs only [vt, vm, ↓atI_fold, forall_const, implies_true, sevalprocAttr, dd_HC, k161, h240, k284, k289]
            subst hK290
            refine eb_seq ?_
            refine rb_seq ?_
            refine rb_regionK fun K294 hK294 => ?_
            simp -implicitDefEqProofs only [vt, vm, ↓atI_fold, forall_const, implies_true, sevalprocAttr, dd_HC, k161, h240, k284, k289]
            obtain ⟨r295, h296, h⟩ := bind_some h
            refine cW.intro (a_strings_ContainsRune I hI forbidden_1 (runeAt r251 x253.2.2) h296) (by first | rfl | (simp [List.map_append, dd_HC]; done)) ?_
            simp -implicitDefEqProofs only [vt, vm, ↓atI_fold, forall_const, implies_true, sevalprocAttr, dd_HC, k161, h240, k284, k289]
            subst hK294
            refine eb_seq ?_
            rcases ite_or h with ⟨k297, h⟩ | ⟨k297, h⟩
            · refine rb_true (by first | exact congrArg D.bool k297 | rfl) ?_
              refine rb_regionK fun K298 hK298 => ?_
              simp -implicitDefEqProofs only [vt, vm, ↓atI_fold, forall_const, implies_true, sevalprocAttr, dd_HC, k161, h240, k284, k289, k297]
              subst hK298
              refine eb_blk_n ?_
              obtain rfl := Option.some.inj h
              exact eb_nil ⟨rfl, Wk.of (fun i => if i = 0 then some 0 else some i) _ _ _ (by simp -implicitDefEqProofs [kv, km, dd_HC, k161, k284, k289, k297]) (by simp -implicitDefEqProofs [kv, km, dd_HC, k161, k284, k289, k297])⟩
            · refine rb_false (by first | exact congrArg D.bool k297 | rfl) ?_
              refine rb_skip ?_
              refine eb_blk_n ?_
              obtain rfl := Option.some.inj h
              exact eb_nil ⟨rfl, Wk.of (fun i => if i = 0 then some 0 else some i) _ _ _ (by simp -implicitDefEqProofs [kv, km, dd_HC, k161, k284, k289, k297]) (by simp -implicitDefEqProofs [kv, km, dd_HC, k161, k284, k289, k297])⟩
          · refine rb_false (by first | exact congrArg D.bool k289 | rfl) ?_
            refine rb_skip ?_
            refine eb_seq ?_
            refine rb_seq ?_
            refine rb_regionK fun K302 hK302 => ?_
            simp -implicitDefEqProofs only [vt, vm, ↓atI_fold, forall_const, implies_true, sevalprocAttr, dd_HC, k161, h240, k284, k289]
            obtain ⟨r303, h304, h⟩ := bind_some h
            refine cW.intro (a_strings_ContainsRune I hI forbidden_1 (runeAt r251 x253.2.2) h304) (by first | rfl | (simp [List.map_append, dd_HC]; done)) ?_
            simp -implicitDefEqProofs only [vt, vm, ↓atI_fold, forall_const, implies_true, sevalprocAttr, dd_HC, k161, h240, k284, k289]
            subst hK302
            refine eb_seq ?_
            rcases ite_or h with ⟨k305, h⟩ | ⟨k305, h⟩
            · refine rb_true (by first | exact congrArg D.bool k305 | rfl) ?_
              refine rb_regionK fun K306 hK306 => ?_
              simp -implicitDefEqProofs only [vt, vm, ↓atI_fold, forall_const, implies_true, sevalprocAttr, dd_HC, k161, h240, k284, k289, k305]
              subst hK306
              refine eb_blk_n ?_
              obtain rfl := Option.some.inj h
              exact eb_nil ⟨rfl, Wk.of (fun i => if i = 0 then some 0 else some i) _ _ _ (by simp -implicitDefEqProofs [kv, km, dd_HC, k161, k284, k289, k305]) (by simp -implicitDefEqProofs [kv, km, dd_HC, k161, k284, k289, k305])⟩
            · refine rb_false (by first | exact congrArg D.bool k305 | rfl) ?_
              refine rb_skip ?_
              refine eb_blk_n ?_
              obtain rfl := Option.some.inj h
              exact eb_nil ⟨rfl, Wk.of (fun i => if i = 0 then some 0 else some i) _ _ _ (by simp -implicitDefEqProofs [kv, km, dd_HC, k161, k284, k289, k305]) (by simp -implicitDefEqProofs [kv, km, dd_HC, k161, k284, k289, k305])⟩
        · simp only [decide_eq_false_iff_not] at k284
          simp -implicitDefEqProofs only [vt, vm, ↓atI_fold, forall_const, implies_true, sevalprocAttr, dd_HC, k161, h240, k284]
          subst hK283
          refine eb_seq ?_
          refine rb_seq ?_
          refine rb_false (rfl) ?_
          refine rb_exit ?_
          refine eb_seq_e ?_
          obtain rfl := Option.some.inj h
          exact eb_nil ⟨rfl, Wk.of (fun i => some i) _ _ _ (by simp -implicitDefEqProofs [kv, km, dd_HC, k161, k284]) (by simp -implicitDefEqProofs [kv, km, dd_HC, k161, k284])⟩
      · refine eb_blk_hit ?_
        refine eb_blk_n ?_
        refine eb_seq ?_
        refine rb_regionK fun K308 hK308 => ?_
        simp -implicitDefEqProofs only [vt, vm, ↓atI_fold, forall_const, implies_true, sevalprocAttr, dd_HC, k161, h240]
        subst hK308
        obtain rfl := Option.some.inj h
        exact eb_nil ⟨rfl, Wk.of (fun i => some i) _ _ _ (by simp -implicitDefEqProofs [kv, km, dd_HC, k161]) (by simp -implicitDefEqProofs [kv, km, dd_HC, k161])⟩
    · refine rb_false (by first | exact congrArg D.bool k161 | rfl) ?_
      refine rb_exit ?_
      refine eb_seq_e ?_
      obtain rfl := Option.some.inj h
      exact eb_nil ⟨rfl, Wk.of (fun i => some i) _ _ _ (by simp -implicitDefEqProofs [kv, km, dd_HC, k161]) (by simp -implicitDefEqProofs [kv, km, dd_HC, k161])⟩
  · refine eb_blk_hit ?_
    refine eb_seq ?_
    refine rb_seq ?_
    refine rb_regionK fun K311 hK311 => ?_
    simp -implicitDefEqProofs only [vt, vm, ↓atI_fold, forall_const, implies_true, sevalprocAttr, dd_HC]
    subst hK311
    refine eb_seq ?_
    refine rb_ret ?_
    obtain rfl := Option.some.inj h
    refine eb_nil ?_
    simp -implicitDefEqProofs only [vt, vm, ↓atI_fold, forall_const, implies_true, sevalprocAttr, retQ_r, Tryd.results47, dd_HC] <;> first | rfl | (simp [List.map_append, dd_HC]; done)
-- reading.outside
def g_reading_outside_s2 (p_2 : T_api_Profile) (y523 : T_api_Spot) (x527 : Int × Int) : Option (Nx (Int × Int) (Int)) :=
  (if (decide (x527.2 < (IntKind.i64.wrap (y523.Col + y523.Len)))) then (((if (decide (y523.Row < p_2.SafeTop)) then (some true) else (if (decide ((IntKind.i64.wrap (15 - p_2.SafeBottom)) ≤ y523.Row)) then (some true) else (if (decide (x527.2 < p_2.SafeLeft)) then (some true) else (some (decide ((IntKind.i64.wrap (32 - p_2.SafeRight)) ≤ x527.2)))))) : Option (Bool)).bind fun v606 => (if v606 then (some (.go ((IntKind.i64.wrap (x527.1 + 1)), (IntKind.i64.wrap (x527.2 + 1))))) else (some (.go (x527.1, (IntKind.i64.wrap (x527.2 + 1))))))) else (some (.out x527.1)))
def g_reading_outside_s1 (p_2 : T_api_Profile) (r7 : (List T_api_Spot) × Int) (x13 : Int × Int) : Option (Nx (Int × Int) (Int)) :=
  (if (decide (x13.2 < (r7.1.length : Int))) then ((atI r7.1 x13.2).bind fun y523 => ((iter (g_reading_outside_s2 p_2 y523) (x13.1, y523.Col)).bind fun e528 => (some (.go (e528, (IntKind.i64.wrap (x13.2 + 1))))))) else (some (.out x13.1)))
def g_reading_outside (e_0 : T_api_Event) (regions_1 : List T_api_Region) (p_2 : T_api_Profile) : Option (Int) :=
  ((g_event_Spots e_0 regions_1).bind fun r7 => ((iter (g_reading_outside_s1 p_2 r7) (0, 0)).bind fun e14 => (some e14)))
theorem a_reading_outside (I : World → Prop) (hI : Stab I) (hU8T : ∀ w, I w → U8T w) (e_0 : T_api_Event) (regions_1 : List T_api_Region) (p_2 : T_api_Profile) {r : Int} (h : g_reading_outside e_0 regions_1 p_2 = some r) : AFun Tryd.prog I 48 [T_api_Event.d e_0, .sl (regions_1.map T_api_Region.d), T_api_Profile.d p_2] (.int .i64 r) := by
  refine AFun.enterB hI Tryd.func48 rfl (by decide) (by simp [Tryd.f48]) (by kernel_rfl) ?_
  unfold g_reading_outside at h
  simp only [S0, Tryd.ntmps48, dd_HC]
  refine rb_seq ?_
  refine rb_regionK fun K2 hK2 => ?_
  simp -implicitDefEqProofs only [vt, vm, ↓atI_fold, forall_const, implies_true, sevalprocAttr, dd_HC]
  subst hK2
  refine eb_seq ?_
  refine rb_seq ?_
  refine rb_regionK fun K6 hK6 => ?_
  simp -implicitDefEqProofs only [vt, vm, ↓atI_fold, forall_const, implies_true, sevalprocAttr, dd_HC]
  obtain ⟨r7, h8, h⟩ := bind_some h
  refine cW.intro (a_event_Spots I hI hU8T e_0 regions_1 h8) (by first | rfl | (simp [List.map_append, dd_HC]; done)) ?_
  simp -implicitDefEqProofs only [vt, vm, ↓atI_fold, forall_const, implies_true, sevalprocAttr, dd_HC]
  subst hK6
  refine eb_seq ?_
  refine rb_seq ?_
  refine rb_regionK fun K10 hK10 => ?_
  simp -implicitDefEqProofs only [vt, vm, ↓atI_fold, forall_const, implies_true, sevalprocAttr, dd_HC]
  subst hK10
  refine eb_seq ?_
  refine rb_seq ?_
  refine rb_seq ?_
  refine rb_regionK fun K12 hK12 => ?_
  simp -implicitDefEqProofs only [vt, vm, ↓atI_fold, forall_const, implies_true, sevalprocAttr, dd_HC]
  subst hK12
  refine eb_seq ?_
  refine rb_block ?_
  obtain ⟨e14, h618, h⟩ := bind_some h
  refine rb_loop (fun x13 => ⟨envL [(5, .ptr 0 0), (9, .int .i64 x13.1), (19, .sl (r7.1.map T_api_Spot.d)), (20, .int .i64 (r7.1.length : Int)), (21, .int .i64 x13.2)], heapL [(0, .box none [.str p_2.Name, .int .i64 p_2.Reading, .int .i64 p_2.MinFrames, .int .i64 p_2.MaxFrames, .int .i64 p_2.MinGap, .int .i64 p_2.ShotBefore, .int .i64 p_2.ShotAfter, .int .i64 p_2.Rows, .int .i64 p_2.Cols, .str p_2.Forbidden, .int .i64 p_2.SafeTop, .int .i64 p_2.SafeBottom, .int .i64 p_2.SafeLeft, .int .i64 p_2.SafeRight])], 1, 66⟩) (fun _ => .exit 0) (fun e14 => ⟨envL [(9, .int .i64 e14)], heapL [], 0, 66⟩) h618 (Wk.of (fun i => if i = 0 then some 1 else some i) _ _ _ (by simp -implicitDefEqProofs [kv, km, dd_HC]) (by simp -implicitDefEqProofs [kv, km, dd_HC])) (by intro w; simp) ?_ ?_
  · clear h
    intro x13 y h
    unfold g_reading_outside_s1 at h
    refine rb_seq ?_
    refine rb_regionK fun K418 hK418 => ?_
    simp -implicitDefEqProofs only [vt, vm, ↓atI_fold, forall_const, implies_true, sevalprocAttr, dd_HC]
    subst hK418
    refine eb_seq ?_
    refine rb_seq ?_
    rcases ite_or h with ⟨k420, h⟩ | ⟨k420, h⟩
    · refine rb_true (by first | exact congrArg D.bool k420 | rfl) ?_
      refine rb_skip ?_
      refine eb_seq ?_
      refine rb_seq ?_
      refine rb_block ?_
      refine rb_seq ?_
      refine rb_regionK fun K522 hK522 => ?_
      simp -implicitDefEqProofs only [vt, vm, ↓atI_fold, forall_const, implies_true, sevalprocAttr, dd_HC, k420]
      obtain ⟨y523, h524, h⟩ := bind_some h
      simp -implicitDefEqProofs only [vt, vm, ↓atI_fold, forall_const, implies_true, sevalprocAttr, dd_HC, k420, h524]
      subst hK522
      refine eb_seq ?_
      refine rb_seq ?_
      refine rb_regionK fun K526 hK526 => ?_
      simp -implicitDefEqProofs only [vt, vm, ↓atI_fold, forall_const, implies_true, sevalprocAttr, dd_HC, k420, h524]
      subst hK526
      refine eb_seq ?_
      refine rb_block ?_
      obtain ⟨e528, h616, h⟩ := bind_some h
      refine rb_loop (fun x527 => ⟨envL [(5, .ptr 0 0), (9, .int .i64 x527.1), (11, .ptr 1 0), (12, .int .i64 x527.2), (19, .sl (r7.1.map T_api_Spot.d)), (20, .int .i64 (r7.1.length : Int)), (21, .int .i64 x13.2)], heapL [(0, .box none [.str p_2.Name, .int .i64 p_2.Reading, .int .i64 p_2.MinFrames, .int .i64 p_2.MaxFrames, .int .i64 p_2.MinGap, .int .i64 p_2.ShotBefore, .int .i64 p_2.ShotAfter, .int .i64 p_2.Rows, .int .i64 p_2.Cols, .str p_2.Forbidden, .int .i64 p_2.SafeTop, .int .i64 p_2.SafeBottom, .int .i64 p_2.SafeLeft, .int .i64 p_2.SafeRight]), (1, .box none [.int .i64 y523.Row, .int .i64 y523.Col, .int .i64 y523.Len])], 2, 66⟩) (fun _ => .exit 2) (fun e528 => ⟨envL [(5, .ptr 0 0), (9, .int .i64 e528), (19, .sl (r7.1.map T_api_Spot.d)), (20, .int .i64 (r7.1.length : Int)), (21, .int .i64 x13.2)], heapL [(0, .box none [.str p_2.Name, .int .i64 p_2.Reading, .int .i64 p_2.MinFrames, .int .i64 p_2.MaxFrames, .int .i64 p_2.MinGap, .int .i64 p_2.ShotBefore, .int .i64 p_2.ShotAfter, .int .i64 p_2.Rows, .int .i64 p_2.Cols, .str p_2.Forbidden, .int .i64 p_2.SafeTop, .int .i64 p_2.SafeBottom, .int .i64 p_2.SafeLeft, .int .i64 p_2.SafeRight])], 1, 66⟩) h616 (Wk.of (fun i => if i = 1 then some 4 else if i = 0 then some 0 else some i) _ _ _ (by simp -implicitDefEqProofs [kv, km, dd_HC, k420]) (by simp -implicitDefEqProofs [kv, km, dd_HC, k420])) (by intro w; simp) ?_ ?_
      · clear h
        intro x527 y h
        unfold g_reading_outside_s2 at h
        refine rb_seq ?_
        refine rb_seq ?_
        refine rb_regionK fun K588 hK588 => ?_
        simp -implicitDefEqProofs only [vt, vm, ↓atI_fold, forall_const, implies_true, sevalprocAttr, dd_HC, k420, h524]
        subst hK588
        refine eb_seq ?_
        rcases ite_or h with ⟨k589, h⟩ | ⟨k589, h⟩
        · refine rb_true (by first | exact congrArg D.bool k589 | rfl) ?_
          refine rb_skip ?_
          refine eb_seq ?_
          refine rb_seq ?_
          refine rb_block ?_
          obtain ⟨v606, h611, h⟩ := bind_some h
          refine rb_cut (fun v606 => ⟨envL [(5, .ptr 0 0), (9, .int .i64 x527.1), (11, .ptr 1 0), (12, .int .i64 x527.2), (19, .sl (r7.1.map T_api_Spot.d)), (20, .int .i64 (r7.1.length : Int)), (21, .int .i64 x13.2), (61, .bool v606)], heapL [(0, .box none [.str p_2.Name, .int .i64 p_2.Reading, .int .i64 p_2.MinFrames, .int .i64 p_2.MaxFrames, .int .i64 p_2.MinGap, .int .i64 p_2.ShotBefore, .int .i64 p_2.ShotAfter, .int .i64 p_2.Rows, .int .i64 p_2.Cols, .str p_2.Forbidden, .int .i64 p_2.SafeTop, .int .i64 p_2.SafeBottom, .int .i64 p_2.SafeLeft, .int .i64 p_2.SafeRight]), (1, .box none [.int .i64 y523.Row, .int .i64 y523.Col, .int .i64 y523.Len])], 2, 66⟩) h611 ?_ ?_
          · clear h
            intro v606 h
            refine rb_regionK fun K607 hK607 => ?_
            simp -implicitDefEqProofs only [vt, vm, ↓atI_fold, forall_const, implies_true, sevalprocAttr, dd_HC, k420, h524, k589]
            rcases ite_or h with ⟨k608, h⟩ | ⟨k608, h⟩
            · simp -implicitDefEqProofs only [vt, vm, ↓atI_fold, forall_const, implies_true, sevalprocAttr, dd_HC, k420, h524, k589, k608]
              subst hK607
              obtain rfl := Option.some.inj h
              exact eb_nil ⟨rfl, Wk.of (fun i => if i = 1 then some 1 else if i = 0 then some 0 else some i) _ _ _ (by simp -implicitDefEqProofs [kv, km, dd_HC, k420, k589, k608]) (by simp -implicitDefEqProofs [kv, km, dd_HC, k420, k589, k608])⟩
            · simp -implicitDefEqProofs only [vt, vm, ↓atI_fold, forall_const, implies_true, sevalprocAttr, dd_HC, k420, h524, k589, k608]
              rcases ite_or h with ⟨k609, h⟩ | ⟨k609, h⟩
              · simp -implicitDefEqProofs only [vt, vm, ↓atI_fold, forall_const, implies_true, sevalprocAttr, dd_HC, k420, h524, k589, k608, k609]
                subst hK607
                obtain rfl := Option.some.inj h
                exact eb_nil ⟨rfl, Wk.of (fun i => if i = 1 then some 1 else if i = 0 then some 0 else some i) _ _ _ (by simp -implicitDefEqProofs [kv, km, dd_HC, k420, k589, k608, k609]) (by simp -implicitDefEqProofs [kv, km, dd_HC, k420, k589, k608, k609])⟩
              · simp -implicitDefEqProofs only [vt, vm, ↓atI_fold, forall_const, implies_true, sevalprocAttr, dd_HC, k420, h524, k589, k608, k609]
                rcases ite_or h with ⟨k610, h⟩ | ⟨k610, h⟩
                · simp -implicitDefEqProofs only [vt, vm, ↓atI_fold, forall_const, implies_true, sevalprocAttr, dd_HC, k420, h524, k589, k608, k609, k610]
                  subst hK607
                  obtain rfl := Option.some.inj h
                  exact eb_nil ⟨rfl, Wk.of (fun i => if i = 1 then some 1 else if i = 0 then some 0 else some i) _ _ _ (by simp -implicitDefEqProofs [kv, km, dd_HC, k420, k589, k608, k609, k610]) (by simp -implicitDefEqProofs [kv, km, dd_HC, k420, k589, k608, k609, k610])⟩
                · simp -implicitDefEqProofs only [vt, vm, ↓atI_fold, forall_const, implies_true, sevalprocAttr, dd_HC, k420, h524, k589, k608, k609, k610]
                  subst hK607
                  obtain rfl := Option.some.inj h
                  exact eb_nil ⟨rfl, Wk.of (fun i => if i = 1 then some 1 else if i = 0 then some 0 else some i) _ _ _ (by simp -implicitDefEqProofs [kv, km, dd_HC, k420, k589, k608, k609, k610]) (by simp -implicitDefEqProofs [kv, km, dd_HC, k420, k589, k608, k609, k610])⟩
          · rcases ite_or h with ⟨k612, h⟩ | ⟨k612, h⟩
            · refine rb_true (by first | exact congrArg D.bool k612 | rfl) ?_
              refine rb_regionK fun K613 hK613 => ?_
              simp -implicitDefEqProofs only [vt, vm, ↓atI_fold, forall_const, implies_true, sevalprocAttr, dd_HC, k420, h524, k589, k612]
              subst hK613
              refine eb_blk_n ?_
              refine eb_seq ?_
              refine rb_regionK fun K614 hK614 => ?_
              simp -implicitDefEqProofs only [vt, vm, ↓atI_fold, forall_const, implies_true, sevalprocAttr, dd_HC, k420, h524, k589, k612]
              subst hK614
              obtain rfl := Option.some.inj h
              exact eb_nil ⟨rfl, Wk.of (fun i => if i = 1 then some 1 else if i = 0 then some 0 else some i) _ _ _ (by simp -implicitDefEqProofs [kv, km, dd_HC, k420, k589, k612]) (by simp -implicitDefEqProofs [kv, km, dd_HC, k420, k589, k612])⟩
            · refine rb_false (by first | exact congrArg D.bool k612 | rfl) ?_
              refine rb_skip ?_
              refine eb_blk_n ?_
              refine eb_seq ?_
              refine rb_regionK fun K615 hK615 => ?_
              simp -implicitDefEqProofs only [vt, vm, ↓atI_fold, forall_const, implies_true, sevalprocAttr, dd_HC, k420, h524, k589, k612]
              subst hK615
              obtain rfl := Option.some.inj h
              exact eb_nil ⟨rfl, Wk.of (fun i => if i = 1 then some 1 else if i = 0 then some 0 else some i) _ _ _ (by simp -implicitDefEqProofs [kv, km, dd_HC, k420, k589, k612]) (by simp -implicitDefEqProofs [kv, km, dd_HC, k420, k589, k612])⟩
        · refine rb_false (by first | exact congrArg D.bool k589 | rfl) ?_
          refine rb_exit ?_
          refine eb_seq_e ?_
          obtain rfl := Option.some.inj h
          exact eb_nil ⟨rfl, Wk.of (fun i => if i = 0 then some 0 else some i) _ _ _ (by simp -implicitDefEqProofs [kv, km, dd_HC, k420, k589]) (by simp -implicitDefEqProofs [kv, km, dd_HC, k420, k589])⟩
      · refine eb_blk_hit ?_
        refine eb_blk_n ?_
        refine eb_seq ?_
        refine rb_regionK fun K617 hK617 => ?_
        simp -implicitDefEqProofs only [vt, vm, ↓atI_fold, forall_const, implies_true, sevalprocAttr, dd_HC, k420, h524]
        subst hK617
        obtain rfl := Option.some.inj h
        exact eb_nil ⟨rfl, Wk.of (fun i => if i = 0 then some 0 else some i) _ _ _ (by simp -implicitDefEqProofs [kv, km, dd_HC, k420]) (by simp -implicitDefEqProofs [kv, km, dd_HC, k420])⟩
    · refine rb_false (by first | exact congrArg D.bool k420 | rfl) ?_
      refine rb_exit ?_
      refine eb_seq_e ?_
      obtain rfl := Option.some.inj h
      exact eb_nil ⟨rfl, Wk.of (fun i => some i) _ _ _ (by simp -implicitDefEqProofs [kv, km, dd_HC, k420]) (by simp -implicitDefEqProofs [kv, km, dd_HC, k420])⟩
  · refine eb_blk_hit ?_
    refine eb_seq ?_
    refine rb_seq ?_
    refine rb_regionK fun K620 hK620 => ?_
    simp -implicitDefEqProofs only [vt, vm, ↓atI_fold, forall_const, implies_true, sevalprocAttr, dd_HC]
    subst hK620
    refine eb_seq ?_
    refine rb_ret ?_
    obtain rfl := Option.some.inj h
    refine eb_nil ?_
    simp -implicitDefEqProofs only [vt, vm, ↓atI_fold, forall_const, implies_true, sevalprocAttr, retQ_r, Tryd.results48, dd_HC] <;> first | rfl | (simp [List.map_append, dd_HC]; done)
-- reading.Judge
def g_reading_Judge_s1 (p_2 : T_api_Profile) (y38 : T_api_Event) (r44 : Int) (r50 : Int × Int × Int) (r56 : Int × Int) (r64 : Int) (x66 : (List T_api_Finding) × Int) : Option (Nx ((List T_api_Finding) × Int) ((List T_api_Finding))) :=
  (if (decide (x66.2 < 7)) then ((atI [(T_api_Finding.mk 1 0 0 (IntKind.i64.wrap (r56.1 - r44))), (T_api_Finding.mk 2 0 0 (IntKind.i64.wrap (p_2.MinFrames - r44))), (T_api_Finding.mk 3 0 0 (IntKind.i64.wrap (r44 - p_2.MaxFrames))), (T_api_Finding.mk 7 0 0 (IntKind.i64.wrap ((y38.Rows.length : Int) - p_2.Rows))), (T_api_Finding.mk 8 0 0 (IntKind.i64.wrap (r50.2.2 - p_2.Cols))), (T_api_Finding.mk 9 0 0 r50.2.1), (T_api_Finding.mk 10 0 0 r64)] x66.2).bind fun y232 => (if (decide (0 < y232.Amount)) then (if (x66.1.length + 1) * 32 ≤ 140737488355328 then (some (.go ((x66.1 ++ [(T_api_Finding.mk y232.Rule y38.ID y232.Other y232.Amount)]), (IntKind.i64.wrap (x66.2 + 1))))) else none) else (some (.go (x66.1, (IntKind.i64.wrap (x66.2 + 1))))))) else (some (.out x66.1)))
def g_reading_Judge (d_0 : T_api_Document) (i_1 : Int) (p_2 : T_api_Profile) : Option ((List T_api_Finding) × Int) :=
  ((g_document_Check d_0).bind fun r7 => (if (r7 != 0) then (some ([], r7)) else (((if (decide (i_1 < 0)) then (some true) else (some (decide ((d_0.Events.length : Int) ≤ i_1)))) : Option (Bool)).bind fun v16 => (if v16 then (some ([], 1)) else ((g_profile_Check p_2).bind fun r27 => (if (r27 != 0) then (some ([], r27)) else ((atI d_0.Events i_1).bind fun y38 => ((g_event_Frames y38).bind fun r44 => ((g_reading_counts y38 p_2.Forbidden).bind fun r50 => ((g_reading_Needed d_0.Rate r50.1 p_2.Reading).bind fun r56 => ((g_reading_outside y38 d_0.Regions p_2).bind fun r64 => ((iter (g_reading_Judge_s1 p_2 y38 r44 r50 r56 r64) ([], 0)).bind fun e67 => (some (e67, 0))))))))))))))
theorem a_reading_Judge (I : World → Prop) (hI : Stab I) (hShp : ∀ w, I w → Shp w) (hU8T : ∀ w, I w → U8T w) (d_0 : T_api_Document) (i_1 : Int) (p_2 : T_api_Profile) {r : (List T_api_Finding) × Int} (h : g_reading_Judge d_0 i_1 p_2 = some r) : AFun Tryd.prog I 17 [T_api_Document.d d_0, .int .i64 i_1, T_api_Profile.d p_2] (.tup [.sl (r.1.map T_api_Finding.d), .int .i64 r.2]) := by
  refine AFun.enterB hI Tryd.func17 rfl (by decide) (by simp [Tryd.f17]) (by kernel_rfl) ?_
  unfold g_reading_Judge at h
  simp only [S0, Tryd.ntmps17, dd_HC]
  refine rb_seq ?_
  refine rb_regionK fun K2 hK2 => ?_
  simp -implicitDefEqProofs only [vt, vm, ↓atI_fold, forall_const, implies_true, sevalprocAttr, dd_HC]
  subst hK2
  refine eb_seq ?_
  refine rb_seq ?_
  refine rb_seq ?_
  refine rb_regionK fun K6 hK6 => ?_
  simp -implicitDefEqProofs only [vt, vm, ↓atI_fold, forall_const, implies_true, sevalprocAttr, dd_HC]
  obtain ⟨r7, h8, h⟩ := bind_some h
  refine cW.intro (a_document_Check I hI hShp hU8T d_0 h8) (by first | rfl | (simp [List.map_append, dd_HC]; done)) ?_
  simp -implicitDefEqProofs only [vt, vm, ↓atI_fold, forall_const, implies_true, sevalprocAttr, dd_HC]
  subst hK6
  refine eb_seq ?_
  refine rb_seq ?_
  refine rb_regionK fun K10 hK10 => ?_
  simp -implicitDefEqProofs only [vt, vm, ↓atI_fold, forall_const, implies_true, sevalprocAttr, dd_HC]
  subst hK10
  refine eb_seq ?_
  rcases ite_or h with ⟨k11, h⟩ | ⟨k11, h⟩
  · refine rb_true (by first | exact congrArg D.bool k11 | rfl) ?_
    refine rb_seq ?_
    refine rb_regionK fun K13 hK13 => ?_
    simp -implicitDefEqProofs only [vt, vm, ↓atI_fold, forall_const, implies_true, sevalprocAttr, dd_HC, k11]
    subst hK13
    refine eb_seq ?_
    refine rb_ret ?_
    refine eb_seq_r ?_
    obtain rfl := Option.some.inj h
    refine eb_nil ?_
    simp -implicitDefEqProofs only [vt, vm, ↓atI_fold, forall_const, implies_true, sevalprocAttr, retQ_r, Tryd.results17, dd_HC, k11] <;> first | rfl | (simp [List.map_append, dd_HC]; done)
  · refine rb_false (by first | exact congrArg D.bool k11 | rfl) ?_
    refine rb_skip ?_
    refine eb_seq ?_
    refine rb_seq ?_
    obtain ⟨v16, h19, h⟩ := bind_some h
    refine rb_cut (fun v16 => ⟨envL [(1, .int .i64 i_1), (3, .ptr 0 0), (5, .ptr 1 0), (33, .bool v16)], heapL [(0, .box none [.str d_0.Title, .str d_0.Lang, .int .u8 d_0.Rate, .bool d_0.Drop, .int .i64 d_0.Last, .sl (d_0.Regions.map T_api_Region.d), .sl (d_0.Events.map T_api_Event.d), .sl (d_0.Comments.map T_api_Comment.d)]), (1, .box none [.str p_2.Name, .int .i64 p_2.Reading, .int .i64 p_2.MinFrames, .int .i64 p_2.MaxFrames, .int .i64 p_2.MinGap, .int .i64 p_2.ShotBefore, .int .i64 p_2.ShotAfter, .int .i64 p_2.Rows, .int .i64 p_2.Cols, .str p_2.Forbidden, .int .i64 p_2.SafeTop, .int .i64 p_2.SafeBottom, .int .i64 p_2.SafeLeft, .int .i64 p_2.SafeRight])], 2, 115⟩) h19 ?_ ?_
    · clear h
      intro v16 h
      refine rb_regionK fun K17 hK17 => ?_
      simp -implicitDefEqProofs only [vt, vm, ↓atI_fold, forall_const, implies_true, sevalprocAttr, dd_HC, k11]
      rcases ite_or h with ⟨k18, h⟩ | ⟨k18, h⟩
      · simp -implicitDefEqProofs only [vt, vm, ↓atI_fold, forall_const, implies_true, sevalprocAttr, dd_HC, k11, k18]
        subst hK17
        obtain rfl := Option.some.inj h
        exact eb_nil ⟨rfl, Wk.of (fun i => if i = 1 then some 1 else if i = 0 then some 0 else some i) _ _ _ (by simp -implicitDefEqProofs [kv, km, dd_HC, k11, k18]) (by simp -implicitDefEqProofs [kv, km, dd_HC, k11, k18])⟩
      · simp -implicitDefEqProofs only [vt, vm, ↓atI_fold, forall_const, implies_true, sevalprocAttr, dd_HC, k11, k18]
        subst hK17
        obtain rfl := Option.some.inj h
        exact eb_nil ⟨rfl, Wk.of (fun i => if i = 1 then some 1 else if i = 0 then some 0 else some i) _ _ _ (by simp -implicitDefEqProofs [kv, km, dd_HC, k11, k18]) (by simp -implicitDefEqProofs [kv, km, dd_HC, k11, k18])⟩
    · rcases ite_or h with ⟨k20, h⟩ | ⟨k20, h⟩
      · refine rb_true (by first | exact congrArg D.bool k20 | rfl) ?_
        refine rb_seq ?_
        refine rb_regionK fun K22 hK22 => ?_
        simp -implicitDefEqProofs only [vt, vm, ↓atI_fold, forall_const, implies_true, sevalprocAttr, dd_HC, k11, k20]
        subst hK22
        refine eb_seq ?_
        refine rb_ret ?_
        refine eb_seq_r ?_
        obtain rfl := Option.some.inj h
        refine eb_nil ?_
        simp -implicitDefEqProofs only [vt, vm, ↓atI_fold, forall_const, implies_true, sevalprocAttr, retQ_r, Tryd.results17, dd_HC, k11, k20] <;> first | rfl | (simp [List.map_append, dd_HC]; done)
      · refine rb_false (by first | exact congrArg D.bool k20 | rfl) ?_
        refine rb_skip ?_
        refine eb_seq ?_
        refine rb_seq ?_
        refine rb_seq ?_
        refine rb_regionK fun K26 hK26 => ?_
        simp -implicitDefEqProofs only [vt, vm, ↓atI_fold, forall_const, implies_true, sevalprocAttr, dd_HC, k11, k20]
        obtain ⟨r27, h28, h⟩ := bind_some h
        refine cW.intro (a_profile_Check I hI hU8T p_2 h28) (by first | rfl | (simp [List.map_append, dd_HC]; done)) ?_
        simp -implicitDefEqProofs only [vt, vm, ↓atI_fold, forall_const, implies_true, sevalprocAttr, dd_HC, k11, k20]
        subst hK26
        refine eb_seq ?_
        refine rb_seq ?_
        refine rb_regionK fun K30 hK30 => ?_
        simp -implicitDefEqProofs only [vt, vm, ↓atI_fold, forall_const, implies_true, sevalprocAttr, dd_HC, k11, k20]
        subst hK30
        refine eb_seq ?_
        rcases ite_or h with ⟨k31, h⟩ | ⟨k31, h⟩
        · refine rb_true (by first | exact congrArg D.bool k31 | rfl) ?_
          refine rb_seq ?_
          refine rb_regionK fun K33 hK33 => ?_
          simp -implicitDefEqProofs only [vt, vm, ↓atI_fold, forall_const, implies_true, sevalprocAttr, dd_HC, k11, k20, k31]
          subst hK33
          refine eb_seq ?_
          refine rb_ret ?_
          refine eb_seq_r ?_
          obtain rfl := Option.some.inj h
          refine eb_nil ?_
          simp -implicitDefEqProofs only [vt, vm, ↓atI_fold, forall_const, implies_true, sevalprocAttr, retQ_r, Tryd.results17, dd_HC, k11, k20, k31] <;> first | rfl | (simp [List.map_append, dd_HC]; done)
        · refine rb_false (by first | exact congrArg D.bool k31 | rfl) ?_
          refine rb_skip ?_
          refine eb_seq ?_
          refine rb_seq ?_
          refine rb_regionK fun K37 hK37 => ?_
          simp -implicitDefEqProofs only [vt, vm, ↓atI_fold, forall_const, implies_true, sevalprocAttr, dd_HC, k11, k20, k31]
          obtain ⟨y38, h39, h⟩ := bind_some h
          simp -implicitDefEqProofs only [vt, vm, ↓atI_fold, forall_const, implies_true, sevalprocAttr, dd_HC, k11, k20, k31, h39]
          subst hK37
          refine eb_seq ?_
          refine rb_seq ?_
          refine rb_regionK fun K43 hK43 => ?_
          simp -implicitDefEqProofs only [vt, vm, ↓atI_fold, forall_const, implies_true, sevalprocAttr, dd_HC, k11, k20, k31, h39]
          obtain ⟨r44, h45, h⟩ := bind_some h
          refine cW.intro (a_event_Frames I hI y38 h45) (by first | rfl | (simp [List.map_append, dd_HC]; done)) ?_
          simp -implicitDefEqProofs only [vt, vm, ↓atI_fold, forall_const, implies_true, sevalprocAttr, dd_HC, k11, k20, k31, h39]
          subst hK43
          refine eb_seq ?_
          refine rb_seq ?_
          refine rb_regionK fun K49 hK49 => ?_
          simp -implicitDefEqProofs only [vt, vm, ↓atI_fold, forall_const, implies_true, sevalprocAttr, dd_HC, k11, k20, k31, h39]
          obtain ⟨r50, h51, h⟩ := bind_some h
          refine cW.intro (a_reading_counts I hI hU8T y38 p_2.Forbidden h51) (by first | rfl | (simp [List.map_append, dd_HC]; done)) ?_
          simp -implicitDefEqProofs only [vt, vm, ↓atI_fold, forall_const, implies_true, sevalprocAttr, dd_HC, k11, k20, k31, h39]
          subst hK49
          refine eb_seq ?_
          refine rb_seq ?_
          refine rb_regionK fun K55 hK55 => ?_
          simp -implicitDefEqProofs only [vt, vm, ↓atI_fold, forall_const, implies_true, sevalprocAttr, dd_HC, k11, k20, k31, h39]
          obtain ⟨r56, h57, h⟩ := bind_some h
          refine cW.intro (a_reading_Needed I hI d_0.Rate r50.1 p_2.Reading h57) (by first | rfl | (simp [List.map_append, dd_HC]; done)) ?_
          simp -implicitDefEqProofs only [vt, vm, ↓atI_fold, forall_const, implies_true, sevalprocAttr, dd_HC, k11, k20, k31, h39]
          subst hK55
          refine eb_seq ?_
          refine rb_seq ?_
          refine rb_regionK fun K59 hK59 => ?_
          simp -implicitDefEqProofs only [vt, vm, ↓atI_fold, forall_const, implies_true, sevalprocAttr, dd_HC, k11, k20, k31, h39]
          subst hK59
          refine eb_seq ?_
          refine rb_seq ?_
          refine rb_seq ?_
          refine rb_drawK hI (by kernel_rfl) (by kernel_rfl) fun K63 hK63 => ?_
          simp -implicitDefEqProofs only [vt, vm, ↓atI_fold, forall_const, implies_true, sevalprocAttr, dd_HC, k11, k20, k31, h39]
          obtain ⟨r64, h65, h⟩ := bind_some h
          refine cD'.intro (a_reading_outside I hI hU8T y38 d_0.Regions p_2 h65) (by first | rfl | (simp [List.map_append, dd_HC]; done)) (by kernel_rfl) ?_
          simp -implicitDefEqProofs only [vt, vm, ↓atI_fold, forall_const, implies_true, sevalprocAttr, dd_HC, k11, k20, k31, h39]
          subst hK63
          refine eb_seq ?_
          refine rb_block ?_
          obtain ⟨e67, h247, h⟩ := bind_some h
          refine rb_loop (fun x66 => ⟨envL [(10, .ptr 0 0), (17, .own 2 x66.1.length), (97, .own 1 7), (98, .int .i64 7), (99, .int .i64 x66.2)], heapL [(0, .box none [.int .i64 y38.ID, .int .i64 y38.Span.In, .int .i64 y38.Span.Out, .str y38.Region, .int .u8 y38.Kind, .str y38.Speaker, .sl (y38.Rows.map T_api_Row.d)]), (1, .vec 48 4 ([(T_api_Finding.mk 1 0 0 (IntKind.i64.wrap (r56.1 - r44))), (T_api_Finding.mk 2 0 0 (IntKind.i64.wrap (p_2.MinFrames - r44))), (T_api_Finding.mk 3 0 0 (IntKind.i64.wrap (r44 - p_2.MaxFrames))), (T_api_Finding.mk 7 0 0 (IntKind.i64.wrap ((y38.Rows.length : Int) - p_2.Rows))), (T_api_Finding.mk 8 0 0 (IntKind.i64.wrap (r50.2.2 - p_2.Cols))), (T_api_Finding.mk 9 0 0 r50.2.1), (T_api_Finding.mk 10 0 0 r64)].map T_api_Finding.d) false), (2, .vec 48 4 (x66.1.map T_api_Finding.d) false)], 3, 115⟩) (fun _ => .exit 0) (fun e67 => ⟨envL [(17, .own 0 e67.length)], heapL [(0, .vec 48 4 (e67.map T_api_Finding.d) false)], 1, 115⟩) h247 (Wk.of (fun i => if i = 2 then none else if i = 1 then some 74 else if i = 0 then some 12 else some i) _ _ _ (by simp -implicitDefEqProofs [kv, km, dd_HC, k11, k20, k31]) (by simp -implicitDefEqProofs [kv, km, dd_HC, k11, k20, k31])) (by intro w; simp) ?_ ?_
          · clear h
            intro x66 y h
            unfold g_reading_Judge_s1 at h
            refine rb_seq ?_
            refine rb_regionK fun K202 hK202 => ?_
            simp -implicitDefEqProofs only [vt, vm, ↓atI_fold, forall_const, implies_true, sevalprocAttr, dd_HC, k11, k20, k31, h39]
            subst hK202
            refine eb_seq ?_
            refine rb_seq ?_
            rcases ite_or h with ⟨k204, h⟩ | ⟨k204, h⟩
            · refine rb_true (by first | exact congrArg D.bool k204 | rfl) ?_
              refine rb_skip ?_
              refine eb_seq ?_
              refine rb_seq ?_
              refine rb_block ?_
              refine rb_seq ?_
              refine rb_regionK fun K231 hK231 => ?_
              simp -implicitDefEqProofs only [vt, vm, ↓atI_fold, forall_const, implies_true, sevalprocAttr, dd_HC, k11, k20, k31, h39, k204]
              obtain ⟨y232, h233, h⟩ := bind_some h
              obtain ⟨h234, h235, h236⟩ := atI_own h233
              have h236 := h236 T_api_Finding.d
              simp only [List.map_cons, List.map_nil, dd_HC] at h236
              have h235 : x66.2 < 7 := by simpa using h235
              simp -implicitDefEqProofs only [vt, vm, ↓atI_fold, forall_const, implies_true, sevalprocAttr, dd_HC, k11, k20, k31, h39, k204, h234, h235, h236]
              subst hK231
              refine eb_seq ?_
              refine rb_seq ?_
              refine rb_regionK fun K238 hK238 => ?_
              simp -implicitDefEqProofs only [vt, vm, ↓atI_fold, forall_const, implies_true, sevalprocAttr, dd_HC, k11, k20, k31, h39, k204, h234, h235, h236]
              subst hK238
              refine eb_seq ?_
              rcases ite_or h with ⟨k239, h⟩ | ⟨k239, h⟩
              · refine rb_true (by first | exact congrArg D.bool k239 | rfl) ?_
                refine rb_seq ?_
                refine rb_regionK fun K241 hK241 => ?_
                simp -implicitDefEqProofs only [vt, vm, ↓atI_fold, forall_const, implies_true, sevalprocAttr, dd_HC, k11, k20, k31, h39, k204, h234, h235, h236, k239]
                subst hK241
                refine eb_seq ?_
                refine rb_regionK fun K242 hK242 => ?_
                simp -implicitDefEqProofs only [vt, vm, ↓atI_fold, forall_const, implies_true, sevalprocAttr, dd_HC, k11, k20, k31, h39, k204, h234, h235, h236, k239]
                obtain ⟨h243, h⟩ := ite_on h
                have h244 : x66.1.length + 1 ≤ 9223372036854775807 := by omega
                try simp only [Nat.reduceLeDiff] at h244
                simp -implicitDefEqProofs only [vt, vm, ↓atI_fold, forall_const, implies_true, sevalprocAttr, dd_HC, k11, k20, k31, h39, k204, h234, h235, h236, k239, h244, h243]
                subst hK242
                refine eb_blk_n ?_
                refine eb_seq ?_
                refine rb_regionK fun K245 hK245 => ?_
                simp -implicitDefEqProofs only [vt, vm, ↓atI_fold, forall_const, implies_true, sevalprocAttr, dd_HC, k11, k20, k31, h39, k204, h234, h235, h236, k239, h244, h243]
                subst hK245
                obtain rfl := Option.some.inj h
                exact eb_nil ⟨rfl, Wk.of (fun i => if i = 2 then some 18 else if i = 1 then some 1 else if i = 0 then some 0 else some i) _ _ _ (by simp -implicitDefEqProofs [kv, km, dd_HC, k11, k20, k31, k204, k239]) (by simp -implicitDefEqProofs [kv, km, dd_HC, k11, k20, k31, k204, k239])⟩
              · refine rb_false (by first | exact congrArg D.bool k239 | rfl) ?_
                refine rb_skip ?_
                refine eb_blk_n ?_
                refine eb_seq ?_
                refine rb_regionK fun K246 hK246 => ?_
                simp -implicitDefEqProofs only [vt, vm, ↓atI_fold, forall_const, implies_true, sevalprocAttr, dd_HC, k11, k20, k31, h39, k204, h234, h235, h236, k239]
                subst hK246
                obtain rfl := Option.some.inj h
                exact eb_nil ⟨rfl, Wk.of (fun i => if i = 2 then some 2 else if i = 1 then some 1 else if i = 0 then some 0 else some i) _ _ _ (by simp -implicitDefEqProofs [kv, km, dd_HC, k11, k20, k31, k204, k239]) (by simp -implicitDefEqProofs [kv, km, dd_HC, k11, k20, k31, k204, k239])⟩
            · refine rb_false (by first | exact congrArg D.bool k204 | rfl) ?_
              refine rb_exit ?_
              refine eb_seq_e ?_
              obtain rfl := Option.some.inj h
              exact eb_nil ⟨rfl, Wk.of (fun i => if i = 0 then some 2 else some i) _ _ _ (by simp -implicitDefEqProofs [kv, km, dd_HC, k11, k20, k31, k204]) (by simp -implicitDefEqProofs [kv, km, dd_HC, k11, k20, k31, k204])⟩
          · refine eb_blk_hit ?_
            refine eb_seq ?_
            refine rb_seq ?_
            refine rb_regionK fun K249 hK249 => ?_
            simp -implicitDefEqProofs only [vt, vm, ↓atI_fold, forall_const, implies_true, sevalprocAttr, dd_HC, k11, k20, k31, h39]
            subst hK249
            refine eb_seq ?_
            refine rb_ret ?_
            obtain rfl := Option.some.inj h
            refine eb_nil ?_
            simp -implicitDefEqProofs only [vt, vm, ↓atI_fold, forall_const, implies_true, sevalprocAttr, retQ_r, Tryd.results17, dd_HC, k11, k20, k31, h39] <;> first | rfl | (simp [List.map_append, dd_HC]; done)
-- slices.Equal[[]api.Finding,api.Finding]
def g_slices_Equal_api_Finding_api_Finding_s1 (s1_0 : List T_api_Finding) (s2_1 : List T_api_Finding) (x10 : Int) : Option (Nx (Int) (Unit ⊕ Unit)) :=
  (if (decide (x10 < (s1_0.length : Int))) then ((atI s1_0 x10).bind fun y74 => ((atI s2_1 x10).bind fun y76 => (if ((y74.Rule == y76.Rule) && ((y74.ID == y76.ID) && ((y74.Other == y76.Other) && (y74.Amount == y76.Amount)))) then (some (.go (IntKind.i64.wrap (x10 + 1)))) else (some (.out (.inl ())))))) else (some (.out (.inr ()))))
def g_slices_Equal_api_Finding_api_Finding (s1_0 : List T_api_Finding) (s2_1 : List T_api_Finding) : Option (Bool) :=
  (if ((s1_0.length : Int) != (s2_1.length : Int)) then (some false) else ((iter (g_slices_Equal_api_Finding_api_Finding_s1 s1_0 s2_1) 0).bind fun e11 => (match e11 with | Sum.inl e11 => (some false) | Sum.inr (e11) => (some true))))
theorem a_slices_Equal_api_Finding_api_Finding (I : World → Prop) (hI : Stab I) (s1_0 : List T_api_Finding) (s2_1 : List T_api_Finding) {r : Bool} (h : g_slices_Equal_api_Finding_api_Finding s1_0 s2_1 = some r) : AFun Tryd.prog I 34 [.sl (s1_0.map T_api_Finding.d), .sl (s2_1.map T_api_Finding.d)] (.bool r) := by
  refine AFun.enterB hI Tryd.func34 rfl (by decide) (by simp [Tryd.f34]) (by kernel_rfl) ?_
  unfold g_slices_Equal_api_Finding_api_Finding at h
  simp only [S0, Tryd.ntmps34, dd_HC]
  refine rb_seq ?_
  refine rb_regionK fun K2 hK2 => ?_
  simp -implicitDefEqProofs only [vt, vm, ↓atI_fold, forall_const, implies_true, sevalprocAttr, dd_HC]
  subst hK2
  refine eb_seq ?_
  refine rb_seq ?_
  refine rb_seq ?_
  refine rb_regionK fun K4 hK4 => ?_
  simp -implicitDefEqProofs only [vt, vm, ↓atI_fold, forall_const, implies_true, sevalprocAttr, dd_HC]
  subst hK4
  refine eb_seq ?_
  rcases ite_or h with ⟨k5, h⟩ | ⟨k5, h⟩
  · refine rb_true (by first | exact congrArg D.bool k5 | rfl) ?_
    refine rb_seq ?_
    refine rb_regionK fun K7 hK7 => ?_
    simp -implicitDefEqProofs only [vt, vm, ↓atI_fold, forall_const, implies_true, sevalprocAttr, dd_HC, k5]
    subst hK7
    refine eb_seq ?_
    refine rb_ret ?_
    refine eb_seq_r ?_
    obtain rfl := Option.some.inj h
    refine eb_nil ?_
    simp -implicitDefEqProofs only [vt, vm, ↓atI_fold, forall_const, implies_true, sevalprocAttr, retQ_r, Tryd.results34, dd_HC, k5] <;> first | rfl | (simp [List.map_append, dd_HC]; done)
  · refine rb_false (by first | exact congrArg D.bool k5 | rfl) ?_
    refine rb_skip ?_
    refine eb_seq ?_
    refine rb_seq ?_
    refine rb_seq ?_
    refine rb_regionK fun K9 hK9 => ?_
    simp -implicitDefEqProofs only [vt, vm, ↓atI_fold, forall_const, implies_true, sevalprocAttr, dd_HC, k5]
    subst hK9
    refine eb_seq ?_
    refine rb_block ?_
    obtain ⟨e11, h82, h⟩ := bind_some h
    refine rb_loop (fun x10 => ⟨envL [(0, .sl (s1_0.map T_api_Finding.d)), (1, .sl (s2_1.map T_api_Finding.d)), (12, .int .i64 (s1_0.length : Int)), (13, .int .i64 x10)], heapL [], 0, 26⟩) (fun w => match w with | Sum.inl _ => .ret | Sum.inr (_) => .exit 0) (fun w => match w with | Sum.inl e11 => ⟨envL [(4, .bool false)], heapL [], 0, 26⟩ | Sum.inr (e11) => ⟨envL [], heapL [], 0, 26⟩) h82 (Wk.of (fun i => some i) _ _ _ (by simp -implicitDefEqProofs [kv, km, dd_HC, k5]) (by simp -implicitDefEqProofs [kv, km, dd_HC, k5])) (by intro w; rcases w with w | w <;> simp) ?_ ?_
    · clear h
      intro x10 y h
      unfold g_slices_Equal_api_Finding_api_Finding_s1 at h
      refine rb_seq ?_
      refine rb_regionK fun K48 hK48 => ?_
      simp -implicitDefEqProofs only [vt, vm, ↓atI_fold, forall_const, implies_true, sevalprocAttr, dd_HC, k5]
      subst hK48
      refine eb_seq ?_
      refine rb_seq ?_
      rcases ite_or h with ⟨k50, h⟩ | ⟨k50, h⟩
      · refine rb_true (by first | exact congrArg D.bool k50 | rfl) ?_
        refine rb_skip ?_
        refine eb_seq ?_
        refine rb_seq ?_
        refine rb_block ?_
        refine rb_seq ?_
        refine rb_regionK fun K67 hK67 => ?_
        simp -implicitDefEqProofs only [vt, vm, ↓atI_fold, forall_const, implies_true, sevalprocAttr, dd_HC, k5, k50]
        subst hK67
        refine eb_seq ?_
        refine rb_seq ?_
        refine rb_drawK hI (by kernel_rfl) (by kernel_rfl) fun K73 hK73 => ?_
        simp -implicitDefEqProofs only [vt, vm, ↓atI_fold, forall_const, implies_true, sevalprocAttr, dd_HC, k5, k50]
        obtain ⟨y74, h75, h⟩ := bind_some h
        simp -implicitDefEqProofs only [vt, vm, ↓atI_fold, forall_const, implies_true, sevalprocAttr, dd_HC, k5, k50, h75]
        obtain ⟨y76, h77, h⟩ := bind_some h
        simp -implicitDefEqProofs only [vt, vm, ↓atI_fold, forall_const, implies_true, sevalprocAttr, dd_HC, k5, k50, h75, h77]
        subst hK73
        refine eb_seq ?_
        rcases ite_or h with ⟨k78, h⟩ | ⟨k78, h⟩
        · refine rb_false (by first | exact congrArg D.bool (congrArg Bool.not k78) | rfl) ?_
          refine rb_skip ?_
          refine eb_blk_n ?_
          refine eb_seq ?_
          refine rb_regionK fun K79 hK79 => ?_
          simp -implicitDefEqProofs only [vt, vm, ↓atI_fold, forall_const, implies_true, sevalprocAttr, dd_HC, k5, k50, h75, h77, k78]
          subst hK79
          obtain rfl := Option.some.inj h
          exact eb_nil ⟨rfl, Wk.of (fun i => some i) _ _ _ (by simp -implicitDefEqProofs [kv, km, dd_HC, k5, k50, k78]) (by simp -implicitDefEqProofs [kv, km, dd_HC, k5, k50, k78])⟩
        · refine rb_true (by first | exact congrArg D.bool (congrArg Bool.not k78) | rfl) ?_
          refine rb_seq ?_
          refine rb_regionK fun K81 hK81 => ?_
          simp -implicitDefEqProofs only [vt, vm, ↓atI_fold, forall_const, implies_true, sevalprocAttr, dd_HC, k5, k50, h75, h77, k78]
          subst hK81
          refine eb_seq ?_
          refine rb_ret ?_
          refine eb_blk_r ?_
          refine eb_seq_r ?_
          obtain rfl := Option.some.inj h
          exact eb_nil ⟨rfl, Wk.of (fun i => some i) _ _ _ (by simp -implicitDefEqProofs [kv, km, dd_HC, k5, k50, k78]) (by simp -implicitDefEqProofs [kv, km, dd_HC, k5, k50, k78])⟩
      · refine rb_false (by first | exact congrArg D.bool k50 | rfl) ?_
        refine rb_exit ?_
        refine eb_seq_e ?_
        obtain rfl := Option.some.inj h
        exact eb_nil ⟨rfl, Wk.of (fun i => some i) _ _ _ (by simp -implicitDefEqProofs [kv, km, dd_HC, k5, k50]) (by simp -implicitDefEqProofs [kv, km, dd_HC, k5, k50])⟩
    · rcases e11 with e11 | e11
      · try dsimp only at h ⊢
        refine eb_blk_r ?_
        refine eb_seq_r ?_
        obtain rfl := Option.some.inj h
        refine eb_nil ?_
        simp -implicitDefEqProofs only [vt, vm, ↓atI_fold, forall_const, implies_true, sevalprocAttr, retQ_r, Tryd.results34, dd_HC, k5] <;> first | rfl | (simp [List.map_append, dd_HC]; done)
      · try dsimp only at h ⊢
        refine eb_blk_hit ?_
        refine eb_seq ?_
        refine rb_seq ?_
        refine rb_regionK fun K84 hK84 => ?_
        simp -implicitDefEqProofs only [vt, vm, ↓atI_fold, forall_const, implies_true, sevalprocAttr, dd_HC, k5]
        subst hK84
        refine eb_seq ?_
        refine rb_ret ?_
        obtain rfl := Option.some.inj h
        refine eb_nil ?_
        simp -implicitDefEqProofs only [vt, vm, ↓atI_fold, forall_const, implies_true, sevalprocAttr, retQ_r, Tryd.results34, dd_HC, k5] <;> first | rfl | (simp [List.map_append, dd_HC]; done)
-- captionerlaw40.awake
def g_law40_awake  : Option (Bool) :=
  ((g_reading_Needed 3 34 1700).bind fun r7 => ((g_reading_Needed 3 35 1700).bind fun r13 => ((g_reading_Speed 3 34 49).bind fun r19 => (((if (r7.2 != 0) then (some true) else (if (r13.2 != 0) then (some true) else (if (r19.2 != 0) then (some true) else (if (r7.1 != 50) then (some true) else (if (r13.1 != 52) then (some true) else (some (r19.1 != 1735))))))) : Option (Bool)).bind fun v27 => (if v27 then (some false) else ((g_profile_Standard 3).bind fun r42 => ((g_reading_Judge (T_api_Document.mk [] [] 3 false 1 [] [(T_api_Event.mk 1 (T_api_Span.mk 5 17) [] 1 [] [(T_api_Row.mk [(T_api_Run.mk [72, 101, 108, 108, 111, 44, 32, 119, 111, 114, 108, 100] (T_api_Style.mk 0 false false) [])])])] []) 0 r42.1).bind fun r50 => (if (r42.2 == 0) then (if (r50.2 == 0) then ((g_slices_Equal_api_Finding_api_Finding r50.1 [(T_api_Finding.mk 1 1 0 5), (T_api_Finding.mk 2 1 0 8)]).bind fun r60 => (some r60)) else (some false)) else (some false)))))))))
theorem a_law40_awake (I : World → Prop) (hI : Stab I) (hShp : ∀ w, I w → Shp w) (hU8T : ∀ w, I w → U8T w)  {r : Bool} (h : g_law40_awake  = some r) : AFun Tryd.prog I 11 [] (.bool r) := by
  refine AFun.enterB hI Tryd.func11 rfl (by decide) (by simp [Tryd.f11]) (by kernel_rfl) ?_
  unfold g_law40_awake at h
  simp only [S0, Tryd.ntmps11, dd_HC]
  refine rb_seq ?_
  refine rb_regionK fun K2 hK2 => ?_
  simp -implicitDefEqProofs only [vt, vm, ↓atI_fold, forall_const, implies_true, sevalprocAttr, dd_HC]
  subst hK2
  refine eb_seq ?_
  refine rb_seq ?_
  refine rb_regionK fun K6 hK6 => ?_
  simp -implicitDefEqProofs only [vt, vm, ↓atI_fold, forall_const, implies_true, sevalprocAttr, dd_HC]
  obtain ⟨r7, h8, h⟩ := bind_some h
  refine cW.intro (a_reading_Needed I hI 3 34 1700 h8) (by first | rfl | (simp [List.map_append, dd_HC]; done)) ?_
  simp -implicitDefEqProofs only [vt, vm, ↓atI_fold, forall_const, implies_true, sevalprocAttr, dd_HC]
  subst hK6
  refine eb_seq ?_
  refine rb_seq ?_
  refine rb_regionK fun K12 hK12 => ?_
  simp -implicitDefEqProofs only [vt, vm, ↓atI_fold, forall_const, implies_true, sevalprocAttr, dd_HC]
  obtain ⟨r13, h14, h⟩ := bind_some h
  refine cW.intro (a_reading_Needed I hI 3 35 1700 h14) (by first | rfl | (simp [List.map_append, dd_HC]; done)) ?_
  simp -implicitDefEqProofs only [vt, vm, ↓atI_fold, forall_const, implies_true, sevalprocAttr, dd_HC]
  subst hK12
  refine eb_seq ?_
  refine rb_seq ?_
  refine rb_regionK fun K18 hK18 => ?_
  simp -implicitDefEqProofs only [vt, vm, ↓atI_fold, forall_const, implies_true, sevalprocAttr, dd_HC]
  obtain ⟨r19, h20, h⟩ := bind_some h
  refine cW.intro (a_reading_Speed I hI 3 34 49 h20) (by first | rfl | (simp [List.map_append, dd_HC]; done)) ?_
  simp -implicitDefEqProofs only [vt, vm, ↓atI_fold, forall_const, implies_true, sevalprocAttr, dd_HC]
  subst hK18
  refine eb_seq ?_
  refine rb_seq ?_
  obtain ⟨v27, h34, h⟩ := bind_some h
  refine rb_cut (fun v27 => ⟨envL [(43, .bool v27)], heapL [], 0, 75⟩) h34 ?_ ?_
  · clear h
    intro v27 h
    refine rb_regionK fun K28 hK28 => ?_
    simp -implicitDefEqProofs only [vt, vm, ↓atI_fold, forall_const, implies_true, sevalprocAttr, dd_HC]
    rcases ite_or h with ⟨k29, h⟩ | ⟨k29, h⟩
    · simp -implicitDefEqProofs only [vt, vm, ↓atI_fold, forall_const, implies_true, sevalprocAttr, dd_HC, k29]
      subst hK28
      obtain rfl := Option.some.inj h
      exact eb_nil ⟨rfl, Wk.of (fun i => some i) _ _ _ (by simp -implicitDefEqProofs [kv, km, dd_HC, k29]) (by simp -implicitDefEqProofs [kv, km, dd_HC, k29])⟩
    · simp -implicitDefEqProofs only [vt, vm, ↓atI_fold, forall_const, implies_true, sevalprocAttr, dd_HC, k29]
      rcases ite_or h with ⟨k30, h⟩ | ⟨k30, h⟩
      · simp -implicitDefEqProofs only [vt, vm, ↓atI_fold, forall_const, implies_true, sevalprocAttr, dd_HC, k29, k30]
        subst hK28
        obtain rfl := Option.some.inj h
        exact eb_nil ⟨rfl, Wk.of (fun i => some i) _ _ _ (by simp -implicitDefEqProofs [kv, km, dd_HC, k29, k30]) (by simp -implicitDefEqProofs [kv, km, dd_HC, k29, k30])⟩
      · simp -implicitDefEqProofs only [vt, vm, ↓atI_fold, forall_const, implies_true, sevalprocAttr, dd_HC, k29, k30]
        rcases ite_or h with ⟨k31, h⟩ | ⟨k31, h⟩
        · simp -implicitDefEqProofs only [vt, vm, ↓atI_fold, forall_const, implies_true, sevalprocAttr, dd_HC, k29, k30, k31]
          subst hK28
          obtain rfl := Option.some.inj h
          exact eb_nil ⟨rfl, Wk.of (fun i => some i) _ _ _ (by simp -implicitDefEqProofs [kv, km, dd_HC, k29, k30, k31]) (by simp -implicitDefEqProofs [kv, km, dd_HC, k29, k30, k31])⟩
        · simp -implicitDefEqProofs only [vt, vm, ↓atI_fold, forall_const, implies_true, sevalprocAttr, dd_HC, k29, k30, k31]
          rcases ite_or h with ⟨k32, h⟩ | ⟨k32, h⟩
          · simp -implicitDefEqProofs only [vt, vm, ↓atI_fold, forall_const, implies_true, sevalprocAttr, dd_HC, k29, k30, k31, k32]
            subst hK28
            obtain rfl := Option.some.inj h
            exact eb_nil ⟨rfl, Wk.of (fun i => some i) _ _ _ (by simp -implicitDefEqProofs [kv, km, dd_HC, k29, k30, k31, k32]) (by simp -implicitDefEqProofs [kv, km, dd_HC, k29, k30, k31, k32])⟩
          · simp -implicitDefEqProofs only [vt, vm, ↓atI_fold, forall_const, implies_true, sevalprocAttr, dd_HC, k29, k30, k31, k32]
            rcases ite_or h with ⟨k33, h⟩ | ⟨k33, h⟩
            · simp -implicitDefEqProofs only [vt, vm, ↓atI_fold, forall_const, implies_true, sevalprocAttr, dd_HC, k29, k30, k31, k32, k33]
              subst hK28
              obtain rfl := Option.some.inj h
              exact eb_nil ⟨rfl, Wk.of (fun i => some i) _ _ _ (by simp -implicitDefEqProofs [kv, km, dd_HC, k29, k30, k31, k32, k33]) (by simp -implicitDefEqProofs [kv, km, dd_HC, k29, k30, k31, k32, k33])⟩
            · simp -implicitDefEqProofs only [vt, vm, ↓atI_fold, forall_const, implies_true, sevalprocAttr, dd_HC, k29, k30, k31, k32, k33]
              subst hK28
              obtain rfl := Option.some.inj h
              exact eb_nil ⟨rfl, Wk.of (fun i => some i) _ _ _ (by simp -implicitDefEqProofs [kv, km, dd_HC, k29, k30, k31, k32, k33]) (by simp -implicitDefEqProofs [kv, km, dd_HC, k29, k30, k31, k32, k33])⟩
  · rcases ite_or h with ⟨k35, h⟩ | ⟨k35, h⟩
    · refine rb_true (by first | exact congrArg D.bool k35 | rfl) ?_
      refine rb_seq ?_
      refine rb_regionK fun K37 hK37 => ?_
      simp -implicitDefEqProofs only [vt, vm, ↓atI_fold, forall_const, implies_true, sevalprocAttr, dd_HC, k35]
      subst hK37
      refine eb_seq ?_
      refine rb_ret ?_
      refine eb_seq_r ?_
      obtain rfl := Option.some.inj h
      refine eb_nil ?_
      simp -implicitDefEqProofs only [vt, vm, ↓atI_fold, forall_const, implies_true, sevalprocAttr, retQ_r, Tryd.results11, dd_HC, k35] <;> first | rfl | (simp [List.map_append, dd_HC]; done)
    · refine rb_false (by first | exact congrArg D.bool k35 | rfl) ?_
      refine rb_skip ?_
      refine eb_seq ?_
      refine rb_seq ?_
      refine rb_regionK fun K41 hK41 => ?_
      simp -implicitDefEqProofs only [vt, vm, ↓atI_fold, forall_const, implies_true, sevalprocAttr, dd_HC, k35]
      obtain ⟨r42, h43, h⟩ := bind_some h
      refine cW.intro (a_profile_Standard I hI 3 h43) (by first | rfl | (simp [List.map_append, dd_HC]; done)) ?_
      simp -implicitDefEqProofs only [vt, vm, ↓atI_fold, forall_const, implies_true, sevalprocAttr, dd_HC, k35]
      subst hK41
      refine eb_seq ?_
      refine rb_seq ?_
      refine rb_regionK fun K45 hK45 => ?_
      simp -implicitDefEqProofs only [vt, vm, ↓atI_fold, forall_const, implies_true, sevalprocAttr, dd_HC, k35]
      subst hK45
      refine eb_seq ?_
      refine rb_seq ?_
      refine rb_regionK fun K49 hK49 => ?_
      simp -implicitDefEqProofs only [vt, vm, ↓atI_fold, forall_const, implies_true, sevalprocAttr, dd_HC, k35]
      obtain ⟨r50, h51, h⟩ := bind_some h
      refine cW.intro (a_reading_Judge I hI hShp hU8T (T_api_Document.mk [] [] 3 false 1 [] [(T_api_Event.mk 1 (T_api_Span.mk 5 17) [] 1 [] [(T_api_Row.mk [(T_api_Run.mk [72, 101, 108, 108, 111, 44, 32, 119, 111, 114, 108, 100] (T_api_Style.mk 0 false false) [])])])] []) 0 r42.1 h51) (by first | rfl | (simp [List.map_append, dd_HC]; done)) ?_
      simp -implicitDefEqProofs only [vt, vm, ↓atI_fold, forall_const, implies_true, sevalprocAttr, dd_HC, k35]
      subst hK49
      refine eb_seq ?_
      refine rb_seq ?_
      refine rb_regionK fun K57 hK57 => ?_
      simp -implicitDefEqProofs only [vt, vm, ↓atI_fold, forall_const, implies_true, sevalprocAttr, dd_HC, k35]
      rcases ite_or h with ⟨k58, h⟩ | ⟨k58, h⟩
      · simp -implicitDefEqProofs only [vt, vm, ↓atI_fold, forall_const, implies_true, sevalprocAttr, dd_HC, k35, k58]
        rcases ite_or h with ⟨k59, h⟩ | ⟨k59, h⟩
        · simp -implicitDefEqProofs only [vt, vm, ↓atI_fold, forall_const, implies_true, sevalprocAttr, dd_HC, k35, k58, k59]
          obtain ⟨r60, h61, h⟩ := bind_some h
          refine cW.intro (a_slices_Equal_api_Finding_api_Finding I hI r50.1 [(T_api_Finding.mk 1 1 0 5), (T_api_Finding.mk 2 1 0 8)] h61) (by first | rfl | (simp [List.map_append, dd_HC]; done)) ?_
          simp -implicitDefEqProofs only [vt, vm, ↓atI_fold, forall_const, implies_true, sevalprocAttr, dd_HC, k35, k58, k59]
          subst hK57
          refine eb_seq ?_
          refine rb_ret ?_
          obtain rfl := Option.some.inj h
          refine eb_nil ?_
          simp -implicitDefEqProofs only [vt, vm, ↓atI_fold, forall_const, implies_true, sevalprocAttr, retQ_r, Tryd.results11, dd_HC, k35, k58, k59] <;> first | rfl | (simp [List.map_append, dd_HC]; done)
        · simp -implicitDefEqProofs only [vt, vm, ↓atI_fold, forall_const, implies_true, sevalprocAttr, dd_HC, k35, k58, k59]
          subst hK57
          refine eb_seq ?_
          refine rb_ret ?_
          obtain rfl := Option.some.inj h
          refine eb_nil ?_
          simp -implicitDefEqProofs only [vt, vm, ↓atI_fold, forall_const, implies_true, sevalprocAttr, retQ_r, Tryd.results11, dd_HC, k35, k58, k59] <;> first | rfl | (simp [List.map_append, dd_HC]; done)
      · simp -implicitDefEqProofs only [vt, vm, ↓atI_fold, forall_const, implies_true, sevalprocAttr, dd_HC, k35, k58]
        subst hK57
        refine eb_seq ?_
        refine rb_ret ?_
        obtain rfl := Option.some.inj h
        refine eb_nil ?_
        simp -implicitDefEqProofs only [vt, vm, ↓atI_fold, forall_const, implies_true, sevalprocAttr, retQ_r, Tryd.results11, dd_HC, k35, k58] <;> first | rfl | (simp [List.map_append, dd_HC]; done)
end Go.Proofs.YtipdmcpmedmicaaDoor
