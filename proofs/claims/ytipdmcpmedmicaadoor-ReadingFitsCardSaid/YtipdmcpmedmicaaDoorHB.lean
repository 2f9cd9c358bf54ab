/- What some functions compute, read off their texts by a program of mine (gen.py): definitions, and contracts (the text computes it). No condition but that the definition answers. -/
import Derived.Test.YtipdmcpmedmicaaDoorHA
namespace Go.Proofs.YtipdmcpmedmicaaDoor
open Go.RowKit
set_option maxRecDepth 100000
set_option linter.unusedVariables false
set_option linter.unusedSimpArgs false
set_option maxHeartbeats 10000000
structure T_api_Spot where
  Row : Int
  Col : Int
  Len : Int
  deriving DecidableEq
def T_api_Spot.d (x : T_api_Spot) : D := .agg [.int .i64 x.Row, .int .i64 x.Col, .int .i64 x.Len]
theorem dd_HB : (∀ x, T_api_Region.d x = .agg [.str x.Name, .int .i64 x.Top, .int .i64 x.Height, .int .i64 x.Left, .int .i64 x.Width, .int .u8 x.Align, .bool x.Bottom]) ∧ (∀ x, T_api_Spot.d x = .agg [.int .i64 x.Row, .int .i64 x.Col, .int .i64 x.Len]) ∧ (∀ x, T_api_Span.d x = .agg [.int .i64 x.In, .int .i64 x.Out]) ∧ (∀ x, T_api_Style.d x = .agg [.int .u8 x.Color, .bool x.Italic, .bool x.Underline]) ∧ (∀ x, T_api_Run.d x = .agg [.str x.Text, .int .u8 x.Style.Color, .bool x.Style.Italic, .bool x.Style.Underline, .str x.Ruby]) ∧ (∀ x, T_api_Row.d x = .agg [.sl (x.Runs.map T_api_Run.d)]) ∧ (∀ x, T_api_Event.d x = .agg [.int .i64 x.ID, .int .i64 x.Span.In, .int .i64 x.Span.Out, .str x.Region, .int .u8 x.Kind, .str x.Speaker, .sl (x.Rows.map T_api_Row.d)]) := ⟨fun _ => rfl, fun _ => rfl, fun _ => rfl, fun _ => rfl, fun _ => rfl, fun _ => rfl, fun _ => rfl⟩
-- region.from
def g_region_from (n_0 : Int) (low_1 : Int) (high_2 : Int) : Option (Bool) :=
  (if (decide (low_1 ≤ n_0)) then (some (decide (n_0 ≤ high_2))) else (some false))
theorem a_region_from (I : World → Prop) (hI : Stab I) (n_0 : Int) (low_1 : Int) (high_2 : Int) {r : Bool} (h : g_region_from n_0 low_1 high_2 = some r) : AFun Tryd.prog I 91 [.int .i64 n_0, .int .i64 low_1, .int .i64 high_2] (.bool r) := by
  refine AFun.enterB hI Tryd.func91 rfl (by decide) (by simp [Tryd.f91]) (by kernel_rfl) ?_
  unfold g_region_from at h
  simp only [S0, Tryd.ntmps91, dd_HB]
  refine rb_seq ?_
  refine rb_regionK fun K2 hK2 => ?_
  simp -implicitDefEqProofs only [vt, vm, ↓atI_fold, forall_const, implies_true, sevalprocAttr, dd_HB]
  subst hK2
  refine eb_seq ?_
  refine rb_seq ?_
  refine rb_regionK fun K5 hK5 => ?_
  simp -implicitDefEqProofs only [vt, vm, ↓atI_fold, forall_const, implies_true, sevalprocAttr, dd_HB]
  rcases ite_or h with ⟨k6, h⟩ | ⟨k6, h⟩
  · simp -implicitDefEqProofs only [vt, vm, ↓atI_fold, forall_const, implies_true, sevalprocAttr, dd_HB, k6]
    subst hK5
    refine eb_seq ?_
    refine rb_ret ?_
    obtain rfl := Option.some.inj h
    refine eb_nil ?_
    simp -implicitDefEqProofs only [vt, vm, ↓atI_fold, forall_const, implies_true, sevalprocAttr, retQ_r, Tryd.results91, dd_HB, k6] <;> first | rfl | (simp [List.map_append, dd_HB]; done)
  · simp -implicitDefEqProofs only [vt, vm, ↓atI_fold, forall_const, implies_true, sevalprocAttr, dd_HB, k6]
    subst hK5
    refine eb_seq ?_
    refine rb_ret ?_
    obtain rfl := Option.some.inj h
    refine eb_nil ?_
    simp -implicitDefEqProofs only [vt, vm, ↓atI_fold, forall_const, implies_true, sevalprocAttr, retQ_r, Tryd.results91, dd_HB, k6] <;> first | rfl | (simp [List.map_append, dd_HB]; done)
-- region.Check
def g_region_Check (r_0 : T_api_Region) : Option (Int) :=
  ((g_lines_Name r_0.Name).bind fun r54 => (if r54 then ((((g_region_from r_0.Top 0 14).bind fun r71 => (if r71 then ((g_region_from r_0.Height 1 (IntKind.i64.wrap (15 - r_0.Top))).bind fun r74 => (if r74 then ((g_region_from r_0.Left 0 31).bind fun r77 => (if r77 then ((g_region_from r_0.Width 1 (IntKind.i64.wrap (32 - r_0.Left))).bind fun r80 => (some (!r80))) else (some true))) else (some true))) else (some true))) : Option (Bool)).bind fun v69 => (if v69 then (some 2) else (if (decide (r_0.Align < 1)) then (some 3) else (if (decide (3 < r_0.Align)) then (some 3) else (some 0))))) else (some 5)))
theorem a_region_Check (I : World → Prop) (hI : Stab I) (r_0 : T_api_Region) {r : Int} (h : g_region_Check r_0 = some r) : AFun Tryd.prog I 52 [T_api_Region.d r_0] (.int .i64 r) := by
  refine AFun.enterB hI Tryd.func52 rfl (by decide) (by simp [Tryd.f52]) (by kernel_rfl) ?_
  unfold g_region_Check at h
  simp only [S0, Tryd.ntmps52, dd_HB]
  refine rb_seq ?_
  refine rb_regionK fun K2 hK2 => ?_
  simp -implicitDefEqProofs only [vt, vm, ↓atI_fold, forall_const, implies_true, sevalprocAttr, dd_HB]
  subst hK2
  refine eb_seq ?_
  refine rb_seq ?_
  refine rb_block ?_
  refine rb_seq ?_
  refine rb_regionK fun K53 hK53 => ?_
  simp -implicitDefEqProofs only [vt, vm, ↓atI_fold, forall_const, implies_true, sevalprocAttr, dd_HB]
  obtain ⟨r54, h55, h⟩ := bind_some h
  refine cW.intro (a_lines_Name I hI r_0.Name h55) (by first | rfl | (simp [List.map_append, dd_HB]; done)) ?_
  simp -implicitDefEqProofs only [vt, vm, ↓atI_fold, forall_const, implies_true, sevalprocAttr, dd_HB]
  subst hK53
  refine eb_seq ?_
  rcases ite_or h with ⟨k56, h⟩ | ⟨k56, h⟩
  · refine rb_false (by first | exact congrArg D.bool (congrArg Bool.not k56) | rfl) ?_
    obtain ⟨v69, h82, h⟩ := bind_some h
    refine rb_cut (fun v69 => ⟨envL [(1, .ptr 0 0), (8, .bool v69)], heapL [(0, .box none [.str r_0.Name, .int .i64 r_0.Top, .int .i64 r_0.Height, .int .i64 r_0.Left, .int .i64 r_0.Width, .int .u8 r_0.Align, .bool r_0.Bottom])], 1, 46⟩) h82 ?_ ?_
    · clear h
      intro v69 h
      refine rb_regionK fun K70 hK70 => ?_
      simp -implicitDefEqProofs only [vt, vm, ↓atI_fold, forall_const, implies_true, sevalprocAttr, dd_HB, k56]
      obtain ⟨r71, h72, h⟩ := bind_some h
      refine cW.intro (a_region_from I hI r_0.Top 0 14 h72) (by first | rfl | (simp [List.map_append, dd_HB]; done)) ?_
      simp -implicitDefEqProofs only [vt, vm, ↓atI_fold, forall_const, implies_true, sevalprocAttr, dd_HB, k56]
      rcases ite_or h with ⟨k73, h⟩ | ⟨k73, h⟩
      · simp -implicitDefEqProofs only [vt, vm, ↓atI_fold, forall_const, implies_true, sevalprocAttr, dd_HB, k56, k73]
        obtain ⟨r74, h75, h⟩ := bind_some h
        refine cW.intro (a_region_from I hI r_0.Height 1 (IntKind.i64.wrap (15 - r_0.Top)) h75) (by first | rfl | (simp [List.map_append, dd_HB]; done)) ?_
        simp -implicitDefEqProofs only [vt, vm, ↓atI_fold, forall_const, implies_true, sevalprocAttr, dd_HB, k56, k73]
        rcases ite_or h with ⟨k76, h⟩ | ⟨k76, h⟩
        · simp -implicitDefEqProofs only [vt, vm, ↓atI_fold, forall_const, implies_true, sevalprocAttr, dd_HB, k56, k73, k76]
          obtain ⟨r77, h78, h⟩ := bind_some h
          refine cW.intro (a_region_from I hI r_0.Left 0 31 h78) (by first | rfl | (simp [List.map_append, dd_HB]; done)) ?_
          simp -implicitDefEqProofs only [vt, vm, ↓atI_fold, forall_const, implies_true, sevalprocAttr, dd_HB, k56, k73, k76]
          rcases ite_or h with ⟨k79, h⟩ | ⟨k79, h⟩
          · simp -implicitDefEqProofs only [vt, vm, ↓atI_fold, forall_const, implies_true, sevalprocAttr, dd_HB, k56, k73, k76, k79]
            obtain ⟨r80, h81, h⟩ := bind_some h
            refine cW.intro (a_region_from I hI r_0.Width 1 (IntKind.i64.wrap (32 - r_0.Left)) h81) (by first | rfl | (simp [List.map_append, dd_HB]; done)) ?_
            simp -implicitDefEqProofs only [vt, vm, ↓atI_fold, forall_const, implies_true, sevalprocAttr, dd_HB, k56, k73, k76, k79]
            subst hK70
            obtain rfl := Option.some.inj h
            exact eb_nil ⟨rfl, Wk.of (fun i => if i = 0 then some 0 else some i) _ _ _ (by simp -implicitDefEqProofs [kv, km, dd_HB, k56, k73, k76, k79]) (by simp -implicitDefEqProofs [kv, km, dd_HB, k56, k73, k76, k79])⟩
          · simp -implicitDefEqProofs only [vt, vm, ↓atI_fold, forall_const, implies_true, sevalprocAttr, dd_HB, k56, k73, k76, k79]
            subst hK70
            obtain rfl := Option.some.inj h
            exact eb_nil ⟨rfl, Wk.of (fun i => if i = 0 then some 0 else some i) _ _ _ (by simp -implicitDefEqProofs [kv, km, dd_HB, k56, k73, k76, k79]) (by simp -implicitDefEqProofs [kv, km, dd_HB, k56, k73, k76, k79])⟩
        · simp -implicitDefEqProofs only [vt, vm, ↓atI_fold, forall_const, implies_true, sevalprocAttr, dd_HB, k56, k73, k76]
          subst hK70
          obtain rfl := Option.some.inj h
          exact eb_nil ⟨rfl, Wk.of (fun i => if i = 0 then some 0 else some i) _ _ _ (by simp -implicitDefEqProofs [kv, km, dd_HB, k56, k73, k76]) (by simp -implicitDefEqProofs [kv, km, dd_HB, k56, k73, k76])⟩
      · simp -implicitDefEqProofs only [vt, vm, ↓atI_fold, forall_const, implies_true, sevalprocAttr, dd_HB, k56, k73]
        subst hK70
        obtain rfl := Option.some.inj h
        exact eb_nil ⟨rfl, Wk.of (fun i => if i = 0 then some 0 else some i) _ _ _ (by simp -implicitDefEqProofs [kv, km, dd_HB, k56, k73]) (by simp -implicitDefEqProofs [kv, km, dd_HB, k56, k73])⟩
    · rcases ite_or h with ⟨k83, h⟩ | ⟨k83, h⟩
      · refine rb_true (by first | exact congrArg D.bool k83 | rfl) ?_
        refine rb_seq ?_
        refine rb_regionK fun K85 hK85 => ?_
        simp -implicitDefEqProofs only [vt, vm, ↓atI_fold, forall_const, implies_true, sevalprocAttr, dd_HB, k56, k83]
        subst hK85
        refine eb_seq ?_
        refine rb_ret ?_
        refine eb_blk_r ?_
        refine eb_seq_r ?_
        obtain rfl := Option.some.inj h
        refine eb_nil ?_
        simp -implicitDefEqProofs only [vt, vm, ↓atI_fold, forall_const, implies_true, sevalprocAttr, retQ_r, Tryd.results52, dd_HB, k56, k83] <;> first | rfl | (simp [List.map_append, dd_HB]; done)
      · refine rb_false (by first | exact congrArg D.bool k83 | rfl) ?_
        refine rb_seq ?_
        refine rb_regionK fun K88 hK88 => ?_
        simp -implicitDefEqProofs only [vt, vm, ↓atI_fold, forall_const, implies_true, sevalprocAttr, dd_HB, k56, k83]
        rcases ite_or h with ⟨k89, h⟩ | ⟨k89, h⟩
        · simp -implicitDefEqProofs only [vt, vm, ↓atI_fold, forall_const, implies_true, sevalprocAttr, dd_HB, k56, k83, k89]
          subst hK88
          refine eb_seq ?_
          refine rb_true (rfl) ?_
          refine rb_seq ?_
          refine rb_regionK fun K91 hK91 => ?_
          simp -implicitDefEqProofs only [vt, vm, ↓atI_fold, forall_const, implies_true, sevalprocAttr, dd_HB, k56, k83, k89]
          subst hK91
          refine eb_seq ?_
          refine rb_ret ?_
          refine eb_blk_r ?_
          refine eb_seq_r ?_
          obtain rfl := Option.some.inj h
          refine eb_nil ?_
          simp -implicitDefEqProofs only [vt, vm, ↓atI_fold, forall_const, implies_true, sevalprocAttr, retQ_r, Tryd.results52, dd_HB, k56, k83, k89] <;> first | rfl | (simp [List.map_append, dd_HB]; done)
        · simp -implicitDefEqProofs only [vt, vm, ↓atI_fold, forall_const, implies_true, sevalprocAttr, dd_HB, k56, k83, k89]
          subst hK88
          refine eb_seq ?_
          rcases ite_or h with ⟨k92, h⟩ | ⟨k92, h⟩
          · refine rb_true (by first | exact congrArg D.bool k92 | rfl) ?_
            refine rb_seq ?_
            refine rb_regionK fun K94 hK94 => ?_
            simp -implicitDefEqProofs only [vt, vm, ↓atI_fold, forall_const, implies_true, sevalprocAttr, dd_HB, k56, k83, k89, k92]
            subst hK94
            refine eb_seq ?_
            refine rb_ret ?_
            refine eb_blk_r ?_
            refine eb_seq_r ?_
            obtain rfl := Option.some.inj h
            refine eb_nil ?_
            simp -implicitDefEqProofs only [vt, vm, ↓atI_fold, forall_const, implies_true, sevalprocAttr, retQ_r, Tryd.results52, dd_HB, k56, k83, k89, k92] <;> first | rfl | (simp [List.map_append, dd_HB]; done)
          · refine rb_false (by first | exact congrArg D.bool k92 | rfl) ?_
            refine rb_skip ?_
            refine eb_blk_n ?_
            refine eb_seq ?_
            refine rb_seq ?_
            refine rb_regionK fun K96 hK96 => ?_
            simp -implicitDefEqProofs only [vt, vm, ↓atI_fold, forall_const, implies_true, sevalprocAttr, dd_HB, k56, k83, k89, k92]
            subst hK96
            refine eb_seq ?_
            refine rb_ret ?_
            obtain rfl := Option.some.inj h
            refine eb_nil ?_
            simp -implicitDefEqProofs only [vt, vm, ↓atI_fold, forall_const, implies_true, sevalprocAttr, retQ_r, Tryd.results52, dd_HB, k56, k83, k89, k92] <;> first | rfl | (simp [List.map_append, dd_HB]; done)
  · refine rb_true (by first | exact congrArg D.bool (congrArg Bool.not k56) | rfl) ?_
    refine rb_seq ?_
    refine rb_regionK fun K98 hK98 => ?_
    simp -implicitDefEqProofs only [vt, vm, ↓atI_fold, forall_const, implies_true, sevalprocAttr, dd_HB, k56]
    subst hK98
    refine eb_seq ?_
    refine rb_ret ?_
    refine eb_blk_r ?_
    refine eb_seq_r ?_
    obtain rfl := Option.some.inj h
    refine eb_nil ?_
    simp -implicitDefEqProofs only [vt, vm, ↓atI_fold, forall_const, implies_true, sevalprocAttr, retQ_r, Tryd.results52, dd_HB, k56] <;> first | rfl | (simp [List.map_append, dd_HB]; done)
-- region.CheckList
def g_region_CheckList_s1 (l_0 : List T_api_Region) (x10 : Int) : Option (Nx (Int) (Int ⊕ Unit)) :=
  (if (decide (x10 < (l_0.length : Int))) then ((atI l_0 x10).bind fun y149 => ((g_region_Check y149).bind fun r155 => (if (r155 != 0) then (some (.out (.inl r155))) else (((if (decide (0 < x10)) then ((atI l_0 (IntKind.i64.wrap (x10 - 1))).bind fun y169 => (some (y149.Name == y169.Name))) else (some false)) : Option (Bool)).bind fun v166 => (if v166 then (some (.out (.inl 7))) else (if (decide (0 < x10)) then ((atI l_0 (IntKind.i64.wrap (x10 - 1))).bind fun y181 => (if (Op.bytesLess y149.Name y181.Name) then (some (.out (.inl 8))) else (some (.go (IntKind.i64.wrap (x10 + 1)))))) else (some (.go (IntKind.i64.wrap (x10 + 1)))))))))) else (some (.out (.inr ()))))
def g_region_CheckList (l_0 : List T_api_Region) : Option (Int) :=
  (if (decide (16 < (l_0.length : Int))) then (some 9) else ((iter (g_region_CheckList_s1 l_0) 0).bind fun e11 => (match e11 with | Sum.inl e11 => (some e11) | Sum.inr (e11) => (some 0))))
theorem a_region_CheckList (I : World → Prop) (hI : Stab I) (l_0 : List T_api_Region) {r : Int} (h : g_region_CheckList l_0 = some r) : AFun Tryd.prog I 79 [.sl (l_0.map T_api_Region.d)] (.int .i64 r) := by
  refine AFun.enterB hI Tryd.func79 rfl (by decide) (by simp [Tryd.f79]) (by kernel_rfl) ?_
  unfold g_region_CheckList at h
  simp only [S0, Tryd.ntmps79, dd_HB]
  refine rb_seq ?_
  refine rb_regionK fun K2 hK2 => ?_
  simp -implicitDefEqProofs only [vt, vm, ↓atI_fold, forall_const, implies_true, sevalprocAttr, dd_HB]
  subst hK2
  refine eb_seq ?_
  refine rb_seq ?_
  refine rb_seq ?_
  refine rb_regionK fun K4 hK4 => ?_
  simp -implicitDefEqProofs only [vt, vm, ↓atI_fold, forall_const, implies_true, sevalprocAttr, dd_HB]
  subst hK4
  refine eb_seq ?_
  rcases ite_or h with ⟨k5, h⟩ | ⟨k5, h⟩
  · refine rb_true (by first | exact congrArg D.bool k5 | rfl) ?_
    refine rb_seq ?_
    refine rb_regionK fun K7 hK7 => ?_
    simp -implicitDefEqProofs only [vt, vm, ↓atI_fold, forall_const, implies_true, sevalprocAttr, dd_HB, k5]
    subst hK7
    refine eb_seq ?_
    refine rb_ret ?_
    refine eb_seq_r ?_
    obtain rfl := Option.some.inj h
    refine eb_nil ?_
    simp -implicitDefEqProofs only [vt, vm, ↓atI_fold, forall_const, implies_true, sevalprocAttr, retQ_r, Tryd.results79, dd_HB, k5] <;> first | rfl | (simp [List.map_append, dd_HB]; done)
  · refine rb_false (by first | exact congrArg D.bool k5 | rfl) ?_
    refine rb_skip ?_
    refine eb_seq ?_
    refine rb_seq ?_
    refine rb_seq ?_
    refine rb_regionK fun K9 hK9 => ?_
    simp -implicitDefEqProofs only [vt, vm, ↓atI_fold, forall_const, implies_true, sevalprocAttr, dd_HB, k5]
    subst hK9
    refine eb_seq ?_
    refine rb_block ?_
    obtain ⟨e11, h188, h⟩ := bind_some h
    refine rb_loop (fun x10 => ⟨envL [(0, .sl (l_0.map T_api_Region.d)), (9, .sl (l_0.map T_api_Region.d)), (10, .int .i64 (l_0.length : Int)), (11, .int .i64 x10)], heapL [], 0, 48⟩) (fun w => match w with | Sum.inl _ => .ret | Sum.inr (_) => .exit 0) (fun w => match w with | Sum.inl e11 => ⟨envL [(2, .int .i64 e11)], heapL [], 0, 48⟩ | Sum.inr (e11) => ⟨envL [], heapL [], 0, 48⟩) h188 (Wk.of (fun i => some i) _ _ _ (by simp -implicitDefEqProofs [kv, km, dd_HB, k5]) (by simp -implicitDefEqProofs [kv, km, dd_HB, k5])) (by intro w; rcases w with w | w <;> simp) ?_ ?_
    · clear h
      intro x10 y h
      unfold g_region_CheckList_s1 at h
      refine rb_seq ?_
      refine rb_regionK fun K101 hK101 => ?_
      simp -implicitDefEqProofs only [vt, vm, ↓atI_fold, forall_const, implies_true, sevalprocAttr, dd_HB, k5]
      subst hK101
      refine eb_seq ?_
      refine rb_seq ?_
      rcases ite_or h with ⟨k103, h⟩ | ⟨k103, h⟩
      · refine rb_true (by first | exact congrArg D.bool k103 | rfl) ?_
        refine rb_skip ?_
        refine eb_seq ?_
        refine rb_seq ?_
        refine rb_block ?_
        refine rb_seq ?_
        refine rb_regionK fun K148 hK148 => ?_
        simp -implicitDefEqProofs only [vt, vm, ↓atI_fold, forall_const, implies_true, sevalprocAttr, dd_HB, k5, k103]
        obtain ⟨y149, h150, h⟩ := bind_some h
        simp -implicitDefEqProofs only [vt, vm, ↓atI_fold, forall_const, implies_true, sevalprocAttr, dd_HB, k5, k103, h150]
        subst hK148
        refine eb_seq ?_
        refine rb_seq ?_
        refine rb_seq ?_
        refine rb_regionK fun K154 hK154 => ?_
        simp -implicitDefEqProofs only [vt, vm, ↓atI_fold, forall_const, implies_true, sevalprocAttr, dd_HB, k5, k103, h150]
        obtain ⟨r155, h156, h⟩ := bind_some h
        refine cW.intro (a_region_Check I hI y149 h156) (by first | rfl | (simp [List.map_append, dd_HB]; done)) ?_
        simp -implicitDefEqProofs only [vt, vm, ↓atI_fold, forall_const, implies_true, sevalprocAttr, dd_HB, k5, k103, h150]
        subst hK154
        refine eb_seq ?_
        refine rb_seq ?_
        refine rb_regionK fun K158 hK158 => ?_
        simp -implicitDefEqProofs only [vt, vm, ↓atI_fold, forall_const, implies_true, sevalprocAttr, dd_HB, k5, k103, h150]
        subst hK158
        refine eb_seq ?_
        rcases ite_or h with ⟨k159, h⟩ | ⟨k159, h⟩
        · refine rb_true (by first | exact congrArg D.bool k159 | rfl) ?_
          refine rb_seq ?_
          refine rb_regionK fun K161 hK161 => ?_
          simp -implicitDefEqProofs only [vt, vm, ↓atI_fold, forall_const, implies_true, sevalprocAttr, dd_HB, k5, k103, h150, k159]
          subst hK161
          refine eb_seq ?_
          refine rb_ret ?_
          refine eb_seq_r ?_
          refine eb_blk_r ?_
          refine eb_seq_r ?_
          obtain rfl := Option.some.inj h
          exact eb_nil ⟨rfl, Wk.of (fun i => some i) _ _ _ (by simp -implicitDefEqProofs [kv, km, dd_HB, k5, k103, k159]) (by simp -implicitDefEqProofs [kv, km, dd_HB, k5, k103, k159])⟩
        · refine rb_false (by first | exact congrArg D.bool k159 | rfl) ?_
          refine rb_skip ?_
          refine eb_seq ?_
          refine rb_seq ?_
          obtain ⟨v166, h171, h⟩ := bind_some h
          refine rb_cut (fun v166 => ⟨envL [(0, .sl (l_0.map T_api_Region.d)), (3, .int .i64 x10), (4, .ptr 0 0), (9, .sl (l_0.map T_api_Region.d)), (10, .int .i64 (l_0.length : Int)), (11, .int .i64 x10), (33, .bool v166)], heapL [(0, .box none [.str y149.Name, .int .i64 y149.Top, .int .i64 y149.Height, .int .i64 y149.Left, .int .i64 y149.Width, .int .u8 y149.Align, .bool y149.Bottom])], 1, 48⟩) h171 ?_ ?_
          · clear h
            intro v166 h
            refine rb_drawK hI (by kernel_rfl) (by kernel_rfl) fun K167 hK167 => ?_
            simp -implicitDefEqProofs only [vt, vm, ↓atI_fold, forall_const, implies_true, sevalprocAttr, dd_HB, k5, k103, h150, k159]
            rcases ite_or h with ⟨k168, h⟩ | ⟨k168, h⟩
            · simp -implicitDefEqProofs only [vt, vm, ↓atI_fold, forall_const, implies_true, sevalprocAttr, dd_HB, k5, k103, h150, k159, k168]
              obtain ⟨y169, h170, h⟩ := bind_some h
              simp -implicitDefEqProofs only [vt, vm, ↓atI_fold, forall_const, implies_true, sevalprocAttr, dd_HB, k5, k103, h150, k159, k168, h170]
              subst hK167
              obtain rfl := Option.some.inj h
              exact eb_nil ⟨rfl, Wk.of (fun i => if i = 0 then some 4 else some i) _ _ _ (by simp -implicitDefEqProofs [kv, km, dd_HB, k5, k103, k159, k168]) (by simp -implicitDefEqProofs [kv, km, dd_HB, k5, k103, k159, k168])⟩
            · simp -implicitDefEqProofs only [vt, vm, ↓atI_fold, forall_const, implies_true, sevalprocAttr, dd_HB, k5, k103, h150, k159, k168]
              subst hK167
              obtain rfl := Option.some.inj h
              exact eb_nil ⟨rfl, Wk.of (fun i => if i = 0 then some 4 else some i) _ _ _ (by simp -implicitDefEqProofs [kv, km, dd_HB, k5, k103, k159, k168]) (by simp -implicitDefEqProofs [kv, km, dd_HB, k5, k103, k159, k168])⟩
          · rcases ite_or h with ⟨k172, h⟩ | ⟨k172, h⟩
            · refine rb_true (by first | exact congrArg D.bool k172 | rfl) ?_
              refine rb_seq ?_
              refine rb_regionK fun K174 hK174 => ?_
              simp -implicitDefEqProofs only [vt, vm, ↓atI_fold, forall_const, implies_true, sevalprocAttr, dd_HB, k5, k103, h150, k159, k172]
              subst hK174
              refine eb_seq ?_
              refine rb_ret ?_
              refine eb_seq_r ?_
              refine eb_blk_r ?_
              refine eb_seq_r ?_
              obtain rfl := Option.some.inj h
              exact eb_nil ⟨rfl, Wk.of (fun i => some i) _ _ _ (by simp -implicitDefEqProofs [kv, km, dd_HB, k5, k103, k159, k172]) (by simp -implicitDefEqProofs [kv, km, dd_HB, k5, k103, k159, k172])⟩
            · refine rb_false (by first | exact congrArg D.bool k172 | rfl) ?_
              refine rb_skip ?_
              refine eb_seq ?_
              refine rb_seq ?_
              refine rb_drawK hI (by kernel_rfl) (by kernel_rfl) fun K179 hK179 => ?_
              simp -implicitDefEqProofs only [vt, vm, ↓atI_fold, forall_const, implies_true, sevalprocAttr, dd_HB, k5, k103, h150, k159, k172]
              rcases ite_or h with ⟨k180, h⟩ | ⟨k180, h⟩
              · simp -implicitDefEqProofs only [vt, vm, ↓atI_fold, forall_const, implies_true, sevalprocAttr, dd_HB, k5, k103, h150, k159, k172, k180]
                obtain ⟨y181, h182, h⟩ := bind_some h
                simp -implicitDefEqProofs only [vt, vm, ↓atI_fold, forall_const, implies_true, sevalprocAttr, dd_HB, k5, k103, h150, k159, k172, k180, h182]
                subst hK179
                refine eb_seq ?_
                rcases ite_or h with ⟨k183, h⟩ | ⟨k183, h⟩
                · refine rb_true (by first | exact congrArg D.bool k183 | rfl) ?_
                  refine rb_seq ?_
                  refine rb_regionK fun K185 hK185 => ?_
                  simp -implicitDefEqProofs only [vt, vm, ↓atI_fold, forall_const, implies_true, sevalprocAttr, dd_HB, k5, k103, h150, k159, k172, k180, h182, k183]
                  subst hK185
                  refine eb_seq ?_
                  refine rb_ret ?_
                  refine eb_blk_r ?_
                  refine eb_seq_r ?_
                  obtain rfl := Option.some.inj h
                  exact eb_nil ⟨rfl, Wk.of (fun i => some i) _ _ _ (by simp -implicitDefEqProofs [kv, km, dd_HB, k5, k103, k159, k172, k180, k183]) (by simp -implicitDefEqProofs [kv, km, dd_HB, k5, k103, k159, k172, k180, k183])⟩
                · refine rb_false (by first | exact congrArg D.bool k183 | rfl) ?_
                  refine rb_skip ?_
                  refine eb_blk_n ?_
                  refine eb_seq ?_
                  refine rb_regionK fun K186 hK186 => ?_
                  simp -implicitDefEqProofs only [vt, vm, ↓atI_fold, forall_const, implies_true, sevalprocAttr, dd_HB, k5, k103, h150, k159, k172, k180, h182, k183]
                  subst hK186
                  obtain rfl := Option.some.inj h
                  exact eb_nil ⟨rfl, Wk.of (fun i => some i) _ _ _ (by simp -implicitDefEqProofs [kv, km, dd_HB, k5, k103, k159, k172, k180, k183]) (by simp -implicitDefEqProofs [kv, km, dd_HB, k5, k103, k159, k172, k180, k183])⟩
              · simp -implicitDefEqProofs only [vt, vm, ↓atI_fold, forall_const, implies_true, sevalprocAttr, dd_HB, k5, k103, h150, k159, k172, k180]
                subst hK179
                refine eb_seq ?_
                refine rb_false (rfl) ?_
                refine rb_skip ?_
                refine eb_blk_n ?_
                refine eb_seq ?_
                refine rb_regionK fun K187 hK187 => ?_
                simp -implicitDefEqProofs only [vt, vm, ↓atI_fold, forall_const, implies_true, sevalprocAttr, dd_HB, k5, k103, h150, k159, k172, k180]
                subst hK187
                obtain rfl := Option.some.inj h
                exact eb_nil ⟨rfl, Wk.of (fun i => some i) _ _ _ (by simp -implicitDefEqProofs [kv, km, dd_HB, k5, k103, k159, k172, k180]) (by simp -implicitDefEqProofs [kv, km, dd_HB, k5, k103, k159, k172, k180])⟩
      · refine rb_false (by first | exact congrArg D.bool k103 | rfl) ?_
        refine rb_exit ?_
        refine eb_seq_e ?_
        obtain rfl := Option.some.inj h
        exact eb_nil ⟨rfl, Wk.of (fun i => some i) _ _ _ (by simp -implicitDefEqProofs [kv, km, dd_HB, k5, k103]) (by simp -implicitDefEqProofs [kv, km, dd_HB, k5, k103])⟩
    · rcases e11 with e11 | e11
      · try dsimp only at h ⊢
        refine eb_blk_r ?_
        refine eb_seq_r ?_
        obtain rfl := Option.some.inj h
        refine eb_nil ?_
        simp -implicitDefEqProofs only [vt, vm, ↓atI_fold, forall_const, implies_true, sevalprocAttr, retQ_r, Tryd.results79, dd_HB, k5] <;> first | rfl | (simp [List.map_append, dd_HB]; done)
      · try dsimp only at h ⊢
        refine eb_blk_hit ?_
        refine eb_seq ?_
        refine rb_seq ?_
        refine rb_regionK fun K190 hK190 => ?_
        simp -implicitDefEqProofs only [vt, vm, ↓atI_fold, forall_const, implies_true, sevalprocAttr, dd_HB, k5]
        subst hK190
        refine eb_seq ?_
        refine rb_ret ?_
        obtain rfl := Option.some.inj h
        refine eb_nil ?_
        simp -implicitDefEqProofs only [vt, vm, ↓atI_fold, forall_const, implies_true, sevalprocAttr, retQ_r, Tryd.results79, dd_HB, k5] <;> first | rfl | (simp [List.map_append, dd_HB]; done)
-- region.Default
def g_region_Default  : Option (T_api_Region) :=
  (some (T_api_Region.mk [] 11 4 0 32 2 true))
theorem a_region_Default (I : World → Prop) (hI : Stab I)  {r : T_api_Region} (h : g_region_Default  = some r) : AFun Tryd.prog I 51 [] (T_api_Region.d r) := by
  refine AFun.enterB hI Tryd.func51 rfl (by decide) (by simp [Tryd.f51]) (by kernel_rfl) ?_
  unfold g_region_Default at h
  simp only [S0, Tryd.ntmps51, dd_HB]
  refine rb_seq ?_
  refine rb_regionK fun K2 hK2 => ?_
  simp -implicitDefEqProofs only [vt, vm, ↓atI_fold, forall_const, implies_true, sevalprocAttr, dd_HB]
  subst hK2
  refine eb_seq ?_
  refine rb_seq ?_
  refine rb_regionK fun K4 hK4 => ?_
  simp -implicitDefEqProofs only [vt, vm, ↓atI_fold, forall_const, implies_true, sevalprocAttr, dd_HB]
  subst hK4
  refine eb_seq ?_
  refine rb_ret ?_
  obtain rfl := Option.some.inj h
  refine eb_nil ?_
  simp -implicitDefEqProofs only [vt, vm, ↓atI_fold, forall_const, implies_true, sevalprocAttr, retQ_r, Tryd.results51, dd_HB] <;> first | rfl | (simp [List.map_append, dd_HB]; done)
-- region.Find
def g_region_Find_s1 (l_0 : List T_api_Region) (name_1 : List UInt8) (x14 : Int) : Option (Nx (Int) (((List UInt8) × Int × Int × Int × Int × Int × Bool) ⊕ Unit)) :=
  (if (decide (x14 < (l_0.length : Int))) then ((atI l_0 x14).bind fun y89 => (if (y89.Name == name_1) then (some (.out (.inl (y89.Name, y89.Top, y89.Height, y89.Left, y89.Width, y89.Align, y89.Bottom)))) else (some (.go (IntKind.i64.wrap (x14 + 1)))))) else (some (.out (.inr ()))))
def g_region_Find (l_0 : List T_api_Region) (name_1 : List UInt8) : Option (T_api_Region × Bool) :=
  (if (name_1 == ([] : List UInt8)) then ((g_region_Default).bind fun r10 => (some (r10, true))) else ((iter (g_region_Find_s1 l_0 name_1) 0).bind fun e15 => (match e15 with | Sum.inl e15 => (some ((T_api_Region.mk e15.1 e15.2.1 e15.2.2.1 e15.2.2.2.1 e15.2.2.2.2.1 e15.2.2.2.2.2.1 e15.2.2.2.2.2.2), true)) | Sum.inr (e15) => (some ((T_api_Region.mk [] 0 0 0 0 0 false), false)))))
theorem a_region_Find (I : World → Prop) (hI : Stab I) (l_0 : List T_api_Region) (name_1 : List UInt8) {r : T_api_Region × Bool} (h : g_region_Find l_0 name_1 = some r) : AFun Tryd.prog I 111 [.sl (l_0.map T_api_Region.d), .str name_1] (.tup [T_api_Region.d r.1, .bool r.2]) := by
  refine AFun.enterB hI Tryd.func111 rfl (by decide) (by simp [Tryd.f111]) (by kernel_rfl) ?_
  unfold g_region_Find at h
  simp only [S0, Tryd.ntmps111, dd_HB]
  refine rb_seq ?_
  refine rb_regionK fun K2 hK2 => ?_
  simp -implicitDefEqProofs only [vt, vm, ↓atI_fold, forall_const, implies_true, sevalprocAttr, dd_HB]
  subst hK2
  refine eb_seq ?_
  refine rb_seq ?_
  refine rb_seq ?_
  refine rb_regionK fun K4 hK4 => ?_
  simp -implicitDefEqProofs only [vt, vm, ↓atI_fold, forall_const, implies_true, sevalprocAttr, dd_HB]
  subst hK4
  refine eb_seq ?_
  rcases ite_or h with ⟨k5, h⟩ | ⟨k5, h⟩
  · refine rb_true (by first | exact congrArg D.bool k5 | rfl) ?_
    refine rb_seq ?_
    refine rb_regionK fun K9 hK9 => ?_
    simp -implicitDefEqProofs only [vt, vm, ↓atI_fold, forall_const, implies_true, sevalprocAttr, dd_HB, k5]
    obtain ⟨r10, h11, h⟩ := bind_some h
    refine cW.intro (a_region_Default I hI h11) (by first | rfl | (simp [List.map_append, dd_HB]; done)) ?_
    simp -implicitDefEqProofs only [vt, vm, ↓atI_fold, forall_const, implies_true, sevalprocAttr, dd_HB, k5]
    subst hK9
    refine eb_seq ?_
    refine rb_ret ?_
    refine eb_seq_r ?_
    obtain rfl := Option.some.inj h
    refine eb_nil ?_
    simp -implicitDefEqProofs only [vt, vm, ↓atI_fold, forall_const, implies_true, sevalprocAttr, retQ_r, Tryd.results111, dd_HB, k5] <;> first | rfl | (simp [List.map_append, dd_HB]; done)
  · refine rb_false (by first | exact congrArg D.bool k5 | rfl) ?_
    refine rb_skip ?_
    refine eb_seq ?_
    refine rb_seq ?_
    refine rb_seq ?_
    refine rb_regionK fun K13 hK13 => ?_
    simp -implicitDefEqProofs only [vt, vm, ↓atI_fold, forall_const, implies_true, sevalprocAttr, dd_HB, k5]
    subst hK13
    refine eb_seq ?_
    refine rb_block ?_
    obtain ⟨e15, h97, h⟩ := bind_some h
    refine rb_loop (fun x14 => ⟨envL [(1, .str name_1), (4, .ptr 0 0), (11, .sl (l_0.map T_api_Region.d)), (12, .int .i64 (l_0.length : Int)), (13, .int .i64 x14)], heapL [(0, .box none [.str [], .int .i64 0, .int .i64 0, .int .i64 0, .int .i64 0, .int .u8 0, .bool false])], 1, 24⟩) (fun w => match w with | Sum.inl _ => .ret | Sum.inr (_) => .exit 0) (fun w => match w with | Sum.inl e15 => ⟨envL [(4, .ptr 0 0), (5, .bool true)], heapL [(0, .box none [.str e15.1, .int .i64 e15.2.1, .int .i64 e15.2.2.1, .int .i64 e15.2.2.2.1, .int .i64 e15.2.2.2.2.1, .int .u8 e15.2.2.2.2.2.1, .bool e15.2.2.2.2.2.2])], 1, 24⟩ | Sum.inr (e15) => ⟨envL [(4, .ptr 0 0)], heapL [(0, .box none [.str [], .int .i64 0, .int .i64 0, .int .i64 0, .int .i64 0, .int .u8 0, .bool false])], 1, 24⟩) h97 (Wk.of (fun i => if i = 0 then some 0 else some i) _ _ _ (by simp -implicitDefEqProofs [kv, km, dd_HB, k5]) (by simp -implicitDefEqProofs [kv, km, dd_HB, k5])) (by intro w; rcases w with w | w <;> simp) ?_ ?_
    · clear h
      intro x14 y h
      unfold g_region_Find_s1 at h
      refine rb_seq ?_
      refine rb_regionK fun K71 hK71 => ?_
      simp -implicitDefEqProofs only [vt, vm, ↓atI_fold, forall_const, implies_true, sevalprocAttr, dd_HB, k5]
      subst hK71
      refine eb_seq ?_
      refine rb_seq ?_
      rcases ite_or h with ⟨k73, h⟩ | ⟨k73, h⟩
      · refine rb_true (by first | exact congrArg D.bool k73 | rfl) ?_
        refine rb_skip ?_
        refine eb_seq ?_
        refine rb_seq ?_
        refine rb_block ?_
        refine rb_seq ?_
        refine rb_regionK fun K88 hK88 => ?_
        simp -implicitDefEqProofs only [vt, vm, ↓atI_fold, forall_const, implies_true, sevalprocAttr, dd_HB, k5, k73]
        obtain ⟨y89, h90, h⟩ := bind_some h
        simp -implicitDefEqProofs only [vt, vm, ↓atI_fold, forall_const, implies_true, sevalprocAttr, dd_HB, k5, k73, h90]
        subst hK88
        refine eb_seq ?_
        refine rb_seq ?_
        refine rb_regionK fun K92 hK92 => ?_
        simp -implicitDefEqProofs only [vt, vm, ↓atI_fold, forall_const, implies_true, sevalprocAttr, dd_HB, k5, k73, h90]
        subst hK92
        refine eb_seq ?_
        rcases ite_or h with ⟨k93, h⟩ | ⟨k93, h⟩
        · refine rb_true (by first | exact congrArg D.bool k93 | rfl) ?_
          refine rb_seq ?_
          refine rb_regionK fun K95 hK95 => ?_
          simp -implicitDefEqProofs only [vt, vm, ↓atI_fold, forall_const, implies_true, sevalprocAttr, dd_HB, k5, k73, h90, k93]
          subst hK95
          refine eb_seq ?_
          refine rb_ret ?_
          refine eb_blk_r ?_
          refine eb_seq_r ?_
          obtain rfl := Option.some.inj h
          exact eb_nil ⟨rfl, Wk.of (fun i => if i = 0 then some 0 else some i) _ _ _ (by simp -implicitDefEqProofs [kv, km, dd_HB, k5, k73, k93]) (by simp -implicitDefEqProofs [kv, km, dd_HB, k5, k73, k93])⟩
        · refine rb_false (by first | exact congrArg D.bool k93 | rfl) ?_
          refine rb_skip ?_
          refine eb_blk_n ?_
          refine eb_seq ?_
          refine rb_regionK fun K96 hK96 => ?_
          simp -implicitDefEqProofs only [vt, vm, ↓atI_fold, forall_const, implies_true, sevalprocAttr, dd_HB, k5, k73, h90, k93]
          subst hK96
          obtain rfl := Option.some.inj h
          exact eb_nil ⟨rfl, Wk.of (fun i => if i = 0 then some 0 else some i) _ _ _ (by simp -implicitDefEqProofs [kv, km, dd_HB, k5, k73, k93]) (by simp -implicitDefEqProofs [kv, km, dd_HB, k5, k73, k93])⟩
      · refine rb_false (by first | exact congrArg D.bool k73 | rfl) ?_
        refine rb_exit ?_
        refine eb_seq_e ?_
        obtain rfl := Option.some.inj h
        exact eb_nil ⟨rfl, Wk.of (fun i => if i = 0 then some 0 else some i) _ _ _ (by simp -implicitDefEqProofs [kv, km, dd_HB, k5, k73]) (by simp -implicitDefEqProofs [kv, km, dd_HB, k5, k73])⟩
    · rcases e15 with e15 | e15
      · try dsimp only at h ⊢
        refine eb_blk_r ?_
        refine eb_seq_r ?_
        obtain rfl := Option.some.inj h
        refine eb_nil ?_
        simp -implicitDefEqProofs only [vt, vm, ↓atI_fold, forall_const, implies_true, sevalprocAttr, retQ_r, Tryd.results111, dd_HB, k5] <;> first | rfl | (simp [List.map_append, dd_HB]; done)
      · try dsimp only at h ⊢
        refine eb_blk_hit ?_
        refine eb_seq ?_
        refine rb_seq ?_
        refine rb_regionK fun K99 hK99 => ?_
        simp -implicitDefEqProofs only [vt, vm, ↓atI_fold, forall_const, implies_true, sevalprocAttr, dd_HB, k5]
        subst hK99
        refine eb_seq ?_
        refine rb_ret ?_
        obtain rfl := Option.some.inj h
        refine eb_nil ?_
        simp -implicitDefEqProofs only [vt, vm, ↓atI_fold, forall_const, implies_true, sevalprocAttr, retQ_r, Tryd.results111, dd_HB, k5] <;> first | rfl | (simp [List.map_append, dd_HB]; done)
-- region.usable
def g_region_usable (r_0 : T_api_Region) : Option (Bool) :=
  ((g_region_Default).bind fun r10 => (if ((r_0.Name == r10.Name) && ((r_0.Top == r10.Top) && ((r_0.Height == r10.Height) && ((r_0.Left == r10.Left) && ((r_0.Width == r10.Width) && ((r_0.Align == r10.Align) && (r_0.Bottom == r10.Bottom))))))) then (some true) else ((g_region_Check r_0).bind fun r13 => (some (r13 == 0)))))
theorem a_region_usable (I : World → Prop) (hI : Stab I) (r_0 : T_api_Region) {r : Bool} (h : g_region_usable r_0 = some r) : AFun Tryd.prog I 90 [T_api_Region.d r_0] (.bool r) := by
  refine AFun.enterB hI Tryd.func90 rfl (by decide) (by simp [Tryd.f90]) (by kernel_rfl) ?_
  unfold g_region_usable at h
  simp only [S0, Tryd.ntmps90, dd_HB]
  refine rb_seq ?_
  refine rb_regionK fun K2 hK2 => ?_
  simp -implicitDefEqProofs only [vt, vm, ↓atI_fold, forall_const, implies_true, sevalprocAttr, dd_HB]
  subst hK2
  refine eb_seq ?_
  refine rb_seq ?_
  refine rb_drawK hI (by kernel_rfl) (by kernel_rfl) fun K9 hK9 => ?_
  simp -implicitDefEqProofs only [vt, vm, ↓atI_fold, forall_const, implies_true, sevalprocAttr, dd_HB]
  obtain ⟨r10, h11, h⟩ := bind_some h
  refine cD'.intro (a_region_Default I hI h11) (by first | rfl | (simp [List.map_append, dd_HB]; done)) (by kernel_rfl) ?_
  simp -implicitDefEqProofs only [vt, vm, ↓atI_fold, forall_const, implies_true, sevalprocAttr, dd_HB]
  rcases ite_or h with ⟨k12, h⟩ | ⟨k12, h⟩
  · simp -implicitDefEqProofs only [vt, vm, ↓atI_fold, forall_const, implies_true, sevalprocAttr, dd_HB, k12]
    subst hK9
    refine eb_seq ?_
    refine rb_ret ?_
    obtain rfl := Option.some.inj h
    refine eb_nil ?_
    simp -implicitDefEqProofs only [vt, vm, ↓atI_fold, forall_const, implies_true, sevalprocAttr, retQ_r, Tryd.results90, dd_HB, k12] <;> first | rfl | (simp [List.map_append, dd_HB]; done)
  · simp -implicitDefEqProofs only [vt, vm, ↓atI_fold, forall_const, implies_true, sevalprocAttr, dd_HB, k12]
    obtain ⟨r13, h14, h⟩ := bind_some h
    refine cD'.intro (a_region_Check I hI r_0 h14) (by first | rfl | (simp [List.map_append, dd_HB]; done)) (by kernel_rfl) ?_
    simp -implicitDefEqProofs only [vt, vm, ↓atI_fold, forall_const, implies_true, sevalprocAttr, dd_HB, k12]
    subst hK9
    refine eb_seq ?_
    refine rb_ret ?_
    obtain rfl := Option.some.inj h
    refine eb_nil ?_
    simp -implicitDefEqProofs only [vt, vm, ↓atI_fold, forall_const, implies_true, sevalprocAttr, retQ_r, Tryd.results90, dd_HB, k12] <;> first | rfl | (simp [List.map_append, dd_HB]; done)
-- region.Place
def g_region_Place_s1 (r_0 : T_api_Region) (lens_1 : List Int) (x39 : (List T_api_Spot) × Int) : Option (Nx ((List T_api_Spot) × Int) (Int ⊕ ((List T_api_Spot)))) :=
  (if (decide (x39.2 < (lens_1.length : Int))) then ((atI lens_1 x39.2).bind fun y309 => (if (decide (y309 < 0)) then (some (.out (.inl 2))) else (if (decide (r_0.Width < y309)) then (some (.out (.inl 11))) else (if (r_0.Align == 3) then (if (x39.1.length + 1) * 24 ≤ 140737488355328 then (some (.go ((x39.1 ++ [(T_api_Spot.mk (IntKind.i64.wrap ((IntKind.i64.wrap (r_0.Top + (IntKind.i64.wrap (r_0.Height - (lens_1.length : Int))))) + x39.2)) (IntKind.i64.wrap (r_0.Left + (IntKind.i64.wrap (r_0.Width - y309)))) y309)]), (IntKind.i64.wrap (x39.2 + 1))))) else none) else (if (r_0.Align == 2) then (if (x39.1.length + 1) * 24 ≤ 140737488355328 then (some (.go ((x39.1 ++ [(T_api_Spot.mk (IntKind.i64.wrap ((IntKind.i64.wrap (r_0.Top + (IntKind.i64.wrap (r_0.Height - (lens_1.length : Int))))) + x39.2)) (IntKind.i64.wrap (r_0.Left + (IntKind.i64.wrap (Int.tdiv (IntKind.i64.wrap (r_0.Width - y309)) 2)))) y309)]), (IntKind.i64.wrap (x39.2 + 1))))) else none) else (if (x39.1.length + 1) * 24 ≤ 140737488355328 then (some (.go ((x39.1 ++ [(T_api_Spot.mk (IntKind.i64.wrap ((IntKind.i64.wrap (r_0.Top + (IntKind.i64.wrap (r_0.Height - (lens_1.length : Int))))) + x39.2)) r_0.Left y309)]), (IntKind.i64.wrap (x39.2 + 1))))) else none)))))) else (some (.out (.inr x39.1))))
def g_region_Place_s2 (r_0 : T_api_Region) (lens_1 : List Int) (x352 : (List T_api_Spot) × Int) : Option (Nx ((List T_api_Spot) × Int) (Int ⊕ ((List T_api_Spot)))) :=
  (if (decide (x352.2 < (lens_1.length : Int))) then ((atI lens_1 x352.2).bind fun y622 => (if (decide (y622 < 0)) then (some (.out (.inl 2))) else (if (decide (r_0.Width < y622)) then (some (.out (.inl 11))) else (if (r_0.Align == 3) then (if (x352.1.length + 1) * 24 ≤ 140737488355328 then (some (.go ((x352.1 ++ [(T_api_Spot.mk (IntKind.i64.wrap (r_0.Top + x352.2)) (IntKind.i64.wrap (r_0.Left + (IntKind.i64.wrap (r_0.Width - y622)))) y622)]), (IntKind.i64.wrap (x352.2 + 1))))) else none) else (if (r_0.Align == 2) then (if (x352.1.length + 1) * 24 ≤ 140737488355328 then (some (.go ((x352.1 ++ [(T_api_Spot.mk (IntKind.i64.wrap (r_0.Top + x352.2)) (IntKind.i64.wrap (r_0.Left + (IntKind.i64.wrap (Int.tdiv (IntKind.i64.wrap (r_0.Width - y622)) 2)))) y622)]), (IntKind.i64.wrap (x352.2 + 1))))) else none) else (if (x352.1.length + 1) * 24 ≤ 140737488355328 then (some (.go ((x352.1 ++ [(T_api_Spot.mk (IntKind.i64.wrap (r_0.Top + x352.2)) r_0.Left y622)]), (IntKind.i64.wrap (x352.2 + 1))))) else none)))))) else (some (.out (.inr x352.1))))
def g_region_Place (r_0 : T_api_Region) (lens_1 : List Int) : Option ((List T_api_Spot) × Int) :=
  ((g_region_usable r_0).bind fun r21 => (if r21 then (if (decide (r_0.Height < (lens_1.length : Int))) then (some ([], 9)) else (if r_0.Bottom then ((iter (g_region_Place_s1 r_0 lens_1) ([], 0)).bind fun e40 => (match e40 with | Sum.inl e40 => (some ([], e40)) | Sum.inr (e40) => (some (e40, 0)))) else ((iter (g_region_Place_s2 r_0 lens_1) ([], 0)).bind fun e353 => (match e353 with | Sum.inl e353 => (some ([], e353)) | Sum.inr (e353) => (some (e353, 0)))))) else (some ([], 1))))
theorem a_region_Place (I : World → Prop) (hI : Stab I) (r_0 : T_api_Region) (lens_1 : List Int) {r : (List T_api_Spot) × Int} (h : g_region_Place r_0 lens_1 = some r) : AFun Tryd.prog I 50 [T_api_Region.d r_0, .sl (lens_1.map (D.int .i64))] (.tup [.sl (r.1.map T_api_Spot.d), .int .i64 r.2]) := by
  refine AFun.enterB hI Tryd.func50 rfl (by decide) (by simp [Tryd.f50]) (by kernel_rfl) ?_
  unfold g_region_Place at h
  simp only [S0, Tryd.ntmps50, dd_HB]
  refine rb_seq ?_
  refine rb_regionK fun K2 hK2 => ?_
  simp -implicitDefEqProofs only [vt, vm, ↓atI_fold, forall_const, implies_true, sevalprocAttr, dd_HB]
  subst hK2
  refine eb_seq ?_
  refine rb_seq ?_
  refine rb_block ?_
  refine rb_seq ?_
  refine rb_regionK fun K20 hK20 => ?_
  simp -implicitDefEqProofs only [vt, vm, ↓atI_fold, forall_const, implies_true, sevalprocAttr, dd_HB]
  obtain ⟨r21, h22, h⟩ := bind_some h
  refine cW.intro (a_region_usable I hI r_0 h22) (by first | rfl | (simp [List.map_append, dd_HB]; done)) ?_
  simp -implicitDefEqProofs only [vt, vm, ↓atI_fold, forall_const, implies_true, sevalprocAttr, dd_HB]
  subst hK20
  refine eb_seq ?_
  rcases ite_or h with ⟨k23, h⟩ | ⟨k23, h⟩
  · refine rb_false (by first | exact congrArg D.bool (congrArg Bool.not k23) | rfl) ?_
    refine rb_seq ?_
    refine rb_regionK fun K25 hK25 => ?_
    simp -implicitDefEqProofs only [vt, vm, ↓atI_fold, forall_const, implies_true, sevalprocAttr, dd_HB, k23]
    subst hK25
    refine eb_seq ?_
    rcases ite_or h with ⟨k26, h⟩ | ⟨k26, h⟩
    · refine rb_true (by first | exact congrArg D.bool k26 | rfl) ?_
      refine rb_seq ?_
      refine rb_regionK fun K28 hK28 => ?_
      simp -implicitDefEqProofs only [vt, vm, ↓atI_fold, forall_const, implies_true, sevalprocAttr, dd_HB, k23, k26]
      subst hK28
      refine eb_seq ?_
      refine rb_ret ?_
      refine eb_blk_r ?_
      refine eb_seq_r ?_
      obtain rfl := Option.some.inj h
      refine eb_nil ?_
      simp -implicitDefEqProofs only [vt, vm, ↓atI_fold, forall_const, implies_true, sevalprocAttr, retQ_r, Tryd.results50, dd_HB, k23, k26] <;> first | rfl | (simp [List.map_append, dd_HB]; done)
    · refine rb_false (by first | exact congrArg D.bool k26 | rfl) ?_
      refine rb_skip ?_
      refine eb_blk_n ?_
      refine eb_seq ?_
      refine rb_seq ?_
      refine rb_regionK fun K30 hK30 => ?_
      simp -implicitDefEqProofs only [vt, vm, ↓atI_fold, forall_const, implies_true, sevalprocAttr, dd_HB, k23, k26]
      subst hK30
      refine eb_seq ?_
      refine rb_seq ?_
      refine rb_seq ?_
      refine rb_regionK fun K32 hK32 => ?_
      simp -implicitDefEqProofs only [vt, vm, ↓atI_fold, forall_const, implies_true, sevalprocAttr, dd_HB, k23, k26]
      subst hK32
      refine eb_seq ?_
      rcases ite_or h with ⟨k33, h⟩ | ⟨k33, h⟩
      · refine rb_true (by first | exact congrArg D.bool k33 | rfl) ?_
        refine rb_regionK fun K34 hK34 => ?_
        simp -implicitDefEqProofs only [vt, vm, ↓atI_fold, forall_const, implies_true, sevalprocAttr, dd_HB, k23, k26, k33]
        subst hK34
        refine eb_seq ?_
        refine rb_seq ?_
        refine rb_regionK fun K36 hK36 => ?_
        simp -implicitDefEqProofs only [vt, vm, ↓atI_fold, forall_const, implies_true, sevalprocAttr, dd_HB, k23, k26, k33]
        subst hK36
        refine eb_seq ?_
        refine rb_seq ?_
        refine rb_seq ?_
        refine rb_regionK fun K38 hK38 => ?_
        simp -implicitDefEqProofs only [vt, vm, ↓atI_fold, forall_const, implies_true, sevalprocAttr, dd_HB, k23, k26, k33]
        subst hK38
        refine eb_seq ?_
        refine rb_block ?_
        obtain ⟨e40, h345, h⟩ := bind_some h
        refine rb_loop (fun x39 => ⟨envL [(2, .ptr 0 0), (6, .int .i64 (IntKind.i64.wrap (r_0.Top + (IntKind.i64.wrap (r_0.Height - (lens_1.length : Int)))))), (7, .own 1 x39.1.length), (32, .sl (lens_1.map (D.int .i64))), (33, .int .i64 (lens_1.length : Int)), (34, .int .i64 x39.2)], heapL [(0, .box none [.str r_0.Name, .int .i64 r_0.Top, .int .i64 r_0.Height, .int .i64 r_0.Left, .int .i64 r_0.Width, .int .u8 r_0.Align, .bool r_0.Bottom]), (1, .vec 99 3 (x39.1.map T_api_Spot.d) false)], 2, 81⟩) (fun w => match w with | Sum.inl _ => .ret | Sum.inr (_) => .exit 1) (fun w => match w with | Sum.inl e40 => ⟨envL [(4, .nils), (5, .int .i64 e40)], heapL [], 0, 81⟩ | Sum.inr (e40) => ⟨envL [(7, .own 0 e40.length)], heapL [(0, .vec 99 3 (e40.map T_api_Spot.d) false)], 1, 81⟩) h345 (Wk.of (fun i => if i = 1 then none else if i = 0 then some 0 else some i) _ _ _ (by simp -implicitDefEqProofs [kv, km, dd_HB, k23, k26, k33]) (by simp -implicitDefEqProofs [kv, km, dd_HB, k23, k26, k33])) (by intro w; rcases w with w | w <;> simp) ?_ ?_
        · clear h
          intro x39 y h
          unfold g_region_Place_s1 at h
          refine rb_seq ?_
          refine rb_regionK fun K265 hK265 => ?_
          simp -implicitDefEqProofs only [vt, vm, ↓atI_fold, forall_const, implies_true, sevalprocAttr, dd_HB, k23, k26, k33]
          subst hK265
          refine eb_seq ?_
          refine rb_seq ?_
          rcases ite_or h with ⟨k267, h⟩ | ⟨k267, h⟩
          · refine rb_true (by first | exact congrArg D.bool k267 | rfl) ?_
            refine rb_skip ?_
            refine eb_seq ?_
            refine rb_seq ?_
            refine rb_block ?_
            refine rb_seq ?_
            refine rb_regionK fun K308 hK308 => ?_
            simp -implicitDefEqProofs only [vt, vm, ↓atI_fold, forall_const, implies_true, sevalprocAttr, dd_HB, k23, k26, k33, k267]
            obtain ⟨y309, h310, h⟩ := bind_some h
            simp -implicitDefEqProofs only [vt, vm, ↓atI_fold, forall_const, implies_true, sevalprocAttr, dd_HB, k23, k26, k33, k267, h310]
            subst hK308
            refine eb_seq ?_
            refine rb_seq ?_
            refine rb_seq ?_
            refine rb_regionK fun K312 hK312 => ?_
            simp -implicitDefEqProofs only [vt, vm, ↓atI_fold, forall_const, implies_true, sevalprocAttr, dd_HB, k23, k26, k33, k267, h310]
            subst hK312
            refine eb_seq ?_
            rcases ite_or h with ⟨k313, h⟩ | ⟨k313, h⟩
            · refine rb_true (by first | exact congrArg D.bool k313 | rfl) ?_
              refine rb_seq ?_
              refine rb_regionK fun K315 hK315 => ?_
              simp -implicitDefEqProofs only [vt, vm, ↓atI_fold, forall_const, implies_true, sevalprocAttr, dd_HB, k23, k26, k33, k267, h310, k313]
              subst hK315
              refine eb_seq ?_
              refine rb_ret ?_
              refine eb_seq_r ?_
              refine eb_blk_r ?_
              refine eb_seq_r ?_
              obtain rfl := Option.some.inj h
              exact eb_nil ⟨rfl, Wk.of (fun i => some i) _ _ _ (by simp -implicitDefEqProofs [kv, km, dd_HB, k23, k26, k33, k267, k313]) (by simp -implicitDefEqProofs [kv, km, dd_HB, k23, k26, k33, k267, k313])⟩
            · refine rb_false (by first | exact congrArg D.bool k313 | rfl) ?_
              refine rb_skip ?_
              refine eb_seq ?_
              refine rb_seq ?_
              refine rb_seq ?_
              refine rb_regionK fun K317 hK317 => ?_
              simp -implicitDefEqProofs only [vt, vm, ↓atI_fold, forall_const, implies_true, sevalprocAttr, dd_HB, k23, k26, k33, k267, h310, k313]
              subst hK317
              refine eb_seq ?_
              rcases ite_or h with ⟨k318, h⟩ | ⟨k318, h⟩
              · refine rb_true (by first | exact congrArg D.bool k318 | rfl) ?_
                refine rb_seq ?_
                refine rb_regionK fun K320 hK320 => ?_
                simp -implicitDefEqProofs only [vt, vm, ↓atI_fold, forall_const, implies_true, sevalprocAttr, dd_HB, k23, k26, k33, k267, h310, k313, k318]
                subst hK320
                refine eb_seq ?_
                refine rb_ret ?_
                refine eb_seq_r ?_
                refine eb_blk_r ?_
                refine eb_seq_r ?_
                obtain rfl := Option.some.inj h
                exact eb_nil ⟨rfl, Wk.of (fun i => some i) _ _ _ (by simp -implicitDefEqProofs [kv, km, dd_HB, k23, k26, k33, k267, k313, k318]) (by simp -implicitDefEqProofs [kv, km, dd_HB, k23, k26, k33, k267, k313, k318])⟩
              · refine rb_false (by first | exact congrArg D.bool k318 | rfl) ?_
                refine rb_skip ?_
                refine eb_seq ?_
                refine rb_seq ?_
                refine rb_regionK fun K322 hK322 => ?_
                simp -implicitDefEqProofs only [vt, vm, ↓atI_fold, forall_const, implies_true, sevalprocAttr, dd_HB, k23, k26, k33, k267, h310, k313, k318]
                subst hK322
                refine eb_seq ?_
                refine rb_seq ?_
                refine rb_seq ?_
                refine rb_regionK fun K324 hK324 => ?_
                simp -implicitDefEqProofs only [vt, vm, ↓atI_fold, forall_const, implies_true, sevalprocAttr, dd_HB, k23, k26, k33, k267, h310, k313, k318]
                subst hK324
                refine eb_seq ?_
                refine rb_block ?_
                refine rb_seq ?_
                refine rb_regionK fun K326 hK326 => ?_
                simp -implicitDefEqProofs only [vt, vm, ↓atI_fold, forall_const, implies_true, sevalprocAttr, dd_HB, k23, k26, k33, k267, h310, k313, k318]
                subst hK326
                refine eb_seq ?_
                rcases ite_or h with ⟨k327, h⟩ | ⟨k327, h⟩
                · refine rb_true (by first | exact congrArg D.bool k327 | rfl) ?_
                  refine rb_regionK fun K328 hK328 => ?_
                  simp -implicitDefEqProofs only [vt, vm, ↓atI_fold, forall_const, implies_true, sevalprocAttr, dd_HB, k23, k26, k33, k267, h310, k313, k318, k327]
                  subst hK328
                  refine eb_blk_n ?_
                  refine eb_seq ?_
                  refine rb_regionK fun K329 hK329 => ?_
                  simp -implicitDefEqProofs only [vt, vm, ↓atI_fold, forall_const, implies_true, sevalprocAttr, dd_HB, k23, k26, k33, k267, h310, k313, k318, k327]
                  obtain ⟨h330, h⟩ := ite_on h
                  have h331 : x39.1.length + 1 ≤ 9223372036854775807 := by omega
                  try simp only [Nat.reduceLeDiff] at h331
                  simp -implicitDefEqProofs only [vt, vm, ↓atI_fold, forall_const, implies_true, sevalprocAttr, dd_HB, k23, k26, k33, k267, h310, k313, k318, k327, h331, h330]
                  subst hK329
                  refine eb_blk_n ?_
                  refine eb_seq ?_
                  refine rb_regionK fun K332 hK332 => ?_
                  simp -implicitDefEqProofs only [vt, vm, ↓atI_fold, forall_const, implies_true, sevalprocAttr, dd_HB, k23, k26, k33, k267, h310, k313, k318, k327, h331, h330]
                  subst hK332
                  obtain rfl := Option.some.inj h
                  exact eb_nil ⟨rfl, Wk.of (fun i => if i = 1 then some 39 else if i = 0 then some 0 else some i) _ _ _ (by simp -implicitDefEqProofs [kv, km, dd_HB, k23, k26, k33, k267, k313, k318, k327]) (by simp -implicitDefEqProofs [kv, km, dd_HB, k23, k26, k33, k267, k313, k318, k327])⟩
                · refine rb_false (by first | exact congrArg D.bool k327 | rfl) ?_
                  refine rb_seq ?_
                  refine rb_regionK fun K334 hK334 => ?_
                  simp -implicitDefEqProofs only [vt, vm, ↓atI_fold, forall_const, implies_true, sevalprocAttr, dd_HB, k23, k26, k33, k267, h310, k313, k318, k327]
                  subst hK334
                  refine eb_seq ?_
                  rcases ite_or h with ⟨k335, h⟩ | ⟨k335, h⟩
                  · refine rb_true (by first | exact congrArg D.bool k335 | rfl) ?_
                    refine rb_regionK fun K336 hK336 => ?_
                    simp -implicitDefEqProofs only [vt, vm, ↓atI_fold, forall_const, implies_true, sevalprocAttr, dd_HB, k23, k26, k33, k267, h310, k313, k318, k327, k335]
                    subst hK336
                    refine eb_blk_n ?_
                    refine eb_seq ?_
                    refine rb_regionK fun K337 hK337 => ?_
                    simp -implicitDefEqProofs only [vt, vm, ↓atI_fold, forall_const, implies_true, sevalprocAttr, dd_HB, k23, k26, k33, k267, h310, k313, k318, k327, k335]
                    obtain ⟨h338, h⟩ := ite_on h
                    have h339 : x39.1.length + 1 ≤ 9223372036854775807 := by omega
                    try simp only [Nat.reduceLeDiff] at h339
                    simp -implicitDefEqProofs only [vt, vm, ↓atI_fold, forall_const, implies_true, sevalprocAttr, dd_HB, k23, k26, k33, k267, h310, k313, k318, k327, k335, h339, h338]
                    subst hK337
                    refine eb_blk_n ?_
                    refine eb_seq ?_
                    refine rb_regionK fun K340 hK340 => ?_
                    simp -implicitDefEqProofs only [vt, vm, ↓atI_fold, forall_const, implies_true, sevalprocAttr, dd_HB, k23, k26, k33, k267, h310, k313, k318, k327, k335, h339, h338]
                    subst hK340
                    obtain rfl := Option.some.inj h
                    exact eb_nil ⟨rfl, Wk.of (fun i => if i = 1 then some 42 else if i = 0 then some 0 else some i) _ _ _ (by simp -implicitDefEqProofs [kv, km, dd_HB, k23, k26, k33, k267, k313, k318, k327, k335]) (by simp -implicitDefEqProofs [kv, km, dd_HB, k23, k26, k33, k267, k313, k318, k327, k335])⟩
                  · refine rb_false (by first | exact congrArg D.bool k335 | rfl) ?_
                    refine rb_skip ?_
                    refine eb_blk_n ?_
                    refine eb_seq ?_
                    refine rb_regionK fun K341 hK341 => ?_
                    simp -implicitDefEqProofs only [vt, vm, ↓atI_fold, forall_const, implies_true, sevalprocAttr, dd_HB, k23, k26, k33, k267, h310, k313, k318, k327, k335]
                    obtain ⟨h342, h⟩ := ite_on h
                    have h343 : x39.1.length + 1 ≤ 9223372036854775807 := by omega
                    try simp only [Nat.reduceLeDiff] at h343
                    simp -implicitDefEqProofs only [vt, vm, ↓atI_fold, forall_const, implies_true, sevalprocAttr, dd_HB, k23, k26, k33, k267, h310, k313, k318, k327, k335, h343, h342]
                    subst hK341
                    refine eb_blk_n ?_
                    refine eb_seq ?_
                    refine rb_regionK fun K344 hK344 => ?_
                    simp -implicitDefEqProofs only [vt, vm, ↓atI_fold, forall_const, implies_true, sevalprocAttr, dd_HB, k23, k26, k33, k267, h310, k313, k318, k327, k335, h343, h342]
                    subst hK344
                    obtain rfl := Option.some.inj h
                    exact eb_nil ⟨rfl, Wk.of (fun i => if i = 1 then some 32 else if i = 0 then some 0 else some i) _ _ _ (by simp -implicitDefEqProofs [kv, km, dd_HB, k23, k26, k33, k267, k313, k318, k327, k335]) (by simp -implicitDefEqProofs [kv, km, dd_HB, k23, k26, k33, k267, k313, k318, k327, k335])⟩
          · refine rb_false (by first | exact congrArg D.bool k267 | rfl) ?_
            refine rb_exit ?_
            refine eb_seq_e ?_
            obtain rfl := Option.some.inj h
            exact eb_nil ⟨rfl, Wk.of (fun i => if i = 0 then some 1 else some i) _ _ _ (by simp -implicitDefEqProofs [kv, km, dd_HB, k23, k26, k33, k267]) (by simp -implicitDefEqProofs [kv, km, dd_HB, k23, k26, k33, k267])⟩
        · rcases e40 with e40 | e40
          · try dsimp only at h ⊢
            refine eb_blk_r ?_
            refine eb_seq_r ?_
            obtain rfl := Option.some.inj h
            refine eb_nil ?_
            simp -implicitDefEqProofs only [vt, vm, ↓atI_fold, forall_const, implies_true, sevalprocAttr, retQ_r, Tryd.results50, dd_HB, k23, k26, k33] <;> first | rfl | (simp [List.map_append, dd_HB]; done)
          · try dsimp only at h ⊢
            refine eb_blk_hit ?_
            refine eb_seq ?_
            refine rb_seq ?_
            refine rb_regionK fun K347 hK347 => ?_
            simp -implicitDefEqProofs only [vt, vm, ↓atI_fold, forall_const, implies_true, sevalprocAttr, dd_HB, k23, k26, k33]
            subst hK347
            refine eb_seq ?_
            refine rb_ret ?_
            obtain rfl := Option.some.inj h
            refine eb_nil ?_
            simp -implicitDefEqProofs only [vt, vm, ↓atI_fold, forall_const, implies_true, sevalprocAttr, retQ_r, Tryd.results50, dd_HB, k23, k26, k33] <;> first | rfl | (simp [List.map_append, dd_HB]; done)
      · refine rb_false (by first | exact congrArg D.bool k33 | rfl) ?_
        refine rb_skip ?_
        refine eb_seq ?_
        refine rb_seq ?_
        refine rb_regionK fun K349 hK349 => ?_
        simp -implicitDefEqProofs only [vt, vm, ↓atI_fold, forall_const, implies_true, sevalprocAttr, dd_HB, k23, k26, k33]
        subst hK349
        refine eb_seq ?_
        refine rb_seq ?_
        refine rb_seq ?_
        refine rb_regionK fun K351 hK351 => ?_
        simp -implicitDefEqProofs only [vt, vm, ↓atI_fold, forall_const, implies_true, sevalprocAttr, dd_HB, k23, k26, k33]
        subst hK351
        refine eb_seq ?_
        refine rb_block ?_
        obtain ⟨e353, h658, h⟩ := bind_some h
        refine rb_loop (fun x352 => ⟨envL [(2, .ptr 0 0), (6, .int .i64 r_0.Top), (7, .own 1 x352.1.length), (32, .sl (lens_1.map (D.int .i64))), (33, .int .i64 (lens_1.length : Int)), (34, .int .i64 x352.2)], heapL [(0, .box none [.str r_0.Name, .int .i64 r_0.Top, .int .i64 r_0.Height, .int .i64 r_0.Left, .int .i64 r_0.Width, .int .u8 r_0.Align, .bool r_0.Bottom]), (1, .vec 99 3 (x352.1.map T_api_Spot.d) false)], 2, 81⟩) (fun w => match w with | Sum.inl _ => .ret | Sum.inr (_) => .exit 1) (fun w => match w with | Sum.inl e353 => ⟨envL [(4, .nils), (5, .int .i64 e353)], heapL [], 0, 81⟩ | Sum.inr (e353) => ⟨envL [(7, .own 0 e353.length)], heapL [(0, .vec 99 3 (e353.map T_api_Spot.d) false)], 1, 81⟩) h658 (Wk.of (fun i => if i = 1 then none else if i = 0 then some 0 else some i) _ _ _ (by simp -implicitDefEqProofs [kv, km, dd_HB, k23, k26, k33]) (by simp -implicitDefEqProofs [kv, km, dd_HB, k23, k26, k33])) (by intro w; rcases w with w | w <;> simp) ?_ ?_
        · clear h
          intro x352 y h
          unfold g_region_Place_s2 at h
          refine rb_seq ?_
          refine rb_regionK fun K578 hK578 => ?_
          simp -implicitDefEqProofs only [vt, vm, ↓atI_fold, forall_const, implies_true, sevalprocAttr, dd_HB, k23, k26, k33]
          subst hK578
          refine eb_seq ?_
          refine rb_seq ?_
          rcases ite_or h with ⟨k580, h⟩ | ⟨k580, h⟩
          · refine rb_true (by first | exact congrArg D.bool k580 | rfl) ?_
            refine rb_skip ?_
            refine eb_seq ?_
            refine rb_seq ?_
            refine rb_block ?_
            refine rb_seq ?_
            refine rb_regionK fun K621 hK621 => ?_
            simp -implicitDefEqProofs only [vt, vm, ↓atI_fold, forall_const, implies_true, sevalprocAttr, dd_HB, k23, k26, k33, k580]
            obtain ⟨y622, h623, h⟩ := bind_some h
            simp -implicitDefEqProofs only [vt, vm, ↓atI_fold, forall_const, implies_true, sevalprocAttr, dd_HB, k23, k26, k33, k580, h623]
            subst hK621
            refine eb_seq ?_
            refine rb_seq ?_
            refine rb_seq ?_
            refine rb_regionK fun K625 hK625 => ?_
            simp -implicitDefEqProofs only [vt, vm, ↓atI_fold, forall_const, implies_true, sevalprocAttr, dd_HB, k23, k26, k33, k580, h623]
            subst hK625
            refine eb_seq ?_
            rcases ite_or h with ⟨k626, h⟩ | ⟨k626, h⟩
            · refine rb_true (by first | exact congrArg D.bool k626 | rfl) ?_
              refine rb_seq ?_
              refine rb_regionK fun K628 hK628 => ?_
              simp -implicitDefEqProofs only [vt, vm, ↓atI_fold, forall_const, implies_true, sevalprocAttr, dd_HB, k23, k26, k33, k580, h623, k626]
              subst hK628
              refine eb_seq ?_
              refine rb_ret ?_
              refine eb_seq_r ?_
              refine eb_blk_r ?_
              refine eb_seq_r ?_
              obtain rfl := Option.some.inj h
              exact eb_nil ⟨rfl, Wk.of (fun i => some i) _ _ _ (by simp -implicitDefEqProofs [kv, km, dd_HB, k23, k26, k33, k580, k626]) (by simp -implicitDefEqProofs [kv, km, dd_HB, k23, k26, k33, k580, k626])⟩
            · refine rb_false (by first | exact congrArg D.bool k626 | rfl) ?_
              refine rb_skip ?_
              refine eb_seq ?_
              refine rb_seq ?_
              refine rb_seq ?_
              refine rb_regionK fun K630 hK630 => ?_
              simp -implicitDefEqProofs only [vt, vm, ↓atI_fold, forall_const, implies_true, sevalprocAttr, dd_HB, k23, k26, k33, k580, h623, k626]
              subst hK630
              refine eb_seq ?_
              rcases ite_or h with ⟨k631, h⟩ | ⟨k631, h⟩
              · refine rb_true (by first | exact congrArg D.bool k631 | rfl) ?_
                refine rb_seq ?_
                refine rb_regionK fun K633 hK633 => ?_
                simp -implicitDefEqProofs only [vt, vm, ↓atI_fold, forall_const, implies_true, sevalprocAttr, dd_HB, k23, k26, k33, k580, h623, k626, k631]
                subst hK633
                refine eb_seq ?_
                refine rb_ret ?_
                refine eb_seq_r ?_
                refine eb_blk_r ?_
                refine eb_seq_r ?_
                obtain rfl := Option.some.inj h
                exact eb_nil ⟨rfl, Wk.of (fun i => some i) _ _ _ (by simp -implicitDefEqProofs [kv, km, dd_HB, k23, k26, k33, k580, k626, k631]) (by simp -implicitDefEqProofs [kv, km, dd_HB, k23, k26, k33, k580, k626, k631])⟩
              · refine rb_false (by first | exact congrArg D.bool k631 | rfl) ?_
                refine rb_skip ?_
                refine eb_seq ?_
                refine rb_seq ?_
                refine rb_regionK fun K635 hK635 => ?_
                simp -implicitDefEqProofs only [vt, vm, ↓atI_fold, forall_const, implies_true, sevalprocAttr, dd_HB, k23, k26, k33, k580, h623, k626, k631]
                subst hK635
                refine eb_seq ?_
                refine rb_seq ?_
                refine rb_seq ?_
                refine rb_regionK fun K637 hK637 => ?_
                simp -implicitDefEqProofs only [vt, vm, ↓atI_fold, forall_const, implies_true, sevalprocAttr, dd_HB, k23, k26, k33, k580, h623, k626, k631]
                subst hK637
                refine eb_seq ?_
                refine rb_block ?_
                refine rb_seq ?_
                refine rb_regionK fun K639 hK639 => ?_
                simp -implicitDefEqProofs only [vt, vm, ↓atI_fold, forall_const, implies_true, sevalprocAttr, dd_HB, k23, k26, k33, k580, h623, k626, k631]
                subst hK639
                refine eb_seq ?_
                rcases ite_or h with ⟨k640, h⟩ | ⟨k640, h⟩
                · refine rb_true (by first | exact congrArg D.bool k640 | rfl) ?_
                  refine rb_regionK fun K641 hK641 => ?_
                  simp -implicitDefEqProofs only [vt, vm, ↓atI_fold, forall_const, implies_true, sevalprocAttr, dd_HB, k23, k26, k33, k580, h623, k626, k631, k640]
                  subst hK641
                  refine eb_blk_n ?_
                  refine eb_seq ?_
                  refine rb_regionK fun K642 hK642 => ?_
                  simp -implicitDefEqProofs only [vt, vm, ↓atI_fold, forall_const, implies_true, sevalprocAttr, dd_HB, k23, k26, k33, k580, h623, k626, k631, k640]
                  obtain ⟨h643, h⟩ := ite_on h
                  have h644 : x352.1.length + 1 ≤ 9223372036854775807 := by omega
                  try simp only [Nat.reduceLeDiff] at h644
                  simp -implicitDefEqProofs only [vt, vm, ↓atI_fold, forall_const, implies_true, sevalprocAttr, dd_HB, k23, k26, k33, k580, h623, k626, k631, k640, h644, h643]
                  subst hK642
                  refine eb_blk_n ?_
                  refine eb_seq ?_
                  refine rb_regionK fun K645 hK645 => ?_
                  simp -implicitDefEqProofs only [vt, vm, ↓atI_fold, forall_const, implies_true, sevalprocAttr, dd_HB, k23, k26, k33, k580, h623, k626, k631, k640, h644, h643]
                  subst hK645
                  obtain rfl := Option.some.inj h
                  exact eb_nil ⟨rfl, Wk.of (fun i => if i = 1 then some 39 else if i = 0 then some 0 else some i) _ _ _ (by simp -implicitDefEqProofs [kv, km, dd_HB, k23, k26, k33, k580, k626, k631, k640]) (by simp -implicitDefEqProofs [kv, km, dd_HB, k23, k26, k33, k580, k626, k631, k640])⟩
                · refine rb_false (by first | exact congrArg D.bool k640 | rfl) ?_
                  refine rb_seq ?_
                  refine rb_regionK fun K647 hK647 => ?_
                  simp -implicitDefEqProofs only [vt, vm, ↓atI_fold, forall_const, implies_true, sevalprocAttr, dd_HB, k23, k26, k33, k580, h623, k626, k631, k640]
                  subst hK647
                  refine eb_seq ?_
                  rcases ite_or h with ⟨k648, h⟩ | ⟨k648, h⟩
                  · refine rb_true (by first | exact congrArg D.bool k648 | rfl) ?_
                    refine rb_regionK fun K649 hK649 => ?_
                    simp -implicitDefEqProofs only [vt, vm, ↓atI_fold, forall_const, implies_true, sevalprocAttr, dd_HB, k23, k26, k33, k580, h623, k626, k631, k640, k648]
                    subst hK649
                    refine eb_blk_n ?_
                    refine eb_seq ?_
                    refine rb_regionK fun K650 hK650 => ?_
                    simp -implicitDefEqProofs only [vt, vm, ↓atI_fold, forall_const, implies_true, sevalprocAttr, dd_HB, k23, k26, k33, k580, h623, k626, k631, k640, k648]
                    obtain ⟨h651, h⟩ := ite_on h
                    have h652 : x352.1.length + 1 ≤ 9223372036854775807 := by omega
                    try simp only [Nat.reduceLeDiff] at h652
                    simp -implicitDefEqProofs only [vt, vm, ↓atI_fold, forall_const, implies_true, sevalprocAttr, dd_HB, k23, k26, k33, k580, h623, k626, k631, k640, k648, h652, h651]
                    subst hK650
                    refine eb_blk_n ?_
                    refine eb_seq ?_
                    refine rb_regionK fun K653 hK653 => ?_
                    simp -implicitDefEqProofs only [vt, vm, ↓atI_fold, forall_const, implies_true, sevalprocAttr, dd_HB, k23, k26, k33, k580, h623, k626, k631, k640, k648, h652, h651]
                    subst hK653
                    obtain rfl := Option.some.inj h
                    exact eb_nil ⟨rfl, Wk.of (fun i => if i = 1 then some 42 else if i = 0 then some 0 else some i) _ _ _ (by simp -implicitDefEqProofs [kv, km, dd_HB, k23, k26, k33, k580, k626, k631, k640, k648]) (by simp -implicitDefEqProofs [kv, km, dd_HB, k23, k26, k33, k580, k626, k631, k640, k648])⟩
                  · refine rb_false (by first | exact congrArg D.bool k648 | rfl) ?_
                    refine rb_skip ?_
                    refine eb_blk_n ?_
                    refine eb_seq ?_
                    refine rb_regionK fun K654 hK654 => ?_
                    simp -implicitDefEqProofs only [vt, vm, ↓atI_fold, forall_const, implies_true, sevalprocAttr, dd_HB, k23, k26, k33, k580, h623, k626, k631, k640, k648]
                    obtain ⟨h655, h⟩ := ite_on h
                    have h656 : x352.1.length + 1 ≤ 9223372036854775807 := by omega
                    try simp only [Nat.reduceLeDiff] at h656
                    simp -implicitDefEqProofs only [vt, vm, ↓atI_fold, forall_const, implies_true, sevalprocAttr, dd_HB, k23, k26, k33, k580, h623, k626, k631, k640, k648, h656, h655]
                    subst hK654
                    refine eb_blk_n ?_
                    refine eb_seq ?_
                    refine rb_regionK fun K657 hK657 => ?_
                    simp -implicitDefEqProofs only [vt, vm, ↓atI_fold, forall_const, implies_true, sevalprocAttr, dd_HB, k23, k26, k33, k580, h623, k626, k631, k640, k648, h656, h655]
                    subst hK657
                    obtain rfl := Option.some.inj h
                    exact eb_nil ⟨rfl, Wk.of (fun i => if i = 1 then some 32 else if i = 0 then some 0 else some i) _ _ _ (by simp -implicitDefEqProofs [kv, km, dd_HB, k23, k26, k33, k580, k626, k631, k640, k648]) (by simp -implicitDefEqProofs [kv, km, dd_HB, k23, k26, k33, k580, k626, k631, k640, k648])⟩
          · refine rb_false (by first | exact congrArg D.bool k580 | rfl) ?_
            refine rb_exit ?_
            refine eb_seq_e ?_
            obtain rfl := Option.some.inj h
            exact eb_nil ⟨rfl, Wk.of (fun i => if i = 0 then some 1 else some i) _ _ _ (by simp -implicitDefEqProofs [kv, km, dd_HB, k23, k26, k33, k580]) (by simp -implicitDefEqProofs [kv, km, dd_HB, k23, k26, k33, k580])⟩
        · rcases e353 with e353 | e353
          · try dsimp only at h ⊢
            refine eb_blk_r ?_
            refine eb_seq_r ?_
            obtain rfl := Option.some.inj h
            refine eb_nil ?_
            simp -implicitDefEqProofs only [vt, vm, ↓atI_fold, forall_const, implies_true, sevalprocAttr, retQ_r, Tryd.results50, dd_HB, k23, k26, k33] <;> first | rfl | (simp [List.map_append, dd_HB]; done)
          · try dsimp only at h ⊢
            refine eb_blk_hit ?_
            refine eb_seq ?_
            refine rb_seq ?_
            refine rb_regionK fun K660 hK660 => ?_
            simp -implicitDefEqProofs only [vt, vm, ↓atI_fold, forall_const, implies_true, sevalprocAttr, dd_HB, k23, k26, k33]
            subst hK660
            refine eb_seq ?_
            refine rb_ret ?_
            obtain rfl := Option.some.inj h
            refine eb_nil ?_
            simp -implicitDefEqProofs only [vt, vm, ↓atI_fold, forall_const, implies_true, sevalprocAttr, retQ_r, Tryd.results50, dd_HB, k23, k26, k33] <;> first | rfl | (simp [List.map_append, dd_HB]; done)
  · refine rb_true (by first | exact congrArg D.bool (congrArg Bool.not k23) | rfl) ?_
    refine rb_seq ?_
    refine rb_regionK fun K662 hK662 => ?_
    simp -implicitDefEqProofs only [vt, vm, ↓atI_fold, forall_const, implies_true, sevalprocAttr, dd_HB, k23]
    subst hK662
    refine eb_seq ?_
    refine rb_ret ?_
    refine eb_blk_r ?_
    refine eb_seq_r ?_
    obtain rfl := Option.some.inj h
    refine eb_nil ?_
    simp -implicitDefEqProofs only [vt, vm, ↓atI_fold, forall_const, implies_true, sevalprocAttr, retQ_r, Tryd.results50, dd_HB, k23] <;> first | rfl | (simp [List.map_append, dd_HB]; done)
-- event.spans
def g_event_spans (s_0 : T_api_Span) : Option (Bool) :=
  (if (decide (0 ≤ s_0.In)) then (if (decide (s_0.In < s_0.Out)) then (some (decide (s_0.Out ≤ 5184000))) else (some false)) else (some false))
theorem a_event_spans (I : World → Prop) (hI : Stab I) (s_0 : T_api_Span) {r : Bool} (h : g_event_spans s_0 = some r) : AFun Tryd.prog I 49 [T_api_Span.d s_0] (.bool r) := by
  refine AFun.enterB hI Tryd.func49 rfl (by decide) (by simp [Tryd.f49]) (by kernel_rfl) ?_
  unfold g_event_spans at h
  simp only [S0, Tryd.ntmps49, dd_HB]
  refine rb_seq ?_
  refine rb_regionK fun K2 hK2 => ?_
  simp -implicitDefEqProofs only [vt, vm, ↓atI_fold, forall_const, implies_true, sevalprocAttr, dd_HB]
  subst hK2
  refine eb_seq ?_
  refine rb_seq ?_
  refine rb_regionK fun K6 hK6 => ?_
  simp -implicitDefEqProofs only [vt, vm, ↓atI_fold, forall_const, implies_true, sevalprocAttr, dd_HB]
  rcases ite_or h with ⟨k7, h⟩ | ⟨k7, h⟩
  · simp -implicitDefEqProofs only [vt, vm, ↓atI_fold, forall_const, implies_true, sevalprocAttr, dd_HB, k7]
    rcases ite_or h with ⟨k8, h⟩ | ⟨k8, h⟩
    · simp -implicitDefEqProofs only [vt, vm, ↓atI_fold, forall_const, implies_true, sevalprocAttr, dd_HB, k7, k8]
      subst hK6
      refine eb_seq ?_
      refine rb_ret ?_
      obtain rfl := Option.some.inj h
      refine eb_nil ?_
      simp -implicitDefEqProofs only [vt, vm, ↓atI_fold, forall_const, implies_true, sevalprocAttr, retQ_r, Tryd.results49, dd_HB, k7, k8] <;> first | rfl | (simp [List.map_append, dd_HB]; done)
    · simp -implicitDefEqProofs only [vt, vm, ↓atI_fold, forall_const, implies_true, sevalprocAttr, dd_HB, k7, k8]
      subst hK6
      refine eb_seq ?_
      refine rb_ret ?_
      obtain rfl := Option.some.inj h
      refine eb_nil ?_
      simp -implicitDefEqProofs only [vt, vm, ↓atI_fold, forall_const, implies_true, sevalprocAttr, retQ_r, Tryd.results49, dd_HB, k7, k8] <;> first | rfl | (simp [List.map_append, dd_HB]; done)
  · simp -implicitDefEqProofs only [vt, vm, ↓atI_fold, forall_const, implies_true, sevalprocAttr, dd_HB, k7]
    subst hK6
    refine eb_seq ?_
    refine rb_ret ?_
    obtain rfl := Option.some.inj h
    refine eb_nil ?_
    simp -implicitDefEqProofs only [vt, vm, ↓atI_fold, forall_const, implies_true, sevalprocAttr, retQ_r, Tryd.results49, dd_HB, k7] <;> first | rfl | (simp [List.map_append, dd_HB]; done)
-- event.kinds
def g_event_kinds  : Option ((List (List UInt8))) :=
  (some [[68, 73, 65, 76, 79, 71, 85, 69], [83, 79, 85, 78, 68], [84, 73, 84, 76, 69], [77, 85, 83, 73, 67]])
theorem a_event_kinds (I : World → Prop) (hI : Stab I)  {r : (List (List UInt8))} (h : g_event_kinds  = some r) : AFun Tryd.prog I 142 [] (.sl (r.map D.str)) := by
  refine AFun.enterB hI Tryd.func142 rfl (by decide) (by simp [Tryd.f142]) (by kernel_rfl) ?_
  unfold g_event_kinds at h
  simp only [S0, Tryd.ntmps142, dd_HB]
  refine rb_seq ?_
  refine rb_regionK fun K2 hK2 => ?_
  simp -implicitDefEqProofs only [vt, vm, ↓atI_fold, forall_const, implies_true, sevalprocAttr, dd_HB]
  subst hK2
  refine eb_seq ?_
  refine rb_seq ?_
  refine rb_regionK fun K4 hK4 => ?_
  simp -implicitDefEqProofs only [vt, vm, ↓atI_fold, forall_const, implies_true, sevalprocAttr, dd_HB]
  subst hK4
  refine eb_seq ?_
  refine rb_ret ?_
  obtain rfl := Option.some.inj h
  refine eb_nil ?_
  simp -implicitDefEqProofs only [vt, vm, ↓atI_fold, forall_const, implies_true, sevalprocAttr, retQ_r, Tryd.results142, dd_HB] <;> first | rfl | (simp [List.map_append, dd_HB]; done)
-- event.KindName
def g_event_KindName (k_0 : Int) : Option ((List UInt8)) :=
  (((if (decide (k_0 < 1)) then (some true) else (some (decide (4 < k_0)))) : Option (Bool)).bind fun v5 => (if v5 then (some []) else ((g_event_kinds).bind fun r18 => ((atI r18 (IntKind.u8.wrap (k_0 - 1))).bind fun y20 => (some y20)))))
theorem a_event_KindName (I : World → Prop) (hI : Stab I) (k_0 : Int) {r : (List UInt8)} (h : g_event_KindName k_0 = some r) : AFun Tryd.prog I 112 [.int .u8 k_0] (.str r) := by
  refine AFun.enterB hI Tryd.func112 rfl (by decide) (by simp [Tryd.f112]) (by kernel_rfl) ?_
  unfold g_event_KindName at h
  simp only [S0, Tryd.ntmps112, dd_HB]
  refine rb_seq ?_
  refine rb_regionK fun K2 hK2 => ?_
  simp -implicitDefEqProofs only [vt, vm, ↓atI_fold, forall_const, implies_true, sevalprocAttr, dd_HB]
  subst hK2
  refine eb_seq ?_
  refine rb_seq ?_
  obtain ⟨v5, h8, h⟩ := bind_some h
  refine rb_cut (fun v5 => ⟨envL [(0, .int .u8 k_0), (8, .bool v5)], heapL [], 0, 14⟩) h8 ?_ ?_
  · clear h
    intro v5 h
    refine rb_regionK fun K6 hK6 => ?_
    simp -implicitDefEqProofs only [vt, vm, ↓atI_fold, forall_const, implies_true, sevalprocAttr, dd_HB]
    rcases ite_or h with ⟨k7, h⟩ | ⟨k7, h⟩
    · simp -implicitDefEqProofs only [vt, vm, ↓atI_fold, forall_const, implies_true, sevalprocAttr, dd_HB, k7]
      subst hK6
      obtain rfl := Option.some.inj h
      exact eb_nil ⟨rfl, Wk.of (fun i => some i) _ _ _ (by simp -implicitDefEqProofs [kv, km, dd_HB, k7]) (by simp -implicitDefEqProofs [kv, km, dd_HB, k7])⟩
    · simp -implicitDefEqProofs only [vt, vm, ↓atI_fold, forall_const, implies_true, sevalprocAttr, dd_HB, k7]
      subst hK6
      obtain rfl := Option.some.inj h
      exact eb_nil ⟨rfl, Wk.of (fun i => some i) _ _ _ (by simp -implicitDefEqProofs [kv, km, dd_HB, k7]) (by simp -implicitDefEqProofs [kv, km, dd_HB, k7])⟩
  · rcases ite_or h with ⟨k9, h⟩ | ⟨k9, h⟩
    · refine rb_true (by first | exact congrArg D.bool k9 | rfl) ?_
      refine rb_seq ?_
      refine rb_regionK fun K11 hK11 => ?_
      simp -implicitDefEqProofs only [vt, vm, ↓atI_fold, forall_const, implies_true, sevalprocAttr, dd_HB, k9]
      subst hK11
      refine eb_seq ?_
      refine rb_ret ?_
      refine eb_seq_r ?_
      obtain rfl := Option.some.inj h
      refine eb_nil ?_
      simp -implicitDefEqProofs only [vt, vm, ↓atI_fold, forall_const, implies_true, sevalprocAttr, retQ_r, Tryd.results112, dd_HB, k9] <;> first | rfl | (simp [List.map_append, dd_HB]; done)
    · refine rb_false (by first | exact congrArg D.bool k9 | rfl) ?_
      refine rb_skip ?_
      refine eb_seq ?_
      refine rb_seq ?_
      refine rb_regionK fun K17 hK17 => ?_
      simp -implicitDefEqProofs only [vt, vm, ↓atI_fold, forall_const, implies_true, sevalprocAttr, dd_HB, k9]
      obtain ⟨r18, h19, h⟩ := bind_some h
      refine cW.intro (a_event_kinds I hI h19) (by first | rfl | (simp [List.map_append, dd_HB]; done)) ?_
      simp -implicitDefEqProofs only [vt, vm, ↓atI_fold, forall_const, implies_true, sevalprocAttr, dd_HB, k9]
      obtain ⟨y20, h21, h⟩ := bind_some h
      simp -implicitDefEqProofs only [vt, vm, ↓atI_fold, forall_const, implies_true, sevalprocAttr, dd_HB, k9, h21]
      subst hK17
      refine eb_seq ?_
      refine rb_ret ?_
      obtain rfl := Option.some.inj h
      refine eb_nil ?_
      simp -implicitDefEqProofs only [vt, vm, ↓atI_fold, forall_const, implies_true, sevalprocAttr, retQ_r, Tryd.results112, dd_HB, k9, h21] <;> first | rfl | (simp [List.map_append, dd_HB]; done)
-- style.Valid
def g_style_Valid (s_0 : T_api_Style) : Option (Bool) :=
  (some (decide (s_0.Color ≤ 6)))
theorem a_style_Valid (I : World → Prop) (hI : Stab I) (s_0 : T_api_Style) {r : Bool} (h : g_style_Valid s_0 = some r) : AFun Tryd.prog I 170 [T_api_Style.d s_0] (.bool r) := by
  refine AFun.enterB hI Tryd.func170 rfl (by decide) (by simp [Tryd.f170]) (by kernel_rfl) ?_
  unfold g_style_Valid at h
  simp only [S0, Tryd.ntmps170, dd_HB]
  refine rb_seq ?_
  refine rb_regionK fun K2 hK2 => ?_
  simp -implicitDefEqProofs only [vt, vm, ↓atI_fold, forall_const, implies_true, sevalprocAttr, dd_HB]
  subst hK2
  refine eb_seq ?_
  refine rb_seq ?_
  refine rb_regionK fun K4 hK4 => ?_
  simp -implicitDefEqProofs only [vt, vm, ↓atI_fold, forall_const, implies_true, sevalprocAttr, dd_HB]
  subst hK4
  refine eb_seq ?_
  refine rb_ret ?_
  obtain rfl := Option.some.inj h
  refine eb_nil ?_
  simp -implicitDefEqProofs only [vt, vm, ↓atI_fold, forall_const, implies_true, sevalprocAttr, retQ_r, Tryd.results170, dd_HB] <;> first | rfl | (simp [List.map_append, dd_HB]; done)
-- style.alike
def g_style_alike (a_0 : T_api_Run) (b_1 : T_api_Run) : Option (Bool) :=
  (if ((a_0.Style.Color == b_1.Style.Color) && ((a_0.Style.Italic == b_1.Style.Italic) && (a_0.Style.Underline == b_1.Style.Underline))) then (if (a_0.Ruby == ([] : List UInt8)) then (some (b_1.Ruby == ([] : List UInt8))) else (some false)) else (some false))
theorem a_style_alike (I : World → Prop) (hI : Stab I) (a_0 : T_api_Run) (b_1 : T_api_Run) {r : Bool} (h : g_style_alike a_0 b_1 = some r) : AFun Tryd.prog I 171 [T_api_Run.d a_0, T_api_Run.d b_1] (.bool r) := by
  refine AFun.enterB hI Tryd.func171 rfl (by decide) (by simp [Tryd.f171]) (by kernel_rfl) ?_
  unfold g_style_alike at h
  simp only [S0, Tryd.ntmps171, dd_HB]
  refine rb_seq ?_
  refine rb_regionK fun K2 hK2 => ?_
  simp -implicitDefEqProofs only [vt, vm, ↓atI_fold, forall_const, implies_true, sevalprocAttr, dd_HB]
  subst hK2
  refine eb_seq ?_
  refine rb_seq ?_
  refine rb_regionK fun K6 hK6 => ?_
  simp -implicitDefEqProofs only [vt, vm, ↓atI_fold, forall_const, implies_true, sevalprocAttr, dd_HB]
  rcases ite_or h with ⟨k7, h⟩ | ⟨k7, h⟩
  · simp -implicitDefEqProofs only [vt, vm, ↓atI_fold, forall_const, implies_true, sevalprocAttr, dd_HB, k7]
    rcases ite_or h with ⟨k8, h⟩ | ⟨k8, h⟩
    · simp -implicitDefEqProofs only [vt, vm, ↓atI_fold, forall_const, implies_true, sevalprocAttr, dd_HB, k7, k8]
      subst hK6
      refine eb_seq ?_
      refine rb_ret ?_
      obtain rfl := Option.some.inj h
      refine eb_nil ?_
      simp -implicitDefEqProofs only [vt, vm, ↓atI_fold, forall_const, implies_true, sevalprocAttr, retQ_r, Tryd.results171, dd_HB, k7, k8] <;> first | rfl | (simp [List.map_append, dd_HB]; done)
    · simp -implicitDefEqProofs only [vt, vm, ↓atI_fold, forall_const, implies_true, sevalprocAttr, dd_HB, k7, k8]
      subst hK6
      refine eb_seq ?_
      refine rb_ret ?_
      obtain rfl := Option.some.inj h
      refine eb_nil ?_
      simp -implicitDefEqProofs only [vt, vm, ↓atI_fold, forall_const, implies_true, sevalprocAttr, retQ_r, Tryd.results171, dd_HB, k7, k8] <;> first | rfl | (simp [List.map_append, dd_HB]; done)
  · simp -implicitDefEqProofs only [vt, vm, ↓atI_fold, forall_const, implies_true, sevalprocAttr, dd_HB, k7]
    subst hK6
    refine eb_seq ?_
    refine rb_ret ?_
    obtain rfl := Option.some.inj h
    refine eb_nil ?_
    simp -implicitDefEqProofs only [vt, vm, ↓atI_fold, forall_const, implies_true, sevalprocAttr, retQ_r, Tryd.results171, dd_HB, k7] <;> first | rfl | (simp [List.map_append, dd_HB]; done)
-- style.Check
def g_style_Check_s1 (row_0 : T_api_Row) (x10 : Int) : Option (Nx (Int) (Int ⊕ Unit)) :=
  (if (decide (x10 < (row_0.Runs.length : Int))) then ((atI row_0.Runs x10).bind fun y297 => ((g_charset_Valid y297.Text).bind fun r303 => (if r303 then (if (y297.Text == ([] : List UInt8)) then (some (.out (.inl 4))) else ((g_style_Valid y297.Style).bind fun r315 => (if r315 then ((g_charset_Valid y297.Ruby).bind fun r322 => (if r322 then (if (decide (0 < x10)) then ((atI row_0.Runs (IntKind.i64.wrap (x10 - 1))).bind fun y333 => ((g_style_alike y333 y297).bind fun r335 => (if r335 then (some (.out (.inl 8))) else (some (.go (IntKind.i64.wrap (x10 + 1))))))) else (some (.go (IntKind.i64.wrap (x10 + 1))))) else (some (.out (.inl 10))))) else (some (.out (.inl 12)))))) else (some (.out (.inl 10)))))) else (some (.out (.inr ()))))
def g_style_Check (row_0 : T_api_Row) : Option (Int) :=
  (if (decide (16 < (row_0.Runs.length : Int))) then (some 9) else ((iter (g_style_Check_s1 row_0) 0).bind fun e11 => (match e11 with | Sum.inl e11 => (some e11) | Sum.inr (e11) => (some 0))))
theorem a_style_Check (I : World → Prop) (hI : Stab I) (hU8T : ∀ w, I w → U8T w) (row_0 : T_api_Row) {r : Int} (h : g_style_Check row_0 = some r) : AFun Tryd.prog I 143 [T_api_Row.d row_0] (.int .i64 r) := by
  refine AFun.enterB hI Tryd.func143 rfl (by decide) (by simp [Tryd.f143]) (by kernel_rfl) ?_
  unfold g_style_Check at h
  simp only [S0, Tryd.ntmps143, dd_HB]
  refine rb_seq ?_
  refine rb_regionK fun K2 hK2 => ?_
  simp -implicitDefEqProofs only [vt, vm, ↓atI_fold, forall_const, implies_true, sevalprocAttr, dd_HB]
  subst hK2
  refine eb_seq ?_
  refine rb_seq ?_
  refine rb_seq ?_
  refine rb_regionK fun K4 hK4 => ?_
  simp -implicitDefEqProofs only [vt, vm, ↓atI_fold, forall_const, implies_true, sevalprocAttr, dd_HB]
  subst hK4
  refine eb_seq ?_
  rcases ite_or h with ⟨k5, h⟩ | ⟨k5, h⟩
  · refine rb_true (by first | exact congrArg D.bool k5 | rfl) ?_
    refine rb_seq ?_
    refine rb_regionK fun K7 hK7 => ?_
    simp -implicitDefEqProofs only [vt, vm, ↓atI_fold, forall_const, implies_true, sevalprocAttr, dd_HB, k5]
    subst hK7
    refine eb_seq ?_
    refine rb_ret ?_
    refine eb_seq_r ?_
    obtain rfl := Option.some.inj h
    refine eb_nil ?_
    simp -implicitDefEqProofs only [vt, vm, ↓atI_fold, forall_const, implies_true, sevalprocAttr, retQ_r, Tryd.results143, dd_HB, k5] <;> first | rfl | (simp [List.map_append, dd_HB]; done)
  · refine rb_false (by first | exact congrArg D.bool k5 | rfl) ?_
    refine rb_skip ?_
    refine eb_seq ?_
    refine rb_seq ?_
    refine rb_seq ?_
    refine rb_regionK fun K9 hK9 => ?_
    simp -implicitDefEqProofs only [vt, vm, ↓atI_fold, forall_const, implies_true, sevalprocAttr, dd_HB, k5]
    subst hK9
    refine eb_seq ?_
    refine rb_block ?_
    obtain ⟨e11, h348, h⟩ := bind_some h
    refine rb_loop (fun x10 => ⟨envL [(1, .ptr 0 0), (10, .sl (row_0.Runs.map T_api_Run.d)), (11, .int .i64 (row_0.Runs.length : Int)), (12, .int .i64 x10)], heapL [(0, .box none [.sl (row_0.Runs.map T_api_Run.d)])], 1, 50⟩) (fun w => match w with | Sum.inl _ => .ret | Sum.inr (_) => .exit 0) (fun w => match w with | Sum.inl e11 => ⟨envL [(2, .int .i64 e11)], heapL [], 0, 50⟩ | Sum.inr (e11) => ⟨envL [], heapL [], 0, 50⟩) h348 (Wk.of (fun i => if i = 0 then some 0 else some i) _ _ _ (by simp -implicitDefEqProofs [kv, km, dd_HB, k5]) (by simp -implicitDefEqProofs [kv, km, dd_HB, k5])) (by intro w; rcases w with w | w <;> simp) ?_ ?_
    · clear h
      intro x10 y h
      unfold g_style_Check_s1 at h
      refine rb_seq ?_
      refine rb_regionK fun K237 hK237 => ?_
      simp -implicitDefEqProofs only [vt, vm, ↓atI_fold, forall_const, implies_true, sevalprocAttr, dd_HB, k5]
      subst hK237
      refine eb_seq ?_
      refine rb_seq ?_
      rcases ite_or h with ⟨k239, h⟩ | ⟨k239, h⟩
      · refine rb_true (by first | exact congrArg D.bool k239 | rfl) ?_
        refine rb_skip ?_
        refine eb_seq ?_
        refine rb_seq ?_
        refine rb_block ?_
        refine rb_seq ?_
        refine rb_regionK fun K296 hK296 => ?_
        simp -implicitDefEqProofs only [vt, vm, ↓atI_fold, forall_const, implies_true, sevalprocAttr, dd_HB, k5, k239]
        obtain ⟨y297, h298, h⟩ := bind_some h
        simp -implicitDefEqProofs only [vt, vm, ↓atI_fold, forall_const, implies_true, sevalprocAttr, dd_HB, k5, k239, h298]
        subst hK296
        refine eb_seq ?_
        refine rb_block ?_
        refine rb_seq ?_
        refine rb_regionK fun K302 hK302 => ?_
        simp -implicitDefEqProofs only [vt, vm, ↓atI_fold, forall_const, implies_true, sevalprocAttr, dd_HB, k5, k239, h298]
        obtain ⟨r303, h304, h⟩ := bind_some h
        refine cW.intro (a_charset_Valid I hI hU8T y297.Text h304) (by first | rfl | (simp [List.map_append, dd_HB]; done)) ?_
        simp -implicitDefEqProofs only [vt, vm, ↓atI_fold, forall_const, implies_true, sevalprocAttr, dd_HB, k5, k239, h298]
        subst hK302
        refine eb_seq ?_
        rcases ite_or h with ⟨k305, h⟩ | ⟨k305, h⟩
        · refine rb_false (by first | exact congrArg D.bool (congrArg Bool.not k305) | rfl) ?_
          refine rb_seq ?_
          refine rb_regionK fun K307 hK307 => ?_
          simp -implicitDefEqProofs only [vt, vm, ↓atI_fold, forall_const, implies_true, sevalprocAttr, dd_HB, k5, k239, h298, k305]
          subst hK307
          refine eb_seq ?_
          rcases ite_or h with ⟨k308, h⟩ | ⟨k308, h⟩
          · refine rb_true (by first | exact congrArg D.bool k308 | rfl) ?_
            refine rb_seq ?_
            refine rb_regionK fun K310 hK310 => ?_
            simp -implicitDefEqProofs only [vt, vm, ↓atI_fold, forall_const, implies_true, sevalprocAttr, dd_HB, k5, k239, h298, k305, k308]
            subst hK310
            refine eb_seq ?_
            refine rb_ret ?_
            refine eb_blk_r ?_
            refine eb_blk_r ?_
            refine eb_seq_r ?_
            obtain rfl := Option.some.inj h
            exact eb_nil ⟨rfl, Wk.of (fun i => some i) _ _ _ (by simp -implicitDefEqProofs [kv, km, dd_HB, k5, k239, k305, k308]) (by simp -implicitDefEqProofs [kv, km, dd_HB, k5, k239, k305, k308])⟩
          · refine rb_false (by first | exact congrArg D.bool k308 | rfl) ?_
            refine rb_seq ?_
            refine rb_regionK fun K314 hK314 => ?_
            simp -implicitDefEqProofs only [vt, vm, ↓atI_fold, forall_const, implies_true, sevalprocAttr, dd_HB, k5, k239, h298, k305, k308]
            obtain ⟨r315, h316, h⟩ := bind_some h
            refine cW.intro (a_style_Valid I hI y297.Style h316) (by first | rfl | (simp [List.map_append, dd_HB]; done)) ?_
            simp -implicitDefEqProofs only [vt, vm, ↓atI_fold, forall_const, implies_true, sevalprocAttr, dd_HB, k5, k239, h298, k305, k308]
            subst hK314
            refine eb_seq ?_
            rcases ite_or h with ⟨k317, h⟩ | ⟨k317, h⟩
            · refine rb_false (by first | exact congrArg D.bool (congrArg Bool.not k317) | rfl) ?_
              refine rb_seq ?_
              refine rb_regionK fun K321 hK321 => ?_
              simp -implicitDefEqProofs only [vt, vm, ↓atI_fold, forall_const, implies_true, sevalprocAttr, dd_HB, k5, k239, h298, k305, k308, k317]
              obtain ⟨r322, h323, h⟩ := bind_some h
              refine cW.intro (a_charset_Valid I hI hU8T y297.Ruby h323) (by first | rfl | (simp [List.map_append, dd_HB]; done)) ?_
              simp -implicitDefEqProofs only [vt, vm, ↓atI_fold, forall_const, implies_true, sevalprocAttr, dd_HB, k5, k239, h298, k305, k308, k317]
              subst hK321
              refine eb_seq ?_
              rcases ite_or h with ⟨k324, h⟩ | ⟨k324, h⟩
              · refine rb_false (by first | exact congrArg D.bool (congrArg Bool.not k324) | rfl) ?_
                refine rb_seq ?_
                refine rb_drawK hI (by kernel_rfl) (by kernel_rfl) fun K331 hK331 => ?_
                simp -implicitDefEqProofs only [vt, vm, ↓atI_fold, forall_const, implies_true, sevalprocAttr, dd_HB, k5, k239, h298, k305, k308, k317, k324]
                rcases ite_or h with ⟨k332, h⟩ | ⟨k332, h⟩
                · simp -implicitDefEqProofs only [vt, vm, ↓atI_fold, forall_const, implies_true, sevalprocAttr, dd_HB, k5, k239, h298, k305, k308, k317, k324, k332]
                  obtain ⟨y333, h334, h⟩ := bind_some h
                  simp -implicitDefEqProofs only [vt, vm, ↓atI_fold, forall_const, implies_true, sevalprocAttr, dd_HB, k5, k239, h298, k305, k308, k317, k324, k332, h334]
                  obtain ⟨r335, h336, h⟩ := bind_some h
                  refine cD'.intro (a_style_alike I hI y333 y297 h336) (by first | rfl | (simp [List.map_append, dd_HB]; done)) (by kernel_rfl) ?_
                  simp -implicitDefEqProofs only [vt, vm, ↓atI_fold, forall_const, implies_true, sevalprocAttr, dd_HB, k5, k239, h298, k305, k308, k317, k324, k332, h334]
                  subst hK331
                  refine eb_seq ?_
                  rcases ite_or h with ⟨k337, h⟩ | ⟨k337, h⟩
                  · refine rb_true (by first | exact congrArg D.bool k337 | rfl) ?_
                    refine rb_seq ?_
                    refine rb_regionK fun K339 hK339 => ?_
                    simp -implicitDefEqProofs only [vt, vm, ↓atI_fold, forall_const, implies_true, sevalprocAttr, dd_HB, k5, k239, h298, k305, k308, k317, k324, k332, h334, k337]
                    subst hK339
                    refine eb_seq ?_
                    refine rb_ret ?_
                    refine eb_blk_r ?_
                    refine eb_blk_r ?_
                    refine eb_seq_r ?_
                    obtain rfl := Option.some.inj h
                    exact eb_nil ⟨rfl, Wk.of (fun i => some i) _ _ _ (by simp -implicitDefEqProofs [kv, km, dd_HB, k5, k239, k305, k308, k317, k324, k332, k337]) (by simp -implicitDefEqProofs [kv, km, dd_HB, k5, k239, k305, k308, k317, k324, k332, k337])⟩
                  · refine rb_false (by first | exact congrArg D.bool k337 | rfl) ?_
                    refine rb_skip ?_
                    refine eb_blk_n ?_
                    refine eb_blk_n ?_
                    refine eb_seq ?_
                    refine rb_regionK fun K340 hK340 => ?_
                    simp -implicitDefEqProofs only [vt, vm, ↓atI_fold, forall_const, implies_true, sevalprocAttr, dd_HB, k5, k239, h298, k305, k308, k317, k324, k332, h334, k337]
                    subst hK340
                    obtain rfl := Option.some.inj h
                    exact eb_nil ⟨rfl, Wk.of (fun i => if i = 0 then some 0 else some i) _ _ _ (by simp -implicitDefEqProofs [kv, km, dd_HB, k5, k239, k305, k308, k317, k324, k332, k337]) (by simp -implicitDefEqProofs [kv, km, dd_HB, k5, k239, k305, k308, k317, k324, k332, k337])⟩
                · simp -implicitDefEqProofs only [vt, vm, ↓atI_fold, forall_const, implies_true, sevalprocAttr, dd_HB, k5, k239, h298, k305, k308, k317, k324, k332]
                  subst hK331
                  refine eb_seq ?_
                  refine rb_false (rfl) ?_
                  refine rb_skip ?_
                  refine eb_blk_n ?_
                  refine eb_blk_n ?_
                  refine eb_seq ?_
                  refine rb_regionK fun K341 hK341 => ?_
                  simp -implicitDefEqProofs only [vt, vm, ↓atI_fold, forall_const, implies_true, sevalprocAttr, dd_HB, k5, k239, h298, k305, k308, k317, k324, k332]
                  subst hK341
                  obtain rfl := Option.some.inj h
                  exact eb_nil ⟨rfl, Wk.of (fun i => if i = 0 then some 0 else some i) _ _ _ (by simp -implicitDefEqProofs [kv, km, dd_HB, k5, k239, k305, k308, k317, k324, k332]) (by simp -implicitDefEqProofs [kv, km, dd_HB, k5, k239, k305, k308, k317, k324, k332])⟩
              · refine rb_true (by first | exact congrArg D.bool (congrArg Bool.not k324) | rfl) ?_
                refine rb_seq ?_
                refine rb_regionK fun K343 hK343 => ?_
                simp -implicitDefEqProofs only [vt, vm, ↓atI_fold, forall_const, implies_true, sevalprocAttr, dd_HB, k5, k239, h298, k305, k308, k317, k324]
                subst hK343
                refine eb_seq ?_
                refine rb_ret ?_
                refine eb_blk_r ?_
                refine eb_blk_r ?_
                refine eb_seq_r ?_
                obtain rfl := Option.some.inj h
                exact eb_nil ⟨rfl, Wk.of (fun i => some i) _ _ _ (by simp -implicitDefEqProofs [kv, km, dd_HB, k5, k239, k305, k308, k317, k324]) (by simp -implicitDefEqProofs [kv, km, dd_HB, k5, k239, k305, k308, k317, k324])⟩
            · refine rb_true (by first | exact congrArg D.bool (congrArg Bool.not k317) | rfl) ?_
              refine rb_seq ?_
              refine rb_regionK fun K345 hK345 => ?_
              simp -implicitDefEqProofs only [vt, vm, ↓atI_fold, forall_const, implies_true, sevalprocAttr, dd_HB, k5, k239, h298, k305, k308, k317]
              subst hK345
              refine eb_seq ?_
              refine rb_ret ?_
              refine eb_blk_r ?_
              refine eb_blk_r ?_
              refine eb_seq_r ?_
              obtain rfl := Option.some.inj h
              exact eb_nil ⟨rfl, Wk.of (fun i => some i) _ _ _ (by simp -implicitDefEqProofs [kv, km, dd_HB, k5, k239, k305, k308, k317]) (by simp -implicitDefEqProofs [kv, km, dd_HB, k5, k239, k305, k308, k317])⟩
        · refine rb_true (by first | exact congrArg D.bool (congrArg Bool.not k305) | rfl) ?_
          refine rb_seq ?_
          refine rb_regionK fun K347 hK347 => ?_
          simp -implicitDefEqProofs only [vt, vm, ↓atI_fold, forall_const, implies_true, sevalprocAttr, dd_HB, k5, k239, h298, k305]
          subst hK347
          refine eb_seq ?_
          refine rb_ret ?_
          refine eb_blk_r ?_
          refine eb_blk_r ?_
          refine eb_seq_r ?_
          obtain rfl := Option.some.inj h
          exact eb_nil ⟨rfl, Wk.of (fun i => some i) _ _ _ (by simp -implicitDefEqProofs [kv, km, dd_HB, k5, k239, k305]) (by simp -implicitDefEqProofs [kv, km, dd_HB, k5, k239, k305])⟩
      · refine rb_false (by first | exact congrArg D.bool k239 | rfl) ?_
        refine rb_exit ?_
        refine eb_seq_e ?_
        obtain rfl := Option.some.inj h
        exact eb_nil ⟨rfl, Wk.of (fun i => some i) _ _ _ (by simp -implicitDefEqProofs [kv, km, dd_HB, k5, k239]) (by simp -implicitDefEqProofs [kv, km, dd_HB, k5, k239])⟩
    · rcases e11 with e11 | e11
      · try dsimp only at h ⊢
        refine eb_blk_r ?_
        refine eb_seq_r ?_
        obtain rfl := Option.some.inj h
        refine eb_nil ?_
        simp -implicitDefEqProofs only [vt, vm, ↓atI_fold, forall_const, implies_true, sevalprocAttr, retQ_r, Tryd.results143, dd_HB, k5] <;> first | rfl | (simp [List.map_append, dd_HB]; done)
      · try dsimp only at h ⊢
        refine eb_blk_hit ?_
        refine eb_seq ?_
        refine rb_seq ?_
        refine rb_regionK fun K350 hK350 => ?_
        simp -implicitDefEqProofs only [vt, vm, ↓atI_fold, forall_const, implies_true, sevalprocAttr, dd_HB, k5]
        subst hK350
        refine eb_seq ?_
        refine rb_ret ?_
        obtain rfl := Option.some.inj h
        refine eb_nil ?_
        simp -implicitDefEqProofs only [vt, vm, ↓atI_fold, forall_const, implies_true, sevalprocAttr, retQ_r, Tryd.results143, dd_HB, k5] <;> first | rfl | (simp [List.map_append, dd_HB]; done)
-- style.Plain
def g_style_Plain_s1 (row_0 : T_api_Row) (x7 : Int × (List Int)) : Option (Nx (Int × (List Int)) ((List Int))) :=
  (if (decide (x7.1 < (row_0.Runs.length : Int))) then ((atI row_0.Runs x7.1).bind fun y67 => (if x7.2.length + y67.Text.length ≤ 140737488355328 then (some (.go ((IntKind.i64.wrap (x7.1 + 1)), (x7.2 ++ toI y67.Text)))) else none)) else (some (.out x7.2)))
def g_style_Plain (row_0 : T_api_Row) : Option ((List UInt8)) :=
  ((iter (g_style_Plain_s1 row_0) (0, [])).bind fun e8 => (some (bytesOf e8)))
theorem a_style_Plain (I : World → Prop) (hI : Stab I) (row_0 : T_api_Row) {r : (List UInt8)} (h : g_style_Plain row_0 = some r) : AFun Tryd.prog I 87 [T_api_Row.d row_0] (.str r) := by
  refine AFun.enterB hI Tryd.func87 rfl (by decide) (by simp [Tryd.f87]) (by kernel_rfl) ?_
  unfold g_style_Plain at h
  simp only [S0, Tryd.ntmps87, dd_HB]
  refine rb_seq ?_
  refine rb_regionK fun K2 hK2 => ?_
  simp -implicitDefEqProofs only [vt, vm, ↓atI_fold, forall_const, implies_true, sevalprocAttr, dd_HB]
  subst hK2
  refine eb_seq ?_
  refine rb_seq ?_
  refine rb_regionK fun K4 hK4 => ?_
  simp -implicitDefEqProofs only [vt, vm, ↓atI_fold, forall_const, implies_true, sevalprocAttr, dd_HB]
  subst hK4
  refine eb_seq ?_
  refine rb_seq ?_
  refine rb_seq ?_
  refine rb_regionK fun K6 hK6 => ?_
  simp -implicitDefEqProofs only [vt, vm, ↓atI_fold, forall_const, implies_true, sevalprocAttr, dd_HB]
  subst hK6
  refine eb_seq ?_
  refine rb_block ?_
  obtain ⟨e8, h72, h⟩ := bind_some h
  refine rb_loop (fun x7 => ⟨envL [(3, .ptr 0 0), (7, .sl (row_0.Runs.map T_api_Run.d)), (8, .int .i64 (row_0.Runs.length : Int)), (9, .int .i64 x7.1)], heapL [(0, .bbox 129 [.sp 0, .own 1 x7.2.length]), (1, .vec 5 1 (x7.2.map (D.int .u8)) false)], 2, 18⟩) (fun _ => .exit 0) (fun e8 => ⟨envL [(3, .ptr 0 0)], heapL [(0, .bbox 129 [.sp 0, .own 1 e8.length]), (1, .vec 5 1 (e8.map (D.int .u8)) false)], 2, 18⟩) h72 (Wk.of (fun i => if i = 1 then none else if i = 0 then some 2 else some i) _ _ _ (by simp -implicitDefEqProofs [kv, km, dd_HB]) (by simp -implicitDefEqProofs [kv, km, dd_HB])) (by intro w; simp) ?_ ?_
  · clear h
    intro x7 y h
    unfold g_style_Plain_s1 at h
    refine rb_seq ?_
    refine rb_regionK fun K52 hK52 => ?_
    simp -implicitDefEqProofs only [vt, vm, ↓atI_fold, forall_const, implies_true, sevalprocAttr, dd_HB]
    subst hK52
    refine eb_seq ?_
    refine rb_seq ?_
    rcases ite_or h with ⟨k54, h⟩ | ⟨k54, h⟩
    · refine rb_true (by first | exact congrArg D.bool k54 | rfl) ?_
      refine rb_skip ?_
      refine eb_seq ?_
      refine rb_seq ?_
      refine rb_block ?_
      refine rb_seq ?_
      refine rb_regionK fun K66 hK66 => ?_
      simp -implicitDefEqProofs only [vt, vm, ↓atI_fold, forall_const, implies_true, sevalprocAttr, dd_HB, k54]
      obtain ⟨y67, h68, h⟩ := bind_some h
      simp -implicitDefEqProofs only [vt, vm, ↓atI_fold, forall_const, implies_true, sevalprocAttr, dd_HB, k54, h68]
      subst hK66
      refine eb_seq ?_
      refine rb_regionK fun K69 hK69 => ?_
      simp -implicitDefEqProofs only [vt, vm, ↓atI_fold, forall_const, implies_true, sevalprocAttr, dd_HB, k54, h68]
      obtain ⟨h70, h⟩ := ite_on h
      refine eW.intro (c_WriteString1 I (id := 0) (nid := 9) (id2 := 1) (n := x7.2.length) (s := y67.Text) (l := x7.2) (by first | rfl | (simp -implicitDefEqProofs only [vt, vm, ↓atI_fold, forall_const, implies_true, sevalprocAttr, dd_HB, k54, h68]; done)) (by first | rfl | (simp -implicitDefEqProofs only [vt, vm, ↓atI_fold, forall_const, implies_true, sevalprocAttr, dd_HB, k54, h68]; done)) (by first | rfl | (simp; done)) h70 (by decide)) (by first | rfl | (simp [List.map_append, dd_HB]; done)) rfl ?_
      simp -implicitDefEqProofs only [vt, vm, ↓atI_fold, forall_const, implies_true, sevalprocAttr, dd_HB, k54, h68]
      subst hK69
      refine eb_blk_n ?_
      refine eb_seq ?_
      refine rb_regionK fun K71 hK71 => ?_
      simp -implicitDefEqProofs only [vt, vm, ↓atI_fold, forall_const, implies_true, sevalprocAttr, dd_HB, k54, h68]
      subst hK71
      obtain rfl := Option.some.inj h
      exact eb_nil ⟨rfl, Wk.of (fun i => if i = 1 then some 9 else if i = 0 then some 0 else some i) _ _ _ (by simp -implicitDefEqProofs [kv, km, dd_HB, k54]) (by simp -implicitDefEqProofs [kv, km, dd_HB, k54])⟩
    · refine rb_false (by first | exact congrArg D.bool k54 | rfl) ?_
      refine rb_exit ?_
      refine eb_seq_e ?_
      obtain rfl := Option.some.inj h
      exact eb_nil ⟨rfl, Wk.of (fun i => if i = 1 then some 1 else if i = 0 then some 0 else some i) _ _ _ (by simp -implicitDefEqProofs [kv, km, dd_HB, k54]) (by simp -implicitDefEqProofs [kv, km, dd_HB, k54])⟩
  · refine eb_blk_hit ?_
    refine eb_seq ?_
    refine rb_seq ?_
    refine rb_regionK fun K74 hK74 => ?_
    simp -implicitDefEqProofs only [vt, vm, ↓atI_fold, forall_const, implies_true, sevalprocAttr, dd_HB]
    refine eW.intro (c_String1 I (id := 0) (nid := 2) (id2 := 1) (n := e8.length) (l := e8) (by first | rfl | (simp -implicitDefEqProofs only [vt, vm, ↓atI_fold, forall_const, implies_true, sevalprocAttr, dd_HB]; done)) (by first | rfl | (simp -implicitDefEqProofs only [vt, vm, ↓atI_fold, forall_const, implies_true, sevalprocAttr, dd_HB]; done)) (by first | rfl | (simp; done))) (by first | rfl | (simp [List.map_append, dd_HB]; done)) rfl ?_
    simp -implicitDefEqProofs only [vt, vm, ↓atI_fold, forall_const, implies_true, sevalprocAttr, dd_HB]
    subst hK74
    refine eb_seq ?_
    refine rb_ret ?_
    obtain rfl := Option.some.inj h
    refine eb_nil ?_
    simp -implicitDefEqProofs only [vt, vm, ↓atI_fold, forall_const, implies_true, sevalprocAttr, retQ_r, Tryd.results87, dd_HB] <;> first | rfl | (simp [List.map_append, dd_HB]; done)
-- style.Len
def g_style_Len_s1 (row_0 : T_api_Row) (x7 : Int × Int) : Option (Nx (Int × Int) (Unit ⊕ Int)) :=
  (if (decide (x7.2 < (row_0.Runs.length : Int))) then ((atI row_0.Runs x7.2).bind fun y76 => ((g_charset_Len y76.Text).bind fun r82 => (if (decide (r82 < 0)) then (some (.out (.inl ()))) else (some (.go ((IntKind.i64.wrap (x7.1 + r82)), (IntKind.i64.wrap (x7.2 + 1)))))))) else (some (.out (.inr x7.1))))
def g_style_Len (row_0 : T_api_Row) : Option (Int) :=
  ((iter (g_style_Len_s1 row_0) (0, 0)).bind fun e8 => (match e8 with | Sum.inl e8 => (some (-1)) | Sum.inr (e8) => (some e8)))
theorem a_style_Len (I : World → Prop) (hI : Stab I) (hU8T : ∀ w, I w → U8T w) (row_0 : T_api_Row) {r : Int} (h : g_style_Len row_0 = some r) : AFun Tryd.prog I 86 [T_api_Row.d row_0] (.int .i64 r) := by
  refine AFun.enterB hI Tryd.func86 rfl (by decide) (by simp [Tryd.f86]) (by kernel_rfl) ?_
  unfold g_style_Len at h
  simp only [S0, Tryd.ntmps86, dd_HB]
  refine rb_seq ?_
  refine rb_regionK fun K2 hK2 => ?_
  simp -implicitDefEqProofs only [vt, vm, ↓atI_fold, forall_const, implies_true, sevalprocAttr, dd_HB]
  subst hK2
  refine eb_seq ?_
  refine rb_seq ?_
  refine rb_regionK fun K4 hK4 => ?_
  simp -implicitDefEqProofs only [vt, vm, ↓atI_fold, forall_const, implies_true, sevalprocAttr, dd_HB]
  subst hK4
  refine eb_seq ?_
  refine rb_seq ?_
  refine rb_seq ?_
  refine rb_regionK fun K6 hK6 => ?_
  simp -implicitDefEqProofs only [vt, vm, ↓atI_fold, forall_const, implies_true, sevalprocAttr, dd_HB]
  subst hK6
  refine eb_seq ?_
  refine rb_block ?_
  obtain ⟨e8, h91, h⟩ := bind_some h
  refine rb_loop (fun x7 => ⟨envL [(3, .int .i64 x7.1), (8, .sl (row_0.Runs.map T_api_Run.d)), (9, .int .i64 (row_0.Runs.length : Int)), (10, .int .i64 x7.2)], heapL [], 0, 24⟩) (fun w => match w with | Sum.inl _ => .ret | Sum.inr (_) => .exit 0) (fun w => match w with | Sum.inl e8 => ⟨envL [(2, .int .i64 (-1))], heapL [], 0, 24⟩ | Sum.inr (e8) => ⟨envL [(3, .int .i64 e8)], heapL [], 0, 24⟩) h91 (Wk.of (fun i => some i) _ _ _ (by simp -implicitDefEqProofs [kv, km, dd_HB]) (by simp -implicitDefEqProofs [kv, km, dd_HB])) (by intro w; rcases w with w | w <;> simp) ?_ ?_
  · clear h
    intro x7 y h
    unfold g_style_Len_s1 at h
    refine rb_seq ?_
    refine rb_regionK fun K51 hK51 => ?_
    simp -implicitDefEqProofs only [vt, vm, ↓atI_fold, forall_const, implies_true, sevalprocAttr, dd_HB]
    subst hK51
    refine eb_seq ?_
    refine rb_seq ?_
    rcases ite_or h with ⟨k53, h⟩ | ⟨k53, h⟩
    · refine rb_true (by first | exact congrArg D.bool k53 | rfl) ?_
      refine rb_skip ?_
      refine eb_seq ?_
      refine rb_seq ?_
      refine rb_block ?_
      refine rb_seq ?_
      refine rb_regionK fun K75 hK75 => ?_
      simp -implicitDefEqProofs only [vt, vm, ↓atI_fold, forall_const, implies_true, sevalprocAttr, dd_HB, k53]
      obtain ⟨y76, h77, h⟩ := bind_some h
      simp -implicitDefEqProofs only [vt, vm, ↓atI_fold, forall_const, implies_true, sevalprocAttr, dd_HB, k53, h77]
      subst hK75
      refine eb_seq ?_
      refine rb_seq ?_
      refine rb_regionK fun K81 hK81 => ?_
      simp -implicitDefEqProofs only [vt, vm, ↓atI_fold, forall_const, implies_true, sevalprocAttr, dd_HB, k53, h77]
      obtain ⟨r82, h83, h⟩ := bind_some h
      refine cW.intro (a_charset_Len I hI hU8T y76.Text h83) (by first | rfl | (simp [List.map_append, dd_HB]; done)) ?_
      simp -implicitDefEqProofs only [vt, vm, ↓atI_fold, forall_const, implies_true, sevalprocAttr, dd_HB, k53, h77]
      subst hK81
      refine eb_seq ?_
      refine rb_seq ?_
      refine rb_seq ?_
      refine rb_regionK fun K85 hK85 => ?_
      simp -implicitDefEqProofs only [vt, vm, ↓atI_fold, forall_const, implies_true, sevalprocAttr, dd_HB, k53, h77]
      subst hK85
      refine eb_seq ?_
      rcases ite_or h with ⟨k86, h⟩ | ⟨k86, h⟩
      · refine rb_true (by first | exact congrArg D.bool k86 | rfl) ?_
        refine rb_seq ?_
        refine rb_regionK fun K88 hK88 => ?_
        simp -implicitDefEqProofs only [vt, vm, ↓atI_fold, forall_const, implies_true, sevalprocAttr, dd_HB, k53, h77, k86]
        subst hK88
        refine eb_seq ?_
        refine rb_ret ?_
        refine eb_seq_r ?_
        refine eb_blk_r ?_
        refine eb_seq_r ?_
        obtain rfl := Option.some.inj h
        exact eb_nil ⟨rfl, Wk.of (fun i => some i) _ _ _ (by simp -implicitDefEqProofs [kv, km, dd_HB, k53, k86]) (by simp -implicitDefEqProofs [kv, km, dd_HB, k53, k86])⟩
      · refine rb_false (by first | exact congrArg D.bool k86 | rfl) ?_
        refine rb_skip ?_
        refine eb_seq ?_
        refine rb_regionK fun K89 hK89 => ?_
        simp -implicitDefEqProofs only [vt, vm, ↓atI_fold, forall_const, implies_true, sevalprocAttr, dd_HB, k53, h77, k86]
        subst hK89
        refine eb_blk_n ?_
        refine eb_seq ?_
        refine rb_regionK fun K90 hK90 => ?_
        simp -implicitDefEqProofs only [vt, vm, ↓atI_fold, forall_const, implies_true, sevalprocAttr, dd_HB, k53, h77, k86]
        subst hK90
        obtain rfl := Option.some.inj h
        exact eb_nil ⟨rfl, Wk.of (fun i => some i) _ _ _ (by simp -implicitDefEqProofs [kv, km, dd_HB, k53, k86]) (by simp -implicitDefEqProofs [kv, km, dd_HB, k53, k86])⟩
    · refine rb_false (by first | exact congrArg D.bool k53 | rfl) ?_
      refine rb_exit ?_
      refine eb_seq_e ?_
      obtain rfl := Option.some.inj h
      exact eb_nil ⟨rfl, Wk.of (fun i => some i) _ _ _ (by simp -implicitDefEqProofs [kv, km, dd_HB, k53]) (by simp -implicitDefEqProofs [kv, km, dd_HB, k53])⟩
  · rcases e8 with e8 | e8
    · try dsimp only at h ⊢
      refine eb_blk_r ?_
      refine eb_seq_r ?_
      obtain rfl := Option.some.inj h
      refine eb_nil ?_
      simp -implicitDefEqProofs only [vt, vm, ↓atI_fold, forall_const, implies_true, sevalprocAttr, retQ_r, Tryd.results86, dd_HB] <;> first | rfl | (simp [List.map_append, dd_HB]; done)
    · try dsimp only at h ⊢
      refine eb_blk_hit ?_
      refine eb_seq ?_
      refine rb_seq ?_
      refine rb_regionK fun K93 hK93 => ?_
      simp -implicitDefEqProofs only [vt, vm, ↓atI_fold, forall_const, implies_true, sevalprocAttr, dd_HB]
      subst hK93
      refine eb_seq ?_
      refine rb_ret ?_
      obtain rfl := Option.some.inj h
      refine eb_nil ?_
      simp -implicitDefEqProofs only [vt, vm, ↓atI_fold, forall_const, implies_true, sevalprocAttr, retQ_r, Tryd.results86, dd_HB] <;> first | rfl | (simp [List.map_append, dd_HB]; done)
-- event.row
def g_event_row (r_0 : T_api_Row) : Option (Int) :=
  ((g_style_Check r_0).bind fun r7 => (if (r7 != 0) then (some r7) else ((g_style_Plain r_0).bind fun r18 => (((if (r18 == ([] : List UInt8)) then (some true) else ((atI r18 0).bind fun b33 => (if ((b33.toNat : Int) == 32) then (some true) else ((atI r18 (IntKind.i64.wrap ((r18.length : Int) - 1))).bind fun b36 => (if ((b36.toNat : Int) == 32) then (some true) else ((g_strings_Contains r18 [32, 32]).bind fun r39 => (some r39))))))) : Option (Bool)).bind fun v30 => (if v30 then (some 4) else ((g_style_Len r_0).bind fun r49 => (if (decide (32 < r49)) then (some 11) else (some 0))))))))
theorem a_event_row (I : World → Prop) (hI : Stab I) (hShp : ∀ w, I w → Shp w) (hU8T : ∀ w, I w → U8T w) (r_0 : T_api_Row) {r : Int} (h : g_event_row r_0 = some r) : AFun Tryd.prog I 113 [T_api_Row.d r_0] (.int .i64 r) := by
  refine AFun.enterB hI Tryd.func113 rfl (by decide) (by simp [Tryd.f113]) (by kernel_rfl) ?_
  unfold g_event_row at h
  simp only [S0, Tryd.ntmps113, dd_HB]
  refine rb_seq ?_
  refine rb_regionK fun K2 hK2 => ?_
  simp -implicitDefEqProofs only [vt, vm, ↓atI_fold, forall_const, implies_true, sevalprocAttr, dd_HB]
  subst hK2
  refine eb_seq ?_
  refine rb_seq ?_
  refine rb_seq ?_
  refine rb_regionK fun K6 hK6 => ?_
  simp -implicitDefEqProofs only [vt, vm, ↓atI_fold, forall_const, implies_true, sevalprocAttr, dd_HB]
  obtain ⟨r7, h8, h⟩ := bind_some h
  refine cW.intro (a_style_Check I hI hU8T r_0 h8) (by first | rfl | (simp [List.map_append, dd_HB]; done)) ?_
  simp -implicitDefEqProofs only [vt, vm, ↓atI_fold, forall_const, implies_true, sevalprocAttr, dd_HB]
  subst hK6
  refine eb_seq ?_
  refine rb_seq ?_
  refine rb_regionK fun K10 hK10 => ?_
  simp -implicitDefEqProofs only [vt, vm, ↓atI_fold, forall_const, implies_true, sevalprocAttr, dd_HB]
  subst hK10
  refine eb_seq ?_
  rcases ite_or h with ⟨k11, h⟩ | ⟨k11, h⟩
  · refine rb_true (by first | exact congrArg D.bool k11 | rfl) ?_
    refine rb_seq ?_
    refine rb_regionK fun K13 hK13 => ?_
    simp -implicitDefEqProofs only [vt, vm, ↓atI_fold, forall_const, implies_true, sevalprocAttr, dd_HB, k11]
    subst hK13
    refine eb_seq ?_
    refine rb_ret ?_
    refine eb_seq_r ?_
    obtain rfl := Option.some.inj h
    refine eb_nil ?_
    simp -implicitDefEqProofs only [vt, vm, ↓atI_fold, forall_const, implies_true, sevalprocAttr, retQ_r, Tryd.results113, dd_HB, k11] <;> first | rfl | (simp [List.map_append, dd_HB]; done)
  · refine rb_false (by first | exact congrArg D.bool k11 | rfl) ?_
    refine rb_skip ?_
    refine eb_seq ?_
    refine rb_seq ?_
    refine rb_regionK fun K17 hK17 => ?_
    simp -implicitDefEqProofs only [vt, vm, ↓atI_fold, forall_const, implies_true, sevalprocAttr, dd_HB, k11]
    obtain ⟨r18, h19, h⟩ := bind_some h
    refine cW.intro (a_style_Plain I hI r_0 h19) (by first | rfl | (simp [List.map_append, dd_HB]; done)) ?_
    simp -implicitDefEqProofs only [vt, vm, ↓atI_fold, forall_const, implies_true, sevalprocAttr, dd_HB, k11]
    subst hK17
    refine eb_seq ?_
    refine rb_seq ?_
    obtain ⟨v30, h41, h⟩ := bind_some h
    refine rb_cut (fun v30 => ⟨envL [(1, .ptr 0 0), (30, .bool v30)], heapL [(0, .box none [.sl (r_0.Runs.map T_api_Run.d)])], 1, 34⟩) h41 ?_ ?_
    · clear h
      intro v30 h
      refine rb_regionK fun K31 hK31 => ?_
      simp -implicitDefEqProofs only [vt, vm, ↓atI_fold, forall_const, implies_true, sevalprocAttr, dd_HB, k11]
      rcases ite_or h with ⟨k32, h⟩ | ⟨k32, h⟩
      · simp -implicitDefEqProofs only [vt, vm, ↓atI_fold, forall_const, implies_true, sevalprocAttr, dd_HB, k11, k32]
        subst hK31
        obtain rfl := Option.some.inj h
        exact eb_nil ⟨rfl, Wk.of (fun i => if i = 0 then some 0 else some i) _ _ _ (by simp -implicitDefEqProofs [kv, km, dd_HB, k11, k32]) (by simp -implicitDefEqProofs [kv, km, dd_HB, k11, k32])⟩
      · simp -implicitDefEqProofs only [vt, vm, ↓atI_fold, forall_const, implies_true, sevalprocAttr, dd_HB, k11, k32]
        obtain ⟨b33, h34, h⟩ := bind_some h
        simp -implicitDefEqProofs only [vt, vm, ↓atI_fold, forall_const, implies_true, sevalprocAttr, dd_HB, k11, k32, h34]
        rcases ite_or h with ⟨k35, h⟩ | ⟨k35, h⟩
        · simp -implicitDefEqProofs only [vt, vm, ↓atI_fold, forall_const, implies_true, sevalprocAttr, dd_HB, k11, k32, h34, k35]
          subst hK31
          obtain rfl := Option.some.inj h
          exact eb_nil ⟨rfl, Wk.of (fun i => if i = 0 then some 0 else some i) _ _ _ (by simp -implicitDefEqProofs [kv, km, dd_HB, k11, k32, k35]) (by simp -implicitDefEqProofs [kv, km, dd_HB, k11, k32, k35])⟩
        · simp -implicitDefEqProofs only [vt, vm, ↓atI_fold, forall_const, implies_true, sevalprocAttr, dd_HB, k11, k32, h34, k35]
          obtain ⟨b36, h37, h⟩ := bind_some h
          simp -implicitDefEqProofs only [vt, vm, ↓atI_fold, forall_const, implies_true, sevalprocAttr, dd_HB, k11, k32, h34, k35, h37]
          rcases ite_or h with ⟨k38, h⟩ | ⟨k38, h⟩
          · simp -implicitDefEqProofs only [vt, vm, ↓atI_fold, forall_const, implies_true, sevalprocAttr, dd_HB, k11, k32, h34, k35, h37, k38]
            subst hK31
            obtain rfl := Option.some.inj h
            exact eb_nil ⟨rfl, Wk.of (fun i => if i = 0 then some 0 else some i) _ _ _ (by simp -implicitDefEqProofs [kv, km, dd_HB, k11, k32, k35, k38]) (by simp -implicitDefEqProofs [kv, km, dd_HB, k11, k32, k35, k38])⟩
          · simp -implicitDefEqProofs only [vt, vm, ↓atI_fold, forall_const, implies_true, sevalprocAttr, dd_HB, k11, k32, h34, k35, h37, k38]
            obtain ⟨r39, h40, h⟩ := bind_some h
            refine cW.intro (a_strings_Contains I hI hShp r18 [32, 32] h40) (by first | rfl | (simp [List.map_append, dd_HB]; done)) ?_
            simp -implicitDefEqProofs only [vt, vm, ↓atI_fold, forall_const, implies_true, sevalprocAttr, dd_HB, k11, k32, h34, k35, h37, k38]
            subst hK31
            obtain rfl := Option.some.inj h
            exact eb_nil ⟨rfl, Wk.of (fun i => if i = 0 then some 0 else some i) _ _ _ (by simp -implicitDefEqProofs [kv, km, dd_HB, k11, k32, k35, k38]) (by simp -implicitDefEqProofs [kv, km, dd_HB, k11, k32, k35, k38])⟩
    · rcases ite_or h with ⟨k42, h⟩ | ⟨k42, h⟩
      · refine rb_true (by first | exact congrArg D.bool k42 | rfl) ?_
        refine rb_seq ?_
        refine rb_regionK fun K44 hK44 => ?_
        simp -implicitDefEqProofs only [vt, vm, ↓atI_fold, forall_const, implies_true, sevalprocAttr, dd_HB, k11, k42]
        subst hK44
        refine eb_seq ?_
        refine rb_ret ?_
        refine eb_seq_r ?_
        obtain rfl := Option.some.inj h
        refine eb_nil ?_
        simp -implicitDefEqProofs only [vt, vm, ↓atI_fold, forall_const, implies_true, sevalprocAttr, retQ_r, Tryd.results113, dd_HB, k11, k42] <;> first | rfl | (simp [List.map_append, dd_HB]; done)
      · refine rb_false (by first | exact congrArg D.bool k42 | rfl) ?_
        refine rb_skip ?_
        refine eb_seq ?_
        refine rb_seq ?_
        refine rb_seq ?_
        refine rb_regionK fun K48 hK48 => ?_
        simp -implicitDefEqProofs only [vt, vm, ↓atI_fold, forall_const, implies_true, sevalprocAttr, dd_HB, k11, k42]
        obtain ⟨r49, h50, h⟩ := bind_some h
        refine cW.intro (a_style_Len I hI hU8T r_0 h50) (by first | rfl | (simp [List.map_append, dd_HB]; done)) ?_
        simp -implicitDefEqProofs only [vt, vm, ↓atI_fold, forall_const, implies_true, sevalprocAttr, dd_HB, k11, k42]
        subst hK48
        refine eb_seq ?_
        rcases ite_or h with ⟨k51, h⟩ | ⟨k51, h⟩
        · refine rb_true (by first | exact congrArg D.bool k51 | rfl) ?_
          refine rb_seq ?_
          refine rb_regionK fun K53 hK53 => ?_
          simp -implicitDefEqProofs only [vt, vm, ↓atI_fold, forall_const, implies_true, sevalprocAttr, dd_HB, k11, k42, k51]
          subst hK53
          refine eb_seq ?_
          refine rb_ret ?_
          refine eb_seq_r ?_
          obtain rfl := Option.some.inj h
          refine eb_nil ?_
          simp -implicitDefEqProofs only [vt, vm, ↓atI_fold, forall_const, implies_true, sevalprocAttr, retQ_r, Tryd.results113, dd_HB, k11, k42, k51] <;> first | rfl | (simp [List.map_append, dd_HB]; done)
        · refine rb_false (by first | exact congrArg D.bool k51 | rfl) ?_
          refine rb_skip ?_
          refine eb_seq ?_
          refine rb_seq ?_
          refine rb_regionK fun K55 hK55 => ?_
          simp -implicitDefEqProofs only [vt, vm, ↓atI_fold, forall_const, implies_true, sevalprocAttr, dd_HB, k11, k42, k51]
          subst hK55
          refine eb_seq ?_
          refine rb_ret ?_
          obtain rfl := Option.some.inj h
          refine eb_nil ?_
          simp -implicitDefEqProofs only [vt, vm, ↓atI_fold, forall_const, implies_true, sevalprocAttr, retQ_r, Tryd.results113, dd_HB, k11, k42, k51] <;> first | rfl | (simp [List.map_append, dd_HB]; done)
-- event.lens
def g_event_lens_s1 (e_0 : T_api_Event) (x7 : (List Int) × Int) : Option (Nx ((List Int) × Int) ((List Int))) :=
  (if (decide (x7.2 < (e_0.Rows.length : Int))) then ((atI e_0.Rows x7.2).bind fun y78 => ((g_style_Len y78).bind fun r81 => (if (x7.1.length + 1) * 8 ≤ 140737488355328 then (some (.go ((x7.1 ++ [r81]), (IntKind.i64.wrap (x7.2 + 1))))) else none))) else (some (.out x7.1)))
def g_event_lens (e_0 : T_api_Event) : Option ((List Int)) :=
  ((iter (g_event_lens_s1 e_0) ([], 0)).bind fun e8 => (some e8))
theorem a_event_lens (I : World → Prop) (hI : Stab I) (hU8T : ∀ w, I w → U8T w) (e_0 : T_api_Event) {r : (List Int)} (h : g_event_lens e_0 = some r) : AFun Tryd.prog I 114 [T_api_Event.d e_0] (.sl (r.map (D.int .i64))) := by
  refine AFun.enterB hI Tryd.func114 rfl (by decide) (by simp [Tryd.f114]) (by kernel_rfl) ?_
  unfold g_event_lens at h
  simp only [S0, Tryd.ntmps114, dd_HB]
  refine rb_seq ?_
  refine rb_regionK fun K2 hK2 => ?_
  simp -implicitDefEqProofs only [vt, vm, ↓atI_fold, forall_const, implies_true, sevalprocAttr, dd_HB]
  subst hK2
  refine eb_seq ?_
  refine rb_seq ?_
  refine rb_regionK fun K4 hK4 => ?_
  simp -implicitDefEqProofs only [vt, vm, ↓atI_fold, forall_const, implies_true, sevalprocAttr, dd_HB]
  subst hK4
  refine eb_seq ?_
  refine rb_seq ?_
  refine rb_seq ?_
  refine rb_regionK fun K6 hK6 => ?_
  simp -implicitDefEqProofs only [vt, vm, ↓atI_fold, forall_const, implies_true, sevalprocAttr, dd_HB]
  subst hK6
  refine eb_seq ?_
  refine rb_block ?_
  obtain ⟨e8, h86, h⟩ := bind_some h
  refine rb_loop (fun x7 => ⟨envL [(3, .own 0 x7.1.length), (7, .sl (e_0.Rows.map T_api_Row.d)), (8, .int .i64 (e_0.Rows.length : Int)), (9, .int .i64 x7.2)], heapL [(0, .vec 3 1 (x7.1.map (D.int .i64)) false)], 1, 20⟩) (fun _ => .exit 0) (fun e8 => ⟨envL [(3, .own 0 e8.length)], heapL [(0, .vec 3 1 (e8.map (D.int .i64)) false)], 1, 20⟩) h86 (Wk.of (fun i => if i = 0 then none else some i) _ _ _ (by simp -implicitDefEqProofs [kv, km, dd_HB]) (by simp -implicitDefEqProofs [kv, km, dd_HB])) (by intro w; simp) ?_ ?_
  · clear h
    intro x7 y h
    unfold g_event_lens_s1 at h
    refine rb_seq ?_
    refine rb_regionK fun K60 hK60 => ?_
    simp -implicitDefEqProofs only [vt, vm, ↓atI_fold, forall_const, implies_true, sevalprocAttr, dd_HB]
    subst hK60
    refine eb_seq ?_
    refine rb_seq ?_
    rcases ite_or h with ⟨k62, h⟩ | ⟨k62, h⟩
    · refine rb_true (by first | exact congrArg D.bool k62 | rfl) ?_
      refine rb_skip ?_
      refine eb_seq ?_
      refine rb_seq ?_
      refine rb_block ?_
      refine rb_seq ?_
      refine rb_regionK fun K77 hK77 => ?_
      simp -implicitDefEqProofs only [vt, vm, ↓atI_fold, forall_const, implies_true, sevalprocAttr, dd_HB, k62]
      obtain ⟨y78, h79, h⟩ := bind_some h
      simp -implicitDefEqProofs only [vt, vm, ↓atI_fold, forall_const, implies_true, sevalprocAttr, dd_HB, k62, h79]
      subst hK77
      refine eb_seq ?_
      refine rb_regionK fun K80 hK80 => ?_
      simp -implicitDefEqProofs only [vt, vm, ↓atI_fold, forall_const, implies_true, sevalprocAttr, dd_HB, k62, h79]
      obtain ⟨r81, h82, h⟩ := bind_some h
      refine cW.intro (a_style_Len I hI hU8T y78 h82) (by first | rfl | (simp [List.map_append, dd_HB]; done)) ?_
      simp -implicitDefEqProofs only [vt, vm, ↓atI_fold, forall_const, implies_true, sevalprocAttr, dd_HB, k62, h79]
      obtain ⟨h83, h⟩ := ite_on h
      have h84 : x7.1.length + 1 ≤ 9223372036854775807 := by omega
      try simp only [Nat.reduceLeDiff] at h84
      simp -implicitDefEqProofs only [vt, vm, ↓atI_fold, forall_const, implies_true, sevalprocAttr, dd_HB, k62, h79, h84, h83]
      subst hK80
      refine eb_blk_n ?_
      refine eb_seq ?_
      refine rb_regionK fun K85 hK85 => ?_
      simp -implicitDefEqProofs only [vt, vm, ↓atI_fold, forall_const, implies_true, sevalprocAttr, dd_HB, k62, h79, h84, h83]
      subst hK85
      obtain rfl := Option.some.inj h
      exact eb_nil ⟨rfl, Wk.of (fun i => if i = 0 then some 10 else some i) _ _ _ (by simp -implicitDefEqProofs [kv, km, dd_HB, k62]) (by simp -implicitDefEqProofs [kv, km, dd_HB, k62])⟩
    · refine rb_false (by first | exact congrArg D.bool k62 | rfl) ?_
      refine rb_exit ?_
      refine eb_seq_e ?_
      obtain rfl := Option.some.inj h
      exact eb_nil ⟨rfl, Wk.of (fun i => if i = 0 then some 0 else some i) _ _ _ (by simp -implicitDefEqProofs [kv, km, dd_HB, k62]) (by simp -implicitDefEqProofs [kv, km, dd_HB, k62])⟩
  · refine eb_blk_hit ?_
    refine eb_seq ?_
    refine rb_seq ?_
    refine rb_regionK fun K88 hK88 => ?_
    simp -implicitDefEqProofs only [vt, vm, ↓atI_fold, forall_const, implies_true, sevalprocAttr, dd_HB]
    subst hK88
    refine eb_seq ?_
    refine rb_ret ?_
    obtain rfl := Option.some.inj h
    refine eb_nil ?_
    simp -implicitDefEqProofs only [vt, vm, ↓atI_fold, forall_const, implies_true, sevalprocAttr, retQ_r, Tryd.results114, dd_HB] <;> first | rfl | (simp [List.map_append, dd_HB]; done)
-- event.Check
def g_event_Check_s1 (e_0 : T_api_Event) (x111 : Int) : Option (Nx (Int) (Int ⊕ Unit)) :=
  (if (decide (x111 < (e_0.Rows.length : Int))) then ((atI e_0.Rows x111).bind fun y216 => ((g_event_row y216).bind fun r222 => (if (r222 != 0) then (some (.out (.inl r222))) else (some (.go (IntKind.i64.wrap (x111 + 1))))))) else (some (.out (.inr ()))))
def g_event_Check (e_0 : T_api_Event) (regions_1 : List T_api_Region) : Option (Int) :=
  ((g_region_Find regions_1 e_0.Region).bind fun r7 => (((if (decide (e_0.ID < 1)) then (some true) else (if (decide (1099511627776 < e_0.ID)) then (some true) else ((g_event_spans e_0.Span).bind fun r69 => (some (!r69))))) : Option (Bool)).bind fun v65 => (if v65 then (some 2) else (if r7.2 then ((g_event_KindName e_0.Kind).bind fun r82 => (if (r82 == ([] : List UInt8)) then (some 3) else (((if (e_0.Speaker == ([] : List UInt8)) then (some false) else ((g_lines_Name e_0.Speaker).bind fun r94 => (some (!r94)))) : Option (Bool)).bind fun v91 => (if v91 then (some 5) else (((if ((e_0.Rows.length : Int) == 0) then (some true) else (some (decide (4 < (e_0.Rows.length : Int))))) : Option (Bool)).bind fun v102 => (if v102 then (some 9) else ((iter (g_event_Check_s1 e_0) 0).bind fun e112 => (match e112 with | Sum.inl e112 => (some e112) | Sum.inr (e112) => ((g_event_lens e_0).bind fun r237 => ((g_region_Place r7.1 r237).bind fun r239 => (some r239.2))))))))))) else (some 6)))))
theorem a_event_Check (I : World → Prop) (hI : Stab I) (hShp : ∀ w, I w → Shp w) (hU8T : ∀ w, I w → U8T w) (e_0 : T_api_Event) (regions_1 : List T_api_Region) {r : Int} (h : g_event_Check e_0 regions_1 = some r) : AFun Tryd.prog I 80 [T_api_Event.d e_0, .sl (regions_1.map T_api_Region.d)] (.int .i64 r) := by
  refine AFun.enterB hI Tryd.func80 rfl (by decide) (by simp [Tryd.f80]) (by kernel_rfl) ?_
  unfold g_event_Check at h
  simp only [S0, Tryd.ntmps80, dd_HB]
  refine rb_seq ?_
  refine rb_regionK fun K2 hK2 => ?_
  simp -implicitDefEqProofs only [vt, vm, ↓atI_fold, forall_const, implies_true, sevalprocAttr, dd_HB]
  subst hK2
  refine eb_seq ?_
  refine rb_seq ?_
  refine rb_regionK fun K6 hK6 => ?_
  simp -implicitDefEqProofs only [vt, vm, ↓atI_fold, forall_const, implies_true, sevalprocAttr, dd_HB]
  obtain ⟨r7, h8, h⟩ := bind_some h
  refine cW.intro (a_region_Find I hI regions_1 e_0.Region h8) (by first | rfl | (simp [List.map_append, dd_HB]; done)) ?_
  simp -implicitDefEqProofs only [vt, vm, ↓atI_fold, forall_const, implies_true, sevalprocAttr, dd_HB]
  subst hK6
  refine eb_seq ?_
  refine rb_seq ?_
  refine rb_block ?_
  obtain ⟨v65, h71, h⟩ := bind_some h
  refine rb_cut (fun v65 => ⟨envL [(2, .ptr 0 0), (5, .ptr 1 0), (6, .bool r7.2), (19, .bool v65)], heapL [(0, .box none [.int .i64 e_0.ID, .int .i64 e_0.Span.In, .int .i64 e_0.Span.Out, .str e_0.Region, .int .u8 e_0.Kind, .str e_0.Speaker, .sl (e_0.Rows.map T_api_Row.d)]), (1, .box none [.str r7.1.Name, .int .i64 r7.1.Top, .int .i64 r7.1.Height, .int .i64 r7.1.Left, .int .i64 r7.1.Width, .int .u8 r7.1.Align, .bool r7.1.Bottom])], 2, 84⟩) h71 ?_ ?_
  · clear h
    intro v65 h
    refine rb_regionK fun K66 hK66 => ?_
    simp -implicitDefEqProofs only [vt, vm, ↓atI_fold, forall_const, implies_true, sevalprocAttr, dd_HB]
    rcases ite_or h with ⟨k67, h⟩ | ⟨k67, h⟩
    · simp -implicitDefEqProofs only [vt, vm, ↓atI_fold, forall_const, implies_true, sevalprocAttr, dd_HB, k67]
      subst hK66
      obtain rfl := Option.some.inj h
      exact eb_nil ⟨rfl, Wk.of (fun i => if i = 1 then some 9 else if i = 0 then some 0 else some i) _ _ _ (by simp -implicitDefEqProofs [kv, km, dd_HB, k67]) (by simp -implicitDefEqProofs [kv, km, dd_HB, k67])⟩
    · simp -implicitDefEqProofs only [vt, vm, ↓atI_fold, forall_const, implies_true, sevalprocAttr, dd_HB, k67]
      rcases ite_or h with ⟨k68, h⟩ | ⟨k68, h⟩
      · simp -implicitDefEqProofs only [vt, vm, ↓atI_fold, forall_const, implies_true, sevalprocAttr, dd_HB, k67, k68]
        subst hK66
        obtain rfl := Option.some.inj h
        exact eb_nil ⟨rfl, Wk.of (fun i => if i = 1 then some 9 else if i = 0 then some 0 else some i) _ _ _ (by simp -implicitDefEqProofs [kv, km, dd_HB, k67, k68]) (by simp -implicitDefEqProofs [kv, km, dd_HB, k67, k68])⟩
      · simp -implicitDefEqProofs only [vt, vm, ↓atI_fold, forall_const, implies_true, sevalprocAttr, dd_HB, k67, k68]
        obtain ⟨r69, h70, h⟩ := bind_some h
        refine cW.intro (a_event_spans I hI e_0.Span h70) (by first | rfl | (simp [List.map_append, dd_HB]; done)) ?_
        simp -implicitDefEqProofs only [vt, vm, ↓atI_fold, forall_const, implies_true, sevalprocAttr, dd_HB, k67, k68]
        subst hK66
        obtain rfl := Option.some.inj h
        exact eb_nil ⟨rfl, Wk.of (fun i => if i = 1 then some 9 else if i = 0 then some 0 else some i) _ _ _ (by simp -implicitDefEqProofs [kv, km, dd_HB, k67, k68]) (by simp -implicitDefEqProofs [kv, km, dd_HB, k67, k68])⟩
  · rcases ite_or h with ⟨k72, h⟩ | ⟨k72, h⟩
    · refine rb_true (by first | exact congrArg D.bool k72 | rfl) ?_
      refine rb_seq ?_
      refine rb_regionK fun K74 hK74 => ?_
      simp -implicitDefEqProofs only [vt, vm, ↓atI_fold, forall_const, implies_true, sevalprocAttr, dd_HB, k72]
      subst hK74
      refine eb_seq ?_
      refine rb_ret ?_
      refine eb_blk_r ?_
      refine eb_seq_r ?_
      obtain rfl := Option.some.inj h
      refine eb_nil ?_
      simp -implicitDefEqProofs only [vt, vm, ↓atI_fold, forall_const, implies_true, sevalprocAttr, retQ_r, Tryd.results80, dd_HB, k72] <;> first | rfl | (simp [List.map_append, dd_HB]; done)
    · refine rb_false (by first | exact congrArg D.bool k72 | rfl) ?_
      refine rb_seq ?_
      refine rb_regionK fun K76 hK76 => ?_
      simp -implicitDefEqProofs only [vt, vm, ↓atI_fold, forall_const, implies_true, sevalprocAttr, dd_HB, k72]
      subst hK76
      refine eb_seq ?_
      rcases ite_or h with ⟨k77, h⟩ | ⟨k77, h⟩
      · refine rb_false (by first | exact congrArg D.bool (congrArg Bool.not k77) | rfl) ?_
        refine rb_seq ?_
        refine rb_regionK fun K81 hK81 => ?_
        simp -implicitDefEqProofs only [vt, vm, ↓atI_fold, forall_const, implies_true, sevalprocAttr, dd_HB, k72, k77]
        obtain ⟨r82, h83, h⟩ := bind_some h
        refine cW.intro (a_event_KindName I hI e_0.Kind h83) (by first | rfl | (simp [List.map_append, dd_HB]; done)) ?_
        simp -implicitDefEqProofs only [vt, vm, ↓atI_fold, forall_const, implies_true, sevalprocAttr, dd_HB, k72, k77]
        subst hK81
        refine eb_seq ?_
        rcases ite_or h with ⟨k84, h⟩ | ⟨k84, h⟩
        · refine rb_true (by first | exact congrArg D.bool k84 | rfl) ?_
          refine rb_seq ?_
          refine rb_regionK fun K86 hK86 => ?_
          simp -implicitDefEqProofs only [vt, vm, ↓atI_fold, forall_const, implies_true, sevalprocAttr, dd_HB, k72, k77, k84]
          subst hK86
          refine eb_seq ?_
          refine rb_ret ?_
          refine eb_blk_r ?_
          refine eb_seq_r ?_
          obtain rfl := Option.some.inj h
          refine eb_nil ?_
          simp -implicitDefEqProofs only [vt, vm, ↓atI_fold, forall_const, implies_true, sevalprocAttr, retQ_r, Tryd.results80, dd_HB, k72, k77, k84] <;> first | rfl | (simp [List.map_append, dd_HB]; done)
        · refine rb_false (by first | exact congrArg D.bool k84 | rfl) ?_
          obtain ⟨v91, h96, h⟩ := bind_some h
          refine rb_cut (fun v91 => ⟨envL [(2, .ptr 0 0), (5, .ptr 1 0), (42, .bool v91)], heapL [(0, .box none [.int .i64 e_0.ID, .int .i64 e_0.Span.In, .int .i64 e_0.Span.Out, .str e_0.Region, .int .u8 e_0.Kind, .str e_0.Speaker, .sl (e_0.Rows.map T_api_Row.d)]), (1, .box none [.str r7.1.Name, .int .i64 r7.1.Top, .int .i64 r7.1.Height, .int .i64 r7.1.Left, .int .i64 r7.1.Width, .int .u8 r7.1.Align, .bool r7.1.Bottom])], 2, 84⟩) h96 ?_ ?_
          · clear h
            intro v91 h
            refine rb_regionK fun K92 hK92 => ?_
            simp -implicitDefEqProofs only [vt, vm, ↓atI_fold, forall_const, implies_true, sevalprocAttr, dd_HB, k72, k77, k84]
            rcases ite_or h with ⟨k93, h⟩ | ⟨k93, h⟩
            · simp -implicitDefEqProofs only [vt, vm, ↓atI_fold, forall_const, implies_true, sevalprocAttr, dd_HB, k72, k77, k84, k93]
              subst hK92
              obtain rfl := Option.some.inj h
              exact eb_nil ⟨rfl, Wk.of (fun i => if i = 1 then some 1 else if i = 0 then some 0 else some i) _ _ _ (by simp -implicitDefEqProofs [kv, km, dd_HB, k72, k77, k84, k93]) (by simp -implicitDefEqProofs [kv, km, dd_HB, k72, k77, k84, k93])⟩
            · simp -implicitDefEqProofs only [vt, vm, ↓atI_fold, forall_const, implies_true, sevalprocAttr, dd_HB, k72, k77, k84, k93]
              obtain ⟨r94, h95, h⟩ := bind_some h
              refine cW.intro (a_lines_Name I hI e_0.Speaker h95) (by first | rfl | (simp [List.map_append, dd_HB]; done)) ?_
              simp -implicitDefEqProofs only [vt, vm, ↓atI_fold, forall_const, implies_true, sevalprocAttr, dd_HB, k72, k77, k84, k93]
              subst hK92
              obtain rfl := Option.some.inj h
              exact eb_nil ⟨rfl, Wk.of (fun i => if i = 1 then some 1 else if i = 0 then some 0 else some i) _ _ _ (by simp -implicitDefEqProofs [kv, km, dd_HB, k72, k77, k84, k93]) (by simp -implicitDefEqProofs [kv, km, dd_HB, k72, k77, k84, k93])⟩
          · rcases ite_or h with ⟨k97, h⟩ | ⟨k97, h⟩
            · refine rb_true (by first | exact congrArg D.bool k97 | rfl) ?_
              refine rb_seq ?_
              refine rb_regionK fun K99 hK99 => ?_
              simp -implicitDefEqProofs only [vt, vm, ↓atI_fold, forall_const, implies_true, sevalprocAttr, dd_HB, k72, k77, k84, k97]
              subst hK99
              refine eb_seq ?_
              refine rb_ret ?_
              refine eb_blk_r ?_
              refine eb_seq_r ?_
              obtain rfl := Option.some.inj h
              refine eb_nil ?_
              simp -implicitDefEqProofs only [vt, vm, ↓atI_fold, forall_const, implies_true, sevalprocAttr, retQ_r, Tryd.results80, dd_HB, k72, k77, k84, k97] <;> first | rfl | (simp [List.map_append, dd_HB]; done)
            · refine rb_false (by first | exact congrArg D.bool k97 | rfl) ?_
              obtain ⟨v102, h105, h⟩ := bind_some h
              refine rb_cut (fun v102 => ⟨envL [(2, .ptr 0 0), (5, .ptr 1 0), (52, .bool v102)], heapL [(0, .box none [.int .i64 e_0.ID, .int .i64 e_0.Span.In, .int .i64 e_0.Span.Out, .str e_0.Region, .int .u8 e_0.Kind, .str e_0.Speaker, .sl (e_0.Rows.map T_api_Row.d)]), (1, .box none [.str r7.1.Name, .int .i64 r7.1.Top, .int .i64 r7.1.Height, .int .i64 r7.1.Left, .int .i64 r7.1.Width, .int .u8 r7.1.Align, .bool r7.1.Bottom])], 2, 84⟩) h105 ?_ ?_
              · clear h
                intro v102 h
                refine rb_regionK fun K103 hK103 => ?_
                simp -implicitDefEqProofs only [vt, vm, ↓atI_fold, forall_const, implies_true, sevalprocAttr, dd_HB, k72, k77, k84, k97]
                rcases ite_or h with ⟨k104, h⟩ | ⟨k104, h⟩
                · simp -implicitDefEqProofs only [vt, vm, ↓atI_fold, forall_const, implies_true, sevalprocAttr, dd_HB, k72, k77, k84, k97, k104]
                  subst hK103
                  obtain rfl := Option.some.inj h
                  exact eb_nil ⟨rfl, Wk.of (fun i => if i = 1 then some 1 else if i = 0 then some 0 else some i) _ _ _ (by simp -implicitDefEqProofs [kv, km, dd_HB, k72, k77, k84, k97, k104]) (by simp -implicitDefEqProofs [kv, km, dd_HB, k72, k77, k84, k97, k104])⟩
                · simp -implicitDefEqProofs only [vt, vm, ↓atI_fold, forall_const, implies_true, sevalprocAttr, dd_HB, k72, k77, k84, k97, k104]
                  subst hK103
                  obtain rfl := Option.some.inj h
                  exact eb_nil ⟨rfl, Wk.of (fun i => if i = 1 then some 1 else if i = 0 then some 0 else some i) _ _ _ (by simp -implicitDefEqProofs [kv, km, dd_HB, k72, k77, k84, k97, k104]) (by simp -implicitDefEqProofs [kv, km, dd_HB, k72, k77, k84, k97, k104])⟩
              · rcases ite_or h with ⟨k106, h⟩ | ⟨k106, h⟩
                · refine rb_true (by first | exact congrArg D.bool k106 | rfl) ?_
                  refine rb_seq ?_
                  refine rb_regionK fun K108 hK108 => ?_
                  simp -implicitDefEqProofs only [vt, vm, ↓atI_fold, forall_const, implies_true, sevalprocAttr, dd_HB, k72, k77, k84, k97, k106]
                  subst hK108
                  refine eb_seq ?_
                  refine rb_ret ?_
                  refine eb_blk_r ?_
                  refine eb_seq_r ?_
                  obtain rfl := Option.some.inj h
                  refine eb_nil ?_
                  simp -implicitDefEqProofs only [vt, vm, ↓atI_fold, forall_const, implies_true, sevalprocAttr, retQ_r, Tryd.results80, dd_HB, k72, k77, k84, k97, k106] <;> first | rfl | (simp [List.map_append, dd_HB]; done)
                · refine rb_false (by first | exact congrArg D.bool k106 | rfl) ?_
                  refine rb_skip ?_
                  refine eb_blk_n ?_
                  refine eb_seq ?_
                  refine rb_seq ?_
                  refine rb_seq ?_
                  refine rb_regionK fun K110 hK110 => ?_
                  simp -implicitDefEqProofs only [vt, vm, ↓atI_fold, forall_const, implies_true, sevalprocAttr, dd_HB, k72, k77, k84, k97, k106]
                  subst hK110
                  refine eb_seq ?_
                  refine rb_block ?_
                  obtain ⟨e112, h230, h⟩ := bind_some h
                  refine rb_loop (fun x111 => ⟨envL [(2, .ptr 0 0), (5, .ptr 1 0), (64, .sl (e_0.Rows.map T_api_Row.d)), (65, .int .i64 (e_0.Rows.length : Int)), (66, .int .i64 x111)], heapL [(0, .box none [.int .i64 e_0.ID, .int .i64 e_0.Span.In, .int .i64 e_0.Span.Out, .str e_0.Region, .int .u8 e_0.Kind, .str e_0.Speaker, .sl (e_0.Rows.map T_api_Row.d)]), (1, .box none [.str r7.1.Name, .int .i64 r7.1.Top, .int .i64 r7.1.Height, .int .i64 r7.1.Left, .int .i64 r7.1.Width, .int .u8 r7.1.Align, .bool r7.1.Bottom])], 2, 84⟩) (fun w => match w with | Sum.inl _ => .ret | Sum.inr (_) => .exit 1) (fun w => match w with | Sum.inl e112 => ⟨envL [(4, .int .i64 e112)], heapL [], 0, 84⟩ | Sum.inr (e112) => ⟨envL [(2, .ptr 0 0), (5, .ptr 1 0)], heapL [(0, .box none [.int .i64 e_0.ID, .int .i64 e_0.Span.In, .int .i64 e_0.Span.Out, .str e_0.Region, .int .u8 e_0.Kind, .str e_0.Speaker, .sl (e_0.Rows.map T_api_Row.d)]), (1, .box none [.str r7.1.Name, .int .i64 r7.1.Top, .int .i64 r7.1.Height, .int .i64 r7.1.Left, .int .i64 r7.1.Width, .int .u8 r7.1.Align, .bool r7.1.Bottom])], 2, 84⟩) h230 (Wk.of (fun i => if i = 1 then some 1 else if i = 0 then some 0 else some i) _ _ _ (by simp -implicitDefEqProofs [kv, km, dd_HB, k72, k77, k84, k97, k106]) (by simp -implicitDefEqProofs [kv, km, dd_HB, k72, k77, k84, k97, k106])) (by intro w; rcases w with w | w <;> simp) ?_ ?_
                  · clear h
                    intro x111 y h
                    unfold g_event_Check_s1 at h
                    refine rb_seq ?_
                    refine rb_regionK fun K192 hK192 => ?_
                    simp -implicitDefEqProofs only [vt, vm, ↓atI_fold, forall_const, implies_true, sevalprocAttr, dd_HB, k72, k77, k84, k97, k106]
                    subst hK192
                    refine eb_seq ?_
                    refine rb_seq ?_
                    rcases ite_or h with ⟨k194, h⟩ | ⟨k194, h⟩
                    · refine rb_true (by first | exact congrArg D.bool k194 | rfl) ?_
                      refine rb_skip ?_
                      refine eb_seq ?_
                      refine rb_seq ?_
                      refine rb_block ?_
                      refine rb_seq ?_
                      refine rb_regionK fun K215 hK215 => ?_
                      simp -implicitDefEqProofs only [vt, vm, ↓atI_fold, forall_const, implies_true, sevalprocAttr, dd_HB, k72, k77, k84, k97, k106, k194]
                      obtain ⟨y216, h217, h⟩ := bind_some h
                      simp -implicitDefEqProofs only [vt, vm, ↓atI_fold, forall_const, implies_true, sevalprocAttr, dd_HB, k72, k77, k84, k97, k106, k194, h217]
                      subst hK215
                      refine eb_seq ?_
                      refine rb_seq ?_
                      refine rb_regionK fun K221 hK221 => ?_
                      simp -implicitDefEqProofs only [vt, vm, ↓atI_fold, forall_const, implies_true, sevalprocAttr, dd_HB, k72, k77, k84, k97, k106, k194, h217]
                      obtain ⟨r222, h223, h⟩ := bind_some h
                      refine cW.intro (a_event_row I hI hShp hU8T y216 h223) (by first | rfl | (simp [List.map_append, dd_HB]; done)) ?_
                      simp -implicitDefEqProofs only [vt, vm, ↓atI_fold, forall_const, implies_true, sevalprocAttr, dd_HB, k72, k77, k84, k97, k106, k194, h217]
                      subst hK221
                      refine eb_seq ?_
                      refine rb_seq ?_
                      refine rb_regionK fun K225 hK225 => ?_
                      simp -implicitDefEqProofs only [vt, vm, ↓atI_fold, forall_const, implies_true, sevalprocAttr, dd_HB, k72, k77, k84, k97, k106, k194, h217]
                      subst hK225
                      refine eb_seq ?_
                      rcases ite_or h with ⟨k226, h⟩ | ⟨k226, h⟩
                      · refine rb_true (by first | exact congrArg D.bool k226 | rfl) ?_
                        refine rb_seq ?_
                        refine rb_regionK fun K228 hK228 => ?_
                        simp -implicitDefEqProofs only [vt, vm, ↓atI_fold, forall_const, implies_true, sevalprocAttr, dd_HB, k72, k77, k84, k97, k106, k194, h217, k226]
                        subst hK228
                        refine eb_seq ?_
                        refine rb_ret ?_
                        refine eb_blk_r ?_
                        refine eb_seq_r ?_
                        obtain rfl := Option.some.inj h
                        exact eb_nil ⟨rfl, Wk.of (fun i => some i) _ _ _ (by simp -implicitDefEqProofs [kv, km, dd_HB, k72, k77, k84, k97, k106, k194, k226]) (by simp -implicitDefEqProofs [kv, km, dd_HB, k72, k77, k84, k97, k106, k194, k226])⟩
                      · refine rb_false (by first | exact congrArg D.bool k226 | rfl) ?_
                        refine rb_skip ?_
                        refine eb_blk_n ?_
                        refine eb_seq ?_
                        refine rb_regionK fun K229 hK229 => ?_
                        simp -implicitDefEqProofs only [vt, vm, ↓atI_fold, forall_const, implies_true, sevalprocAttr, dd_HB, k72, k77, k84, k97, k106, k194, h217, k226]
                        subst hK229
                        obtain rfl := Option.some.inj h
                        exact eb_nil ⟨rfl, Wk.of (fun i => if i = 1 then some 1 else if i = 0 then some 0 else some i) _ _ _ (by simp -implicitDefEqProofs [kv, km, dd_HB, k72, k77, k84, k97, k106, k194, k226]) (by simp -implicitDefEqProofs [kv, km, dd_HB, k72, k77, k84, k97, k106, k194, k226])⟩
                    · refine rb_false (by first | exact congrArg D.bool k194 | rfl) ?_
                      refine rb_exit ?_
                      refine eb_seq_e ?_
                      obtain rfl := Option.some.inj h
                      exact eb_nil ⟨rfl, Wk.of (fun i => if i = 1 then some 1 else if i = 0 then some 0 else some i) _ _ _ (by simp -implicitDefEqProofs [kv, km, dd_HB, k72, k77, k84, k97, k106, k194]) (by simp -implicitDefEqProofs [kv, km, dd_HB, k72, k77, k84, k97, k106, k194])⟩
                  · rcases e112 with e112 | e112
                    · try dsimp only at h ⊢
                      refine eb_blk_r ?_
                      refine eb_seq_r ?_
                      obtain rfl := Option.some.inj h
                      refine eb_nil ?_
                      simp -implicitDefEqProofs only [vt, vm, ↓atI_fold, forall_const, implies_true, sevalprocAttr, retQ_r, Tryd.results80, dd_HB, k72, k77, k84, k97, k106] <;> first | rfl | (simp [List.map_append, dd_HB]; done)
                    · try dsimp only at h ⊢
                      refine eb_blk_hit ?_
                      refine eb_seq ?_
                      refine rb_seq ?_
                      refine rb_drawK hI (by kernel_rfl) (by kernel_rfl) fun K236 hK236 => ?_
                      simp -implicitDefEqProofs only [vt, vm, ↓atI_fold, forall_const, implies_true, sevalprocAttr, dd_HB, k72, k77, k84, k97, k106]
                      obtain ⟨r237, h238, h⟩ := bind_some h
                      refine cD'.intro (a_event_lens I hI hU8T e_0 h238) (by first | rfl | (simp [List.map_append, dd_HB]; done)) (by kernel_rfl) ?_
                      simp -implicitDefEqProofs only [vt, vm, ↓atI_fold, forall_const, implies_true, sevalprocAttr, dd_HB, k72, k77, k84, k97, k106]
                      obtain ⟨r239, h240, h⟩ := bind_some h
                      refine cD'.intro (a_region_Place I hI r7.1 r237 h240) (by first | rfl | (simp [List.map_append, dd_HB]; done)) (by kernel_rfl) ?_
                      simp -implicitDefEqProofs only [vt, vm, ↓atI_fold, forall_const, implies_true, sevalprocAttr, dd_HB, k72, k77, k84, k97, k106]
                      subst hK236
                      refine eb_seq ?_
                      refine rb_seq ?_
                      refine rb_regionK fun K242 hK242 => ?_
                      simp -implicitDefEqProofs only [vt, vm, ↓atI_fold, forall_const, implies_true, sevalprocAttr, dd_HB, k72, k77, k84, k97, k106]
                      subst hK242
                      refine eb_seq ?_
                      refine rb_ret ?_
                      obtain rfl := Option.some.inj h
                      refine eb_nil ?_
                      simp -implicitDefEqProofs only [vt, vm, ↓atI_fold, forall_const, implies_true, sevalprocAttr, retQ_r, Tryd.results80, dd_HB, k72, k77, k84, k97, k106] <;> first | rfl | (simp [List.map_append, dd_HB]; done)
      · refine rb_true (by first | exact congrArg D.bool (congrArg Bool.not k77) | rfl) ?_
        refine rb_seq ?_
        refine rb_regionK fun K244 hK244 => ?_
        simp -implicitDefEqProofs only [vt, vm, ↓atI_fold, forall_const, implies_true, sevalprocAttr, dd_HB, k72, k77]
        subst hK244
        refine eb_seq ?_
        refine rb_ret ?_
        refine eb_blk_r ?_
        refine eb_seq_r ?_
        obtain rfl := Option.some.inj h
        refine eb_nil ?_
        simp -implicitDefEqProofs only [vt, vm, ↓atI_fold, forall_const, implies_true, sevalprocAttr, retQ_r, Tryd.results80, dd_HB, k72, k77] <;> first | rfl | (simp [List.map_append, dd_HB]; done)
-- event.Less
def g_event_Less (a_0 : T_api_Event) (b_1 : T_api_Event) : Option (Bool) :=
  ((g_cmp_Compare_int64 a_0.Span.In b_1.Span.In).bind fun r11 => ((g_cmp_Compare_int64 a_0.ID b_1.ID).bind fun r13 => ((g_cmp_Or_int [r11, r13]).bind fun r15 => (some (decide (r15 < 0))))))
theorem a_event_Less (I : World → Prop) (hI : Stab I) (a_0 : T_api_Event) (b_1 : T_api_Event) {r : Bool} (h : g_event_Less a_0 b_1 = some r) : AFun Tryd.prog I 81 [T_api_Event.d a_0, T_api_Event.d b_1] (.bool r) := by
  refine AFun.enterB hI Tryd.func81 rfl (by decide) (by simp [Tryd.f81]) (by kernel_rfl) ?_
  unfold g_event_Less at h
  simp only [S0, Tryd.ntmps81, dd_HB]
  refine rb_seq ?_
  refine rb_regionK fun K2 hK2 => ?_
  simp -implicitDefEqProofs only [vt, vm, ↓atI_fold, forall_const, implies_true, sevalprocAttr, dd_HB]
  subst hK2
  refine eb_seq ?_
  refine rb_seq ?_
  refine rb_drawK hI (by kernel_rfl) (by kernel_rfl) fun K10 hK10 => ?_
  simp -implicitDefEqProofs only [vt, vm, ↓atI_fold, forall_const, implies_true, sevalprocAttr, dd_HB]
  obtain ⟨r11, h12, h⟩ := bind_some h
  refine cD'.intro (a_cmp_Compare_int64 I hI a_0.Span.In b_1.Span.In h12) (by first | rfl | (simp [List.map_append, dd_HB]; done)) (by kernel_rfl) ?_
  simp -implicitDefEqProofs only [vt, vm, ↓atI_fold, forall_const, implies_true, sevalprocAttr, dd_HB]
  obtain ⟨r13, h14, h⟩ := bind_some h
  refine cD'.intro (a_cmp_Compare_int64 I hI a_0.ID b_1.ID h14) (by first | rfl | (simp [List.map_append, dd_HB]; done)) (by kernel_rfl) ?_
  simp -implicitDefEqProofs only [vt, vm, ↓atI_fold, forall_const, implies_true, sevalprocAttr, dd_HB]
  obtain ⟨r15, h16, h⟩ := bind_some h
  refine cD'.intro (a_cmp_Or_int I hI [r11, r13] h16) (by first | rfl | (simp [List.map_append, dd_HB]; done)) (by kernel_rfl) ?_
  simp -implicitDefEqProofs only [vt, vm, ↓atI_fold, forall_const, implies_true, sevalprocAttr, dd_HB]
  subst hK10
  refine eb_seq ?_
  refine rb_ret ?_
  obtain rfl := Option.some.inj h
  refine eb_nil ?_
  simp -implicitDefEqProofs only [vt, vm, ↓atI_fold, forall_const, implies_true, sevalprocAttr, retQ_r, Tryd.results81, dd_HB] <;> first | rfl | (simp [List.map_append, dd_HB]; done)
-- event.Len
def g_event_Len_s1 (r9 : (List Int)) (x11 : Int × Int) : Option (Nx (Int × Int) (Unit ⊕ Int)) :=
  (if (decide (x11.2 < (r9.length : Int))) then ((atI r9 x11.2).bind fun y62 => (if (decide (y62 < 0)) then (some (.out (.inl ()))) else (some (.go ((IntKind.i64.wrap (x11.1 + y62)), (IntKind.i64.wrap (x11.2 + 1))))))) else (some (.out (.inr x11.1))))
def g_event_Len (e_0 : T_api_Event) : Option (Int) :=
  ((g_event_lens e_0).bind fun r9 => ((iter (g_event_Len_s1 r9) ((if 0 > (IntKind.i64.wrap ((e_0.Rows.length : Int) - 1)) then 0 else (IntKind.i64.wrap ((e_0.Rows.length : Int) - 1))), 0)).bind fun e12 => (match e12 with | Sum.inl e12 => (some (-1)) | Sum.inr (e12) => (some e12))))
theorem a_event_Len (I : World → Prop) (hI : Stab I) (hU8T : ∀ w, I w → U8T w) (e_0 : T_api_Event) {r : Int} (h : g_event_Len e_0 = some r) : AFun Tryd.prog I 146 [T_api_Event.d e_0] (.int .i64 r) := by
  refine AFun.enterB hI Tryd.func146 rfl (by decide) (by simp [Tryd.f146]) (by kernel_rfl) ?_
  unfold g_event_Len at h
  simp only [S0, Tryd.ntmps146, dd_HB]
  refine rb_seq ?_
  refine rb_regionK fun K2 hK2 => ?_
  simp -implicitDefEqProofs only [vt, vm, ↓atI_fold, forall_const, implies_true, sevalprocAttr, dd_HB]
  subst hK2
  refine eb_seq ?_
  refine rb_seq ?_
  refine rb_regionK fun K4 hK4 => ?_
  simp -implicitDefEqProofs only [vt, vm, ↓atI_fold, forall_const, implies_true, sevalprocAttr, dd_HB]
  subst hK4
  refine eb_seq ?_
  refine rb_seq ?_
  refine rb_seq ?_
  refine rb_regionK fun K8 hK8 => ?_
  simp -implicitDefEqProofs only [vt, vm, ↓atI_fold, forall_const, implies_true, sevalprocAttr, dd_HB]
  obtain ⟨r9, h10, h⟩ := bind_some h
  refine cW.intro (a_event_lens I hI hU8T e_0 h10) (by first | rfl | (simp [List.map_append, dd_HB]; done)) ?_
  simp -implicitDefEqProofs only [vt, vm, ↓atI_fold, forall_const, implies_true, sevalprocAttr, dd_HB]
  subst hK8
  refine eb_seq ?_
  refine rb_block ?_
  obtain ⟨e12, h71, h⟩ := bind_some h
  refine rb_loop (fun x11 => ⟨envL [(3, .int .i64 x11.1), (12, .sl (r9.map (D.int .i64))), (13, .int .i64 (r9.length : Int)), (14, .int .i64 x11.2)], heapL [], 0, 25⟩) (fun w => match w with | Sum.inl _ => .ret | Sum.inr (_) => .exit 0) (fun w => match w with | Sum.inl e12 => ⟨envL [(2, .int .i64 (-1))], heapL [], 0, 25⟩ | Sum.inr (e12) => ⟨envL [(3, .int .i64 e12)], heapL [], 0, 25⟩) h71 (Wk.of (fun i => some i) _ _ _ (by simp -implicitDefEqProofs [kv, km, dd_HB]) (by simp -implicitDefEqProofs [kv, km, dd_HB])) (by intro w; rcases w with w | w <;> simp) ?_ ?_
  · clear h
    intro x11 y h
    unfold g_event_Len_s1 at h
    refine rb_seq ?_
    refine rb_regionK fun K43 hK43 => ?_
    simp -implicitDefEqProofs only [vt, vm, ↓atI_fold, forall_const, implies_true, sevalprocAttr, dd_HB]
    subst hK43
    refine eb_seq ?_
    refine rb_seq ?_
    rcases ite_or h with ⟨k45, h⟩ | ⟨k45, h⟩
    · refine rb_true (by first | exact congrArg D.bool k45 | rfl) ?_
      refine rb_skip ?_
      refine eb_seq ?_
      refine rb_seq ?_
      refine rb_block ?_
      refine rb_seq ?_
      refine rb_regionK fun K61 hK61 => ?_
      simp -implicitDefEqProofs only [vt, vm, ↓atI_fold, forall_const, implies_true, sevalprocAttr, dd_HB, k45]
      obtain ⟨y62, h63, h⟩ := bind_some h
      simp -implicitDefEqProofs only [vt, vm, ↓atI_fold, forall_const, implies_true, sevalprocAttr, dd_HB, k45, h63]
      subst hK61
      refine eb_seq ?_
      refine rb_seq ?_
      refine rb_seq ?_
      refine rb_regionK fun K65 hK65 => ?_
      simp -implicitDefEqProofs only [vt, vm, ↓atI_fold, forall_const, implies_true, sevalprocAttr, dd_HB, k45, h63]
      subst hK65
      refine eb_seq ?_
      rcases ite_or h with ⟨k66, h⟩ | ⟨k66, h⟩
      · refine rb_true (by first | exact congrArg D.bool k66 | rfl) ?_
        refine rb_seq ?_
        refine rb_regionK fun K68 hK68 => ?_
        simp -implicitDefEqProofs only [vt, vm, ↓atI_fold, forall_const, implies_true, sevalprocAttr, dd_HB, k45, h63, k66]
        subst hK68
        refine eb_seq ?_
        refine rb_ret ?_
        refine eb_seq_r ?_
        refine eb_blk_r ?_
        refine eb_seq_r ?_
        obtain rfl := Option.some.inj h
        exact eb_nil ⟨rfl, Wk.of (fun i => some i) _ _ _ (by simp -implicitDefEqProofs [kv, km, dd_HB, k45, k66]) (by simp -implicitDefEqProofs [kv, km, dd_HB, k45, k66])⟩
      · refine rb_false (by first | exact congrArg D.bool k66 | rfl) ?_
        refine rb_skip ?_
        refine eb_seq ?_
        refine rb_regionK fun K69 hK69 => ?_
        simp -implicitDefEqProofs only [vt, vm, ↓atI_fold, forall_const, implies_true, sevalprocAttr, dd_HB, k45, h63, k66]
        subst hK69
        refine eb_blk_n ?_
        refine eb_seq ?_
        refine rb_regionK fun K70 hK70 => ?_
        simp -implicitDefEqProofs only [vt, vm, ↓atI_fold, forall_const, implies_true, sevalprocAttr, dd_HB, k45, h63, k66]
        subst hK70
        obtain rfl := Option.some.inj h
        exact eb_nil ⟨rfl, Wk.of (fun i => some i) _ _ _ (by simp -implicitDefEqProofs [kv, km, dd_HB, k45, k66]) (by simp -implicitDefEqProofs [kv, km, dd_HB, k45, k66])⟩
    · refine rb_false (by first | exact congrArg D.bool k45 | rfl) ?_
      refine rb_exit ?_
      refine eb_seq_e ?_
      obtain rfl := Option.some.inj h
      exact eb_nil ⟨rfl, Wk.of (fun i => some i) _ _ _ (by simp -implicitDefEqProofs [kv, km, dd_HB, k45]) (by simp -implicitDefEqProofs [kv, km, dd_HB, k45])⟩
  · rcases e12 with e12 | e12
    · try dsimp only at h ⊢
      refine eb_blk_r ?_
      refine eb_seq_r ?_
      obtain rfl := Option.some.inj h
      refine eb_nil ?_
      simp -implicitDefEqProofs only [vt, vm, ↓atI_fold, forall_const, implies_true, sevalprocAttr, retQ_r, Tryd.results146, dd_HB] <;> first | rfl | (simp [List.map_append, dd_HB]; done)
    · try dsimp only at h ⊢
      refine eb_blk_hit ?_
      refine eb_seq ?_
      refine rb_seq ?_
      refine rb_regionK fun K73 hK73 => ?_
      simp -implicitDefEqProofs only [vt, vm, ↓atI_fold, forall_const, implies_true, sevalprocAttr, dd_HB]
      subst hK73
      refine eb_seq ?_
      refine rb_ret ?_
      obtain rfl := Option.some.inj h
      refine eb_nil ?_
      simp -implicitDefEqProofs only [vt, vm, ↓atI_fold, forall_const, implies_true, sevalprocAttr, retQ_r, Tryd.results146, dd_HB] <;> first | rfl | (simp [List.map_append, dd_HB]; done)
-- event.Frames
def g_event_Frames (e_0 : T_api_Event) : Option (Int) :=
  ((g_event_spans e_0.Span).bind fun r7 => (if r7 then (some (IntKind.i64.wrap (e_0.Span.Out - e_0.Span.In))) else (some 0)))
theorem a_event_Frames (I : World → Prop) (hI : Stab I) (e_0 : T_api_Event) {r : Int} (h : g_event_Frames e_0 = some r) : AFun Tryd.prog I 18 [T_api_Event.d e_0] (.int .i64 r) := by
  refine AFun.enterB hI Tryd.func18 rfl (by decide) (by simp [Tryd.f18]) (by kernel_rfl) ?_
  unfold g_event_Frames at h
  simp only [S0, Tryd.ntmps18, dd_HB]
  refine rb_seq ?_
  refine rb_regionK fun K2 hK2 => ?_
  simp -implicitDefEqProofs only [vt, vm, ↓atI_fold, forall_const, implies_true, sevalprocAttr, dd_HB]
  subst hK2
  refine eb_seq ?_
  refine rb_seq ?_
  refine rb_seq ?_
  refine rb_regionK fun K6 hK6 => ?_
  simp -implicitDefEqProofs only [vt, vm, ↓atI_fold, forall_const, implies_true, sevalprocAttr, dd_HB]
  obtain ⟨r7, h8, h⟩ := bind_some h
  refine cW.intro (a_event_spans I hI e_0.Span h8) (by first | rfl | (simp [List.map_append, dd_HB]; done)) ?_
  simp -implicitDefEqProofs only [vt, vm, ↓atI_fold, forall_const, implies_true, sevalprocAttr, dd_HB]
  subst hK6
  refine eb_seq ?_
  rcases ite_or h with ⟨k9, h⟩ | ⟨k9, h⟩
  · refine rb_false (by first | exact congrArg D.bool (congrArg Bool.not k9) | rfl) ?_
    refine rb_skip ?_
    refine eb_seq ?_
    refine rb_seq ?_
    refine rb_regionK fun K11 hK11 => ?_
    simp -implicitDefEqProofs only [vt, vm, ↓atI_fold, forall_const, implies_true, sevalprocAttr, dd_HB, k9]
    subst hK11
    refine eb_seq ?_
    refine rb_ret ?_
    obtain rfl := Option.some.inj h
    refine eb_nil ?_
    simp -implicitDefEqProofs only [vt, vm, ↓atI_fold, forall_const, implies_true, sevalprocAttr, retQ_r, Tryd.results18, dd_HB, k9] <;> first | rfl | (simp [List.map_append, dd_HB]; done)
  · refine rb_true (by first | exact congrArg D.bool (congrArg Bool.not k9) | rfl) ?_
    refine rb_seq ?_
    refine rb_regionK fun K13 hK13 => ?_
    simp -implicitDefEqProofs only [vt, vm, ↓atI_fold, forall_const, implies_true, sevalprocAttr, dd_HB, k9]
    subst hK13
    refine eb_seq ?_
    refine rb_ret ?_
    refine eb_seq_r ?_
    obtain rfl := Option.some.inj h
    refine eb_nil ?_
    simp -implicitDefEqProofs only [vt, vm, ↓atI_fold, forall_const, implies_true, sevalprocAttr, retQ_r, Tryd.results18, dd_HB, k9] <;> first | rfl | (simp [List.map_append, dd_HB]; done)
-- event.Spots
def g_event_Spots_s1 (r16 : (List Int)) (x20 : Int) : Option (Nx (Int) (Unit ⊕ Unit)) :=
  (if (decide (x20 < (r16.length : Int))) then ((atI r16 x20).bind fun y95 => (if (decide (y95 < 0)) then (some (.out (.inl ()))) else (some (.go (IntKind.i64.wrap (x20 + 1)))))) else (some (.out (.inr ()))))
def g_event_Spots (e_0 : T_api_Event) (regions_1 : List T_api_Region) : Option ((List T_api_Spot) × Int) :=
  ((g_region_Find regions_1 e_0.Region).bind fun r7 => (if r7.2 then ((g_event_lens e_0).bind fun r16 => ((iter (g_event_Spots_s1 r16) 0).bind fun e21 => (match e21 with | Sum.inl e21 => (some ([], 10)) | Sum.inr (e21) => ((g_region_Place r7.1 r16).bind fun r108 => (some (r108.1, r108.2)))))) else (some ([], 6))))
theorem a_event_Spots (I : World → Prop) (hI : Stab I) (hU8T : ∀ w, I w → U8T w) (e_0 : T_api_Event) (regions_1 : List T_api_Region) {r : (List T_api_Spot) × Int} (h : g_event_Spots e_0 regions_1 = some r) : AFun Tryd.prog I 89 [T_api_Event.d e_0, .sl (regions_1.map T_api_Region.d)] (.tup [.sl (r.1.map T_api_Spot.d), .int .i64 r.2]) := by
  refine AFun.enterB hI Tryd.func89 rfl (by decide) (by simp [Tryd.f89]) (by kernel_rfl) ?_
  unfold g_event_Spots at h
  simp only [S0, Tryd.ntmps89, dd_HB]
  refine rb_seq ?_
  refine rb_regionK fun K2 hK2 => ?_
  simp -implicitDefEqProofs only [vt, vm, ↓atI_fold, forall_const, implies_true, sevalprocAttr, dd_HB]
  subst hK2
  refine eb_seq ?_
  refine rb_seq ?_
  refine rb_regionK fun K6 hK6 => ?_
  simp -implicitDefEqProofs only [vt, vm, ↓atI_fold, forall_const, implies_true, sevalprocAttr, dd_HB]
  obtain ⟨r7, h8, h⟩ := bind_some h
  refine cW.intro (a_region_Find I hI regions_1 e_0.Region h8) (by first | rfl | (simp [List.map_append, dd_HB]; done)) ?_
  simp -implicitDefEqProofs only [vt, vm, ↓atI_fold, forall_const, implies_true, sevalprocAttr, dd_HB]
  subst hK6
  refine eb_seq ?_
  refine rb_seq ?_
  refine rb_seq ?_
  refine rb_regionK fun K10 hK10 => ?_
  simp -implicitDefEqProofs only [vt, vm, ↓atI_fold, forall_const, implies_true, sevalprocAttr, dd_HB]
  subst hK10
  refine eb_seq ?_
  rcases ite_or h with ⟨k11, h⟩ | ⟨k11, h⟩
  · refine rb_false (by first | exact congrArg D.bool (congrArg Bool.not k11) | rfl) ?_
    refine rb_skip ?_
    refine eb_seq ?_
    refine rb_seq ?_
    refine rb_regionK fun K15 hK15 => ?_
    simp -implicitDefEqProofs only [vt, vm, ↓atI_fold, forall_const, implies_true, sevalprocAttr, dd_HB, k11]
    obtain ⟨r16, h17, h⟩ := bind_some h
    refine cW.intro (a_event_lens I hI hU8T e_0 h17) (by first | rfl | (simp [List.map_append, dd_HB]; done)) ?_
    simp -implicitDefEqProofs only [vt, vm, ↓atI_fold, forall_const, implies_true, sevalprocAttr, dd_HB, k11]
    subst hK15
    refine eb_seq ?_
    refine rb_seq ?_
    refine rb_seq ?_
    refine rb_regionK fun K19 hK19 => ?_
    simp -implicitDefEqProofs only [vt, vm, ↓atI_fold, forall_const, implies_true, sevalprocAttr, dd_HB, k11]
    subst hK19
    refine eb_seq ?_
    refine rb_block ?_
    obtain ⟨e21, h103, h⟩ := bind_some h
    refine rb_loop (fun x20 => ⟨envL [(6, .ptr 0 0), (8, .sl (r16.map (D.int .i64))), (22, .sl (r16.map (D.int .i64))), (23, .int .i64 (r16.length : Int)), (24, .int .i64 x20)], heapL [(0, .box none [.str r7.1.Name, .int .i64 r7.1.Top, .int .i64 r7.1.Height, .int .i64 r7.1.Left, .int .i64 r7.1.Width, .int .u8 r7.1.Align, .bool r7.1.Bottom])], 1, 36⟩) (fun w => match w with | Sum.inl _ => .ret | Sum.inr (_) => .exit 0) (fun w => match w with | Sum.inl e21 => ⟨envL [(4, .nils), (5, .int .i64 10)], heapL [], 0, 36⟩ | Sum.inr (e21) => ⟨envL [(6, .ptr 0 0), (8, .sl (r16.map (D.int .i64)))], heapL [(0, .box none [.str r7.1.Name, .int .i64 r7.1.Top, .int .i64 r7.1.Height, .int .i64 r7.1.Left, .int .i64 r7.1.Width, .int .u8 r7.1.Align, .bool r7.1.Bottom])], 1, 36⟩) h103 (Wk.of (fun i => if i = 0 then some 10 else some i) _ _ _ (by simp -implicitDefEqProofs [kv, km, dd_HB, k11]) (by simp -implicitDefEqProofs [kv, km, dd_HB, k11])) (by intro w; rcases w with w | w <;> simp) ?_ ?_
    · clear h
      intro x20 y h
      unfold g_event_Spots_s1 at h
      refine rb_seq ?_
      refine rb_regionK fun K77 hK77 => ?_
      simp -implicitDefEqProofs only [vt, vm, ↓atI_fold, forall_const, implies_true, sevalprocAttr, dd_HB, k11]
      subst hK77
      refine eb_seq ?_
      refine rb_seq ?_
      rcases ite_or h with ⟨k79, h⟩ | ⟨k79, h⟩
      · refine rb_true (by first | exact congrArg D.bool k79 | rfl) ?_
        refine rb_skip ?_
        refine eb_seq ?_
        refine rb_seq ?_
        refine rb_block ?_
        refine rb_seq ?_
        refine rb_regionK fun K94 hK94 => ?_
        simp -implicitDefEqProofs only [vt, vm, ↓atI_fold, forall_const, implies_true, sevalprocAttr, dd_HB, k11, k79]
        obtain ⟨y95, h96, h⟩ := bind_some h
        simp -implicitDefEqProofs only [vt, vm, ↓atI_fold, forall_const, implies_true, sevalprocAttr, dd_HB, k11, k79, h96]
        subst hK94
        refine eb_seq ?_
        refine rb_seq ?_
        refine rb_regionK fun K98 hK98 => ?_
        simp -implicitDefEqProofs only [vt, vm, ↓atI_fold, forall_const, implies_true, sevalprocAttr, dd_HB, k11, k79, h96]
        subst hK98
        refine eb_seq ?_
        rcases ite_or h with ⟨k99, h⟩ | ⟨k99, h⟩
        · refine rb_true (by first | exact congrArg D.bool k99 | rfl) ?_
          refine rb_seq ?_
          refine rb_regionK fun K101 hK101 => ?_
          simp -implicitDefEqProofs only [vt, vm, ↓atI_fold, forall_const, implies_true, sevalprocAttr, dd_HB, k11, k79, h96, k99]
          subst hK101
          refine eb_seq ?_
          refine rb_ret ?_
          refine eb_blk_r ?_
          refine eb_seq_r ?_
          obtain rfl := Option.some.inj h
          exact eb_nil ⟨rfl, Wk.of (fun i => some i) _ _ _ (by simp -implicitDefEqProofs [kv, km, dd_HB, k11, k79, k99]) (by simp -implicitDefEqProofs [kv, km, dd_HB, k11, k79, k99])⟩
        · refine rb_false (by first | exact congrArg D.bool k99 | rfl) ?_
          refine rb_skip ?_
          refine eb_blk_n ?_
          refine eb_seq ?_
          refine rb_regionK fun K102 hK102 => ?_
          simp -implicitDefEqProofs only [vt, vm, ↓atI_fold, forall_const, implies_true, sevalprocAttr, dd_HB, k11, k79, h96, k99]
          subst hK102
          obtain rfl := Option.some.inj h
          exact eb_nil ⟨rfl, Wk.of (fun i => if i = 0 then some 0 else some i) _ _ _ (by simp -implicitDefEqProofs [kv, km, dd_HB, k11, k79, k99]) (by simp -implicitDefEqProofs [kv, km, dd_HB, k11, k79, k99])⟩
      · refine rb_false (by first | exact congrArg D.bool k79 | rfl) ?_
        refine rb_exit ?_
        refine eb_seq_e ?_
        obtain rfl := Option.some.inj h
        exact eb_nil ⟨rfl, Wk.of (fun i => if i = 0 then some 0 else some i) _ _ _ (by simp -implicitDefEqProofs [kv, km, dd_HB, k11, k79]) (by simp -implicitDefEqProofs [kv, km, dd_HB, k11, k79])⟩
    · rcases e21 with e21 | e21
      · try dsimp only at h ⊢
        refine eb_blk_r ?_
        refine eb_seq_r ?_
        obtain rfl := Option.some.inj h
        refine eb_nil ?_
        simp -implicitDefEqProofs only [vt, vm, ↓atI_fold, forall_const, implies_true, sevalprocAttr, retQ_r, Tryd.results89, dd_HB, k11] <;> first | rfl | (simp [List.map_append, dd_HB]; done)
      · try dsimp only at h ⊢
        refine eb_blk_hit ?_
        refine eb_seq ?_
        refine rb_seq ?_
        refine rb_regionK fun K107 hK107 => ?_
        simp -implicitDefEqProofs only [vt, vm, ↓atI_fold, forall_const, implies_true, sevalprocAttr, dd_HB, k11]
        obtain ⟨r108, h109, h⟩ := bind_some h
        refine cW.intro (a_region_Place I hI r7.1 r16 h109) (by first | rfl | (simp [List.map_append, dd_HB]; done)) ?_
        simp -implicitDefEqProofs only [vt, vm, ↓atI_fold, forall_const, implies_true, sevalprocAttr, dd_HB, k11]
        subst hK107
        refine eb_seq ?_
        refine rb_ret ?_
        obtain rfl := Option.some.inj h
        refine eb_nil ?_
        simp -implicitDefEqProofs only [vt, vm, ↓atI_fold, forall_const, implies_true, sevalprocAttr, retQ_r, Tryd.results89, dd_HB, k11] <;> first | rfl | (simp [List.map_append, dd_HB]; done)
  · refine rb_true (by first | exact congrArg D.bool (congrArg Bool.not k11) | rfl) ?_
    refine rb_seq ?_
    refine rb_regionK fun K111 hK111 => ?_
    simp -implicitDefEqProofs only [vt, vm, ↓atI_fold, forall_const, implies_true, sevalprocAttr, dd_HB, k11]
    subst hK111
    refine eb_seq ?_
    refine rb_ret ?_
    refine eb_seq_r ?_
    obtain rfl := Option.some.inj h
    refine eb_nil ?_
    simp -implicitDefEqProofs only [vt, vm, ↓atI_fold, forall_const, implies_true, sevalprocAttr, retQ_r, Tryd.results89, dd_HB, k11] <;> first | rfl | (simp [List.map_append, dd_HB]; done)
end Go.Proofs.YtipdmcpmedmicaaDoor
