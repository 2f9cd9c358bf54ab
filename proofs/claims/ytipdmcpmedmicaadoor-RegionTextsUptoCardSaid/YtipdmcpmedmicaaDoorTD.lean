/- What some functions compute, read off their texts by a program of mine (gen.py): definitions, and contracts (the text computes it). No condition but that the definition answers. -/
import Derived.Test.YtipdmcpmedmicaaDoorTB
namespace Go.Proofs.YtipdmcpmedmicaaDoor
open Go.RowKit
set_option maxRecDepth 100000
set_option linter.unusedVariables false
set_option linter.unusedSimpArgs false
set_option maxHeartbeats 10000000
theorem dd_TD : (∀ x, T_api_Field.d x = .agg [.str x.Text, .int .i64 x.Column, .bool x.Quoted]) ∧ (∀ x, T_api_Line.d x = .agg [.int .i64 x.Number, .sl (x.Fields.map T_api_Field.d)]) ∧ (∀ x, T_captionerref07_Scanner.d x = .agg [.int .i64 x.Line.Number, .sl (x.Line.Fields.map T_api_Field.d), .int .i64 x.At, .int .i64 x.Code, .int .i64 x.Col]) ∧ (∀ x, T_api_Region.d x = .agg [.str x.Name, .int .i64 x.Top, .int .i64 x.Height, .int .i64 x.Left, .int .i64 x.Width, .int .u8 x.Align, .bool x.Bottom]) ∧ (∀ x, T_api_Diag.d x = .agg [.int .i64 x.Line, .int .i64 x.Column, .int .i64 x.Code]) := ⟨fun _ => rfl, fun _ => rfl, fun _ => rfl, fun _ => rfl, fun _ => rfl⟩
-- (*captionerref07.Scanner).Left
def g_ref07_Scanner_Left (s_0 : T_captionerref07_Scanner) : Option (Int × T_captionerref07_Scanner) :=
  (if (s_0.Code != 0) then (some (0, s_0)) else (some ((IntKind.i64.wrap ((s_0.Line.Fields.length : Int) - s_0.At)), s_0)))
theorem a_ref07_Scanner_Left (I : World → Prop) (hI : Stab I) {H : Nat → Option Blk} {nid : Nat} {i0 : Nat} {p0 : Option Nat} (s_0 : T_captionerref07_Scanner) {r : Int × T_captionerref07_Scanner} (h : g_ref07_Scanner_Left s_0 = some r) (b0 : H i0 = some (.box p0 [.int .i64 s_0.Line.Number, .sl (s_0.Line.Fields.map T_api_Field.d), .int .i64 s_0.At, .int .i64 s_0.Code, .int .i64 s_0.Col])) : CallOK Tryd.prog I 102 [.ptr i0 0] H nid (.int .i64 r.1) [(i0, some (.box p0 [.int .i64 r.2.Line.Number, .sl (r.2.Line.Fields.map T_api_Field.d), .int .i64 r.2.At, .int .i64 r.2.Code, .int .i64 r.2.Col]))] := by
  refine CallOK.intro (is := [(i0, p0)]) (css := [[.int .i64 s_0.Line.Number, .sl (s_0.Line.Fields.map T_api_Field.d), .int .i64 s_0.At, .int .i64 s_0.Code, .int .i64 s_0.Col]]) (ds0 := [.ptr 0 0]) (pl := [(0, none)]) hI Tryd.func102 rfl (by decide) (by simp [Tryd.f102]) (by kernel_rfl) rfl rfl rfl rfl (lentAll_of ⟨⟨b0, rfl⟩, trivial⟩) (by simp) ?_
  unfold g_ref07_Scanner_Left at h
  simp only [lentH, List.length_cons, List.length_nil, Nat.zero_add, Nat.reduceAdd, Tryd.ntmps102, dd_TD]
  refine rb_seq ?_
  refine rb_regionK fun K2 hK2 => ?_
  simp -implicitDefEqProofs only [vt, vm, ↓atI_fold, forall_const, implies_true, sevalprocAttr, dd_TD]
  subst hK2
  refine eb_seq ?_
  refine rb_seq ?_
  refine rb_seq ?_
  refine rb_regionK fun K4 hK4 => ?_
  simp -implicitDefEqProofs only [vt, vm, ↓atI_fold, forall_const, implies_true, sevalprocAttr, dd_TD]
  subst hK4
  refine eb_seq ?_
  rcases ite_or h with ⟨k5, h⟩ | ⟨k5, h⟩
  · refine rb_true (by first | exact congrArg D.bool k5 | rfl) ?_
    refine rb_seq ?_
    refine rb_regionK fun K7 hK7 => ?_
    simp -implicitDefEqProofs only [vt, vm, ↓atI_fold, forall_const, implies_true, sevalprocAttr, dd_TD, k5]
    subst hK7
    refine eb_seq ?_
    refine rb_ret ?_
    refine eb_seq_r ?_
    obtain rfl := Option.some.inj h
    refine eb_nil ?_
    simp -implicitDefEqProofs only [vt, vm, ↓atI_fold, forall_const, implies_true, sevalprocAttr, vp, retP_r, Tryd.results102, dd_TD, k5] <;> first | exact ⟨rfl, rfl⟩ | (refine ⟨?_, ?_⟩ <;> first | rfl | (simp [List.map_append, dd_TD]; done))
  · refine rb_false (by first | exact congrArg D.bool k5 | rfl) ?_
    refine rb_skip ?_
    refine eb_seq ?_
    refine rb_seq ?_
    refine rb_drawK hI (by kernel_rfl) (by kernel_rfl) fun K9 hK9 => ?_
    simp -implicitDefEqProofs only [vt, vm, ↓atI_fold, forall_const, implies_true, sevalprocAttr, dd_TD, k5]
    subst hK9
    refine eb_seq ?_
    refine rb_ret ?_
    obtain rfl := Option.some.inj h
    refine eb_nil ?_
    simp -implicitDefEqProofs only [vt, vm, ↓atI_fold, forall_const, implies_true, sevalprocAttr, vp, retP_r, Tryd.results102, dd_TD, k5] <;> first | exact ⟨rfl, rfl⟩ | (refine ⟨?_, ?_⟩ <;> first | rfl | (simp [List.map_append, dd_TD]; done))
-- (*captionerref07.Scanner).fail
def g_ref07_Scanner_fail (s_0 : T_captionerref07_Scanner) (e_1 : Int) (column_2 : Int) : Option (T_captionerref07_Scanner) :=
  (if (s_0.Code == 0) then (some (T_captionerref07_Scanner.mk s_0.Line s_0.At e_1 column_2)) else (some s_0))
theorem a_ref07_Scanner_fail (I : World → Prop) (hI : Stab I) {H : Nat → Option Blk} {nid : Nat} {i0 : Nat} {p0 : Option Nat} (s_0 : T_captionerref07_Scanner) (e_1 : Int) (column_2 : Int) {r : T_captionerref07_Scanner} (h : g_ref07_Scanner_fail s_0 e_1 column_2 = some r) (b0 : H i0 = some (.box p0 [.int .i64 s_0.Line.Number, .sl (s_0.Line.Fields.map T_api_Field.d), .int .i64 s_0.At, .int .i64 s_0.Code, .int .i64 s_0.Col])) : CallOK Tryd.prog I 134 [.ptr i0 0, .int .i64 e_1, .int .i64 column_2] H nid (.tup []) [(i0, some (.box p0 [.int .i64 r.Line.Number, .sl (r.Line.Fields.map T_api_Field.d), .int .i64 r.At, .int .i64 r.Code, .int .i64 r.Col]))] := by
  refine CallOK.intro (is := [(i0, p0)]) (css := [[.int .i64 s_0.Line.Number, .sl (s_0.Line.Fields.map T_api_Field.d), .int .i64 s_0.At, .int .i64 s_0.Code, .int .i64 s_0.Col]]) (ds0 := [.ptr 0 0, .int .i64 e_1, .int .i64 column_2]) (pl := [(0, none)]) hI Tryd.func134 rfl (by decide) (by simp [Tryd.f134]) (by kernel_rfl) rfl rfl rfl rfl (lentAll_of ⟨⟨b0, rfl⟩, trivial⟩) (by simp) ?_
  unfold g_ref07_Scanner_fail at h
  simp only [lentH, List.length_cons, List.length_nil, Nat.zero_add, Nat.reduceAdd, Tryd.ntmps134, dd_TD]
  refine rb_seq ?_
  refine rb_regionK fun K2 hK2 => ?_
  simp -implicitDefEqProofs only [vt, vm, ↓atI_fold, forall_const, implies_true, sevalprocAttr, dd_TD]
  subst hK2
  refine eb_seq ?_
  rcases ite_or h with ⟨k3, h⟩ | ⟨k3, h⟩
  · refine rb_true (by first | exact congrArg D.bool k3 | rfl) ?_
    refine rb_regionK fun K4 hK4 => ?_
    simp -implicitDefEqProofs only [vt, vm, ↓atI_fold, forall_const, implies_true, sevalprocAttr, dd_TD, k3]
    subst hK4
    obtain rfl := Option.some.inj h
    refine eb_nil ?_
    simp -implicitDefEqProofs only [vt, vm, ↓atI_fold, forall_const, implies_true, sevalprocAttr, vp, retP_n, Tryd.results134, dd_TD, k3] <;> first | exact ⟨rfl, rfl⟩ | (refine ⟨?_, ?_⟩ <;> first | rfl | (simp [List.map_append, dd_TD]; done))
  · refine rb_false (by first | exact congrArg D.bool k3 | rfl) ?_
    refine rb_skip ?_
    obtain rfl := Option.some.inj h
    refine eb_nil ?_
    simp -implicitDefEqProofs only [vt, vm, ↓atI_fold, forall_const, implies_true, sevalprocAttr, vp, retP_n, Tryd.results134, dd_TD, k3] <;> first | exact ⟨rfl, rfl⟩ | (refine ⟨?_, ?_⟩ <;> first | rfl | (simp [List.map_append, dd_TD]; done))
-- (*captionerref07.Scanner).take
def g_ref07_Scanner_take (s_0 : T_captionerref07_Scanner) (quoted_1 : Bool) : Option (T_api_Field × Bool × T_captionerref07_Scanner) :=
  (if (s_0.Code != 0) then (some ((T_api_Field.mk [] 0 false), false, s_0)) else ((g_ref07_Scanner_Left s_0).bind fun r12 => (if (r12.1 == 0) then ((g_ref07_Scanner_fail r12.2 4 0).bind fun r19 => (some ((T_api_Field.mk [] 0 false), false, r19))) else ((atI r12.2.Line.Fields r12.2.At).bind fun y27 => (if (y27.Quoted == quoted_1) then (some (y27, true, (T_captionerref07_Scanner.mk r12.2.Line (IntKind.i64.wrap (r12.2.At + 1)) r12.2.Code r12.2.Col))) else ((g_ref07_Scanner_fail r12.2 4 y27.Column).bind fun r40 => (some ((T_api_Field.mk [] 0 false), false, r40))))))))
theorem a_ref07_Scanner_take (I : World → Prop) (hI : Stab I) {H : Nat → Option Blk} {nid : Nat} {i0 : Nat} {p0 : Option Nat} (s_0 : T_captionerref07_Scanner) (quoted_1 : Bool) {r : T_api_Field × Bool × T_captionerref07_Scanner} (h : g_ref07_Scanner_take s_0 quoted_1 = some r) (b0 : H i0 = some (.box p0 [.int .i64 s_0.Line.Number, .sl (s_0.Line.Fields.map T_api_Field.d), .int .i64 s_0.At, .int .i64 s_0.Code, .int .i64 s_0.Col])) : CallOK Tryd.prog I 133 [.ptr i0 0, .bool quoted_1] H nid (.tup [T_api_Field.d r.1, .bool r.2.1]) [(i0, some (.box p0 [.int .i64 r.2.2.Line.Number, .sl (r.2.2.Line.Fields.map T_api_Field.d), .int .i64 r.2.2.At, .int .i64 r.2.2.Code, .int .i64 r.2.2.Col]))] := by
  refine CallOK.intro (is := [(i0, p0)]) (css := [[.int .i64 s_0.Line.Number, .sl (s_0.Line.Fields.map T_api_Field.d), .int .i64 s_0.At, .int .i64 s_0.Code, .int .i64 s_0.Col]]) (ds0 := [.ptr 0 0, .bool quoted_1]) (pl := [(0, none)]) hI Tryd.func133 rfl (by decide) (by simp [Tryd.f133]) (by kernel_rfl) rfl rfl rfl rfl (lentAll_of ⟨⟨b0, rfl⟩, trivial⟩) (by simp) ?_
  unfold g_ref07_Scanner_take at h
  simp only [lentH, List.length_cons, List.length_nil, Nat.zero_add, Nat.reduceAdd, Tryd.ntmps133, dd_TD]
  refine rb_seq ?_
  refine rb_regionK fun K2 hK2 => ?_
  simp -implicitDefEqProofs only [vt, vm, ↓atI_fold, forall_const, implies_true, sevalprocAttr, dd_TD]
  subst hK2
  refine eb_seq ?_
  refine rb_seq ?_
  refine rb_seq ?_
  refine rb_regionK fun K4 hK4 => ?_
  simp -implicitDefEqProofs only [vt, vm, ↓atI_fold, forall_const, implies_true, sevalprocAttr, dd_TD]
  subst hK4
  refine eb_seq ?_
  rcases ite_or h with ⟨k5, h⟩ | ⟨k5, h⟩
  · refine rb_true (by first | exact congrArg D.bool k5 | rfl) ?_
    refine rb_seq ?_
    refine rb_regionK fun K7 hK7 => ?_
    simp -implicitDefEqProofs only [vt, vm, ↓atI_fold, forall_const, implies_true, sevalprocAttr, dd_TD, k5]
    subst hK7
    refine eb_seq ?_
    refine rb_ret ?_
    refine eb_seq_r ?_
    obtain rfl := Option.some.inj h
    refine eb_nil ?_
    simp -implicitDefEqProofs only [vt, vm, ↓atI_fold, forall_const, implies_true, sevalprocAttr, vp, retP_r, Tryd.results133, dd_TD, k5] <;> first | exact ⟨rfl, rfl⟩ | (refine ⟨?_, ?_⟩ <;> first | rfl | (simp [List.map_append, dd_TD]; done))
  · refine rb_false (by first | exact congrArg D.bool k5 | rfl) ?_
    refine rb_skip ?_
    refine eb_seq ?_
    refine rb_seq ?_
    refine rb_seq ?_
    refine rb_regionK fun K11 hK11 => ?_
    simp -implicitDefEqProofs only [vt, vm, ↓atI_fold, forall_const, implies_true, sevalprocAttr, dd_TD, k5]
    obtain ⟨r12, h13, h⟩ := bind_some h
    refine eW.intro (a_ref07_Scanner_Left I hI (nid := 13) (i0 := 0) (p0 := (some 0)) s_0 h13 (by first | rfl | (simp -implicitDefEqProofs only [vt, vm, ↓atI_fold, forall_const, implies_true, sevalprocAttr, dd_TD, k5]; done) | (simp -implicitDefEqProofs only [vt, vm, ↓atI_fold, forall_const, implies_true, sevalprocAttr, dd_TD, k5]; rfl))) (by first | rfl | (simp [List.map_append, dd_TD]; done)) rfl ?_
    simp -implicitDefEqProofs only [vt, vm, ↓atI_fold, forall_const, implies_true, sevalprocAttr, dd_TD, k5]
    subst hK11
    refine eb_seq ?_
    rcases ite_or h with ⟨k14, h⟩ | ⟨k14, h⟩
    · refine rb_true (by first | exact congrArg D.bool k14 | rfl) ?_
      refine rb_seq ?_
      refine rb_regionK fun K18 hK18 => ?_
      simp -implicitDefEqProofs only [vt, vm, ↓atI_fold, forall_const, implies_true, sevalprocAttr, dd_TD, k5, k14]
      obtain ⟨r19, h20, h⟩ := bind_some h
      refine eW.intro (a_ref07_Scanner_fail I hI (nid := 16) (i0 := 0) (p0 := (some 0)) r12.2 4 0 h20 (by first | rfl | (simp -implicitDefEqProofs only [vt, vm, ↓atI_fold, forall_const, implies_true, sevalprocAttr, dd_TD, k5, k14]; done) | (simp -implicitDefEqProofs only [vt, vm, ↓atI_fold, forall_const, implies_true, sevalprocAttr, dd_TD, k5, k14]; rfl))) (by first | rfl | (simp [List.map_append, dd_TD]; done)) rfl ?_
      simp -implicitDefEqProofs only [vt, vm, ↓atI_fold, forall_const, implies_true, sevalprocAttr, dd_TD, k5, k14]
      subst hK18
      refine eb_seq ?_
      refine rb_seq ?_
      refine rb_regionK fun K22 hK22 => ?_
      simp -implicitDefEqProofs only [vt, vm, ↓atI_fold, forall_const, implies_true, sevalprocAttr, dd_TD, k5, k14]
      subst hK22
      refine eb_seq ?_
      refine rb_ret ?_
      refine eb_seq_r ?_
      obtain rfl := Option.some.inj h
      refine eb_nil ?_
      simp -implicitDefEqProofs only [vt, vm, ↓atI_fold, forall_const, implies_true, sevalprocAttr, vp, retP_r, Tryd.results133, dd_TD, k5, k14] <;> first | exact ⟨rfl, rfl⟩ | (refine ⟨?_, ?_⟩ <;> first | rfl | (simp [List.map_append, dd_TD]; done))
    · refine rb_false (by first | exact congrArg D.bool k14 | rfl) ?_
      refine rb_skip ?_
      refine eb_seq ?_
      refine rb_seq ?_
      refine rb_drawK hI (by kernel_rfl) (by kernel_rfl) fun K26 hK26 => ?_
      simp -implicitDefEqProofs only [vt, vm, ↓atI_fold, forall_const, implies_true, sevalprocAttr, dd_TD, k5, k14]
      obtain ⟨y27, h28, h⟩ := bind_some h
      simp -implicitDefEqProofs only [vt, vm, ↓atI_fold, forall_const, implies_true, sevalprocAttr, dd_TD, k5, k14, h28]
      refine hD.intro (by kernel_rfl) ?_
      simp -implicitDefEqProofs only [vt, vm, ↓atI_fold, forall_const, implies_true, sevalprocAttr, dd_TD, k5, k14, h28]
      subst hK26
      refine eb_seq ?_
      refine rb_seq ?_
      refine rb_seq ?_
      refine rb_regionK fun K30 hK30 => ?_
      simp -implicitDefEqProofs only [vt, vm, ↓atI_fold, forall_const, implies_true, sevalprocAttr, dd_TD, k5, k14, h28]
      subst hK30
      refine eb_seq ?_
      rcases ite_or h with ⟨k31, h⟩ | ⟨k31, h⟩
      · refine rb_false (by first | exact congrArg D.bool (congrArg Bool.not k31) | rfl) ?_
        refine rb_skip ?_
        refine eb_seq ?_
        refine rb_seq ?_
        refine rb_regionK fun K33 hK33 => ?_
        simp -implicitDefEqProofs only [vt, vm, ↓atI_fold, forall_const, implies_true, sevalprocAttr, dd_TD, k5, k14, h28, k31]
        subst hK33
        refine eb_seq ?_
        refine rb_seq ?_
        refine rb_regionK fun K35 hK35 => ?_
        simp -implicitDefEqProofs only [vt, vm, ↓atI_fold, forall_const, implies_true, sevalprocAttr, dd_TD, k5, k14, h28, k31]
        subst hK35
        refine eb_seq ?_
        refine rb_ret ?_
        obtain rfl := Option.some.inj h
        refine eb_nil ?_
        simp -implicitDefEqProofs only [vt, vm, ↓atI_fold, forall_const, implies_true, sevalprocAttr, vp, retP_r, Tryd.results133, dd_TD, k5, k14, h28, k31] <;> first | exact ⟨rfl, rfl⟩ | (refine ⟨?_, ?_⟩ <;> first | rfl | (simp [List.map_append, dd_TD]; done))
      · refine rb_true (by first | exact congrArg D.bool (congrArg Bool.not k31) | rfl) ?_
        refine rb_seq ?_
        refine rb_regionK fun K39 hK39 => ?_
        simp -implicitDefEqProofs only [vt, vm, ↓atI_fold, forall_const, implies_true, sevalprocAttr, dd_TD, k5, k14, h28, k31]
        obtain ⟨r40, h41, h⟩ := bind_some h
        refine eW.intro (a_ref07_Scanner_fail I hI (nid := 35) (i0 := 0) (p0 := (some 0)) r12.2 4 y27.Column h41 (by first | rfl | (simp -implicitDefEqProofs only [vt, vm, ↓atI_fold, forall_const, implies_true, sevalprocAttr, dd_TD, k5, k14, h28, k31]; done) | (simp -implicitDefEqProofs only [vt, vm, ↓atI_fold, forall_const, implies_true, sevalprocAttr, dd_TD, k5, k14, h28, k31]; rfl))) (by first | rfl | (simp [List.map_append, dd_TD]; done)) rfl ?_
        simp -implicitDefEqProofs only [vt, vm, ↓atI_fold, forall_const, implies_true, sevalprocAttr, dd_TD, k5, k14, h28, k31]
        subst hK39
        refine eb_seq ?_
        refine rb_seq ?_
        refine rb_regionK fun K43 hK43 => ?_
        simp -implicitDefEqProofs only [vt, vm, ↓atI_fold, forall_const, implies_true, sevalprocAttr, dd_TD, k5, k14, h28, k31]
        subst hK43
        refine eb_seq ?_
        refine rb_ret ?_
        refine eb_seq_r ?_
        obtain rfl := Option.some.inj h
        refine eb_nil ?_
        simp -implicitDefEqProofs only [vt, vm, ↓atI_fold, forall_const, implies_true, sevalprocAttr, vp, retP_r, Tryd.results133, dd_TD, k5, k14, h28, k31] <;> first | exact ⟨rfl, rfl⟩ | (refine ⟨?_, ?_⟩ <;> first | rfl | (simp [List.map_append, dd_TD]; done))
-- (*captionerref07.Scanner).Name
def g_ref07_Scanner_Name (s_0 : T_captionerref07_Scanner) (empty_1 : Bool) : Option ((List UInt8) × T_captionerref07_Scanner) :=
  ((g_ref07_Scanner_take s_0 false).bind fun r7 => (((if r7.2.1 then (if empty_1 then (some (r7.1.Text == ([45] : List UInt8))) else (some false)) else (some true)) : Option (Bool)).bind fun v12 => (if v12 then (some ([], r7.2.2)) else ((g_ref07_Name r7.1.Text).bind fun r24 => (if r24 then (some (r7.1.Text, r7.2.2)) else ((g_ref07_Scanner_fail r7.2.2 5 r7.1.Column).bind fun r33 => (some ([], r33))))))))
theorem a_ref07_Scanner_Name (I : World → Prop) (hI : Stab I) {H : Nat → Option Blk} {nid : Nat} {i0 : Nat} {p0 : Option Nat} (s_0 : T_captionerref07_Scanner) (empty_1 : Bool) {r : (List UInt8) × T_captionerref07_Scanner} (h : g_ref07_Scanner_Name s_0 empty_1 = some r) (b0 : H i0 = some (.box p0 [.int .i64 s_0.Line.Number, .sl (s_0.Line.Fields.map T_api_Field.d), .int .i64 s_0.At, .int .i64 s_0.Code, .int .i64 s_0.Col])) : CallOK Tryd.prog I 99 [.ptr i0 0, .bool empty_1] H nid (.str r.1) [(i0, some (.box p0 [.int .i64 r.2.Line.Number, .sl (r.2.Line.Fields.map T_api_Field.d), .int .i64 r.2.At, .int .i64 r.2.Code, .int .i64 r.2.Col]))] := by
  refine CallOK.intro (is := [(i0, p0)]) (css := [[.int .i64 s_0.Line.Number, .sl (s_0.Line.Fields.map T_api_Field.d), .int .i64 s_0.At, .int .i64 s_0.Code, .int .i64 s_0.Col]]) (ds0 := [.ptr 0 0, .bool empty_1]) (pl := [(0, none)]) hI Tryd.func99 rfl (by decide) (by simp [Tryd.f99]) (by kernel_rfl) rfl rfl rfl rfl (lentAll_of ⟨⟨b0, rfl⟩, trivial⟩) (by simp) ?_
  unfold g_ref07_Scanner_Name at h
  simp only [lentH, List.length_cons, List.length_nil, Nat.zero_add, Nat.reduceAdd, Tryd.ntmps99, dd_TD]
  refine rb_seq ?_
  refine rb_regionK fun K2 hK2 => ?_
  simp -implicitDefEqProofs only [vt, vm, ↓atI_fold, forall_const, implies_true, sevalprocAttr, dd_TD]
  subst hK2
  refine eb_seq ?_
  refine rb_seq ?_
  refine rb_regionK fun K6 hK6 => ?_
  simp -implicitDefEqProofs only [vt, vm, ↓atI_fold, forall_const, implies_true, sevalprocAttr, dd_TD]
  obtain ⟨r7, h8, h⟩ := bind_some h
  refine eW.intro (a_ref07_Scanner_take I hI (nid := 3) (i0 := 0) (p0 := (some 0)) s_0 false h8 (by first | rfl | (simp -implicitDefEqProofs only [vt, vm, ↓atI_fold, forall_const, implies_true, sevalprocAttr, dd_TD]; done) | (simp -implicitDefEqProofs only [vt, vm, ↓atI_fold, forall_const, implies_true, sevalprocAttr, dd_TD]; rfl))) (by first | rfl | (simp [List.map_append, dd_TD]; done)) rfl ?_
  simp -implicitDefEqProofs only [vt, vm, ↓atI_fold, forall_const, implies_true, sevalprocAttr, dd_TD]
  subst hK6
  refine eb_seq ?_
  refine rb_seq ?_
  obtain ⟨v12, h16, h⟩ := bind_some h
  refine rb_cut (fun v12 => ⟨envL [(0, .ptr 0 0), (5, .ptr 1 0), (21, .bool v12)], heapL [(0, .box (some 0) [.int .i64 r7.2.2.Line.Number, .sl (r7.2.2.Line.Fields.map T_api_Field.d), .int .i64 r7.2.2.At, .int .i64 r7.2.2.Code, .int .i64 r7.2.2.Col]), (1, .box none [.str r7.1.Text, .int .i64 r7.1.Column, .bool r7.1.Quoted])], 2, 32⟩) h16 ?_ ?_
  · clear h
    intro v12 h
    refine rb_regionK fun K13 hK13 => ?_
    simp -implicitDefEqProofs only [vt, vm, ↓atI_fold, forall_const, implies_true, sevalprocAttr, dd_TD]
    rcases ite_or h with ⟨k14, h⟩ | ⟨k14, h⟩
    · simp -implicitDefEqProofs only [vt, vm, ↓atI_fold, forall_const, implies_true, sevalprocAttr, dd_TD, k14]
      rcases ite_or h with ⟨k15, h⟩ | ⟨k15, h⟩
      · simp -implicitDefEqProofs only [vt, vm, ↓atI_fold, forall_const, implies_true, sevalprocAttr, dd_TD, k14, k15]
        subst hK13
        obtain rfl := Option.some.inj h
        exact eb_nil ⟨rfl, Wk.of (fun i => if i = 1 then some 7 else if i = 0 then some 0 else some i) _ _ _ (by simp -implicitDefEqProofs [kv, km, dd_TD, k14, k15]) (by simp -implicitDefEqProofs [kv, km, dd_TD, k14, k15])⟩
      · simp -implicitDefEqProofs only [vt, vm, ↓atI_fold, forall_const, implies_true, sevalprocAttr, dd_TD, k14, k15]
        subst hK13
        obtain rfl := Option.some.inj h
        exact eb_nil ⟨rfl, Wk.of (fun i => if i = 1 then some 7 else if i = 0 then some 0 else some i) _ _ _ (by simp -implicitDefEqProofs [kv, km, dd_TD, k14, k15]) (by simp -implicitDefEqProofs [kv, km, dd_TD, k14, k15])⟩
    · simp -implicitDefEqProofs only [vt, vm, ↓atI_fold, forall_const, implies_true, sevalprocAttr, dd_TD, k14]
      subst hK13
      obtain rfl := Option.some.inj h
      exact eb_nil ⟨rfl, Wk.of (fun i => if i = 1 then some 7 else if i = 0 then some 0 else some i) _ _ _ (by simp -implicitDefEqProofs [kv, km, dd_TD, k14]) (by simp -implicitDefEqProofs [kv, km, dd_TD, k14])⟩
  · rcases ite_or h with ⟨k17, h⟩ | ⟨k17, h⟩
    · refine rb_true (by first | exact congrArg D.bool k17 | rfl) ?_
      refine rb_seq ?_
      refine rb_regionK fun K19 hK19 => ?_
      simp -implicitDefEqProofs only [vt, vm, ↓atI_fold, forall_const, implies_true, sevalprocAttr, dd_TD, k17]
      subst hK19
      refine eb_seq ?_
      refine rb_ret ?_
      refine eb_seq_r ?_
      obtain rfl := Option.some.inj h
      refine eb_nil ?_
      simp -implicitDefEqProofs only [vt, vm, ↓atI_fold, forall_const, implies_true, sevalprocAttr, vp, retP_r, Tryd.results99, dd_TD, k17] <;> first | exact ⟨rfl, rfl⟩ | (refine ⟨?_, ?_⟩ <;> first | rfl | (simp [List.map_append, dd_TD]; done))
    · refine rb_false (by first | exact congrArg D.bool k17 | rfl) ?_
      refine rb_skip ?_
      refine eb_seq ?_
      refine rb_seq ?_
      refine rb_seq ?_
      refine rb_regionK fun K23 hK23 => ?_
      simp -implicitDefEqProofs only [vt, vm, ↓atI_fold, forall_const, implies_true, sevalprocAttr, dd_TD, k17]
      obtain ⟨r24, h25, h⟩ := bind_some h
      refine cW.intro (a_ref07_Name I hI r7.1.Text h25) (by first | rfl | (simp [List.map_append, dd_TD]; done)) ?_
      simp -implicitDefEqProofs only [vt, vm, ↓atI_fold, forall_const, implies_true, sevalprocAttr, dd_TD, k17]
      subst hK23
      refine eb_seq ?_
      rcases ite_or h with ⟨k26, h⟩ | ⟨k26, h⟩
      · refine rb_false (by first | exact congrArg D.bool (congrArg Bool.not k26) | rfl) ?_
        refine rb_skip ?_
        refine eb_seq ?_
        refine rb_seq ?_
        refine rb_regionK fun K28 hK28 => ?_
        simp -implicitDefEqProofs only [vt, vm, ↓atI_fold, forall_const, implies_true, sevalprocAttr, dd_TD, k17, k26]
        subst hK28
        refine eb_seq ?_
        refine rb_ret ?_
        obtain rfl := Option.some.inj h
        refine eb_nil ?_
        simp -implicitDefEqProofs only [vt, vm, ↓atI_fold, forall_const, implies_true, sevalprocAttr, vp, retP_r, Tryd.results99, dd_TD, k17, k26] <;> first | exact ⟨rfl, rfl⟩ | (refine ⟨?_, ?_⟩ <;> first | rfl | (simp [List.map_append, dd_TD]; done))
      · refine rb_true (by first | exact congrArg D.bool (congrArg Bool.not k26) | rfl) ?_
        refine rb_seq ?_
        refine rb_regionK fun K32 hK32 => ?_
        simp -implicitDefEqProofs only [vt, vm, ↓atI_fold, forall_const, implies_true, sevalprocAttr, dd_TD, k17, k26]
        obtain ⟨r33, h34, h⟩ := bind_some h
        refine eW.intro (a_ref07_Scanner_fail I hI (nid := 9) (i0 := 0) (p0 := (some 0)) r7.2.2 5 r7.1.Column h34 (by first | rfl | (simp -implicitDefEqProofs only [vt, vm, ↓atI_fold, forall_const, implies_true, sevalprocAttr, dd_TD, k17, k26]; done) | (simp -implicitDefEqProofs only [vt, vm, ↓atI_fold, forall_const, implies_true, sevalprocAttr, dd_TD, k17, k26]; rfl))) (by first | rfl | (simp [List.map_append, dd_TD]; done)) rfl ?_
        simp -implicitDefEqProofs only [vt, vm, ↓atI_fold, forall_const, implies_true, sevalprocAttr, dd_TD, k17, k26]
        subst hK32
        refine eb_seq ?_
        refine rb_seq ?_
        refine rb_regionK fun K36 hK36 => ?_
        simp -implicitDefEqProofs only [vt, vm, ↓atI_fold, forall_const, implies_true, sevalprocAttr, dd_TD, k17, k26]
        subst hK36
        refine eb_seq ?_
        refine rb_ret ?_
        refine eb_seq_r ?_
        obtain rfl := Option.some.inj h
        refine eb_nil ?_
        simp -implicitDefEqProofs only [vt, vm, ↓atI_fold, forall_const, implies_true, sevalprocAttr, vp, retP_r, Tryd.results99, dd_TD, k17, k26] <;> first | exact ⟨rfl, rfl⟩ | (refine ⟨?_, ?_⟩ <;> first | rfl | (simp [List.map_append, dd_TD]; done))
-- captionerref07.Number
def g_ref07_Number_s1 (z19 : List UInt8) (x43 : Int) : Option (Nx (Int) (Unit ⊕ Unit)) :=
  (if (decide (x43 < (z19.length : Int))) then ((atI z19 x43).bind fun b97 => ((g_ref07_digit (b97.toNat : Int)).bind fun r99 => (if r99 then (some (.go (IntKind.i64.wrap (x43 + 1)))) else (some (.out (.inl ())))))) else (some (.out (.inr ()))))
def g_ref07_Number_s2 (z19 : List UInt8) (x115 : Int × Int) : Option (Nx (Int × Int) (Int)) :=
  (if (decide (x115.2 < (z19.length : Int))) then ((atI z19 x115.2).bind fun b134 => (some (.go ((IntKind.u64.wrap ((IntKind.u64.wrap (10 * x115.1)) + (IntKind.u64.wrap (IntKind.u8.wrap ((b134.toNat : Int) - 48))))), (IntKind.i64.wrap (x115.2 + 1)))))) else (some (.out x115.1)))
def g_ref07_Number_s3 (s_0 : List UInt8) (x182 : Int) : Option (Nx (Int) (Unit ⊕ Unit)) :=
  (if (decide (x182 < (s_0.length : Int))) then ((atI s_0 x182).bind fun b236 => ((g_ref07_digit (b236.toNat : Int)).bind fun r238 => (if r238 then (some (.go (IntKind.i64.wrap (x182 + 1)))) else (some (.out (.inl ())))))) else (some (.out (.inr ()))))
def g_ref07_Number_s4 (s_0 : List UInt8) (x254 : Int × Int) : Option (Nx (Int × Int) (Int)) :=
  (if (decide (x254.2 < (s_0.length : Int))) then ((atI s_0 x254.2).bind fun b273 => (some (.go ((IntKind.u64.wrap ((IntKind.u64.wrap (10 * x254.1)) + (IntKind.u64.wrap (IntKind.u8.wrap ((b273.toNat : Int) - 48))))), (IntKind.i64.wrap (x254.2 + 1)))))) else (some (.out x254.1)))
def g_ref07_Number (s_0 : List UInt8) (lo_1 : Int) (hi_2 : Int) : Option (Int × Int) :=
  (((if (decide (0 < (s_0.length : Int))) then ((atI s_0 0).bind fun b12 => (some ((b12.toNat : Int) == 45))) else (some false)) : Option (Bool)).bind fun v9 => (if v9 then ((subL s_0 1).bind fun z19 => (((if ((z19.length : Int) == 0) then (some true) else ((atI z19 0).bind fun b33 => (if ((b33.toNat : Int) == 48) then (if (decide (1 < (z19.length : Int))) then (some true) else (some v9)) else (some false)))) : Option (Bool)).bind fun v30 => (if v30 then (some (0, 4)) else ((iter (g_ref07_Number_s1 z19) 0).bind fun e44 => (match e44 with | Sum.inl e44 => (some (0, 4)) | Sum.inr (e44) => (if (decide (19 < (z19.length : Int))) then (some (0, 2)) else ((iter (g_ref07_Number_s2 z19) (0, 0)).bind fun e116 => (((if (decide (9223372036854775808 < e116)) then (some true) else (some false)) : Option (Bool)).bind fun v140 => (if v140 then (some (0, 2)) else (if (decide ((IntKind.i64.wrap (0 - (IntKind.i64.wrap e116))) < lo_1)) then (some (0, 2)) else (if (decide (hi_2 < (IntKind.i64.wrap (0 - (IntKind.i64.wrap e116))))) then (some (0, 2)) else (some ((IntKind.i64.wrap (0 - (IntKind.i64.wrap e116))), 0))))))))))))) else (((if ((s_0.length : Int) == 0) then (some true) else ((atI s_0 0).bind fun b172 => (if ((b172.toNat : Int) == 48) then (if (decide (1 < (s_0.length : Int))) then (some true) else (some v9)) else (some false)))) : Option (Bool)).bind fun v169 => (if v169 then (some (0, 4)) else ((iter (g_ref07_Number_s3 s_0) 0).bind fun e183 => (match e183 with | Sum.inl e183 => (some (0, 4)) | Sum.inr (e183) => (if (decide (19 < (s_0.length : Int))) then (some (0, 2)) else ((iter (g_ref07_Number_s4 s_0) (0, 0)).bind fun e255 => (((if (decide (9223372036854775808 < e255)) then (some true) else (some (e255 == 9223372036854775808))) : Option (Bool)).bind fun v279 => (if v279 then (some (0, 2)) else (if (decide ((IntKind.i64.wrap e255) < lo_1)) then (some (0, 2)) else (if (decide (hi_2 < (IntKind.i64.wrap e255))) then (some (0, 2)) else (some ((IntKind.i64.wrap e255), 0))))))))))))))
theorem a_ref07_Number (I : World → Prop) (hI : Stab I) (s_0 : List UInt8) (lo_1 : Int) (hi_2 : Int) {r : Int × Int} (h : g_ref07_Number s_0 lo_1 hi_2 = some r) : AFun Tryd.prog I 109 [.str s_0, .int .i64 lo_1, .int .i64 hi_2] (.tup [.int .i64 r.1, .int .i64 r.2]) := by
  refine AFun.enterB hI Tryd.func109 rfl (by decide) (by simp [Tryd.f109]) (by kernel_rfl) ?_
  unfold g_ref07_Number at h
  simp only [S0, Tryd.ntmps109, dd_TD]
  refine rb_seq ?_
  refine rb_regionK fun K2 hK2 => ?_
  simp -implicitDefEqProofs only [vt, vm, ↓atI_fold, forall_const, implies_true, sevalprocAttr, dd_TD]
  subst hK2
  refine eb_seq ?_
  refine rb_seq ?_
  refine rb_regionK fun K4 hK4 => ?_
  simp -implicitDefEqProofs only [vt, vm, ↓atI_fold, forall_const, implies_true, sevalprocAttr, dd_TD]
  subst hK4
  refine eb_seq ?_
  obtain ⟨v9, h14, h⟩ := bind_some h
  refine rb_cut (fun v9 => ⟨envL [(0, .str s_0), (1, .int .i64 lo_1), (2, .int .i64 hi_2), (8, .str s_0), (9, .bool v9)], heapL [], 0, 94⟩) h14 ?_ ?_
  · clear h
    intro v9 h
    refine rb_regionK fun K10 hK10 => ?_
    simp -implicitDefEqProofs only [vt, vm, ↓atI_fold, forall_const, implies_true, sevalprocAttr, dd_TD]
    rcases ite_or h with ⟨k11, h⟩ | ⟨k11, h⟩
    · simp -implicitDefEqProofs only [vt, vm, ↓atI_fold, forall_const, implies_true, sevalprocAttr, dd_TD, k11]
      obtain ⟨b12, h13, h⟩ := bind_some h
      simp -implicitDefEqProofs only [vt, vm, ↓atI_fold, forall_const, implies_true, sevalprocAttr, dd_TD, k11, h13]
      subst hK10
      obtain rfl := Option.some.inj h
      exact eb_nil ⟨rfl, Wk.of (fun i => some i) _ _ _ (by simp -implicitDefEqProofs [kv, km, dd_TD, k11]) (by simp -implicitDefEqProofs [kv, km, dd_TD, k11])⟩
    · simp -implicitDefEqProofs only [vt, vm, ↓atI_fold, forall_const, implies_true, sevalprocAttr, dd_TD, k11]
      subst hK10
      obtain rfl := Option.some.inj h
      exact eb_nil ⟨rfl, Wk.of (fun i => some i) _ _ _ (by simp -implicitDefEqProofs [kv, km, dd_TD, k11]) (by simp -implicitDefEqProofs [kv, km, dd_TD, k11])⟩
  · refine rb_seq ?_
    refine rb_seq ?_
    refine rb_regionK fun K16 hK16 => ?_
    simp -implicitDefEqProofs only [vt, vm, ↓atI_fold, forall_const, implies_true, sevalprocAttr, dd_TD]
    subst hK16
    refine eb_seq ?_
    rcases ite_or h with ⟨k17, h⟩ | ⟨k17, h⟩
    · refine rb_true (by first | exact congrArg D.bool k17 | rfl) ?_
      refine rb_regionK fun K18 hK18 => ?_
      simp -implicitDefEqProofs only [vt, vm, ↓atI_fold, forall_const, implies_true, sevalprocAttr, dd_TD, k17]
      obtain ⟨z19, h20, h⟩ := bind_some h
      obtain ⟨⟨h21, h22⟩, h23⟩ := subL_some h20
      try simp only [List.length_cons, List.length_nil, Nat.zero_add, Nat.reduceAdd, Int.reduceToNat] at h22
      try simp -implicitDefEqProofs only [vt, vm, ↓atI_fold, forall_const, implies_true, sevalprocAttr, dd_TD, k17, h22] at h23
      simp -implicitDefEqProofs only [vt, vm, ↓atI_fold, forall_const, implies_true, sevalprocAttr, dd_TD, k17, h22, h23]
      subst hK18
      refine eb_seq ?_
      refine rb_seq ?_
      obtain ⟨v30, h37, h⟩ := bind_some h
      refine rb_cut (fun v30 => ⟨envL [(1, .int .i64 lo_1), (2, .int .i64 hi_2), (8, .str z19), (9, .bool v9), (41, .bool v30)], heapL [], 0, 94⟩) h37 ?_ ?_
      · clear h
        intro v30 h
        refine rb_regionK fun K31 hK31 => ?_
        simp -implicitDefEqProofs only [vt, vm, ↓atI_fold, forall_const, implies_true, sevalprocAttr, dd_TD, k17, h22, h23]
        rcases ite_or h with ⟨k32, h⟩ | ⟨k32, h⟩
        · simp -implicitDefEqProofs only [vt, vm, ↓atI_fold, forall_const, implies_true, sevalprocAttr, dd_TD, k17, h22, h23, k32]
          subst hK31
          obtain rfl := Option.some.inj h
          exact eb_nil ⟨rfl, Wk.of (fun i => some i) _ _ _ (by simp -implicitDefEqProofs [kv, km, dd_TD, k17, k32]) (by simp -implicitDefEqProofs [kv, km, dd_TD, k17, k32])⟩
        · simp -implicitDefEqProofs only [vt, vm, ↓atI_fold, forall_const, implies_true, sevalprocAttr, dd_TD, k17, h22, h23, k32]
          obtain ⟨b33, h34, h⟩ := bind_some h
          simp -implicitDefEqProofs only [vt, vm, ↓atI_fold, forall_const, implies_true, sevalprocAttr, dd_TD, k17, h22, h23, k32, h34]
          rcases ite_or h with ⟨k35, h⟩ | ⟨k35, h⟩
          · simp -implicitDefEqProofs only [vt, vm, ↓atI_fold, forall_const, implies_true, sevalprocAttr, dd_TD, k17, h22, h23, k32, h34, k35]
            rcases ite_or h with ⟨k36, h⟩ | ⟨k36, h⟩
            · simp -implicitDefEqProofs only [vt, vm, ↓atI_fold, forall_const, implies_true, sevalprocAttr, dd_TD, k17, h22, h23, k32, h34, k35, k36]
              subst hK31
              obtain rfl := Option.some.inj h
              exact eb_nil ⟨rfl, Wk.of (fun i => some i) _ _ _ (by simp -implicitDefEqProofs [kv, km, dd_TD, k17, k32, k35, k36]) (by simp -implicitDefEqProofs [kv, km, dd_TD, k17, k32, k35, k36])⟩
            · simp -implicitDefEqProofs only [vt, vm, ↓atI_fold, forall_const, implies_true, sevalprocAttr, dd_TD, k17, h22, h23, k32, h34, k35, k36]
              subst hK31
              obtain rfl := Option.some.inj h
              exact eb_nil ⟨rfl, Wk.of (fun i => some i) _ _ _ (by simp -implicitDefEqProofs [kv, km, dd_TD, k17, k32, k35, k36]) (by simp -implicitDefEqProofs [kv, km, dd_TD, k17, k32, k35, k36])⟩
          · simp -implicitDefEqProofs only [vt, vm, ↓atI_fold, forall_const, implies_true, sevalprocAttr, dd_TD, k17, h22, h23, k32, h34, k35]
            subst hK31
            obtain rfl := Option.some.inj h
            exact eb_nil ⟨rfl, Wk.of (fun i => some i) _ _ _ (by simp -implicitDefEqProofs [kv, km, dd_TD, k17, k32, k35]) (by simp -implicitDefEqProofs [kv, km, dd_TD, k17, k32, k35])⟩
      · rcases ite_or h with ⟨k38, h⟩ | ⟨k38, h⟩
        · refine rb_true (by first | exact congrArg D.bool k38 | rfl) ?_
          refine rb_seq ?_
          refine rb_regionK fun K40 hK40 => ?_
          simp -implicitDefEqProofs only [vt, vm, ↓atI_fold, forall_const, implies_true, sevalprocAttr, dd_TD, k17, h22, h23, k38]
          subst hK40
          refine eb_seq ?_
          refine rb_ret ?_
          refine eb_seq_r ?_
          obtain rfl := Option.some.inj h
          refine eb_nil ?_
          simp -implicitDefEqProofs only [vt, vm, ↓atI_fold, forall_const, implies_true, sevalprocAttr, retQ_r, Tryd.results109, dd_TD, k17, h22, h23, k38] <;> first | rfl | (simp [List.map_append, dd_TD]; done)
        · refine rb_false (by first | exact congrArg D.bool k38 | rfl) ?_
          refine rb_skip ?_
          refine eb_seq ?_
          refine rb_seq ?_
          refine rb_seq ?_
          refine rb_regionK fun K42 hK42 => ?_
          simp -implicitDefEqProofs only [vt, vm, ↓atI_fold, forall_const, implies_true, sevalprocAttr, dd_TD, k17, h22, h23, k38]
          subst hK42
          refine eb_seq ?_
          refine rb_block ?_
          obtain ⟨e44, h105, h⟩ := bind_some h
          refine rb_loop (fun x43 => ⟨envL [(1, .int .i64 lo_1), (2, .int .i64 hi_2), (8, .str z19), (9, .bool v9), (10, .int .i64 x43)], heapL [], 0, 94⟩) (fun w => match w with | Sum.inl _ => .ret | Sum.inr (_) => .exit 0) (fun w => match w with | Sum.inl e44 => ⟨envL [(6, .int .i64 0), (7, .int .i64 4)], heapL [], 0, 94⟩ | Sum.inr (e44) => ⟨envL [(1, .int .i64 lo_1), (2, .int .i64 hi_2), (8, .str z19), (9, .bool v9)], heapL [], 0, 94⟩) h105 (Wk.of (fun i => some i) _ _ _ (by simp -implicitDefEqProofs [kv, km, dd_TD, k17, k38]) (by simp -implicitDefEqProofs [kv, km, dd_TD, k17, k38])) (by intro w; rcases w with w | w <;> simp) ?_ ?_
          · clear h
            intro x43 y h
            unfold g_ref07_Number_s1 at h
            refine rb_seq ?_
            refine rb_seq ?_
            refine rb_regionK fun K76 hK76 => ?_
            simp -implicitDefEqProofs only [vt, vm, ↓atI_fold, forall_const, implies_true, sevalprocAttr, dd_TD, k17, h22, h23, k38]
            subst hK76
            refine eb_seq ?_
            rcases ite_or h with ⟨k77, h⟩ | ⟨k77, h⟩
            · refine rb_true (by first | exact congrArg D.bool k77 | rfl) ?_
              refine rb_skip ?_
              refine eb_seq ?_
              refine rb_seq ?_
              refine rb_block ?_
              refine rb_seq ?_
              refine rb_regionK fun K96 hK96 => ?_
              simp -implicitDefEqProofs only [vt, vm, ↓atI_fold, forall_const, implies_true, sevalprocAttr, dd_TD, k17, h22, h23, k38, k77]
              obtain ⟨b97, h98, h⟩ := bind_some h
              simp -implicitDefEqProofs only [vt, vm, ↓atI_fold, forall_const, implies_true, sevalprocAttr, dd_TD, k17, h22, h23, k38, k77, h98]
              obtain ⟨r99, h100, h⟩ := bind_some h
              refine cW.intro (a_ref07_digit I hI (b97.toNat : Int) h100) (by first | rfl | (simp [List.map_append, dd_TD]; done)) ?_
              simp -implicitDefEqProofs only [vt, vm, ↓atI_fold, forall_const, implies_true, sevalprocAttr, dd_TD, k17, h22, h23, k38, k77, h98]
              subst hK96
              refine eb_seq ?_
              rcases ite_or h with ⟨k101, h⟩ | ⟨k101, h⟩
              · refine rb_false (by first | exact congrArg D.bool (congrArg Bool.not k101) | rfl) ?_
                refine rb_skip ?_
                refine eb_blk_n ?_
                refine eb_seq ?_
                refine rb_regionK fun K102 hK102 => ?_
                simp -implicitDefEqProofs only [vt, vm, ↓atI_fold, forall_const, implies_true, sevalprocAttr, dd_TD, k17, h22, h23, k38, k77, h98, k101]
                subst hK102
                obtain rfl := Option.some.inj h
                exact eb_nil ⟨rfl, Wk.of (fun i => some i) _ _ _ (by simp -implicitDefEqProofs [kv, km, dd_TD, k17, k38, k77, k101]) (by simp -implicitDefEqProofs [kv, km, dd_TD, k17, k38, k77, k101])⟩
              · refine rb_true (by first | exact congrArg D.bool (congrArg Bool.not k101) | rfl) ?_
                refine rb_seq ?_
                refine rb_regionK fun K104 hK104 => ?_
                simp -implicitDefEqProofs only [vt, vm, ↓atI_fold, forall_const, implies_true, sevalprocAttr, dd_TD, k17, h22, h23, k38, k77, h98, k101]
                subst hK104
                refine eb_seq ?_
                refine rb_ret ?_
                refine eb_blk_r ?_
                refine eb_seq_r ?_
                obtain rfl := Option.some.inj h
                exact eb_nil ⟨rfl, Wk.of (fun i => some i) _ _ _ (by simp -implicitDefEqProofs [kv, km, dd_TD, k17, k38, k77, k101]) (by simp -implicitDefEqProofs [kv, km, dd_TD, k17, k38, k77, k101])⟩
            · refine rb_false (by first | exact congrArg D.bool k77 | rfl) ?_
              refine rb_exit ?_
              refine eb_seq_e ?_
              obtain rfl := Option.some.inj h
              exact eb_nil ⟨rfl, Wk.of (fun i => some i) _ _ _ (by simp -implicitDefEqProofs [kv, km, dd_TD, k17, k38, k77]) (by simp -implicitDefEqProofs [kv, km, dd_TD, k17, k38, k77])⟩
          · rcases e44 with e44 | e44
            · try dsimp only at h ⊢
              refine eb_blk_r ?_
              refine eb_seq_r ?_
              obtain rfl := Option.some.inj h
              refine eb_nil ?_
              simp -implicitDefEqProofs only [vt, vm, ↓atI_fold, forall_const, implies_true, sevalprocAttr, retQ_r, Tryd.results109, dd_TD, k17, h22, h23, k38] <;> first | rfl | (simp [List.map_append, dd_TD]; done)
            · try dsimp only at h ⊢
              refine eb_blk_hit ?_
              refine eb_seq ?_
              refine rb_seq ?_
              refine rb_seq ?_
              refine rb_regionK fun K107 hK107 => ?_
              simp -implicitDefEqProofs only [vt, vm, ↓atI_fold, forall_const, implies_true, sevalprocAttr, dd_TD, k17, h22, h23, k38]
              subst hK107
              refine eb_seq ?_
              rcases ite_or h with ⟨k108, h⟩ | ⟨k108, h⟩
              · refine rb_true (by first | exact congrArg D.bool k108 | rfl) ?_
                refine rb_seq ?_
                refine rb_regionK fun K110 hK110 => ?_
                simp -implicitDefEqProofs only [vt, vm, ↓atI_fold, forall_const, implies_true, sevalprocAttr, dd_TD, k17, h22, h23, k38, k108]
                subst hK110
                refine eb_seq ?_
                refine rb_ret ?_
                refine eb_seq_r ?_
                obtain rfl := Option.some.inj h
                refine eb_nil ?_
                simp -implicitDefEqProofs only [vt, vm, ↓atI_fold, forall_const, implies_true, sevalprocAttr, retQ_r, Tryd.results109, dd_TD, k17, h22, h23, k38, k108] <;> first | rfl | (simp [List.map_append, dd_TD]; done)
              · refine rb_false (by first | exact congrArg D.bool k108 | rfl) ?_
                refine rb_skip ?_
                refine eb_seq ?_
                refine rb_seq ?_
                refine rb_regionK fun K112 hK112 => ?_
                simp -implicitDefEqProofs only [vt, vm, ↓atI_fold, forall_const, implies_true, sevalprocAttr, dd_TD, k17, h22, h23, k38, k108]
                subst hK112
                refine eb_seq ?_
                refine rb_seq ?_
                refine rb_seq ?_
                refine rb_regionK fun K114 hK114 => ?_
                simp -implicitDefEqProofs only [vt, vm, ↓atI_fold, forall_const, implies_true, sevalprocAttr, dd_TD, k17, h22, h23, k38, k108]
                subst hK114
                refine eb_seq ?_
                refine rb_block ?_
                obtain ⟨e116, h137, h⟩ := bind_some h
                refine rb_loop (fun x115 => ⟨envL [(1, .int .i64 lo_1), (2, .int .i64 hi_2), (8, .str z19), (9, .bool v9), (11, .int .u64 x115.1), (12, .int .i64 x115.2)], heapL [], 0, 94⟩) (fun _ => .exit 2) (fun e116 => ⟨envL [(1, .int .i64 lo_1), (2, .int .i64 hi_2), (9, .bool v9), (11, .int .u64 e116)], heapL [], 0, 94⟩) h137 (Wk.of (fun i => some i) _ _ _ (by simp -implicitDefEqProofs [kv, km, dd_TD, k17, k38, k108]) (by simp -implicitDefEqProofs [kv, km, dd_TD, k17, k38, k108])) (by intro w; simp) ?_ ?_
                · clear h
                  intro x115 y h
                  unfold g_ref07_Number_s2 at h
                  refine rb_seq ?_
                  refine rb_seq ?_
                  refine rb_regionK fun K128 hK128 => ?_
                  simp -implicitDefEqProofs only [vt, vm, ↓atI_fold, forall_const, implies_true, sevalprocAttr, dd_TD, k17, h22, h23, k38, k108]
                  subst hK128
                  refine eb_seq ?_
                  rcases ite_or h with ⟨k129, h⟩ | ⟨k129, h⟩
                  · refine rb_true (by first | exact congrArg D.bool k129 | rfl) ?_
                    refine rb_skip ?_
                    refine eb_seq ?_
                    refine rb_seq ?_
                    refine rb_block ?_
                    refine rb_regionK fun K133 hK133 => ?_
                    simp -implicitDefEqProofs only [vt, vm, ↓atI_fold, forall_const, implies_true, sevalprocAttr, dd_TD, k17, h22, h23, k38, k108, k129]
                    obtain ⟨b134, h135, h⟩ := bind_some h
                    simp -implicitDefEqProofs only [vt, vm, ↓atI_fold, forall_const, implies_true, sevalprocAttr, dd_TD, k17, h22, h23, k38, k108, k129, h135]
                    subst hK133
                    refine eb_blk_n ?_
                    refine eb_seq ?_
                    refine rb_regionK fun K136 hK136 => ?_
                    simp -implicitDefEqProofs only [vt, vm, ↓atI_fold, forall_const, implies_true, sevalprocAttr, dd_TD, k17, h22, h23, k38, k108, k129, h135]
                    subst hK136
                    obtain rfl := Option.some.inj h
                    exact eb_nil ⟨rfl, Wk.of (fun i => some i) _ _ _ (by simp -implicitDefEqProofs [kv, km, dd_TD, k17, k38, k108, k129]) (by simp -implicitDefEqProofs [kv, km, dd_TD, k17, k38, k108, k129])⟩
                  · refine rb_false (by first | exact congrArg D.bool k129 | rfl) ?_
                    refine rb_exit ?_
                    refine eb_seq_e ?_
                    obtain rfl := Option.some.inj h
                    exact eb_nil ⟨rfl, Wk.of (fun i => some i) _ _ _ (by simp -implicitDefEqProofs [kv, km, dd_TD, k17, k38, k108, k129]) (by simp -implicitDefEqProofs [kv, km, dd_TD, k17, k38, k108, k129])⟩
                · refine eb_blk_hit ?_
                  refine eb_seq ?_
                  refine rb_seq ?_
                  obtain ⟨v140, h143, h⟩ := bind_some h
                  refine rb_cut (fun v140 => ⟨envL [(1, .int .i64 lo_1), (2, .int .i64 hi_2), (9, .bool v9), (11, .int .u64 e116), (79, .bool v140)], heapL [], 0, 94⟩) h143 ?_ ?_
                  · clear h
                    intro v140 h
                    refine rb_regionK fun K141 hK141 => ?_
                    simp -implicitDefEqProofs only [vt, vm, ↓atI_fold, forall_const, implies_true, sevalprocAttr, dd_TD, k17, h22, h23, k38, k108]
                    rcases ite_or h with ⟨k142, h⟩ | ⟨k142, h⟩
                    · simp -implicitDefEqProofs only [vt, vm, ↓atI_fold, forall_const, implies_true, sevalprocAttr, dd_TD, k17, h22, h23, k38, k108, k142]
                      subst hK141
                      obtain rfl := Option.some.inj h
                      exact eb_nil ⟨rfl, Wk.of (fun i => some i) _ _ _ (by simp -implicitDefEqProofs [kv, km, dd_TD, k17, k38, k108, k142]) (by simp -implicitDefEqProofs [kv, km, dd_TD, k17, k38, k108, k142])⟩
                    · simp -implicitDefEqProofs only [vt, vm, ↓atI_fold, forall_const, implies_true, sevalprocAttr, dd_TD, k17, h22, h23, k38, k108, k142]
                      subst hK141
                      obtain rfl := Option.some.inj h
                      exact eb_nil ⟨rfl, Wk.of (fun i => some i) _ _ _ (by simp -implicitDefEqProofs [kv, km, dd_TD, k17, k38, k108, k142]) (by simp -implicitDefEqProofs [kv, km, dd_TD, k17, k38, k108, k142])⟩
                  · rcases ite_or h with ⟨k144, h⟩ | ⟨k144, h⟩
                    · refine rb_true (by first | exact congrArg D.bool k144 | rfl) ?_
                      refine rb_seq ?_
                      refine rb_regionK fun K146 hK146 => ?_
                      simp -implicitDefEqProofs only [vt, vm, ↓atI_fold, forall_const, implies_true, sevalprocAttr, dd_TD, k17, h22, h23, k38, k108, k144]
                      subst hK146
                      refine eb_seq ?_
                      refine rb_ret ?_
                      refine eb_seq_r ?_
                      obtain rfl := Option.some.inj h
                      refine eb_nil ?_
                      simp -implicitDefEqProofs only [vt, vm, ↓atI_fold, forall_const, implies_true, sevalprocAttr, retQ_r, Tryd.results109, dd_TD, k17, h22, h23, k38, k108, k144] <;> first | rfl | (simp [List.map_append, dd_TD]; done)
                    · refine rb_false (by first | exact congrArg D.bool k144 | rfl) ?_
                      refine rb_skip ?_
                      refine eb_seq ?_
                      refine rb_seq ?_
                      refine rb_regionK fun K148 hK148 => ?_
                      simp -implicitDefEqProofs only [vt, vm, ↓atI_fold, forall_const, implies_true, sevalprocAttr, dd_TD, k17, h22, h23, k38, k108, k144]
                      subst hK148
                      refine eb_seq ?_
                      refine rb_seq ?_
                      refine rb_seq ?_
                      refine rb_regionK fun K150 hK150 => ?_
                      simp -implicitDefEqProofs only [vt, vm, ↓atI_fold, forall_const, implies_true, sevalprocAttr, dd_TD, k17, h22, h23, k38, k108, k144]
                      subst hK150
                      refine eb_seq ?_
                      refine rb_true (by first | exact congrArg D.bool k17 | rfl) ?_
                      refine rb_regionK fun K151 hK151 => ?_
                      simp -implicitDefEqProofs only [vt, vm, ↓atI_fold, forall_const, implies_true, sevalprocAttr, dd_TD, k17, h22, h23, k38, k108, k144]
                      subst hK151
                      refine eb_seq ?_
                      refine rb_seq ?_
                      refine rb_seq ?_
                      refine rb_regionK fun K154 hK154 => ?_
                      simp -implicitDefEqProofs only [vt, vm, ↓atI_fold, forall_const, implies_true, sevalprocAttr, dd_TD, k17, h22, h23, k38, k108, k144]
                      rcases ite_or h with ⟨k155, h⟩ | ⟨k155, h⟩
                      · simp -implicitDefEqProofs only [vt, vm, ↓atI_fold, forall_const, implies_true, sevalprocAttr, dd_TD, k17, h22, h23, k38, k108, k144, k155]
                        subst hK154
                        refine eb_seq ?_
                        refine rb_true (rfl) ?_
                        refine rb_seq ?_
                        refine rb_regionK fun K157 hK157 => ?_
                        simp -implicitDefEqProofs only [vt, vm, ↓atI_fold, forall_const, implies_true, sevalprocAttr, dd_TD, k17, h22, h23, k38, k108, k144, k155]
                        subst hK157
                        refine eb_seq ?_
                        refine rb_ret ?_
                        refine eb_seq_r ?_
                        obtain rfl := Option.some.inj h
                        refine eb_nil ?_
                        simp -implicitDefEqProofs only [vt, vm, ↓atI_fold, forall_const, implies_true, sevalprocAttr, retQ_r, Tryd.results109, dd_TD, k17, h22, h23, k38, k108, k144, k155] <;> first | rfl | (simp [List.map_append, dd_TD]; done)
                      · simp -implicitDefEqProofs only [vt, vm, ↓atI_fold, forall_const, implies_true, sevalprocAttr, dd_TD, k17, h22, h23, k38, k108, k144, k155]
                        subst hK154
                        refine eb_seq ?_
                        rcases ite_or h with ⟨k158, h⟩ | ⟨k158, h⟩
                        · refine rb_true (by first | exact congrArg D.bool k158 | rfl) ?_
                          refine rb_seq ?_
                          refine rb_regionK fun K160 hK160 => ?_
                          simp -implicitDefEqProofs only [vt, vm, ↓atI_fold, forall_const, implies_true, sevalprocAttr, dd_TD, k17, h22, h23, k38, k108, k144, k155, k158]
                          subst hK160
                          refine eb_seq ?_
                          refine rb_ret ?_
                          refine eb_seq_r ?_
                          obtain rfl := Option.some.inj h
                          refine eb_nil ?_
                          simp -implicitDefEqProofs only [vt, vm, ↓atI_fold, forall_const, implies_true, sevalprocAttr, retQ_r, Tryd.results109, dd_TD, k17, h22, h23, k38, k108, k144, k155, k158] <;> first | rfl | (simp [List.map_append, dd_TD]; done)
                        · refine rb_false (by first | exact congrArg D.bool k158 | rfl) ?_
                          refine rb_skip ?_
                          refine eb_seq ?_
                          refine rb_seq ?_
                          refine rb_regionK fun K162 hK162 => ?_
                          simp -implicitDefEqProofs only [vt, vm, ↓atI_fold, forall_const, implies_true, sevalprocAttr, dd_TD, k17, h22, h23, k38, k108, k144, k155, k158]
                          subst hK162
                          refine eb_seq ?_
                          refine rb_ret ?_
                          obtain rfl := Option.some.inj h
                          refine eb_nil ?_
                          simp -implicitDefEqProofs only [vt, vm, ↓atI_fold, forall_const, implies_true, sevalprocAttr, retQ_r, Tryd.results109, dd_TD, k17, h22, h23, k38, k108, k144, k155, k158] <;> first | rfl | (simp [List.map_append, dd_TD]; done)
    · refine rb_false (by first | exact congrArg D.bool k17 | rfl) ?_
      refine rb_skip ?_
      refine eb_seq ?_
      refine rb_seq ?_
      obtain ⟨v169, h176, h⟩ := bind_some h
      refine rb_cut (fun v169 => ⟨envL [(1, .int .i64 lo_1), (2, .int .i64 hi_2), (8, .str s_0), (9, .bool v9), (41, .bool v169)], heapL [], 0, 94⟩) h176 ?_ ?_
      · clear h
        intro v169 h
        refine rb_regionK fun K170 hK170 => ?_
        simp -implicitDefEqProofs only [vt, vm, ↓atI_fold, forall_const, implies_true, sevalprocAttr, dd_TD, k17]
        rcases ite_or h with ⟨k171, h⟩ | ⟨k171, h⟩
        · simp -implicitDefEqProofs only [vt, vm, ↓atI_fold, forall_const, implies_true, sevalprocAttr, dd_TD, k17, k171]
          subst hK170
          obtain rfl := Option.some.inj h
          exact eb_nil ⟨rfl, Wk.of (fun i => some i) _ _ _ (by simp -implicitDefEqProofs [kv, km, dd_TD, k17, k171]) (by simp -implicitDefEqProofs [kv, km, dd_TD, k17, k171])⟩
        · simp -implicitDefEqProofs only [vt, vm, ↓atI_fold, forall_const, implies_true, sevalprocAttr, dd_TD, k17, k171]
          obtain ⟨b172, h173, h⟩ := bind_some h
          simp -implicitDefEqProofs only [vt, vm, ↓atI_fold, forall_const, implies_true, sevalprocAttr, dd_TD, k17, k171, h173]
          rcases ite_or h with ⟨k174, h⟩ | ⟨k174, h⟩
          · simp -implicitDefEqProofs only [vt, vm, ↓atI_fold, forall_const, implies_true, sevalprocAttr, dd_TD, k17, k171, h173, k174]
            rcases ite_or h with ⟨k175, h⟩ | ⟨k175, h⟩
            · simp -implicitDefEqProofs only [vt, vm, ↓atI_fold, forall_const, implies_true, sevalprocAttr, dd_TD, k17, k171, h173, k174, k175]
              subst hK170
              obtain rfl := Option.some.inj h
              exact eb_nil ⟨rfl, Wk.of (fun i => some i) _ _ _ (by simp -implicitDefEqProofs [kv, km, dd_TD, k17, k171, k174, k175]) (by simp -implicitDefEqProofs [kv, km, dd_TD, k17, k171, k174, k175])⟩
            · simp -implicitDefEqProofs only [vt, vm, ↓atI_fold, forall_const, implies_true, sevalprocAttr, dd_TD, k17, k171, h173, k174, k175]
              subst hK170
              obtain rfl := Option.some.inj h
              exact eb_nil ⟨rfl, Wk.of (fun i => some i) _ _ _ (by simp -implicitDefEqProofs [kv, km, dd_TD, k17, k171, k174, k175]) (by simp -implicitDefEqProofs [kv, km, dd_TD, k17, k171, k174, k175])⟩
          · simp -implicitDefEqProofs only [vt, vm, ↓atI_fold, forall_const, implies_true, sevalprocAttr, dd_TD, k17, k171, h173, k174]
            subst hK170
            obtain rfl := Option.some.inj h
            exact eb_nil ⟨rfl, Wk.of (fun i => some i) _ _ _ (by simp -implicitDefEqProofs [kv, km, dd_TD, k17, k171, k174]) (by simp -implicitDefEqProofs [kv, km, dd_TD, k17, k171, k174])⟩
      · rcases ite_or h with ⟨k177, h⟩ | ⟨k177, h⟩
        · refine rb_true (by first | exact congrArg D.bool k177 | rfl) ?_
          refine rb_seq ?_
          refine rb_regionK fun K179 hK179 => ?_
          simp -implicitDefEqProofs only [vt, vm, ↓atI_fold, forall_const, implies_true, sevalprocAttr, dd_TD, k17, k177]
          subst hK179
          refine eb_seq ?_
          refine rb_ret ?_
          refine eb_seq_r ?_
          obtain rfl := Option.some.inj h
          refine eb_nil ?_
          simp -implicitDefEqProofs only [vt, vm, ↓atI_fold, forall_const, implies_true, sevalprocAttr, retQ_r, Tryd.results109, dd_TD, k17, k177] <;> first | rfl | (simp [List.map_append, dd_TD]; done)
        · refine rb_false (by first | exact congrArg D.bool k177 | rfl) ?_
          refine rb_skip ?_
          refine eb_seq ?_
          refine rb_seq ?_
          refine rb_seq ?_
          refine rb_regionK fun K181 hK181 => ?_
          simp -implicitDefEqProofs only [vt, vm, ↓atI_fold, forall_const, implies_true, sevalprocAttr, dd_TD, k17, k177]
          subst hK181
          refine eb_seq ?_
          refine rb_block ?_
          obtain ⟨e183, h244, h⟩ := bind_some h
          refine rb_loop (fun x182 => ⟨envL [(1, .int .i64 lo_1), (2, .int .i64 hi_2), (8, .str s_0), (9, .bool v9), (10, .int .i64 x182)], heapL [], 0, 94⟩) (fun w => match w with | Sum.inl _ => .ret | Sum.inr (_) => .exit 0) (fun w => match w with | Sum.inl e183 => ⟨envL [(6, .int .i64 0), (7, .int .i64 4)], heapL [], 0, 94⟩ | Sum.inr (e183) => ⟨envL [(1, .int .i64 lo_1), (2, .int .i64 hi_2), (8, .str s_0), (9, .bool v9)], heapL [], 0, 94⟩) h244 (Wk.of (fun i => some i) _ _ _ (by simp -implicitDefEqProofs [kv, km, dd_TD, k17, k177]) (by simp -implicitDefEqProofs [kv, km, dd_TD, k17, k177])) (by intro w; rcases w with w | w <;> simp) ?_ ?_
          · clear h
            intro x182 y h
            unfold g_ref07_Number_s3 at h
            refine rb_seq ?_
            refine rb_seq ?_
            refine rb_regionK fun K215 hK215 => ?_
            simp -implicitDefEqProofs only [vt, vm, ↓atI_fold, forall_const, implies_true, sevalprocAttr, dd_TD, k17, k177]
            subst hK215
            refine eb_seq ?_
            rcases ite_or h with ⟨k216, h⟩ | ⟨k216, h⟩
            · refine rb_true (by first | exact congrArg D.bool k216 | rfl) ?_
              refine rb_skip ?_
              refine eb_seq ?_
              refine rb_seq ?_
              refine rb_block ?_
              refine rb_seq ?_
              refine rb_regionK fun K235 hK235 => ?_
              simp -implicitDefEqProofs only [vt, vm, ↓atI_fold, forall_const, implies_true, sevalprocAttr, dd_TD, k17, k177, k216]
              obtain ⟨b236, h237, h⟩ := bind_some h
              simp -implicitDefEqProofs only [vt, vm, ↓atI_fold, forall_const, implies_true, sevalprocAttr, dd_TD, k17, k177, k216, h237]
              obtain ⟨r238, h239, h⟩ := bind_some h
              refine cW.intro (a_ref07_digit I hI (b236.toNat : Int) h239) (by first | rfl | (simp [List.map_append, dd_TD]; done)) ?_
              simp -implicitDefEqProofs only [vt, vm, ↓atI_fold, forall_const, implies_true, sevalprocAttr, dd_TD, k17, k177, k216, h237]
              subst hK235
              refine eb_seq ?_
              rcases ite_or h with ⟨k240, h⟩ | ⟨k240, h⟩
              · refine rb_false (by first | exact congrArg D.bool (congrArg Bool.not k240) | rfl) ?_
                refine rb_skip ?_
                refine eb_blk_n ?_
                refine eb_seq ?_
                refine rb_regionK fun K241 hK241 => ?_
                simp -implicitDefEqProofs only [vt, vm, ↓atI_fold, forall_const, implies_true, sevalprocAttr, dd_TD, k17, k177, k216, h237, k240]
                subst hK241
                obtain rfl := Option.some.inj h
                exact eb_nil ⟨rfl, Wk.of (fun i => some i) _ _ _ (by simp -implicitDefEqProofs [kv, km, dd_TD, k17, k177, k216, k240]) (by simp -implicitDefEqProofs [kv, km, dd_TD, k17, k177, k216, k240])⟩
              · refine rb_true (by first | exact congrArg D.bool (congrArg Bool.not k240) | rfl) ?_
                refine rb_seq ?_
                refine rb_regionK fun K243 hK243 => ?_
                simp -implicitDefEqProofs only [vt, vm, ↓atI_fold, forall_const, implies_true, sevalprocAttr, dd_TD, k17, k177, k216, h237, k240]
                subst hK243
                refine eb_seq ?_
                refine rb_ret ?_
                refine eb_blk_r ?_
                refine eb_seq_r ?_
                obtain rfl := Option.some.inj h
                exact eb_nil ⟨rfl, Wk.of (fun i => some i) _ _ _ (by simp -implicitDefEqProofs [kv, km, dd_TD, k17, k177, k216, k240]) (by simp -implicitDefEqProofs [kv, km, dd_TD, k17, k177, k216, k240])⟩
            · refine rb_false (by first | exact congrArg D.bool k216 | rfl) ?_
              refine rb_exit ?_
              refine eb_seq_e ?_
              obtain rfl := Option.some.inj h
              exact eb_nil ⟨rfl, Wk.of (fun i => some i) _ _ _ (by simp -implicitDefEqProofs [kv, km, dd_TD, k17, k177, k216]) (by simp -implicitDefEqProofs [kv, km, dd_TD, k17, k177, k216])⟩
          · rcases e183 with e183 | e183
            · try dsimp only at h ⊢
              refine eb_blk_r ?_
              refine eb_seq_r ?_
              obtain rfl := Option.some.inj h
              refine eb_nil ?_
              simp -implicitDefEqProofs only [vt, vm, ↓atI_fold, forall_const, implies_true, sevalprocAttr, retQ_r, Tryd.results109, dd_TD, k17, k177] <;> first | rfl | (simp [List.map_append, dd_TD]; done)
            · try dsimp only at h ⊢
              refine eb_blk_hit ?_
              refine eb_seq ?_
              refine rb_seq ?_
              refine rb_seq ?_
              refine rb_regionK fun K246 hK246 => ?_
              simp -implicitDefEqProofs only [vt, vm, ↓atI_fold, forall_const, implies_true, sevalprocAttr, dd_TD, k17, k177]
              subst hK246
              refine eb_seq ?_
              rcases ite_or h with ⟨k247, h⟩ | ⟨k247, h⟩
              · refine rb_true (by first | exact congrArg D.bool k247 | rfl) ?_
                refine rb_seq ?_
                refine rb_regionK fun K249 hK249 => ?_
                simp -implicitDefEqProofs only [vt, vm, ↓atI_fold, forall_const, implies_true, sevalprocAttr, dd_TD, k17, k177, k247]
                subst hK249
                refine eb_seq ?_
                refine rb_ret ?_
                refine eb_seq_r ?_
                obtain rfl := Option.some.inj h
                refine eb_nil ?_
                simp -implicitDefEqProofs only [vt, vm, ↓atI_fold, forall_const, implies_true, sevalprocAttr, retQ_r, Tryd.results109, dd_TD, k17, k177, k247] <;> first | rfl | (simp [List.map_append, dd_TD]; done)
              · refine rb_false (by first | exact congrArg D.bool k247 | rfl) ?_
                refine rb_skip ?_
                refine eb_seq ?_
                refine rb_seq ?_
                refine rb_regionK fun K251 hK251 => ?_
                simp -implicitDefEqProofs only [vt, vm, ↓atI_fold, forall_const, implies_true, sevalprocAttr, dd_TD, k17, k177, k247]
                subst hK251
                refine eb_seq ?_
                refine rb_seq ?_
                refine rb_seq ?_
                refine rb_regionK fun K253 hK253 => ?_
                simp -implicitDefEqProofs only [vt, vm, ↓atI_fold, forall_const, implies_true, sevalprocAttr, dd_TD, k17, k177, k247]
                subst hK253
                refine eb_seq ?_
                refine rb_block ?_
                obtain ⟨e255, h276, h⟩ := bind_some h
                refine rb_loop (fun x254 => ⟨envL [(1, .int .i64 lo_1), (2, .int .i64 hi_2), (8, .str s_0), (9, .bool v9), (11, .int .u64 x254.1), (12, .int .i64 x254.2)], heapL [], 0, 94⟩) (fun _ => .exit 2) (fun e255 => ⟨envL [(1, .int .i64 lo_1), (2, .int .i64 hi_2), (9, .bool v9), (11, .int .u64 e255)], heapL [], 0, 94⟩) h276 (Wk.of (fun i => some i) _ _ _ (by simp -implicitDefEqProofs [kv, km, dd_TD, k17, k177, k247]) (by simp -implicitDefEqProofs [kv, km, dd_TD, k17, k177, k247])) (by intro w; simp) ?_ ?_
                · clear h
                  intro x254 y h
                  unfold g_ref07_Number_s4 at h
                  refine rb_seq ?_
                  refine rb_seq ?_
                  refine rb_regionK fun K267 hK267 => ?_
                  simp -implicitDefEqProofs only [vt, vm, ↓atI_fold, forall_const, implies_true, sevalprocAttr, dd_TD, k17, k177, k247]
                  subst hK267
                  refine eb_seq ?_
                  rcases ite_or h with ⟨k268, h⟩ | ⟨k268, h⟩
                  · refine rb_true (by first | exact congrArg D.bool k268 | rfl) ?_
                    refine rb_skip ?_
                    refine eb_seq ?_
                    refine rb_seq ?_
                    refine rb_block ?_
                    refine rb_regionK fun K272 hK272 => ?_
                    simp -implicitDefEqProofs only [vt, vm, ↓atI_fold, forall_const, implies_true, sevalprocAttr, dd_TD, k17, k177, k247, k268]
                    obtain ⟨b273, h274, h⟩ := bind_some h
                    simp -implicitDefEqProofs only [vt, vm, ↓atI_fold, forall_const, implies_true, sevalprocAttr, dd_TD, k17, k177, k247, k268, h274]
                    subst hK272
                    refine eb_blk_n ?_
                    refine eb_seq ?_
                    refine rb_regionK fun K275 hK275 => ?_
                    simp -implicitDefEqProofs only [vt, vm, ↓atI_fold, forall_const, implies_true, sevalprocAttr, dd_TD, k17, k177, k247, k268, h274]
                    subst hK275
                    obtain rfl := Option.some.inj h
                    exact eb_nil ⟨rfl, Wk.of (fun i => some i) _ _ _ (by simp -implicitDefEqProofs [kv, km, dd_TD, k17, k177, k247, k268]) (by simp -implicitDefEqProofs [kv, km, dd_TD, k17, k177, k247, k268])⟩
                  · refine rb_false (by first | exact congrArg D.bool k268 | rfl) ?_
                    refine rb_exit ?_
                    refine eb_seq_e ?_
                    obtain rfl := Option.some.inj h
                    exact eb_nil ⟨rfl, Wk.of (fun i => some i) _ _ _ (by simp -implicitDefEqProofs [kv, km, dd_TD, k17, k177, k247, k268]) (by simp -implicitDefEqProofs [kv, km, dd_TD, k17, k177, k247, k268])⟩
                · refine eb_blk_hit ?_
                  refine eb_seq ?_
                  refine rb_seq ?_
                  obtain ⟨v279, h282, h⟩ := bind_some h
                  refine rb_cut (fun v279 => ⟨envL [(1, .int .i64 lo_1), (2, .int .i64 hi_2), (9, .bool v9), (11, .int .u64 e255), (79, .bool v279)], heapL [], 0, 94⟩) h282 ?_ ?_
                  · clear h
                    intro v279 h
                    refine rb_regionK fun K280 hK280 => ?_
                    simp -implicitDefEqProofs only [vt, vm, ↓atI_fold, forall_const, implies_true, sevalprocAttr, dd_TD, k17, k177, k247]
                    rcases ite_or h with ⟨k281, h⟩ | ⟨k281, h⟩
                    · simp -implicitDefEqProofs only [vt, vm, ↓atI_fold, forall_const, implies_true, sevalprocAttr, dd_TD, k17, k177, k247, k281]
                      subst hK280
                      obtain rfl := Option.some.inj h
                      exact eb_nil ⟨rfl, Wk.of (fun i => some i) _ _ _ (by simp -implicitDefEqProofs [kv, km, dd_TD, k17, k177, k247, k281]) (by simp -implicitDefEqProofs [kv, km, dd_TD, k17, k177, k247, k281])⟩
                    · simp -implicitDefEqProofs only [vt, vm, ↓atI_fold, forall_const, implies_true, sevalprocAttr, dd_TD, k17, k177, k247, k281]
                      subst hK280
                      obtain rfl := Option.some.inj h
                      exact eb_nil ⟨rfl, Wk.of (fun i => some i) _ _ _ (by simp -implicitDefEqProofs [kv, km, dd_TD, k17, k177, k247, k281]) (by simp -implicitDefEqProofs [kv, km, dd_TD, k17, k177, k247, k281])⟩
                  · rcases ite_or h with ⟨k283, h⟩ | ⟨k283, h⟩
                    · refine rb_true (by first | exact congrArg D.bool k283 | rfl) ?_
                      refine rb_seq ?_
                      refine rb_regionK fun K285 hK285 => ?_
                      simp -implicitDefEqProofs only [vt, vm, ↓atI_fold, forall_const, implies_true, sevalprocAttr, dd_TD, k17, k177, k247, k283]
                      subst hK285
                      refine eb_seq ?_
                      refine rb_ret ?_
                      refine eb_seq_r ?_
                      obtain rfl := Option.some.inj h
                      refine eb_nil ?_
                      simp -implicitDefEqProofs only [vt, vm, ↓atI_fold, forall_const, implies_true, sevalprocAttr, retQ_r, Tryd.results109, dd_TD, k17, k177, k247, k283] <;> first | rfl | (simp [List.map_append, dd_TD]; done)
                    · refine rb_false (by first | exact congrArg D.bool k283 | rfl) ?_
                      refine rb_skip ?_
                      refine eb_seq ?_
                      refine rb_seq ?_
                      refine rb_regionK fun K287 hK287 => ?_
                      simp -implicitDefEqProofs only [vt, vm, ↓atI_fold, forall_const, implies_true, sevalprocAttr, dd_TD, k17, k177, k247, k283]
                      subst hK287
                      refine eb_seq ?_
                      refine rb_seq ?_
                      refine rb_seq ?_
                      refine rb_regionK fun K289 hK289 => ?_
                      simp -implicitDefEqProofs only [vt, vm, ↓atI_fold, forall_const, implies_true, sevalprocAttr, dd_TD, k17, k177, k247, k283]
                      subst hK289
                      refine eb_seq ?_
                      refine rb_false (by first | exact congrArg D.bool k17 | rfl) ?_
                      refine rb_skip ?_
                      refine eb_seq ?_
                      refine rb_seq ?_
                      refine rb_seq ?_
                      refine rb_regionK fun K292 hK292 => ?_
                      simp -implicitDefEqProofs only [vt, vm, ↓atI_fold, forall_const, implies_true, sevalprocAttr, dd_TD, k17, k177, k247, k283]
                      rcases ite_or h with ⟨k293, h⟩ | ⟨k293, h⟩
                      · simp -implicitDefEqProofs only [vt, vm, ↓atI_fold, forall_const, implies_true, sevalprocAttr, dd_TD, k17, k177, k247, k283, k293]
                        subst hK292
                        refine eb_seq ?_
                        refine rb_true (rfl) ?_
                        refine rb_seq ?_
                        refine rb_regionK fun K295 hK295 => ?_
                        simp -implicitDefEqProofs only [vt, vm, ↓atI_fold, forall_const, implies_true, sevalprocAttr, dd_TD, k17, k177, k247, k283, k293]
                        subst hK295
                        refine eb_seq ?_
                        refine rb_ret ?_
                        refine eb_seq_r ?_
                        obtain rfl := Option.some.inj h
                        refine eb_nil ?_
                        simp -implicitDefEqProofs only [vt, vm, ↓atI_fold, forall_const, implies_true, sevalprocAttr, retQ_r, Tryd.results109, dd_TD, k17, k177, k247, k283, k293] <;> first | rfl | (simp [List.map_append, dd_TD]; done)
                      · simp -implicitDefEqProofs only [vt, vm, ↓atI_fold, forall_const, implies_true, sevalprocAttr, dd_TD, k17, k177, k247, k283, k293]
                        subst hK292
                        refine eb_seq ?_
                        rcases ite_or h with ⟨k296, h⟩ | ⟨k296, h⟩
                        · refine rb_true (by first | exact congrArg D.bool k296 | rfl) ?_
                          refine rb_seq ?_
                          refine rb_regionK fun K298 hK298 => ?_
                          simp -implicitDefEqProofs only [vt, vm, ↓atI_fold, forall_const, implies_true, sevalprocAttr, dd_TD, k17, k177, k247, k283, k293, k296]
                          subst hK298
                          refine eb_seq ?_
                          refine rb_ret ?_
                          refine eb_seq_r ?_
                          obtain rfl := Option.some.inj h
                          refine eb_nil ?_
                          simp -implicitDefEqProofs only [vt, vm, ↓atI_fold, forall_const, implies_true, sevalprocAttr, retQ_r, Tryd.results109, dd_TD, k17, k177, k247, k283, k293, k296] <;> first | rfl | (simp [List.map_append, dd_TD]; done)
                        · refine rb_false (by first | exact congrArg D.bool k296 | rfl) ?_
                          refine rb_skip ?_
                          refine eb_seq ?_
                          refine rb_seq ?_
                          refine rb_regionK fun K300 hK300 => ?_
                          simp -implicitDefEqProofs only [vt, vm, ↓atI_fold, forall_const, implies_true, sevalprocAttr, dd_TD, k17, k177, k247, k283, k293, k296]
                          subst hK300
                          refine eb_seq ?_
                          refine rb_ret ?_
                          obtain rfl := Option.some.inj h
                          refine eb_nil ?_
                          simp -implicitDefEqProofs only [vt, vm, ↓atI_fold, forall_const, implies_true, sevalprocAttr, retQ_r, Tryd.results109, dd_TD, k17, k177, k247, k283, k293, k296] <;> first | rfl | (simp [List.map_append, dd_TD]; done)
-- (*captionerref07.Scanner).Number
def g_ref07_Scanner_Number (s_0 : T_captionerref07_Scanner) (lo_1 : Int) (hi_2 : Int) : Option (Int × T_captionerref07_Scanner) :=
  ((g_ref07_Scanner_take s_0 false).bind fun r7 => (if r7.2.1 then ((g_ref07_Number r7.1.Text lo_1 hi_2).bind fun r16 => (if (r16.2 != 0) then ((g_ref07_Scanner_fail r7.2.2 r16.2 r7.1.Column).bind fun r22 => (some (r16.1, r22))) else (some (r16.1, r7.2.2)))) else (some (0, r7.2.2))))
theorem a_ref07_Scanner_Number (I : World → Prop) (hI : Stab I) {H : Nat → Option Blk} {nid : Nat} {i0 : Nat} {p0 : Option Nat} (s_0 : T_captionerref07_Scanner) (lo_1 : Int) (hi_2 : Int) {r : Int × T_captionerref07_Scanner} (h : g_ref07_Scanner_Number s_0 lo_1 hi_2 = some r) (b0 : H i0 = some (.box p0 [.int .i64 s_0.Line.Number, .sl (s_0.Line.Fields.map T_api_Field.d), .int .i64 s_0.At, .int .i64 s_0.Code, .int .i64 s_0.Col])) : CallOK Tryd.prog I 100 [.ptr i0 0, .int .i64 lo_1, .int .i64 hi_2] H nid (.int .i64 r.1) [(i0, some (.box p0 [.int .i64 r.2.Line.Number, .sl (r.2.Line.Fields.map T_api_Field.d), .int .i64 r.2.At, .int .i64 r.2.Code, .int .i64 r.2.Col]))] := by
  refine CallOK.intro (is := [(i0, p0)]) (css := [[.int .i64 s_0.Line.Number, .sl (s_0.Line.Fields.map T_api_Field.d), .int .i64 s_0.At, .int .i64 s_0.Code, .int .i64 s_0.Col]]) (ds0 := [.ptr 0 0, .int .i64 lo_1, .int .i64 hi_2]) (pl := [(0, none)]) hI Tryd.func100 rfl (by decide) (by simp [Tryd.f100]) (by kernel_rfl) rfl rfl rfl rfl (lentAll_of ⟨⟨b0, rfl⟩, trivial⟩) (by simp) ?_
  unfold g_ref07_Scanner_Number at h
  simp only [lentH, List.length_cons, List.length_nil, Nat.zero_add, Nat.reduceAdd, Tryd.ntmps100, dd_TD]
  refine rb_seq ?_
  refine rb_regionK fun K2 hK2 => ?_
  simp -implicitDefEqProofs only [vt, vm, ↓atI_fold, forall_const, implies_true, sevalprocAttr, dd_TD]
  subst hK2
  refine eb_seq ?_
  refine rb_seq ?_
  refine rb_regionK fun K6 hK6 => ?_
  simp -implicitDefEqProofs only [vt, vm, ↓atI_fold, forall_const, implies_true, sevalprocAttr, dd_TD]
  obtain ⟨r7, h8, h⟩ := bind_some h
  refine eW.intro (a_ref07_Scanner_take I hI (nid := 3) (i0 := 0) (p0 := (some 0)) s_0 false h8 (by first | rfl | (simp -implicitDefEqProofs only [vt, vm, ↓atI_fold, forall_const, implies_true, sevalprocAttr, dd_TD]; done) | (simp -implicitDefEqProofs only [vt, vm, ↓atI_fold, forall_const, implies_true, sevalprocAttr, dd_TD]; rfl))) (by first | rfl | (simp [List.map_append, dd_TD]; done)) rfl ?_
  simp -implicitDefEqProofs only [vt, vm, ↓atI_fold, forall_const, implies_true, sevalprocAttr, dd_TD]
  subst hK6
  refine eb_seq ?_
  refine rb_seq ?_
  refine rb_seq ?_
  refine rb_regionK fun K10 hK10 => ?_
  simp -implicitDefEqProofs only [vt, vm, ↓atI_fold, forall_const, implies_true, sevalprocAttr, dd_TD]
  subst hK10
  refine eb_seq ?_
  rcases ite_or h with ⟨k11, h⟩ | ⟨k11, h⟩
  · refine rb_false (by first | exact congrArg D.bool (congrArg Bool.not k11) | rfl) ?_
    refine rb_skip ?_
    refine eb_seq ?_
    refine rb_seq ?_
    refine rb_regionK fun K15 hK15 => ?_
    simp -implicitDefEqProofs only [vt, vm, ↓atI_fold, forall_const, implies_true, sevalprocAttr, dd_TD, k11]
    obtain ⟨r16, h17, h⟩ := bind_some h
    refine cW.intro (a_ref07_Number I hI r7.1.Text lo_1 hi_2 h17) (by first | rfl | (simp [List.map_append, dd_TD]; done)) ?_
    simp -implicitDefEqProofs only [vt, vm, ↓atI_fold, forall_const, implies_true, sevalprocAttr, dd_TD, k11]
    subst hK15
    refine eb_seq ?_
    refine rb_seq ?_
    refine rb_seq ?_
    refine rb_regionK fun K19 hK19 => ?_
    simp -implicitDefEqProofs only [vt, vm, ↓atI_fold, forall_const, implies_true, sevalprocAttr, dd_TD, k11]
    subst hK19
    refine eb_seq ?_
    rcases ite_or h with ⟨k20, h⟩ | ⟨k20, h⟩
    · refine rb_true (by first | exact congrArg D.bool k20 | rfl) ?_
      refine rb_regionK fun K21 hK21 => ?_
      simp -implicitDefEqProofs only [vt, vm, ↓atI_fold, forall_const, implies_true, sevalprocAttr, dd_TD, k11, k20]
      obtain ⟨r22, h23, h⟩ := bind_some h
      refine eW.intro (a_ref07_Scanner_fail I hI (nid := 28) (i0 := 0) (p0 := (some 0)) r7.2.2 r16.2 r7.1.Column h23 (by first | rfl | (simp -implicitDefEqProofs only [vt, vm, ↓atI_fold, forall_const, implies_true, sevalprocAttr, dd_TD, k11, k20]; done) | (simp -implicitDefEqProofs only [vt, vm, ↓atI_fold, forall_const, implies_true, sevalprocAttr, dd_TD, k11, k20]; rfl))) (by first | rfl | (simp [List.map_append, dd_TD]; done)) rfl ?_
      simp -implicitDefEqProofs only [vt, vm, ↓atI_fold, forall_const, implies_true, sevalprocAttr, dd_TD, k11, k20]
      subst hK21
      refine eb_seq ?_
      refine rb_seq ?_
      refine rb_regionK fun K25 hK25 => ?_
      simp -implicitDefEqProofs only [vt, vm, ↓atI_fold, forall_const, implies_true, sevalprocAttr, dd_TD, k11, k20]
      subst hK25
      refine eb_seq ?_
      refine rb_ret ?_
      obtain rfl := Option.some.inj h
      refine eb_nil ?_
      simp -implicitDefEqProofs only [vt, vm, ↓atI_fold, forall_const, implies_true, sevalprocAttr, vp, retP_r, Tryd.results100, dd_TD, k11, k20] <;> first | exact ⟨rfl, rfl⟩ | (refine ⟨?_, ?_⟩ <;> first | rfl | (simp [List.map_append, dd_TD]; done))
    · refine rb_false (by first | exact congrArg D.bool k20 | rfl) ?_
      refine rb_skip ?_
      refine eb_seq ?_
      refine rb_seq ?_
      refine rb_regionK fun K27 hK27 => ?_
      simp -implicitDefEqProofs only [vt, vm, ↓atI_fold, forall_const, implies_true, sevalprocAttr, dd_TD, k11, k20]
      subst hK27
      refine eb_seq ?_
      refine rb_ret ?_
      obtain rfl := Option.some.inj h
      refine eb_nil ?_
      simp -implicitDefEqProofs only [vt, vm, ↓atI_fold, forall_const, implies_true, sevalprocAttr, vp, retP_r, Tryd.results100, dd_TD, k11, k20] <;> first | exact ⟨rfl, rfl⟩ | (refine ⟨?_, ?_⟩ <;> first | rfl | (simp [List.map_append, dd_TD]; done))
  · refine rb_true (by first | exact congrArg D.bool (congrArg Bool.not k11) | rfl) ?_
    refine rb_seq ?_
    refine rb_regionK fun K29 hK29 => ?_
    simp -implicitDefEqProofs only [vt, vm, ↓atI_fold, forall_const, implies_true, sevalprocAttr, dd_TD, k11]
    subst hK29
    refine eb_seq ?_
    refine rb_ret ?_
    refine eb_seq_r ?_
    obtain rfl := Option.some.inj h
    refine eb_nil ?_
    simp -implicitDefEqProofs only [vt, vm, ↓atI_fold, forall_const, implies_true, sevalprocAttr, vp, retP_r, Tryd.results100, dd_TD, k11] <;> first | exact ⟨rfl, rfl⟩ | (refine ⟨?_, ?_⟩ <;> first | rfl | (simp [List.map_append, dd_TD]; done))
-- (*captionerref07.Scanner).Choice
def g_ref07_Scanner_Choice_s1 (words_1 : List (List UInt8)) (r7 : T_api_Field × Bool × T_captionerref07_Scanner) (x14 : Int) : Option (Nx (Int) (Int ⊕ Unit)) :=
  (if (decide (x14 < (words_1.length : Int))) then ((atI words_1 x14).bind fun y89 => (if (y89 == r7.1.Text) then (some (.out (.inl x14))) else (some (.go (IntKind.i64.wrap (x14 + 1)))))) else (some (.out (.inr ()))))
def g_ref07_Scanner_Choice (s_0 : T_captionerref07_Scanner) (words_1 : List (List UInt8)) : Option (Int × T_captionerref07_Scanner) :=
  ((g_ref07_Scanner_take s_0 false).bind fun r7 => (if r7.2.1 then ((iter (g_ref07_Scanner_Choice_s1 words_1 r7) 0).bind fun e15 => (match e15 with | Sum.inl e15 => (some (e15, r7.2.2)) | Sum.inr (e15) => ((g_ref07_Scanner_fail r7.2.2 4 r7.1.Column).bind fun r102 => (some (-1, r102))))) else (some (-1, r7.2.2))))
theorem a_ref07_Scanner_Choice (I : World → Prop) (hI : Stab I) {H : Nat → Option Blk} {nid : Nat} {i0 : Nat} {p0 : Option Nat} (s_0 : T_captionerref07_Scanner) (words_1 : List (List UInt8)) {r : Int × T_captionerref07_Scanner} (h : g_ref07_Scanner_Choice s_0 words_1 = some r) (b0 : H i0 = some (.box p0 [.int .i64 s_0.Line.Number, .sl (s_0.Line.Fields.map T_api_Field.d), .int .i64 s_0.At, .int .i64 s_0.Code, .int .i64 s_0.Col])) : CallOK Tryd.prog I 101 [.ptr i0 0, .sl (words_1.map D.str)] H nid (.int .i64 r.1) [(i0, some (.box p0 [.int .i64 r.2.Line.Number, .sl (r.2.Line.Fields.map T_api_Field.d), .int .i64 r.2.At, .int .i64 r.2.Code, .int .i64 r.2.Col]))] := by
  refine CallOK.intro (is := [(i0, p0)]) (css := [[.int .i64 s_0.Line.Number, .sl (s_0.Line.Fields.map T_api_Field.d), .int .i64 s_0.At, .int .i64 s_0.Code, .int .i64 s_0.Col]]) (ds0 := [.ptr 0 0, .sl (words_1.map D.str)]) (pl := [(0, none)]) hI Tryd.func101 rfl (by decide) (by simp [Tryd.f101]) (by kernel_rfl) rfl rfl rfl rfl (lentAll_of ⟨⟨b0, rfl⟩, trivial⟩) (by simp) ?_
  unfold g_ref07_Scanner_Choice at h
  simp only [lentH, List.length_cons, List.length_nil, Nat.zero_add, Nat.reduceAdd, Tryd.ntmps101, dd_TD]
  refine rb_seq ?_
  refine rb_regionK fun K2 hK2 => ?_
  simp -implicitDefEqProofs only [vt, vm, ↓atI_fold, forall_const, implies_true, sevalprocAttr, dd_TD]
  subst hK2
  refine eb_seq ?_
  refine rb_seq ?_
  refine rb_regionK fun K6 hK6 => ?_
  simp -implicitDefEqProofs only [vt, vm, ↓atI_fold, forall_const, implies_true, sevalprocAttr, dd_TD]
  obtain ⟨r7, h8, h⟩ := bind_some h
  refine eW.intro (a_ref07_Scanner_take I hI (nid := 3) (i0 := 0) (p0 := (some 0)) s_0 false h8 (by first | rfl | (simp -implicitDefEqProofs only [vt, vm, ↓atI_fold, forall_const, implies_true, sevalprocAttr, dd_TD]; done) | (simp -implicitDefEqProofs only [vt, vm, ↓atI_fold, forall_const, implies_true, sevalprocAttr, dd_TD]; rfl))) (by first | rfl | (simp [List.map_append, dd_TD]; done)) rfl ?_
  simp -implicitDefEqProofs only [vt, vm, ↓atI_fold, forall_const, implies_true, sevalprocAttr, dd_TD]
  subst hK6
  refine eb_seq ?_
  refine rb_seq ?_
  refine rb_seq ?_
  refine rb_regionK fun K10 hK10 => ?_
  simp -implicitDefEqProofs only [vt, vm, ↓atI_fold, forall_const, implies_true, sevalprocAttr, dd_TD]
  subst hK10
  refine eb_seq ?_
  rcases ite_or h with ⟨k11, h⟩ | ⟨k11, h⟩
  · refine rb_false (by first | exact congrArg D.bool (congrArg Bool.not k11) | rfl) ?_
    refine rb_skip ?_
    refine eb_seq ?_
    refine rb_seq ?_
    refine rb_seq ?_
    refine rb_regionK fun K13 hK13 => ?_
    simp -implicitDefEqProofs only [vt, vm, ↓atI_fold, forall_const, implies_true, sevalprocAttr, dd_TD, k11]
    subst hK13
    refine eb_seq ?_
    refine rb_block ?_
    obtain ⟨e15, h97, h⟩ := bind_some h
    refine rb_loop (fun x14 => ⟨envL [(0, .ptr 0 0), (5, .ptr 1 0), (16, .sl (words_1.map D.str)), (17, .int .i64 (words_1.length : Int)), (18, .int .i64 x14)], heapL [(0, .box (some 0) [.int .i64 r7.2.2.Line.Number, .sl (r7.2.2.Line.Fields.map T_api_Field.d), .int .i64 r7.2.2.At, .int .i64 r7.2.2.Code, .int .i64 r7.2.2.Col]), (1, .box none [.str r7.1.Text, .int .i64 r7.1.Column, .bool r7.1.Quoted])], 2, 33⟩) (fun w => match w with | Sum.inl _ => .ret | Sum.inr (_) => .exit 0) (fun w => match w with | Sum.inl e15 => ⟨envL [(0, .ptr 0 0), (4, .int .i64 e15)], heapL [(0, .box (some 0) [.int .i64 r7.2.2.Line.Number, .sl (r7.2.2.Line.Fields.map T_api_Field.d), .int .i64 r7.2.2.At, .int .i64 r7.2.2.Code, .int .i64 r7.2.2.Col])], 1, 33⟩ | Sum.inr (e15) => ⟨envL [(0, .ptr 0 0), (5, .ptr 1 0)], heapL [(0, .box (some 0) [.int .i64 r7.2.2.Line.Number, .sl (r7.2.2.Line.Fields.map T_api_Field.d), .int .i64 r7.2.2.At, .int .i64 r7.2.2.Code, .int .i64 r7.2.2.Col]), (1, .box none [.str r7.1.Text, .int .i64 r7.1.Column, .bool r7.1.Quoted])], 2, 33⟩) h97 (Wk.of (fun i => if i = 1 then some 7 else if i = 0 then some 0 else some i) _ _ _ (by simp -implicitDefEqProofs [kv, km, dd_TD, k11]) (by simp -implicitDefEqProofs [kv, km, dd_TD, k11])) (by intro w; rcases w with w | w <;> simp) ?_ ?_
    · clear h
      intro x14 y h
      unfold g_ref07_Scanner_Choice_s1 at h
      refine rb_seq ?_
      refine rb_regionK fun K71 hK71 => ?_
      simp -implicitDefEqProofs only [vt, vm, ↓atI_fold, forall_const, implies_true, sevalprocAttr, dd_TD, k11]
      subst hK71
      refine eb_seq ?_
      refine rb_seq ?_
      rcases ite_or h with ⟨k73, h⟩ | ⟨k73, h⟩
      · refine rb_true (by first | exact congrArg D.bool k73 | rfl) ?_
        refine rb_skip ?_
        refine eb_seq ?_
        refine rb_seq ?_
        refine rb_block ?_
        refine rb_seq ?_
        refine rb_regionK fun K88 hK88 => ?_
        simp -implicitDefEqProofs only [vt, vm, ↓atI_fold, forall_const, implies_true, sevalprocAttr, dd_TD, k11, k73]
        obtain ⟨y89, h90, h⟩ := bind_some h
        simp -implicitDefEqProofs only [vt, vm, ↓atI_fold, forall_const, implies_true, sevalprocAttr, dd_TD, k11, k73, h90]
        subst hK88
        refine eb_seq ?_
        refine rb_seq ?_
        refine rb_regionK fun K92 hK92 => ?_
        simp -implicitDefEqProofs only [vt, vm, ↓atI_fold, forall_const, implies_true, sevalprocAttr, dd_TD, k11, k73, h90]
        subst hK92
        refine eb_seq ?_
        rcases ite_or h with ⟨k93, h⟩ | ⟨k93, h⟩
        · refine rb_true (by first | exact congrArg D.bool k93 | rfl) ?_
          refine rb_seq ?_
          refine rb_regionK fun K95 hK95 => ?_
          simp -implicitDefEqProofs only [vt, vm, ↓atI_fold, forall_const, implies_true, sevalprocAttr, dd_TD, k11, k73, h90, k93]
          subst hK95
          refine eb_seq ?_
          refine rb_ret ?_
          refine eb_blk_r ?_
          refine eb_seq_r ?_
          obtain rfl := Option.some.inj h
          exact eb_nil ⟨rfl, Wk.of (fun i => if i = 0 then some 0 else some i) _ _ _ (by simp -implicitDefEqProofs [kv, km, dd_TD, k11, k73, k93]) (by simp -implicitDefEqProofs [kv, km, dd_TD, k11, k73, k93])⟩
        · refine rb_false (by first | exact congrArg D.bool k93 | rfl) ?_
          refine rb_skip ?_
          refine eb_blk_n ?_
          refine eb_seq ?_
          refine rb_regionK fun K96 hK96 => ?_
          simp -implicitDefEqProofs only [vt, vm, ↓atI_fold, forall_const, implies_true, sevalprocAttr, dd_TD, k11, k73, h90, k93]
          subst hK96
          obtain rfl := Option.some.inj h
          exact eb_nil ⟨rfl, Wk.of (fun i => if i = 1 then some 1 else if i = 0 then some 0 else some i) _ _ _ (by simp -implicitDefEqProofs [kv, km, dd_TD, k11, k73, k93]) (by simp -implicitDefEqProofs [kv, km, dd_TD, k11, k73, k93])⟩
      · refine rb_false (by first | exact congrArg D.bool k73 | rfl) ?_
        refine rb_exit ?_
        refine eb_seq_e ?_
        obtain rfl := Option.some.inj h
        exact eb_nil ⟨rfl, Wk.of (fun i => if i = 1 then some 1 else if i = 0 then some 0 else some i) _ _ _ (by simp -implicitDefEqProofs [kv, km, dd_TD, k11, k73]) (by simp -implicitDefEqProofs [kv, km, dd_TD, k11, k73])⟩
    · rcases e15 with e15 | e15
      · try dsimp only at h ⊢
        refine eb_blk_r ?_
        refine eb_seq_r ?_
        obtain rfl := Option.some.inj h
        refine eb_nil ?_
        simp -implicitDefEqProofs only [vt, vm, ↓atI_fold, forall_const, implies_true, sevalprocAttr, vp, retP_r, Tryd.results101, dd_TD, k11] <;> first | exact ⟨rfl, rfl⟩ | (refine ⟨?_, ?_⟩ <;> first | rfl | (simp [List.map_append, dd_TD]; done))
      · try dsimp only at h ⊢
        refine eb_blk_hit ?_
        refine eb_seq ?_
        refine rb_seq ?_
        refine rb_regionK fun K101 hK101 => ?_
        simp -implicitDefEqProofs only [vt, vm, ↓atI_fold, forall_const, implies_true, sevalprocAttr, dd_TD, k11]
        obtain ⟨r102, h103, h⟩ := bind_some h
        refine eW.intro (a_ref07_Scanner_fail I hI (nid := 5) (i0 := 0) (p0 := (some 0)) r7.2.2 4 r7.1.Column h103 (by first | rfl | (simp -implicitDefEqProofs only [vt, vm, ↓atI_fold, forall_const, implies_true, sevalprocAttr, dd_TD, k11]; done) | (simp -implicitDefEqProofs only [vt, vm, ↓atI_fold, forall_const, implies_true, sevalprocAttr, dd_TD, k11]; rfl))) (by first | rfl | (simp [List.map_append, dd_TD]; done)) rfl ?_
        simp -implicitDefEqProofs only [vt, vm, ↓atI_fold, forall_const, implies_true, sevalprocAttr, dd_TD, k11]
        subst hK101
        refine eb_seq ?_
        refine rb_seq ?_
        refine rb_regionK fun K105 hK105 => ?_
        simp -implicitDefEqProofs only [vt, vm, ↓atI_fold, forall_const, implies_true, sevalprocAttr, dd_TD, k11]
        subst hK105
        refine eb_seq ?_
        refine rb_ret ?_
        obtain rfl := Option.some.inj h
        refine eb_nil ?_
        simp -implicitDefEqProofs only [vt, vm, ↓atI_fold, forall_const, implies_true, sevalprocAttr, vp, retP_r, Tryd.results101, dd_TD, k11] <;> first | exact ⟨rfl, rfl⟩ | (refine ⟨?_, ?_⟩ <;> first | rfl | (simp [List.map_append, dd_TD]; done))
  · refine rb_true (by first | exact congrArg D.bool (congrArg Bool.not k11) | rfl) ?_
    refine rb_seq ?_
    refine rb_regionK fun K107 hK107 => ?_
    simp -implicitDefEqProofs only [vt, vm, ↓atI_fold, forall_const, implies_true, sevalprocAttr, dd_TD, k11]
    subst hK107
    refine eb_seq ?_
    refine rb_ret ?_
    refine eb_seq_r ?_
    obtain rfl := Option.some.inj h
    refine eb_nil ?_
    simp -implicitDefEqProofs only [vt, vm, ↓atI_fold, forall_const, implies_true, sevalprocAttr, vp, retP_r, Tryd.results101, dd_TD, k11] <;> first | exact ⟨rfl, rfl⟩ | (refine ⟨?_, ?_⟩ <;> first | rfl | (simp [List.map_append, dd_TD]; done))
-- captionerref10.Take
def g_ref10_Take (s_0 : T_captionerref07_Scanner) : Option (T_api_Region × T_captionerref07_Scanner) :=
  ((g_ref07_Scanner_Name s_0 false).bind fun r7 => ((g_ref07_Scanner_Number r7.2 0 31).bind fun r15 => ((g_ref07_Scanner_Number r15.2 1 32).bind fun r17 => ((g_ref07_Scanner_Number r17.2 0 31).bind fun r25 => ((g_ref07_Scanner_Number r25.2 1 32).bind fun r27 => ((g_ref10_Aligns).bind fun r35 => ((g_ref07_Scanner_Choice r27.2 r35).bind fun r37 => ((g_ref07_Scanner_Choice r37.2 [[84, 79, 80], [66, 79, 84, 84, 79, 77]]).bind fun r43 => (some ((T_api_Region.mk r7.1 r15.1 r17.1 r25.1 r27.1 (IntKind.u8.wrap (IntKind.i64.wrap (r37.1 + 1))) (r43.1 == 1)), r43.2))))))))))
theorem a_ref10_Take (I : World → Prop) (hI : Stab I) {H : Nat → Option Blk} {nid : Nat} {i0 : Nat} {p0 : Option Nat} (s_0 : T_captionerref07_Scanner) {r : T_api_Region × T_captionerref07_Scanner} (h : g_ref10_Take s_0 = some r) (b0 : H i0 = some (.box p0 [.int .i64 s_0.Line.Number, .sl (s_0.Line.Fields.map T_api_Field.d), .int .i64 s_0.At, .int .i64 s_0.Code, .int .i64 s_0.Col])) : CallOK Tryd.prog I 63 [.ptr i0 0] H nid (T_api_Region.d r.1) [(i0, some (.box p0 [.int .i64 r.2.Line.Number, .sl (r.2.Line.Fields.map T_api_Field.d), .int .i64 r.2.At, .int .i64 r.2.Code, .int .i64 r.2.Col]))] := by
  refine CallOK.intro (is := [(i0, p0)]) (css := [[.int .i64 s_0.Line.Number, .sl (s_0.Line.Fields.map T_api_Field.d), .int .i64 s_0.At, .int .i64 s_0.Code, .int .i64 s_0.Col]]) (ds0 := [.ptr 0 0]) (pl := [(0, none)]) hI Tryd.func63 rfl (by decide) (by simp [Tryd.f63]) (by kernel_rfl) rfl rfl rfl rfl (lentAll_of ⟨⟨b0, rfl⟩, trivial⟩) (by simp) ?_
  unfold g_ref10_Take at h
  simp only [lentH, List.length_cons, List.length_nil, Nat.zero_add, Nat.reduceAdd, Tryd.ntmps63, dd_TD]
  refine rb_seq ?_
  refine rb_regionK fun K2 hK2 => ?_
  simp -implicitDefEqProofs only [vt, vm, ↓atI_fold, forall_const, implies_true, sevalprocAttr, dd_TD]
  subst hK2
  refine eb_seq ?_
  refine rb_seq ?_
  refine rb_regionK fun K6 hK6 => ?_
  simp -implicitDefEqProofs only [vt, vm, ↓atI_fold, forall_const, implies_true, sevalprocAttr, dd_TD]
  obtain ⟨r7, h8, h⟩ := bind_some h
  refine eW.intro (a_ref07_Scanner_Name I hI (nid := 3) (i0 := 0) (p0 := (some 0)) s_0 false h8 (by first | rfl | (simp -implicitDefEqProofs only [vt, vm, ↓atI_fold, forall_const, implies_true, sevalprocAttr, dd_TD]; done) | (simp -implicitDefEqProofs only [vt, vm, ↓atI_fold, forall_const, implies_true, sevalprocAttr, dd_TD]; rfl))) (by first | rfl | (simp [List.map_append, dd_TD]; done)) rfl ?_
  simp -implicitDefEqProofs only [vt, vm, ↓atI_fold, forall_const, implies_true, sevalprocAttr, dd_TD]
  subst hK6
  refine eb_seq ?_
  refine rb_seq ?_
  refine rb_regionK fun K14 hK14 => ?_
  simp -implicitDefEqProofs only [vt, vm, ↓atI_fold, forall_const, implies_true, sevalprocAttr, dd_TD]
  obtain ⟨r15, h16, h⟩ := bind_some h
  refine eW.intro (a_ref07_Scanner_Number I hI (nid := 8) (i0 := 0) (p0 := (some 0)) r7.2 0 31 h16 (by first | rfl | (simp -implicitDefEqProofs only [vt, vm, ↓atI_fold, forall_const, implies_true, sevalprocAttr, dd_TD]; done) | (simp -implicitDefEqProofs only [vt, vm, ↓atI_fold, forall_const, implies_true, sevalprocAttr, dd_TD]; rfl))) (by first | rfl | (simp [List.map_append, dd_TD]; done)) rfl ?_
  simp -implicitDefEqProofs only [vt, vm, ↓atI_fold, forall_const, implies_true, sevalprocAttr, dd_TD]
  obtain ⟨r17, h18, h⟩ := bind_some h
  refine eW.intro (a_ref07_Scanner_Number I hI (nid := 10) (i0 := 0) (p0 := (some 0)) r15.2 1 32 h18 (by first | rfl | (simp -implicitDefEqProofs only [vt, vm, ↓atI_fold, forall_const, implies_true, sevalprocAttr, dd_TD]; done) | (simp -implicitDefEqProofs only [vt, vm, ↓atI_fold, forall_const, implies_true, sevalprocAttr, dd_TD]; rfl))) (by first | rfl | (simp [List.map_append, dd_TD]; done)) rfl ?_
  simp -implicitDefEqProofs only [vt, vm, ↓atI_fold, forall_const, implies_true, sevalprocAttr, dd_TD]
  subst hK14
  refine eb_seq ?_
  refine rb_seq ?_
  refine rb_regionK fun K24 hK24 => ?_
  simp -implicitDefEqProofs only [vt, vm, ↓atI_fold, forall_const, implies_true, sevalprocAttr, dd_TD]
  obtain ⟨r25, h26, h⟩ := bind_some h
  refine eW.intro (a_ref07_Scanner_Number I hI (nid := 16) (i0 := 0) (p0 := (some 0)) r17.2 0 31 h26 (by first | rfl | (simp -implicitDefEqProofs only [vt, vm, ↓atI_fold, forall_const, implies_true, sevalprocAttr, dd_TD]; done) | (simp -implicitDefEqProofs only [vt, vm, ↓atI_fold, forall_const, implies_true, sevalprocAttr, dd_TD]; rfl))) (by first | rfl | (simp [List.map_append, dd_TD]; done)) rfl ?_
  simp -implicitDefEqProofs only [vt, vm, ↓atI_fold, forall_const, implies_true, sevalprocAttr, dd_TD]
  obtain ⟨r27, h28, h⟩ := bind_some h
  refine eW.intro (a_ref07_Scanner_Number I hI (nid := 18) (i0 := 0) (p0 := (some 0)) r25.2 1 32 h28 (by first | rfl | (simp -implicitDefEqProofs only [vt, vm, ↓atI_fold, forall_const, implies_true, sevalprocAttr, dd_TD]; done) | (simp -implicitDefEqProofs only [vt, vm, ↓atI_fold, forall_const, implies_true, sevalprocAttr, dd_TD]; rfl))) (by first | rfl | (simp [List.map_append, dd_TD]; done)) rfl ?_
  simp -implicitDefEqProofs only [vt, vm, ↓atI_fold, forall_const, implies_true, sevalprocAttr, dd_TD]
  subst hK24
  refine eb_seq ?_
  refine rb_seq ?_
  refine rb_regionK fun K34 hK34 => ?_
  simp -implicitDefEqProofs only [vt, vm, ↓atI_fold, forall_const, implies_true, sevalprocAttr, dd_TD]
  obtain ⟨r35, h36, h⟩ := bind_some h
  refine cW.intro (a_ref10_Aligns I hI h36) (by first | rfl | (simp [List.map_append, dd_TD]; done)) ?_
  simp -implicitDefEqProofs only [vt, vm, ↓atI_fold, forall_const, implies_true, sevalprocAttr, dd_TD]
  obtain ⟨r37, h38, h⟩ := bind_some h
  refine eW.intro (a_ref07_Scanner_Choice I hI (nid := 25) (i0 := 0) (p0 := (some 0)) r27.2 r35 h38 (by first | rfl | (simp -implicitDefEqProofs only [vt, vm, ↓atI_fold, forall_const, implies_true, sevalprocAttr, dd_TD]; done) | (simp -implicitDefEqProofs only [vt, vm, ↓atI_fold, forall_const, implies_true, sevalprocAttr, dd_TD]; rfl))) (by first | rfl | (simp [List.map_append, dd_TD]; done)) rfl ?_
  simp -implicitDefEqProofs only [vt, vm, ↓atI_fold, forall_const, implies_true, sevalprocAttr, dd_TD]
  subst hK34
  refine eb_seq ?_
  refine rb_seq ?_
  refine rb_regionK fun K42 hK42 => ?_
  simp -implicitDefEqProofs only [vt, vm, ↓atI_fold, forall_const, implies_true, sevalprocAttr, dd_TD]
  obtain ⟨r43, h44, h⟩ := bind_some h
  refine eW.intro (a_ref07_Scanner_Choice I hI (nid := 32) (i0 := 0) (p0 := (some 0)) r37.2 [[84, 79, 80], [66, 79, 84, 84, 79, 77]] h44 (by first | rfl | (simp -implicitDefEqProofs only [vt, vm, ↓atI_fold, forall_const, implies_true, sevalprocAttr, dd_TD]; done) | (simp -implicitDefEqProofs only [vt, vm, ↓atI_fold, forall_const, implies_true, sevalprocAttr, dd_TD]; rfl))) (by first | rfl | (simp [List.map_append, dd_TD]; done)) rfl ?_
  simp -implicitDefEqProofs only [vt, vm, ↓atI_fold, forall_const, implies_true, sevalprocAttr, dd_TD]
  subst hK42
  refine eb_seq ?_
  refine rb_seq ?_
  refine rb_regionK fun K46 hK46 => ?_
  simp -implicitDefEqProofs only [vt, vm, ↓atI_fold, forall_const, implies_true, sevalprocAttr, dd_TD]
  subst hK46
  refine eb_seq ?_
  refine rb_ret ?_
  obtain rfl := Option.some.inj h
  refine eb_nil ?_
  simp -implicitDefEqProofs only [vt, vm, ↓atI_fold, forall_const, implies_true, sevalprocAttr, vp, retP_r, Tryd.results63, dd_TD] <;> first | exact ⟨rfl, rfl⟩ | (refine ⟨?_, ?_⟩ <;> first | rfl | (simp [List.map_append, dd_TD]; done))
-- (*captionerref07.Scanner).End
def g_ref07_Scanner_End (s_0 : T_captionerref07_Scanner) : Option (T_api_Diag × Bool × T_captionerref07_Scanner) :=
  (if (s_0.Code != 0) then (some ((T_api_Diag.mk s_0.Line.Number s_0.Col s_0.Code), true, s_0)) else ((g_ref07_Scanner_Left s_0).bind fun r14 => (if (decide (0 < r14.1)) then ((atI r14.2.Line.Fields r14.2.At).bind fun y21 => (some ((T_api_Diag.mk r14.2.Line.Number y21.Column 4), true, r14.2))) else (some ((T_api_Diag.mk 0 0 0), false, r14.2)))))
theorem a_ref07_Scanner_End (I : World → Prop) (hI : Stab I) {H : Nat → Option Blk} {nid : Nat} {i0 : Nat} {p0 : Option Nat} (s_0 : T_captionerref07_Scanner) {r : T_api_Diag × Bool × T_captionerref07_Scanner} (h : g_ref07_Scanner_End s_0 = some r) (b0 : H i0 = some (.box p0 [.int .i64 s_0.Line.Number, .sl (s_0.Line.Fields.map T_api_Field.d), .int .i64 s_0.At, .int .i64 s_0.Code, .int .i64 s_0.Col])) : CallOK Tryd.prog I 64 [.ptr i0 0] H nid (.tup [T_api_Diag.d r.1, .bool r.2.1]) [(i0, some (.box p0 [.int .i64 r.2.2.Line.Number, .sl (r.2.2.Line.Fields.map T_api_Field.d), .int .i64 r.2.2.At, .int .i64 r.2.2.Code, .int .i64 r.2.2.Col]))] := by
  refine CallOK.intro (is := [(i0, p0)]) (css := [[.int .i64 s_0.Line.Number, .sl (s_0.Line.Fields.map T_api_Field.d), .int .i64 s_0.At, .int .i64 s_0.Code, .int .i64 s_0.Col]]) (ds0 := [.ptr 0 0]) (pl := [(0, none)]) hI Tryd.func64 rfl (by decide) (by simp [Tryd.f64]) (by kernel_rfl) rfl rfl rfl rfl (lentAll_of ⟨⟨b0, rfl⟩, trivial⟩) (by simp) ?_
  unfold g_ref07_Scanner_End at h
  simp only [lentH, List.length_cons, List.length_nil, Nat.zero_add, Nat.reduceAdd, Tryd.ntmps64, dd_TD]
  refine rb_seq ?_
  refine rb_regionK fun K2 hK2 => ?_
  simp -implicitDefEqProofs only [vt, vm, ↓atI_fold, forall_const, implies_true, sevalprocAttr, dd_TD]
  subst hK2
  refine eb_seq ?_
  refine rb_seq ?_
  refine rb_seq ?_
  refine rb_regionK fun K4 hK4 => ?_
  simp -implicitDefEqProofs only [vt, vm, ↓atI_fold, forall_const, implies_true, sevalprocAttr, dd_TD]
  subst hK4
  refine eb_seq ?_
  refine rb_false (rfl) ?_
  refine rb_skip ?_
  refine eb_seq ?_
  refine rb_seq ?_
  refine rb_seq ?_
  refine rb_regionK fun K6 hK6 => ?_
  simp -implicitDefEqProofs only [vt, vm, ↓atI_fold, forall_const, implies_true, sevalprocAttr, dd_TD]
  subst hK6
  refine eb_seq ?_
  rcases ite_or h with ⟨k7, h⟩ | ⟨k7, h⟩
  · refine rb_true (by first | exact congrArg D.bool k7 | rfl) ?_
    refine rb_seq ?_
    refine rb_drawK hI (by kernel_rfl) (by kernel_rfl) fun K9 hK9 => ?_
    simp -implicitDefEqProofs only [vt, vm, ↓atI_fold, forall_const, implies_true, sevalprocAttr, dd_TD, k7]
    refine hD.intro (by kernel_rfl) ?_
    simp -implicitDefEqProofs only [vt, vm, ↓atI_fold, forall_const, implies_true, sevalprocAttr, dd_TD, k7]
    subst hK9
    refine eb_seq ?_
    refine rb_ret ?_
    refine eb_seq_r ?_
    obtain rfl := Option.some.inj h
    refine eb_nil ?_
    simp -implicitDefEqProofs only [vt, vm, ↓atI_fold, forall_const, implies_true, sevalprocAttr, vp, retP_r, Tryd.results64, dd_TD, k7] <;> first | exact ⟨rfl, rfl⟩ | (refine ⟨?_, ?_⟩ <;> first | rfl | (simp [List.map_append, dd_TD]; done))
  · refine rb_false (by first | exact congrArg D.bool k7 | rfl) ?_
    refine rb_skip ?_
    refine eb_seq ?_
    refine rb_seq ?_
    refine rb_seq ?_
    refine rb_regionK fun K13 hK13 => ?_
    simp -implicitDefEqProofs only [vt, vm, ↓atI_fold, forall_const, implies_true, sevalprocAttr, dd_TD, k7]
    obtain ⟨r14, h15, h⟩ := bind_some h
    refine eW.intro (a_ref07_Scanner_Left I hI (nid := 11) (i0 := 0) (p0 := (some 0)) s_0 h15 (by first | rfl | (simp -implicitDefEqProofs only [vt, vm, ↓atI_fold, forall_const, implies_true, sevalprocAttr, dd_TD, k7]; done) | (simp -implicitDefEqProofs only [vt, vm, ↓atI_fold, forall_const, implies_true, sevalprocAttr, dd_TD, k7]; rfl))) (by first | rfl | (simp [List.map_append, dd_TD]; done)) rfl ?_
    simp -implicitDefEqProofs only [vt, vm, ↓atI_fold, forall_const, implies_true, sevalprocAttr, dd_TD, k7]
    subst hK13
    refine eb_seq ?_
    rcases ite_or h with ⟨k16, h⟩ | ⟨k16, h⟩
    · refine rb_true (by first | exact congrArg D.bool k16 | rfl) ?_
      refine rb_seq ?_
      refine rb_drawK hI (by kernel_rfl) (by kernel_rfl) fun K20 hK20 => ?_
      simp -implicitDefEqProofs only [vt, vm, ↓atI_fold, forall_const, implies_true, sevalprocAttr, dd_TD, k7, k16]
      obtain ⟨y21, h22, h⟩ := bind_some h
      simp -implicitDefEqProofs only [vt, vm, ↓atI_fold, forall_const, implies_true, sevalprocAttr, dd_TD, k7, k16, h22]
      refine hD.intro (by kernel_rfl) ?_
      simp -implicitDefEqProofs only [vt, vm, ↓atI_fold, forall_const, implies_true, sevalprocAttr, dd_TD, k7, k16, h22]
      subst hK20
      refine eb_seq ?_
      refine rb_ret ?_
      refine eb_seq_r ?_
      obtain rfl := Option.some.inj h
      refine eb_nil ?_
      simp -implicitDefEqProofs only [vt, vm, ↓atI_fold, forall_const, implies_true, sevalprocAttr, vp, retP_r, Tryd.results64, dd_TD, k7, k16, h22] <;> first | exact ⟨rfl, rfl⟩ | (refine ⟨?_, ?_⟩ <;> first | rfl | (simp [List.map_append, dd_TD]; done))
    · refine rb_false (by first | exact congrArg D.bool k16 | rfl) ?_
      refine rb_skip ?_
      refine eb_seq ?_
      refine rb_seq ?_
      refine rb_regionK fun K24 hK24 => ?_
      simp -implicitDefEqProofs only [vt, vm, ↓atI_fold, forall_const, implies_true, sevalprocAttr, dd_TD, k7, k16]
      subst hK24
      refine eb_seq ?_
      refine rb_ret ?_
      obtain rfl := Option.some.inj h
      refine eb_nil ?_
      simp -implicitDefEqProofs only [vt, vm, ↓atI_fold, forall_const, implies_true, sevalprocAttr, vp, retP_r, Tryd.results64, dd_TD, k7, k16] <;> first | exact ⟨rfl, rfl⟩ | (refine ⟨?_, ?_⟩ <;> first | rfl | (simp [List.map_append, dd_TD]; done))
-- captionerref10.Parse
def g_ref10_Parse (s_0 : List UInt8) : Option (T_api_Region × Int) :=
  ((g_ref07_Split s_0).bind fun r7 => (((if (decide (0 < (r7.2.length : Int))) then (some true) else (some ((r7.1.length : Int) != 1))) : Option (Bool)).bind fun v11 => (if v11 then (some ((T_api_Region.mk [] 0 0 0 0 0 false), 4)) else ((atI r7.1 0).bind fun y24 => ((g_ref07_Scan y24).bind fun r26 => ((g_ref10_Take r26).bind fun r32 => ((g_ref07_Scanner_End r32.2).bind fun r38 => (if r38.2.1 then (some ((T_api_Region.mk [] 0 0 0 0 0 false), 4)) else ((g_ref10_Text r32.1).bind fun r49 => (if (r49.2 != 0) then (some ((T_api_Region.mk [] 0 0 0 0 0 false), 4)) else (if (r49.1 == s_0) then (some (r32.1, 0)) else (some ((T_api_Region.mk [] 0 0 0 0 0 false), 4)))))))))))))
theorem a_ref10_Parse (I : World → Prop) (hI : Stab I) (s_0 : List UInt8) {r : T_api_Region × Int} (h : g_ref10_Parse s_0 = some r) : AFun Tryd.prog I 29 [.str s_0] (.tup [T_api_Region.d r.1, .int .i64 r.2]) := by
  refine AFun.enterB hI Tryd.func29 rfl (by decide) (by simp [Tryd.f29]) (by kernel_rfl) ?_
  unfold g_ref10_Parse at h
  simp only [S0, Tryd.ntmps29, dd_TD]
  refine rb_seq ?_
  refine rb_regionK fun K2 hK2 => ?_
  simp -implicitDefEqProofs only [vt, vm, ↓atI_fold, forall_const, implies_true, sevalprocAttr, dd_TD]
  subst hK2
  refine eb_seq ?_
  refine rb_seq ?_
  refine rb_regionK fun K6 hK6 => ?_
  simp -implicitDefEqProofs only [vt, vm, ↓atI_fold, forall_const, implies_true, sevalprocAttr, dd_TD]
  obtain ⟨r7, h8, h⟩ := bind_some h
  refine cW.intro (a_ref07_Split I hI s_0 h8) (by first | rfl | (simp [List.map_append, dd_TD]; done)) ?_
  simp -implicitDefEqProofs only [vt, vm, ↓atI_fold, forall_const, implies_true, sevalprocAttr, dd_TD]
  subst hK6
  refine eb_seq ?_
  refine rb_seq ?_
  obtain ⟨v11, h14, h⟩ := bind_some h
  refine rb_cut (fun v11 => ⟨envL [(0, .str s_0), (2, .ptr 0 0), (4, .sl (r7.1.map T_api_Line.d)), (24, .bool v11)], heapL [(0, .box none [.str [], .int .i64 0, .int .i64 0, .int .i64 0, .int .i64 0, .int .u8 0, .bool false])], 1, 53⟩) h14 ?_ ?_
  · clear h
    intro v11 h
    refine rb_regionK fun K12 hK12 => ?_
    simp -implicitDefEqProofs only [vt, vm, ↓atI_fold, forall_const, implies_true, sevalprocAttr, dd_TD]
    rcases ite_or h with ⟨k13, h⟩ | ⟨k13, h⟩
    · simp -implicitDefEqProofs only [vt, vm, ↓atI_fold, forall_const, implies_true, sevalprocAttr, dd_TD, k13]
      subst hK12
      obtain rfl := Option.some.inj h
      exact eb_nil ⟨rfl, Wk.of (fun i => if i = 0 then some 0 else some i) _ _ _ (by simp -implicitDefEqProofs [kv, km, dd_TD, k13]) (by simp -implicitDefEqProofs [kv, km, dd_TD, k13])⟩
    · simp -implicitDefEqProofs only [vt, vm, ↓atI_fold, forall_const, implies_true, sevalprocAttr, dd_TD, k13]
      subst hK12
      obtain rfl := Option.some.inj h
      exact eb_nil ⟨rfl, Wk.of (fun i => if i = 0 then some 0 else some i) _ _ _ (by simp -implicitDefEqProofs [kv, km, dd_TD, k13]) (by simp -implicitDefEqProofs [kv, km, dd_TD, k13])⟩
  · rcases ite_or h with ⟨k15, h⟩ | ⟨k15, h⟩
    · refine rb_true (by first | exact congrArg D.bool k15 | rfl) ?_
      refine rb_seq ?_
      refine rb_regionK fun K17 hK17 => ?_
      simp -implicitDefEqProofs only [vt, vm, ↓atI_fold, forall_const, implies_true, sevalprocAttr, dd_TD, k15]
      subst hK17
      refine eb_seq ?_
      refine rb_ret ?_
      refine eb_seq_r ?_
      obtain rfl := Option.some.inj h
      refine eb_nil ?_
      simp -implicitDefEqProofs only [vt, vm, ↓atI_fold, forall_const, implies_true, sevalprocAttr, retQ_r, Tryd.results29, dd_TD, k15] <;> first | rfl | (simp [List.map_append, dd_TD]; done)
    · refine rb_false (by first | exact congrArg D.bool k15 | rfl) ?_
      refine rb_skip ?_
      refine eb_seq ?_
      refine rb_seq ?_
      refine rb_regionK fun K23 hK23 => ?_
      simp -implicitDefEqProofs only [vt, vm, ↓atI_fold, forall_const, implies_true, sevalprocAttr, dd_TD, k15]
      obtain ⟨y24, h25, h⟩ := bind_some h
      simp -implicitDefEqProofs only [vt, vm, ↓atI_fold, forall_const, implies_true, sevalprocAttr, dd_TD, k15, h25]
      obtain ⟨r26, h27, h⟩ := bind_some h
      refine cW.introE (a_ref07_Scan I hI (nid := 4) y24 h27) (by first | rfl | (simp -implicitDefEqProofs only [vt, vm, ↓atI_fold, forall_const, implies_true, sevalprocAttr, dd_TD, k15, h25]; done)) rfl ?_
      simp -implicitDefEqProofs only [vt, vm, ↓atI_fold, forall_const, implies_true, sevalprocAttr, dd_TD, k15, h25]
      subst hK23
      refine eb_seq ?_
      refine rb_seq ?_
      refine rb_regionK fun K31 hK31 => ?_
      simp -implicitDefEqProofs only [vt, vm, ↓atI_fold, forall_const, implies_true, sevalprocAttr, dd_TD, k15, h25]
      obtain ⟨r32, h33, h⟩ := bind_some h
      refine eW.intro (a_ref10_Take I hI (nid := 7) (i0 := 4) (p0 := none) r26 h33 (by first | rfl | (simp -implicitDefEqProofs only [vt, vm, ↓atI_fold, forall_const, implies_true, sevalprocAttr, dd_TD, k15, h25]; done) | (simp -implicitDefEqProofs only [vt, vm, ↓atI_fold, forall_const, implies_true, sevalprocAttr, dd_TD, k15, h25]; rfl))) (by first | rfl | (simp [List.map_append, dd_TD]; done)) rfl ?_
      simp -implicitDefEqProofs only [vt, vm, ↓atI_fold, forall_const, implies_true, sevalprocAttr, dd_TD, k15, h25]
      subst hK31
      refine eb_seq ?_
      refine rb_seq ?_
      refine rb_seq ?_
      refine rb_regionK fun K37 hK37 => ?_
      simp -implicitDefEqProofs only [vt, vm, ↓atI_fold, forall_const, implies_true, sevalprocAttr, dd_TD, k15, h25]
      obtain ⟨r38, h39, h⟩ := bind_some h
      refine eW.intro (a_ref07_Scanner_End I hI (nid := 11) (i0 := 4) (p0 := none) r32.2 h39 (by first | rfl | (simp -implicitDefEqProofs only [vt, vm, ↓atI_fold, forall_const, implies_true, sevalprocAttr, dd_TD, k15, h25]; done) | (simp -implicitDefEqProofs only [vt, vm, ↓atI_fold, forall_const, implies_true, sevalprocAttr, dd_TD, k15, h25]; rfl))) (by first | rfl | (simp [List.map_append, dd_TD]; done)) rfl ?_
      simp -implicitDefEqProofs only [vt, vm, ↓atI_fold, forall_const, implies_true, sevalprocAttr, dd_TD, k15, h25]
      subst hK37
      refine eb_seq ?_
      refine rb_seq ?_
      refine rb_regionK fun K41 hK41 => ?_
      simp -implicitDefEqProofs only [vt, vm, ↓atI_fold, forall_const, implies_true, sevalprocAttr, dd_TD, k15, h25]
      subst hK41
      refine eb_seq ?_
      rcases ite_or h with ⟨k42, h⟩ | ⟨k42, h⟩
      · refine rb_true (by first | exact congrArg D.bool k42 | rfl) ?_
        refine rb_seq ?_
        refine rb_regionK fun K44 hK44 => ?_
        simp -implicitDefEqProofs only [vt, vm, ↓atI_fold, forall_const, implies_true, sevalprocAttr, dd_TD, k15, h25, k42]
        subst hK44
        refine eb_seq ?_
        refine rb_ret ?_
        refine eb_seq_r ?_
        obtain rfl := Option.some.inj h
        refine eb_nil ?_
        simp -implicitDefEqProofs only [vt, vm, ↓atI_fold, forall_const, implies_true, sevalprocAttr, retQ_r, Tryd.results29, dd_TD, k15, h25, k42] <;> first | rfl | (simp [List.map_append, dd_TD]; done)
      · refine rb_false (by first | exact congrArg D.bool k42 | rfl) ?_
        refine rb_skip ?_
        refine eb_seq ?_
        refine rb_seq ?_
        refine rb_seq ?_
        refine rb_regionK fun K48 hK48 => ?_
        simp -implicitDefEqProofs only [vt, vm, ↓atI_fold, forall_const, implies_true, sevalprocAttr, dd_TD, k15, h25, k42]
        obtain ⟨r49, h50, h⟩ := bind_some h
        refine cW.intro (a_ref10_Text I hI r32.1 h50) (by first | rfl | (simp [List.map_append, dd_TD]; done)) ?_
        simp -implicitDefEqProofs only [vt, vm, ↓atI_fold, forall_const, implies_true, sevalprocAttr, dd_TD, k15, h25, k42]
        subst hK48
        refine eb_seq ?_
        refine rb_seq ?_
        refine rb_regionK fun K53 hK53 => ?_
        simp -implicitDefEqProofs only [vt, vm, ↓atI_fold, forall_const, implies_true, sevalprocAttr, dd_TD, k15, h25, k42]
        rcases ite_or h with ⟨k54, h⟩ | ⟨k54, h⟩
        · simp -implicitDefEqProofs only [vt, vm, ↓atI_fold, forall_const, implies_true, sevalprocAttr, dd_TD, k15, h25, k42, k54]
          subst hK53
          refine eb_seq ?_
          refine rb_true (rfl) ?_
          refine rb_seq ?_
          refine rb_regionK fun K56 hK56 => ?_
          simp -implicitDefEqProofs only [vt, vm, ↓atI_fold, forall_const, implies_true, sevalprocAttr, dd_TD, k15, h25, k42, k54]
          subst hK56
          refine eb_seq ?_
          refine rb_ret ?_
          refine eb_seq_r ?_
          obtain rfl := Option.some.inj h
          refine eb_nil ?_
          simp -implicitDefEqProofs only [vt, vm, ↓atI_fold, forall_const, implies_true, sevalprocAttr, retQ_r, Tryd.results29, dd_TD, k15, h25, k42, k54] <;> first | rfl | (simp [List.map_append, dd_TD]; done)
        · simp -implicitDefEqProofs only [vt, vm, ↓atI_fold, forall_const, implies_true, sevalprocAttr, dd_TD, k15, h25, k42, k54]
          subst hK53
          refine eb_seq ?_
          rcases ite_or h with ⟨k57, h⟩ | ⟨k57, h⟩
          · refine rb_false (by first | exact congrArg D.bool (congrArg Bool.not k57) | rfl) ?_
            refine rb_skip ?_
            refine eb_seq ?_
            refine rb_seq ?_
            refine rb_regionK fun K59 hK59 => ?_
            simp -implicitDefEqProofs only [vt, vm, ↓atI_fold, forall_const, implies_true, sevalprocAttr, dd_TD, k15, h25, k42, k54, k57]
            subst hK59
            refine eb_seq ?_
            refine rb_ret ?_
            obtain rfl := Option.some.inj h
            refine eb_nil ?_
            simp -implicitDefEqProofs only [vt, vm, ↓atI_fold, forall_const, implies_true, sevalprocAttr, retQ_r, Tryd.results29, dd_TD, k15, h25, k42, k54, k57] <;> first | rfl | (simp [List.map_append, dd_TD]; done)
          · refine rb_true (by first | exact congrArg D.bool (congrArg Bool.not k57) | rfl) ?_
            refine rb_seq ?_
            refine rb_regionK fun K61 hK61 => ?_
            simp -implicitDefEqProofs only [vt, vm, ↓atI_fold, forall_const, implies_true, sevalprocAttr, dd_TD, k15, h25, k42, k54, k57]
            subst hK61
            refine eb_seq ?_
            refine rb_ret ?_
            refine eb_seq_r ?_
            obtain rfl := Option.some.inj h
            refine eb_nil ?_
            simp -implicitDefEqProofs only [vt, vm, ↓atI_fold, forall_const, implies_true, sevalprocAttr, retQ_r, Tryd.results29, dd_TD, k15, h25, k42, k54, k57] <;> first | rfl | (simp [List.map_append, dd_TD]; done)
-- captionerlaw10.RegionTexts
def g_law10_RegionTexts (r_0 : T_api_Region) (s_1 : List UInt8) : Option (Bool) :=
  ((g_law10_awake).bind fun r7 => (if r7 then ((g_region_Text r_0).bind fun r14 => ((g_ref10_Text r_0).bind fun r20 => (((if (r14.1 == r20.1) then (some (r14.2 != r20.2)) else (some true)) : Option (Bool)).bind fun v24 => (if v24 then (some false) else (if (r14.2 == 0) then ((g_region_Parse r14.1).bind fun r38 => (((if ((r38.1.Name == r_0.Name) && ((r38.1.Top == r_0.Top) && ((r38.1.Height == r_0.Height) && ((r38.1.Left == r_0.Left) && ((r38.1.Width == r_0.Width) && ((r38.1.Align == r_0.Align) && (r38.1.Bottom == r_0.Bottom))))))) then (some (r38.2 != 0)) else (some true)) : Option (Bool)).bind fun v42 => (if v42 then (some false) else ((g_region_Parse s_1).bind fun r53 => ((g_ref10_Parse s_1).bind fun r59 => (if ((r53.1.Name == r59.1.Name) && ((r53.1.Top == r59.1.Top) && ((r53.1.Height == r59.1.Height) && ((r53.1.Left == r59.1.Left) && ((r53.1.Width == r59.1.Width) && ((r53.1.Align == r59.1.Align) && (r53.1.Bottom == r59.1.Bottom))))))) then (some (r53.2 == r59.2)) else (some false))))))) else ((g_region_Parse s_1).bind fun r69 => ((g_ref10_Parse s_1).bind fun r75 => (if ((r69.1.Name == r75.1.Name) && ((r69.1.Top == r75.1.Top) && ((r69.1.Height == r75.1.Height) && ((r69.1.Left == r75.1.Left) && ((r69.1.Width == r75.1.Width) && ((r69.1.Align == r75.1.Align) && (r69.1.Bottom == r75.1.Bottom))))))) then (some (r69.2 == r75.2)) else (some false))))))))) else (some false)))
theorem a_law10_RegionTexts (I : World → Prop) (hI : Stab I) (hPIv : ∀ w, I w → PIv w) (hShp : ∀ w, I w → Shp w) (hTab : ∀ w, I w → Tab w) (r_0 : T_api_Region) (s_1 : List UInt8) {r : Bool} (h : g_law10_RegionTexts r_0 s_1 = some r) : AFun Tryd.prog I 8 [T_api_Region.d r_0, .str s_1] (.bool r) := by
  refine AFun.enterB hI Tryd.func8 rfl (by decide) (by simp [Tryd.f8]) (by kernel_rfl) ?_
  unfold g_law10_RegionTexts at h
  simp only [S0, Tryd.ntmps8, dd_TD]
  refine rb_seq ?_
  refine rb_regionK fun K2 hK2 => ?_
  simp -implicitDefEqProofs only [vt, vm, ↓atI_fold, forall_const, implies_true, sevalprocAttr, dd_TD]
  subst hK2
  refine eb_seq ?_
  refine rb_seq ?_
  refine rb_seq ?_
  refine rb_regionK fun K6 hK6 => ?_
  simp -implicitDefEqProofs only [vt, vm, ↓atI_fold, forall_const, implies_true, sevalprocAttr, dd_TD]
  obtain ⟨r7, h8, h⟩ := bind_some h
  refine cW.intro (a_law10_awake I hI hTab h8) (by first | rfl | (simp [List.map_append, dd_TD]; done)) ?_
  simp -implicitDefEqProofs only [vt, vm, ↓atI_fold, forall_const, implies_true, sevalprocAttr, dd_TD]
  subst hK6
  refine eb_seq ?_
  rcases ite_or h with ⟨k9, h⟩ | ⟨k9, h⟩
  · refine rb_false (by first | exact congrArg D.bool (congrArg Bool.not k9) | rfl) ?_
    refine rb_skip ?_
    refine eb_seq ?_
    refine rb_seq ?_
    refine rb_regionK fun K13 hK13 => ?_
    simp -implicitDefEqProofs only [vt, vm, ↓atI_fold, forall_const, implies_true, sevalprocAttr, dd_TD, k9]
    obtain ⟨r14, h15, h⟩ := bind_some h
    refine cW.intro (a_region_Text I hI hTab r_0 h15) (by first | rfl | (simp [List.map_append, dd_TD]; done)) ?_
    simp -implicitDefEqProofs only [vt, vm, ↓atI_fold, forall_const, implies_true, sevalprocAttr, dd_TD, k9]
    subst hK13
    refine eb_seq ?_
    refine rb_seq ?_
    refine rb_regionK fun K19 hK19 => ?_
    simp -implicitDefEqProofs only [vt, vm, ↓atI_fold, forall_const, implies_true, sevalprocAttr, dd_TD, k9]
    obtain ⟨r20, h21, h⟩ := bind_some h
    refine cW.intro (a_ref10_Text I hI r_0 h21) (by first | rfl | (simp [List.map_append, dd_TD]; done)) ?_
    simp -implicitDefEqProofs only [vt, vm, ↓atI_fold, forall_const, implies_true, sevalprocAttr, dd_TD, k9]
    subst hK19
    refine eb_seq ?_
    refine rb_seq ?_
    obtain ⟨v24, h27, h⟩ := bind_some h
    refine rb_cut (fun v24 => ⟨envL [(1, .str s_1), (2, .ptr 0 0), (5, .str r14.1), (6, .int .i64 r14.2), (34, .bool v24)], heapL [(0, .box none [.str r_0.Name, .int .i64 r_0.Top, .int .i64 r_0.Height, .int .i64 r_0.Left, .int .i64 r_0.Width, .int .u8 r_0.Align, .bool r_0.Bottom])], 1, 67⟩) h27 ?_ ?_
    · clear h
      intro v24 h
      refine rb_regionK fun K25 hK25 => ?_
      simp -implicitDefEqProofs only [vt, vm, ↓atI_fold, forall_const, implies_true, sevalprocAttr, dd_TD, k9]
      rcases ite_or h with ⟨k26, h⟩ | ⟨k26, h⟩
      · simp -implicitDefEqProofs only [vt, vm, ↓atI_fold, forall_const, implies_true, sevalprocAttr, dd_TD, k9, k26]
        subst hK25
        obtain rfl := Option.some.inj h
        exact eb_nil ⟨rfl, Wk.of (fun i => if i = 0 then some 0 else some i) _ _ _ (by simp -implicitDefEqProofs [kv, km, dd_TD, k9, k26]) (by simp -implicitDefEqProofs [kv, km, dd_TD, k9, k26])⟩
      · simp -implicitDefEqProofs only [vt, vm, ↓atI_fold, forall_const, implies_true, sevalprocAttr, dd_TD, k9, k26]
        subst hK25
        obtain rfl := Option.some.inj h
        exact eb_nil ⟨rfl, Wk.of (fun i => if i = 0 then some 0 else some i) _ _ _ (by simp -implicitDefEqProofs [kv, km, dd_TD, k9, k26]) (by simp -implicitDefEqProofs [kv, km, dd_TD, k9, k26])⟩
    · rcases ite_or h with ⟨k28, h⟩ | ⟨k28, h⟩
      · refine rb_true (by first | exact congrArg D.bool k28 | rfl) ?_
        refine rb_seq ?_
        refine rb_regionK fun K30 hK30 => ?_
        simp -implicitDefEqProofs only [vt, vm, ↓atI_fold, forall_const, implies_true, sevalprocAttr, dd_TD, k9, k28]
        subst hK30
        refine eb_seq ?_
        refine rb_ret ?_
        refine eb_seq_r ?_
        obtain rfl := Option.some.inj h
        refine eb_nil ?_
        simp -implicitDefEqProofs only [vt, vm, ↓atI_fold, forall_const, implies_true, sevalprocAttr, retQ_r, Tryd.results8, dd_TD, k9, k28] <;> first | rfl | (simp [List.map_append, dd_TD]; done)
      · refine rb_false (by first | exact congrArg D.bool k28 | rfl) ?_
        refine rb_skip ?_
        refine eb_seq ?_
        refine rb_seq ?_
        refine rb_seq ?_
        refine rb_regionK fun K32 hK32 => ?_
        simp -implicitDefEqProofs only [vt, vm, ↓atI_fold, forall_const, implies_true, sevalprocAttr, dd_TD, k9, k28]
        subst hK32
        refine eb_seq ?_
        rcases ite_or h with ⟨k33, h⟩ | ⟨k33, h⟩
        · refine rb_true (by first | exact congrArg D.bool k33 | rfl) ?_
          refine rb_seq ?_
          refine rb_regionK fun K37 hK37 => ?_
          simp -implicitDefEqProofs only [vt, vm, ↓atI_fold, forall_const, implies_true, sevalprocAttr, dd_TD, k9, k28, k33]
          obtain ⟨r38, h39, h⟩ := bind_some h
          refine cW.intro (a_region_Parse I hI hPIv hShp hTab r14.1 h39) (by first | rfl | (simp [List.map_append, dd_TD]; done)) ?_
          simp -implicitDefEqProofs only [vt, vm, ↓atI_fold, forall_const, implies_true, sevalprocAttr, dd_TD, k9, k28, k33]
          subst hK37
          refine eb_seq ?_
          obtain ⟨v42, h45, h⟩ := bind_some h
          refine rb_cut (fun v42 => ⟨envL [(1, .str s_1), (48, .bool v42)], heapL [], 0, 67⟩) h45 ?_ ?_
          · clear h
            intro v42 h
            refine rb_regionK fun K43 hK43 => ?_
            simp -implicitDefEqProofs only [vt, vm, ↓atI_fold, forall_const, implies_true, sevalprocAttr, dd_TD, k9, k28, k33]
            rcases ite_or h with ⟨k44, h⟩ | ⟨k44, h⟩
            · simp -implicitDefEqProofs only [vt, vm, ↓atI_fold, forall_const, implies_true, sevalprocAttr, dd_TD, k9, k28, k33, k44]
              subst hK43
              obtain rfl := Option.some.inj h
              exact eb_nil ⟨rfl, Wk.of (fun i => some i) _ _ _ (by simp -implicitDefEqProofs [kv, km, dd_TD, k9, k28, k33, k44]) (by simp -implicitDefEqProofs [kv, km, dd_TD, k9, k28, k33, k44])⟩
            · simp -implicitDefEqProofs only [vt, vm, ↓atI_fold, forall_const, implies_true, sevalprocAttr, dd_TD, k9, k28, k33, k44]
              subst hK43
              obtain rfl := Option.some.inj h
              exact eb_nil ⟨rfl, Wk.of (fun i => some i) _ _ _ (by simp -implicitDefEqProofs [kv, km, dd_TD, k9, k28, k33, k44]) (by simp -implicitDefEqProofs [kv, km, dd_TD, k9, k28, k33, k44])⟩
          · rcases ite_or h with ⟨k46, h⟩ | ⟨k46, h⟩
            · refine rb_true (by first | exact congrArg D.bool k46 | rfl) ?_
              refine rb_seq ?_
              refine rb_regionK fun K48 hK48 => ?_
              simp -implicitDefEqProofs only [vt, vm, ↓atI_fold, forall_const, implies_true, sevalprocAttr, dd_TD, k9, k28, k33, k46]
              subst hK48
              refine eb_seq ?_
              refine rb_ret ?_
              refine eb_seq_r ?_
              obtain rfl := Option.some.inj h
              refine eb_nil ?_
              simp -implicitDefEqProofs only [vt, vm, ↓atI_fold, forall_const, implies_true, sevalprocAttr, retQ_r, Tryd.results8, dd_TD, k9, k28, k33, k46] <;> first | rfl | (simp [List.map_append, dd_TD]; done)
            · refine rb_false (by first | exact congrArg D.bool k46 | rfl) ?_
              refine rb_skip ?_
              refine eb_seq ?_
              refine rb_seq ?_
              refine rb_regionK fun K52 hK52 => ?_
              simp -implicitDefEqProofs only [vt, vm, ↓atI_fold, forall_const, implies_true, sevalprocAttr, dd_TD, k9, k28, k33, k46]
              obtain ⟨r53, h54, h⟩ := bind_some h
              refine cW.intro (a_region_Parse I hI hPIv hShp hTab s_1 h54) (by first | rfl | (simp [List.map_append, dd_TD]; done)) ?_
              simp -implicitDefEqProofs only [vt, vm, ↓atI_fold, forall_const, implies_true, sevalprocAttr, dd_TD, k9, k28, k33, k46]
              subst hK52
              refine eb_seq ?_
              refine rb_seq ?_
              refine rb_regionK fun K58 hK58 => ?_
              simp -implicitDefEqProofs only [vt, vm, ↓atI_fold, forall_const, implies_true, sevalprocAttr, dd_TD, k9, k28, k33, k46]
              obtain ⟨r59, h60, h⟩ := bind_some h
              refine cW.intro (a_ref10_Parse I hI s_1 h60) (by first | rfl | (simp [List.map_append, dd_TD]; done)) ?_
              simp -implicitDefEqProofs only [vt, vm, ↓atI_fold, forall_const, implies_true, sevalprocAttr, dd_TD, k9, k28, k33, k46]
              subst hK58
              refine eb_seq ?_
              refine rb_seq ?_
              refine rb_regionK fun K63 hK63 => ?_
              simp -implicitDefEqProofs only [vt, vm, ↓atI_fold, forall_const, implies_true, sevalprocAttr, dd_TD, k9, k28, k33, k46]
              rcases ite_or h with ⟨k64, h⟩ | ⟨k64, h⟩
              · simp -implicitDefEqProofs only [vt, vm, ↓atI_fold, forall_const, implies_true, sevalprocAttr, dd_TD, k9, k28, k33, k46, k64]
                subst hK63
                refine eb_seq ?_
                refine rb_ret ?_
                obtain rfl := Option.some.inj h
                refine eb_nil ?_
                simp -implicitDefEqProofs only [vt, vm, ↓atI_fold, forall_const, implies_true, sevalprocAttr, retQ_r, Tryd.results8, dd_TD, k9, k28, k33, k46, k64] <;> first | rfl | (simp [List.map_append, dd_TD]; done)
              · simp -implicitDefEqProofs only [vt, vm, ↓atI_fold, forall_const, implies_true, sevalprocAttr, dd_TD, k9, k28, k33, k46, k64]
                subst hK63
                refine eb_seq ?_
                refine rb_ret ?_
                obtain rfl := Option.some.inj h
                refine eb_nil ?_
                simp -implicitDefEqProofs only [vt, vm, ↓atI_fold, forall_const, implies_true, sevalprocAttr, retQ_r, Tryd.results8, dd_TD, k9, k28, k33, k46, k64] <;> first | rfl | (simp [List.map_append, dd_TD]; done)
        · refine rb_false (by first | exact congrArg D.bool k33 | rfl) ?_
          refine rb_skip ?_
          refine eb_seq ?_
          refine rb_seq ?_
          refine rb_regionK fun K68 hK68 => ?_
          simp -implicitDefEqProofs only [vt, vm, ↓atI_fold, forall_const, implies_true, sevalprocAttr, dd_TD, k9, k28, k33]
          obtain ⟨r69, h70, h⟩ := bind_some h
          refine cW.intro (a_region_Parse I hI hPIv hShp hTab s_1 h70) (by first | rfl | (simp [List.map_append, dd_TD]; done)) ?_
          simp -implicitDefEqProofs only [vt, vm, ↓atI_fold, forall_const, implies_true, sevalprocAttr, dd_TD, k9, k28, k33]
          subst hK68
          refine eb_seq ?_
          refine rb_seq ?_
          refine rb_regionK fun K74 hK74 => ?_
          simp -implicitDefEqProofs only [vt, vm, ↓atI_fold, forall_const, implies_true, sevalprocAttr, dd_TD, k9, k28, k33]
          obtain ⟨r75, h76, h⟩ := bind_some h
          refine cW.intro (a_ref10_Parse I hI s_1 h76) (by first | rfl | (simp [List.map_append, dd_TD]; done)) ?_
          simp -implicitDefEqProofs only [vt, vm, ↓atI_fold, forall_const, implies_true, sevalprocAttr, dd_TD, k9, k28, k33]
          subst hK74
          refine eb_seq ?_
          refine rb_seq ?_
          refine rb_regionK fun K79 hK79 => ?_
          simp -implicitDefEqProofs only [vt, vm, ↓atI_fold, forall_const, implies_true, sevalprocAttr, dd_TD, k9, k28, k33]
          rcases ite_or h with ⟨k80, h⟩ | ⟨k80, h⟩
          · simp -implicitDefEqProofs only [vt, vm, ↓atI_fold, forall_const, implies_true, sevalprocAttr, dd_TD, k9, k28, k33, k80]
            subst hK79
            refine eb_seq ?_
            refine rb_ret ?_
            obtain rfl := Option.some.inj h
            refine eb_nil ?_
            simp -implicitDefEqProofs only [vt, vm, ↓atI_fold, forall_const, implies_true, sevalprocAttr, retQ_r, Tryd.results8, dd_TD, k9, k28, k33, k80] <;> first | rfl | (simp [List.map_append, dd_TD]; done)
          · simp -implicitDefEqProofs only [vt, vm, ↓atI_fold, forall_const, implies_true, sevalprocAttr, dd_TD, k9, k28, k33, k80]
            subst hK79
            refine eb_seq ?_
            refine rb_ret ?_
            obtain rfl := Option.some.inj h
            refine eb_nil ?_
            simp -implicitDefEqProofs only [vt, vm, ↓atI_fold, forall_const, implies_true, sevalprocAttr, retQ_r, Tryd.results8, dd_TD, k9, k28, k33, k80] <;> first | rfl | (simp [List.map_append, dd_TD]; done)
  · refine rb_true (by first | exact congrArg D.bool (congrArg Bool.not k9) | rfl) ?_
    refine rb_seq ?_
    refine rb_regionK fun K82 hK82 => ?_
    simp -implicitDefEqProofs only [vt, vm, ↓atI_fold, forall_const, implies_true, sevalprocAttr, dd_TD, k9]
    subst hK82
    refine eb_seq ?_
    refine rb_ret ?_
    refine eb_seq_r ?_
    obtain rfl := Option.some.inj h
    refine eb_nil ?_
    simp -implicitDefEqProofs only [vt, vm, ↓atI_fold, forall_const, implies_true, sevalprocAttr, retQ_r, Tryd.results8, dd_TD, k9] <;> first | rfl | (simp [List.map_append, dd_TD]; done)
end Go.Proofs.YtipdmcpmedmicaaDoor
