/- What some functions compute, read off their texts by a program of mine (gen.py): definitions, and contracts (the text computes it). No condition but that the definition answers. -/
import Derived.Test.YtncmdhkmbmkiiaaDoorGE
namespace Go.Proofs.YtncmdhkmbmkiiaaDoor
open Go.RowKit
set_option maxRecDepth 100000
set_option linter.unusedVariables false
set_option linter.unusedSimpArgs false
set_option maxHeartbeats 10000000
theorem dd_GF : (∀ x, T_api_Field.d x = .agg [.str x.Text, .int .i64 x.Column, .bool x.Quoted]) ∧ (∀ x, T_api_Line.d x = .agg [.int .i64 x.Number, .sl (x.Fields.map T_api_Field.d)]) ∧ (∀ x, T_api_Diag.d x = .agg [.int .i64 x.Line, .int .i64 x.Column, .int .i64 x.Code]) := ⟨fun _ => rfl, fun _ => rfl, fun _ => rfl⟩
-- captionerlaw07.awake
def g_law07_awake  : Option (Bool) :=
  ((g_lines_Split [65, 32, 32, 34, 98, 32, 99, 34, 32, 35, 32, 120]).bind fun r7 => ((g_lines_Split [65, 34]).bind fun r13 => ((g_lines_Split [34, 65]).bind fun r19 => (((if ((r7.1.length : Int) != 1) then (some true) else (if ((r7.2.length : Int) != 0) then (some true) else ((atI r7.1 0).bind fun y32 => (if ((y32.Fields.length : Int) != 2) then (some true) else (if ((r13.2.length : Int) != 1) then (some true) else (some ((r19.2.length : Int) != 1))))))) : Option (Bool)).bind fun v28 => (if v28 then (some false) else ((g_lines_Number [45, 48] (-5) 5).bind fun r44 => ((g_lines_Number [55] (-5) 5).bind fun r50 => ((atI r7.1 0).bind fun y69 => ((atI y69.Fields 1).bind fun y71 => (if ((y71.Text == ([98, 32, 99] : List UInt8)) && ((y71.Column == 4) && (y71.Quoted == true))) then ((atI r13.2 0).bind fun y74 => (if ((y74.Line == 1) && ((y74.Column == 2) && (y74.Code == 4))) then ((atI r19.2 0).bind fun y77 => (if ((y77.Line == 1) && ((y77.Column == 3) && (y77.Code == 4))) then (if (r44.2 == 4) then (if (r50.2 == 2) then ((g_lines_Quote [97, 34, 10]).bind fun r82 => (some (r82 == ([34, 97, 92, 34, 92, 110, 34] : List UInt8)))) else (some false)) else (some false)) else (some false))) else (some false))) else (some false)))))))))))
theorem a_law07_awake (I : World → Prop) (hI : Stab I) (hPIv : ∀ w, I w → PIv w) (hShp : ∀ w, I w → Shp w)  {r : Bool} (h : g_law07_awake  = some r) : AFun Tryd.prog I 40 [] (.bool r) := by
  refine AFun.enterB hI Tryd.func40 rfl (by decide) (by simp [Tryd.f40]) (by kernel_rfl) ?_
  unfold g_law07_awake at h
  simp only [S0, Tryd.ntmps40, dd_GF]
  refine rb_seq ?_
  refine rb_regionK fun K2 hK2 => ?_
  simp -implicitDefEqProofs only [vt, ↓atI_fold, forall_const, implies_true, sevalprocAttr, dd_GF]
  subst hK2
  refine eb_seq ?_
  refine rb_seq ?_
  refine rb_regionK fun K6 hK6 => ?_
  simp -implicitDefEqProofs only [vt, ↓atI_fold, forall_const, implies_true, sevalprocAttr, dd_GF]
  obtain ⟨r7, h8, h⟩ := bind_some h
  refine cW.intro (a_lines_Split I hI hShp [65, 32, 32, 34, 98, 32, 99, 34, 32, 35, 32, 120] h8) (by first | rfl | (simp [List.map_append, dd_GF]; done)) ?_
  simp -implicitDefEqProofs only [vt, ↓atI_fold, forall_const, implies_true, sevalprocAttr, dd_GF]
  subst hK6
  refine eb_seq ?_
  refine rb_seq ?_
  refine rb_regionK fun K12 hK12 => ?_
  simp -implicitDefEqProofs only [vt, ↓atI_fold, forall_const, implies_true, sevalprocAttr, dd_GF]
  obtain ⟨r13, h14, h⟩ := bind_some h
  refine cW.intro (a_lines_Split I hI hShp [65, 34] h14) (by first | rfl | (simp [List.map_append, dd_GF]; done)) ?_
  simp -implicitDefEqProofs only [vt, ↓atI_fold, forall_const, implies_true, sevalprocAttr, dd_GF]
  subst hK12
  refine eb_seq ?_
  refine rb_seq ?_
  refine rb_regionK fun K18 hK18 => ?_
  simp -implicitDefEqProofs only [vt, ↓atI_fold, forall_const, implies_true, sevalprocAttr, dd_GF]
  obtain ⟨r19, h20, h⟩ := bind_some h
  refine cW.intro (a_lines_Split I hI hShp [34, 65] h20) (by first | rfl | (simp [List.map_append, dd_GF]; done)) ?_
  simp -implicitDefEqProofs only [vt, ↓atI_fold, forall_const, implies_true, sevalprocAttr, dd_GF]
  subst hK18
  refine eb_seq ?_
  refine rb_seq ?_
  obtain ⟨v28, h36, h⟩ := bind_some h
  refine rb_cut (fun v28 => ⟨envL [(1, .sl (r7.1.map T_api_Line.d)), (4, .sl (r13.2.map T_api_Diag.d)), (6, .sl (r19.2.map T_api_Diag.d)), (48, .bool v28)], heapL [], 0, 91⟩) h36 ?_ ?_
  · clear h
    intro v28 h
    refine rb_regionK fun K29 hK29 => ?_
    simp -implicitDefEqProofs only [vt, ↓atI_fold, forall_const, implies_true, sevalprocAttr, dd_GF]
    rcases ite_or h with ⟨k30, h⟩ | ⟨k30, h⟩
    · simp -implicitDefEqProofs only [vt, ↓atI_fold, forall_const, implies_true, sevalprocAttr, dd_GF, k30]
      subst hK29
      obtain rfl := Option.some.inj h
      exact eb_nil ⟨rfl, Wk.of (fun i => some i) _ _ _ (by simp -implicitDefEqProofs [kv, dd_GF, k30]) (by simp -implicitDefEqProofs [kv, dd_GF, k30])⟩
    · simp -implicitDefEqProofs only [vt, ↓atI_fold, forall_const, implies_true, sevalprocAttr, dd_GF, k30]
      rcases ite_or h with ⟨k31, h⟩ | ⟨k31, h⟩
      · simp -implicitDefEqProofs only [vt, ↓atI_fold, forall_const, implies_true, sevalprocAttr, dd_GF, k30, k31]
        subst hK29
        obtain rfl := Option.some.inj h
        exact eb_nil ⟨rfl, Wk.of (fun i => some i) _ _ _ (by simp -implicitDefEqProofs [kv, dd_GF, k30, k31]) (by simp -implicitDefEqProofs [kv, dd_GF, k30, k31])⟩
      · simp -implicitDefEqProofs only [vt, ↓atI_fold, forall_const, implies_true, sevalprocAttr, dd_GF, k30, k31]
        obtain ⟨y32, h33, h⟩ := bind_some h
        simp -implicitDefEqProofs only [vt, ↓atI_fold, forall_const, implies_true, sevalprocAttr, dd_GF, k30, k31, h33]
        rcases ite_or h with ⟨k34, h⟩ | ⟨k34, h⟩
        · simp -implicitDefEqProofs only [vt, ↓atI_fold, forall_const, implies_true, sevalprocAttr, dd_GF, k30, k31, h33, k34]
          subst hK29
          obtain rfl := Option.some.inj h
          exact eb_nil ⟨rfl, Wk.of (fun i => some i) _ _ _ (by simp -implicitDefEqProofs [kv, dd_GF, k30, k31, k34]) (by simp -implicitDefEqProofs [kv, dd_GF, k30, k31, k34])⟩
        · simp -implicitDefEqProofs only [vt, ↓atI_fold, forall_const, implies_true, sevalprocAttr, dd_GF, k30, k31, h33, k34]
          rcases ite_or h with ⟨k35, h⟩ | ⟨k35, h⟩
          · simp -implicitDefEqProofs only [vt, ↓atI_fold, forall_const, implies_true, sevalprocAttr, dd_GF, k30, k31, h33, k34, k35]
            subst hK29
            obtain rfl := Option.some.inj h
            exact eb_nil ⟨rfl, Wk.of (fun i => some i) _ _ _ (by simp -implicitDefEqProofs [kv, dd_GF, k30, k31, k34, k35]) (by simp -implicitDefEqProofs [kv, dd_GF, k30, k31, k34, k35])⟩
          · simp -implicitDefEqProofs only [vt, ↓atI_fold, forall_const, implies_true, sevalprocAttr, dd_GF, k30, k31, h33, k34, k35]
            subst hK29
            obtain rfl := Option.some.inj h
            exact eb_nil ⟨rfl, Wk.of (fun i => some i) _ _ _ (by simp -implicitDefEqProofs [kv, dd_GF, k30, k31, k34, k35]) (by simp -implicitDefEqProofs [kv, dd_GF, k30, k31, k34, k35])⟩
  · rcases ite_or h with ⟨k37, h⟩ | ⟨k37, h⟩
    · refine rb_true (by first | exact congrArg D.bool k37 | rfl) ?_
      refine rb_seq ?_
      refine rb_regionK fun K39 hK39 => ?_
      simp -implicitDefEqProofs only [vt, ↓atI_fold, forall_const, implies_true, sevalprocAttr, dd_GF, k37]
      subst hK39
      refine eb_seq ?_
      refine rb_ret ?_
      refine eb_seq_r ?_
      obtain rfl := Option.some.inj h
      refine eb_nil ?_
      simp -implicitDefEqProofs only [vt, ↓atI_fold, forall_const, implies_true, sevalprocAttr, retQ_r, Tryd.results40, dd_GF, k37] <;> first | rfl | (simp [List.map_append, dd_GF]; done)
    · refine rb_false (by first | exact congrArg D.bool k37 | rfl) ?_
      refine rb_skip ?_
      refine eb_seq ?_
      refine rb_seq ?_
      refine rb_regionK fun K43 hK43 => ?_
      simp -implicitDefEqProofs only [vt, ↓atI_fold, forall_const, implies_true, sevalprocAttr, dd_GF, k37]
      obtain ⟨r44, h45, h⟩ := bind_some h
      refine cW.intro (a_lines_Number I hI hPIv [45, 48] (-5) 5 h45) (by first | rfl | (simp [List.map_append, dd_GF]; done)) ?_
      simp -implicitDefEqProofs only [vt, ↓atI_fold, forall_const, implies_true, sevalprocAttr, dd_GF, k37]
      subst hK43
      refine eb_seq ?_
      refine rb_seq ?_
      refine rb_regionK fun K49 hK49 => ?_
      simp -implicitDefEqProofs only [vt, ↓atI_fold, forall_const, implies_true, sevalprocAttr, dd_GF, k37]
      obtain ⟨r50, h51, h⟩ := bind_some h
      refine cW.intro (a_lines_Number I hI hPIv [55] (-5) 5 h51) (by first | rfl | (simp [List.map_append, dd_GF]; done)) ?_
      simp -implicitDefEqProofs only [vt, ↓atI_fold, forall_const, implies_true, sevalprocAttr, dd_GF, k37]
      subst hK49
      refine eb_seq ?_
      refine rb_seq ?_
      refine rb_regionK fun K68 hK68 => ?_
      simp -implicitDefEqProofs only [vt, ↓atI_fold, forall_const, implies_true, sevalprocAttr, dd_GF, k37]
      obtain ⟨y69, h70, h⟩ := bind_some h
      simp -implicitDefEqProofs only [vt, ↓atI_fold, forall_const, implies_true, sevalprocAttr, dd_GF, k37, h70]
      obtain ⟨y71, h72, h⟩ := bind_some h
      simp -implicitDefEqProofs only [vt, ↓atI_fold, forall_const, implies_true, sevalprocAttr, dd_GF, k37, h70, h72]
      rcases ite_or h with ⟨k73, h⟩ | ⟨k73, h⟩
      · simp -implicitDefEqProofs only [vt, ↓atI_fold, forall_const, implies_true, sevalprocAttr, dd_GF, k37, h70, h72, k73]
        obtain ⟨y74, h75, h⟩ := bind_some h
        simp -implicitDefEqProofs only [vt, ↓atI_fold, forall_const, implies_true, sevalprocAttr, dd_GF, k37, h70, h72, k73, h75]
        rcases ite_or h with ⟨k76, h⟩ | ⟨k76, h⟩
        · simp -implicitDefEqProofs only [vt, ↓atI_fold, forall_const, implies_true, sevalprocAttr, dd_GF, k37, h70, h72, k73, h75, k76]
          obtain ⟨y77, h78, h⟩ := bind_some h
          simp -implicitDefEqProofs only [vt, ↓atI_fold, forall_const, implies_true, sevalprocAttr, dd_GF, k37, h70, h72, k73, h75, k76, h78]
          rcases ite_or h with ⟨k79, h⟩ | ⟨k79, h⟩
          · simp -implicitDefEqProofs only [vt, ↓atI_fold, forall_const, implies_true, sevalprocAttr, dd_GF, k37, h70, h72, k73, h75, k76, h78, k79]
            rcases ite_or h with ⟨k80, h⟩ | ⟨k80, h⟩
            · simp -implicitDefEqProofs only [vt, ↓atI_fold, forall_const, implies_true, sevalprocAttr, dd_GF, k37, h70, h72, k73, h75, k76, h78, k79, k80]
              rcases ite_or h with ⟨k81, h⟩ | ⟨k81, h⟩
              · simp -implicitDefEqProofs only [vt, ↓atI_fold, forall_const, implies_true, sevalprocAttr, dd_GF, k37, h70, h72, k73, h75, k76, h78, k79, k80, k81]
                obtain ⟨r82, h83, h⟩ := bind_some h
                refine cW.intro (a_lines_Quote I hI [97, 34, 10] h83) (by first | rfl | (simp [List.map_append, dd_GF]; done)) ?_
                simp -implicitDefEqProofs only [vt, ↓atI_fold, forall_const, implies_true, sevalprocAttr, dd_GF, k37, h70, h72, k73, h75, k76, h78, k79, k80, k81]
                subst hK68
                refine eb_seq ?_
                refine rb_ret ?_
                obtain rfl := Option.some.inj h
                refine eb_nil ?_
                simp -implicitDefEqProofs only [vt, ↓atI_fold, forall_const, implies_true, sevalprocAttr, retQ_r, Tryd.results40, dd_GF, k37, h70, h72, k73, h75, k76, h78, k79, k80, k81] <;> first | rfl | (simp [List.map_append, dd_GF]; done)
              · simp -implicitDefEqProofs only [vt, ↓atI_fold, forall_const, implies_true, sevalprocAttr, dd_GF, k37, h70, h72, k73, h75, k76, h78, k79, k80, k81]
                subst hK68
                refine eb_seq ?_
                refine rb_ret ?_
                obtain rfl := Option.some.inj h
                refine eb_nil ?_
                simp -implicitDefEqProofs only [vt, ↓atI_fold, forall_const, implies_true, sevalprocAttr, retQ_r, Tryd.results40, dd_GF, k37, h70, h72, k73, h75, k76, h78, k79, k80, k81] <;> first | rfl | (simp [List.map_append, dd_GF]; done)
            · simp -implicitDefEqProofs only [vt, ↓atI_fold, forall_const, implies_true, sevalprocAttr, dd_GF, k37, h70, h72, k73, h75, k76, h78, k79, k80]
              subst hK68
              refine eb_seq ?_
              refine rb_ret ?_
              obtain rfl := Option.some.inj h
              refine eb_nil ?_
              simp -implicitDefEqProofs only [vt, ↓atI_fold, forall_const, implies_true, sevalprocAttr, retQ_r, Tryd.results40, dd_GF, k37, h70, h72, k73, h75, k76, h78, k79, k80] <;> first | rfl | (simp [List.map_append, dd_GF]; done)
          · simp -implicitDefEqProofs only [vt, ↓atI_fold, forall_const, implies_true, sevalprocAttr, dd_GF, k37, h70, h72, k73, h75, k76, h78, k79]
            subst hK68
            refine eb_seq ?_
            refine rb_ret ?_
            obtain rfl := Option.some.inj h
            refine eb_nil ?_
            simp -implicitDefEqProofs only [vt, ↓atI_fold, forall_const, implies_true, sevalprocAttr, retQ_r, Tryd.results40, dd_GF, k37, h70, h72, k73, h75, k76, h78, k79] <;> first | rfl | (simp [List.map_append, dd_GF]; done)
        · simp -implicitDefEqProofs only [vt, ↓atI_fold, forall_const, implies_true, sevalprocAttr, dd_GF, k37, h70, h72, k73, h75, k76]
          subst hK68
          refine eb_seq ?_
          refine rb_ret ?_
          obtain rfl := Option.some.inj h
          refine eb_nil ?_
          simp -implicitDefEqProofs only [vt, ↓atI_fold, forall_const, implies_true, sevalprocAttr, retQ_r, Tryd.results40, dd_GF, k37, h70, h72, k73, h75, k76] <;> first | rfl | (simp [List.map_append, dd_GF]; done)
      · simp -implicitDefEqProofs only [vt, ↓atI_fold, forall_const, implies_true, sevalprocAttr, dd_GF, k37, h70, h72, k73]
        subst hK68
        refine eb_seq ?_
        refine rb_ret ?_
        obtain rfl := Option.some.inj h
        refine eb_nil ?_
        simp -implicitDefEqProofs only [vt, ↓atI_fold, forall_const, implies_true, sevalprocAttr, retQ_r, Tryd.results40, dd_GF, k37, h70, h72, k73] <;> first | rfl | (simp [List.map_append, dd_GF]; done)
-- captionerlaw07.LinesSplits
def g_law07_LinesSplits (src_0 : List UInt8) : Option (Bool) :=
  ((g_law07_awake).bind fun r7 => (if r7 then ((g_lines_Split src_0).bind fun r14 => ((g_ref07_Split src_0).bind fun r20 => ((g_law07_sameLines r14.1 r20.1).bind fun r29 => (if r29 then ((g_law07_sameDiags r14.2 r20.2).bind fun r32 => (some r32)) else (some false))))) else (some false)))
theorem a_law07_LinesSplits (I : World → Prop) (hI : Stab I) (hPIv : ∀ w, I w → PIv w) (hShp : ∀ w, I w → Shp w) (src_0 : List UInt8) {r : Bool} (h : g_law07_LinesSplits src_0 = some r) : AFun Tryd.prog I 10 [.str src_0] (.bool r) := by
  refine AFun.enterB hI Tryd.func10 rfl (by decide) (by simp [Tryd.f10]) (by kernel_rfl) ?_
  unfold g_law07_LinesSplits at h
  simp only [S0, Tryd.ntmps10, dd_GF]
  refine rb_seq ?_
  refine rb_regionK fun K2 hK2 => ?_
  simp -implicitDefEqProofs only [vt, ↓atI_fold, forall_const, implies_true, sevalprocAttr, dd_GF]
  subst hK2
  refine eb_seq ?_
  refine rb_seq ?_
  refine rb_seq ?_
  refine rb_regionK fun K6 hK6 => ?_
  simp -implicitDefEqProofs only [vt, ↓atI_fold, forall_const, implies_true, sevalprocAttr, dd_GF]
  obtain ⟨r7, h8, h⟩ := bind_some h
  refine cW.intro (a_law07_awake I hI hPIv hShp h8) (by first | rfl | (simp [List.map_append, dd_GF]; done)) ?_
  simp -implicitDefEqProofs only [vt, ↓atI_fold, forall_const, implies_true, sevalprocAttr, dd_GF]
  subst hK6
  refine eb_seq ?_
  rcases ite_or h with ⟨k9, h⟩ | ⟨k9, h⟩
  · refine rb_false (by first | exact congrArg D.bool (congrArg Bool.not k9) | rfl) ?_
    refine rb_skip ?_
    refine eb_seq ?_
    refine rb_seq ?_
    refine rb_regionK fun K13 hK13 => ?_
    simp -implicitDefEqProofs only [vt, ↓atI_fold, forall_const, implies_true, sevalprocAttr, dd_GF, k9]
    obtain ⟨r14, h15, h⟩ := bind_some h
    refine cW.intro (a_lines_Split I hI hShp src_0 h15) (by first | rfl | (simp [List.map_append, dd_GF]; done)) ?_
    simp -implicitDefEqProofs only [vt, ↓atI_fold, forall_const, implies_true, sevalprocAttr, dd_GF, k9]
    subst hK13
    refine eb_seq ?_
    refine rb_seq ?_
    refine rb_regionK fun K19 hK19 => ?_
    simp -implicitDefEqProofs only [vt, ↓atI_fold, forall_const, implies_true, sevalprocAttr, dd_GF, k9]
    obtain ⟨r20, h21, h⟩ := bind_some h
    refine cW.intro (a_ref07_Split I hI src_0 h21) (by first | rfl | (simp [List.map_append, dd_GF]; done)) ?_
    simp -implicitDefEqProofs only [vt, ↓atI_fold, forall_const, implies_true, sevalprocAttr, dd_GF, k9]
    subst hK19
    refine eb_seq ?_
    refine rb_seq ?_
    refine rb_regionK fun K28 hK28 => ?_
    simp -implicitDefEqProofs only [vt, ↓atI_fold, forall_const, implies_true, sevalprocAttr, dd_GF, k9]
    obtain ⟨r29, h30, h⟩ := bind_some h
    refine cW.intro (a_law07_sameLines I hI r14.1 r20.1 h30) (by first | rfl | (simp [List.map_append, dd_GF]; done)) ?_
    simp -implicitDefEqProofs only [vt, ↓atI_fold, forall_const, implies_true, sevalprocAttr, dd_GF, k9]
    rcases ite_or h with ⟨k31, h⟩ | ⟨k31, h⟩
    · simp -implicitDefEqProofs only [vt, ↓atI_fold, forall_const, implies_true, sevalprocAttr, dd_GF, k9, k31]
      obtain ⟨r32, h33, h⟩ := bind_some h
      refine cW.intro (a_law07_sameDiags I hI r14.2 r20.2 h33) (by first | rfl | (simp [List.map_append, dd_GF]; done)) ?_
      simp -implicitDefEqProofs only [vt, ↓atI_fold, forall_const, implies_true, sevalprocAttr, dd_GF, k9, k31]
      subst hK28
      refine eb_seq ?_
      refine rb_ret ?_
      obtain rfl := Option.some.inj h
      refine eb_nil ?_
      simp -implicitDefEqProofs only [vt, ↓atI_fold, forall_const, implies_true, sevalprocAttr, retQ_r, Tryd.results10, dd_GF, k9, k31] <;> first | rfl | (simp [List.map_append, dd_GF]; done)
    · simp -implicitDefEqProofs only [vt, ↓atI_fold, forall_const, implies_true, sevalprocAttr, dd_GF, k9, k31]
      subst hK28
      refine eb_seq ?_
      refine rb_ret ?_
      obtain rfl := Option.some.inj h
      refine eb_nil ?_
      simp -implicitDefEqProofs only [vt, ↓atI_fold, forall_const, implies_true, sevalprocAttr, retQ_r, Tryd.results10, dd_GF, k9, k31] <;> first | rfl | (simp [List.map_append, dd_GF]; done)
  · refine rb_true (by first | exact congrArg D.bool (congrArg Bool.not k9) | rfl) ?_
    refine rb_seq ?_
    refine rb_regionK fun K35 hK35 => ?_
    simp -implicitDefEqProofs only [vt, ↓atI_fold, forall_const, implies_true, sevalprocAttr, dd_GF, k9]
    subst hK35
    refine eb_seq ?_
    refine rb_ret ?_
    refine eb_seq_r ?_
    obtain rfl := Option.some.inj h
    refine eb_nil ?_
    simp -implicitDefEqProofs only [vt, ↓atI_fold, forall_const, implies_true, sevalprocAttr, retQ_r, Tryd.results10, dd_GF, k9] <;> first | rfl | (simp [List.map_append, dd_GF]; done)
-- captionerlaw07.LinesColumns
def g_law07_LinesColumns_s1 (z17 : List UInt8) (x32 : Int × (List Int)) : Option (Nx (Int × (List Int)) ((List Int))) :=
  (if (decide (x32.1 < (z17.length : Int))) then ((atI z17 x32.1).bind fun b86 => (if ((b86.toNat : Int) == 10) then (if (x32.2.length + 1) * 8 ≤ 140737488355328 then (some (.go ((IntKind.i64.wrap (x32.1 + 1)), (x32.2 ++ [(IntKind.i64.wrap (x32.1 + 1))])))) else none) else (some (.go ((IntKind.i64.wrap (x32.1 + 1)), x32.2))))) else (some (.out x32.2)))
def g_law07_LinesColumns_s4 (z17 : List UInt8) (y6871 : Int) (y7980 : T_api_Field) (x8003 : Int) : Option (Nx (Int) (Unit ⊕ Unit)) :=
  (if (decide (x8003 < (IntKind.i64.wrap ((IntKind.i64.wrap (y6871 + y7980.Column)) - 1)))) then ((atI z17 x8003).bind fun b8065 => (if ((b8065.toNat : Int) != 32) then (some (.out (.inl ()))) else (some (.go (IntKind.i64.wrap (x8003 + 1)))))) else (some (.out (.inr ()))))
def g_law07_LinesColumns_s5 (z17 : List UInt8) (x8119 : Int) : Option (Nx (Int) (Int)) :=
  ((atI z17 x8119).bind fun b8151 => (if ((b8151.toNat : Int) != 34) then (if ((b8151.toNat : Int) == 92) then (some (.go (IntKind.i64.wrap ((IntKind.i64.wrap (x8119 + 1)) + 1)))) else (some (.go (IntKind.i64.wrap (x8119 + 1))))) else (some (.out x8119))))
def g_law07_LinesColumns_s3 (z17 : List UInt8) (y6849 : T_api_Line) (y6871 : Int) (x6878 : Int × Int) : Option (Nx (Int × Int) (Unit ⊕ Unit)) :=
  (if (decide (x6878.2 < (y6849.Fields.length : Int))) then ((atI y6849.Fields x6878.2).bind fun y7980 => (((if (decide ((IntKind.i64.wrap ((IntKind.i64.wrap (y6871 + y7980.Column)) - 1)) < x6878.1)) then (some true) else (if y7980.Quoted then (if (decide ((z17.length : Int) ≤ (IntKind.i64.wrap ((IntKind.i64.wrap (y6871 + y7980.Column)) - 1)))) then (some true) else ((atI z17 (IntKind.i64.wrap ((IntKind.i64.wrap (y6871 + y7980.Column)) - 1))).bind fun b7995 => (some ((b7995.toNat : Int) != 34)))) else (some false))) : Option (Bool)).bind fun v7990 => (if v7990 then (some (.out (.inl ()))) else ((iter (g_law07_LinesColumns_s4 z17 y6871 y7980) x6878.1).bind fun e8004 => (match e8004 with | Sum.inl e8004 => (some (.out (.inl ()))) | Sum.inr (e8004) => (if y7980.Quoted then ((iter (g_law07_LinesColumns_s5 z17) (IntKind.i64.wrap ((IntKind.i64.wrap ((IntKind.i64.wrap (y6871 + y7980.Column)) - 1)) + 1))).bind fun e8120 => (some (.go ((IntKind.i64.wrap (e8120 + 1)), (IntKind.i64.wrap (x6878.2 + 1)))))) else (if (decide ((z17.length : Int) < (IntKind.i64.wrap ((IntKind.i64.wrap ((IntKind.i64.wrap (y6871 + y7980.Column)) - 1)) + (y7980.Text.length : Int))))) then (some (.out (.inl ()))) else ((subI z17 (IntKind.i64.wrap ((IntKind.i64.wrap (y6871 + y7980.Column)) - 1)) (IntKind.i64.wrap ((IntKind.i64.wrap ((IntKind.i64.wrap (y6871 + y7980.Column)) - 1)) + (y7980.Text.length : Int)))).bind fun z8179 => (if (z8179 == y7980.Text) then (some (.go ((IntKind.i64.wrap ((IntKind.i64.wrap ((IntKind.i64.wrap (y6871 + y7980.Column)) - 1)) + (y7980.Text.length : Int))), (IntKind.i64.wrap (x6878.2 + 1))))) else (some (.out (.inl ())))))))))))) else (some (.out (.inr ()))))
def g_law07_LinesColumns_s2 (z17 : List UInt8) (r26 : (List T_api_Line) × (List T_api_Diag)) (e33 : (List Int)) (x99 : Int × Int) : Option (Nx (Int × Int) (Unit ⊕ Unit)) :=
  (if (decide (x99.2 < (r26.1.length : Int))) then ((atI r26.1 x99.2).bind fun y6849 => (((if (decide (y6849.Number ≤ x99.1)) then (some true) else (if (decide (((e33.length : Nat) : Int) < y6849.Number)) then (some true) else (some ((y6849.Fields.length : Int) == 0)))) : Option (Bool)).bind fun v6854 => (if v6854 then (some (.out (.inl ()))) else ((atI e33 (IntKind.i64.wrap (y6849.Number - 1))).bind fun y6871 => ((iter (g_law07_LinesColumns_s3 z17 y6849 y6871) (y6871, 0)).bind fun e6879 => (match e6879 with | Sum.inl e6879 => (some (.out (.inl ()))) | Sum.inr (e6879) => (some (.go (y6849.Number, (IntKind.i64.wrap (x99.2 + 1))))))))))) else (some (.out (.inr ()))))
def g_law07_LinesColumns (src_0 : List UInt8) : Option (Bool) :=
  ((g_law07_awake).bind fun r7 => (if r7 then ((subH src_0 (if 300 < (src_0.length : Int) then 300 else (src_0.length : Int))).bind fun z17 => ((g_lines_Split z17).bind fun r26 => ((iter (g_law07_LinesColumns_s1 z17) (0, [0])).bind fun e33 => ((iter (g_law07_LinesColumns_s2 z17 r26 e33) (0, 0)).bind fun e100 => (match e100 with | Sum.inl e100 => (some false) | Sum.inr (e100) => (some true)))))) else (some false)))
theorem a_law07_LinesColumns (I : World → Prop) (hI : Stab I) (hPIv : ∀ w, I w → PIv w) (hShp : ∀ w, I w → Shp w) (src_0 : List UInt8) {r : Bool} (h : g_law07_LinesColumns src_0 = some r) : AFun Tryd.prog I 12 [.str src_0] (.bool r) := by
  refine AFun.enterB hI Tryd.func12 rfl (by decide) (by simp [Tryd.f12]) (by kernel_rfl) ?_
  unfold g_law07_LinesColumns at h
  simp only [S0, Tryd.ntmps12, dd_GF]
  refine rb_seq ?_
  refine rb_regionK fun K2 hK2 => ?_
  simp -implicitDefEqProofs only [vt, ↓atI_fold, forall_const, implies_true, sevalprocAttr, dd_GF]
  subst hK2
  refine eb_seq ?_
  refine rb_seq ?_
  refine rb_seq ?_
  refine rb_regionK fun K6 hK6 => ?_
  simp -implicitDefEqProofs only [vt, ↓atI_fold, forall_const, implies_true, sevalprocAttr, dd_GF]
  obtain ⟨r7, h8, h⟩ := bind_some h
  refine cW.intro (a_law07_awake I hI hPIv hShp h8) (by first | rfl | (simp [List.map_append, dd_GF]; done)) ?_
  simp -implicitDefEqProofs only [vt, ↓atI_fold, forall_const, implies_true, sevalprocAttr, dd_GF]
  subst hK6
  refine eb_seq ?_
  rcases ite_or h with ⟨k9, h⟩ | ⟨k9, h⟩
  · refine rb_false (by first | exact congrArg D.bool (congrArg Bool.not k9) | rfl) ?_
    refine rb_skip ?_
    refine eb_seq ?_
    refine rb_seq ?_
    refine rb_regionK fun K16 hK16 => ?_
    simp -implicitDefEqProofs only [vt, ↓atI_fold, forall_const, implies_true, sevalprocAttr, dd_GF, k9]
    obtain ⟨z17, h18, h⟩ := bind_some h
    obtain ⟨⟨h19, h20⟩, h21⟩ := subH_some h18
    try simp -implicitDefEqProofs only [vt, ↓atI_fold, forall_const, implies_true, sevalprocAttr, dd_GF, k9, h19, h20] at h21
    simp -implicitDefEqProofs only [vt, ↓atI_fold, forall_const, implies_true, sevalprocAttr, dd_GF, k9, h19, h20, h21]
    subst hK16
    refine eb_seq ?_
    refine rb_seq ?_
    refine rb_regionK fun K25 hK25 => ?_
    simp -implicitDefEqProofs only [vt, ↓atI_fold, forall_const, implies_true, sevalprocAttr, dd_GF, k9, h19, h20, h21]
    obtain ⟨r26, h27, h⟩ := bind_some h
    refine cW.intro (a_lines_Split I hI hShp z17 h27) (by first | rfl | (simp [List.map_append, dd_GF]; done)) ?_
    simp -implicitDefEqProofs only [vt, ↓atI_fold, forall_const, implies_true, sevalprocAttr, dd_GF, k9, h19, h20, h21]
    subst hK25
    refine eb_seq ?_
    refine rb_seq ?_
    refine rb_regionK fun K29 hK29 => ?_
    simp -implicitDefEqProofs only [vt, ↓atI_fold, forall_const, implies_true, sevalprocAttr, dd_GF, k9, h19, h20, h21]
    subst hK29
    refine eb_seq ?_
    refine rb_seq ?_
    refine rb_seq ?_
    refine rb_regionK fun K31 hK31 => ?_
    simp -implicitDefEqProofs only [vt, ↓atI_fold, forall_const, implies_true, sevalprocAttr, dd_GF, k9, h19, h20, h21]
    subst hK31
    refine eb_seq ?_
    refine rb_block ?_
    obtain ⟨e33, h94, h⟩ := bind_some h
    refine rb_loop (fun x32 => ⟨envL [(0, .str z17), (3, .sl (r26.1.map T_api_Line.d)), (5, .own 0 x32.2.length), (29, .int .i64 (z17.length : Int)), (30, .int .i64 x32.1)], heapL [(0, .vec 3 1 (x32.2.map (D.int .i64)) false)], 1, 156⟩) (fun _ => .exit 0) (fun e33 => ⟨envL [(0, .str z17), (3, .sl (r26.1.map T_api_Line.d)), (5, .own 0 e33.length)], heapL [(0, .vec 3 1 (e33.map (D.int .i64)) false)], 1, 156⟩) h94 (Wk.of (fun i => if i = 0 then some 16 else some i) _ _ _ (by simp -implicitDefEqProofs [kv, dd_GF, k9]) (by simp -implicitDefEqProofs [kv, dd_GF, k9])) (by intro w; simp) ?_ ?_
    · clear h
      intro x32 y h
      unfold g_law07_LinesColumns_s1 at h
      refine rb_seq ?_
      refine rb_regionK fun K65 hK65 => ?_
      simp -implicitDefEqProofs only [vt, ↓atI_fold, forall_const, implies_true, sevalprocAttr, dd_GF, k9, h19, h20, h21]
      subst hK65
      refine eb_seq ?_
      refine rb_seq ?_
      rcases ite_or h with ⟨k67, h⟩ | ⟨k67, h⟩
      · refine rb_true (by first | exact congrArg D.bool k67 | rfl) ?_
        refine rb_skip ?_
        refine eb_seq ?_
        refine rb_seq ?_
        refine rb_block ?_
        refine rb_seq ?_
        refine rb_regionK fun K81 hK81 => ?_
        simp -implicitDefEqProofs only [vt, ↓atI_fold, forall_const, implies_true, sevalprocAttr, dd_GF, k9, h19, h20, h21, k67]
        subst hK81
        refine eb_seq ?_
        refine rb_seq ?_
        refine rb_regionK fun K85 hK85 => ?_
        simp -implicitDefEqProofs only [vt, ↓atI_fold, forall_const, implies_true, sevalprocAttr, dd_GF, k9, h19, h20, h21, k67]
        obtain ⟨b86, h87, h⟩ := bind_some h
        simp -implicitDefEqProofs only [vt, ↓atI_fold, forall_const, implies_true, sevalprocAttr, dd_GF, k9, h19, h20, h21, k67, h87]
        subst hK85
        refine eb_seq ?_
        rcases ite_or h with ⟨k88, h⟩ | ⟨k88, h⟩
        · refine rb_true (by first | exact congrArg D.bool k88 | rfl) ?_
          refine rb_regionK fun K89 hK89 => ?_
          simp -implicitDefEqProofs only [vt, ↓atI_fold, forall_const, implies_true, sevalprocAttr, dd_GF, k9, h19, h20, h21, k67, h87, k88]
          obtain ⟨h90, h⟩ := ite_on h
          have h91 : x32.2.length + 1 ≤ 9223372036854775807 := by omega
          try simp only [Nat.reduceLeDiff] at h91
          simp -implicitDefEqProofs only [vt, ↓atI_fold, forall_const, implies_true, sevalprocAttr, dd_GF, k9, h19, h20, h21, k67, h87, k88, h91, h90]
          subst hK89
          refine eb_blk_n ?_
          refine eb_seq ?_
          refine rb_regionK fun K92 hK92 => ?_
          simp -implicitDefEqProofs only [vt, ↓atI_fold, forall_const, implies_true, sevalprocAttr, dd_GF, k9, h19, h20, h21, k67, h87, k88, h91, h90]
          subst hK92
          obtain rfl := Option.some.inj h
          exact eb_nil ⟨rfl, Wk.of (fun i => if i = 0 then some 12 else some i) _ _ _ (by simp -implicitDefEqProofs [kv, dd_GF, k9, k67, k88]) (by simp -implicitDefEqProofs [kv, dd_GF, k9, k67, k88])⟩
        · refine rb_false (by first | exact congrArg D.bool k88 | rfl) ?_
          refine rb_skip ?_
          refine eb_blk_n ?_
          refine eb_seq ?_
          refine rb_regionK fun K93 hK93 => ?_
          simp -implicitDefEqProofs only [vt, ↓atI_fold, forall_const, implies_true, sevalprocAttr, dd_GF, k9, h19, h20, h21, k67, h87, k88]
          subst hK93
          obtain rfl := Option.some.inj h
          exact eb_nil ⟨rfl, Wk.of (fun i => if i = 0 then some 0 else some i) _ _ _ (by simp -implicitDefEqProofs [kv, dd_GF, k9, k67, k88]) (by simp -implicitDefEqProofs [kv, dd_GF, k9, k67, k88])⟩
      · refine rb_false (by first | exact congrArg D.bool k67 | rfl) ?_
        refine rb_exit ?_
        refine eb_seq_e ?_
        obtain rfl := Option.some.inj h
        exact eb_nil ⟨rfl, Wk.of (fun i => if i = 0 then some 0 else some i) _ _ _ (by simp -implicitDefEqProofs [kv, dd_GF, k9, k67]) (by simp -implicitDefEqProofs [kv, dd_GF, k9, k67])⟩
    · refine eb_blk_hit ?_
      refine eb_seq ?_
      refine rb_seq ?_
      refine rb_regionK fun K96 hK96 => ?_
      simp -implicitDefEqProofs only [vt, ↓atI_fold, forall_const, implies_true, sevalprocAttr, dd_GF, k9, h19, h20, h21]
      subst hK96
      refine eb_seq ?_
      refine rb_seq ?_
      refine rb_seq ?_
      refine rb_regionK fun K98 hK98 => ?_
      simp -implicitDefEqProofs only [vt, ↓atI_fold, forall_const, implies_true, sevalprocAttr, dd_GF, k9, h19, h20, h21]
      subst hK98
      refine eb_seq ?_
      refine rb_block ?_
      obtain ⟨e100, h8192, h⟩ := bind_some h
      refine rb_loop (fun x99 => ⟨envL [(0, .str z17), (5, .own 0 e33.length), (7, .int .i64 x99.1), (43, .sl (r26.1.map T_api_Line.d)), (44, .int .i64 (r26.1.length : Int)), (45, .int .i64 x99.2)], heapL [(0, .vec 3 1 (e33.map (D.int .i64)) false)], 1, 156⟩) (fun w => match w with | Sum.inl _ => .ret | Sum.inr (_) => .exit 2) (fun w => match w with | Sum.inl e100 => ⟨envL [(2, .bool false)], heapL [], 0, 156⟩ | Sum.inr (e100) => ⟨envL [], heapL [], 0, 156⟩) h8192 (Wk.of (fun i => if i = 0 then some 0 else some i) _ _ _ (by simp -implicitDefEqProofs [kv, dd_GF, k9]) (by simp -implicitDefEqProofs [kv, dd_GF, k9])) (by intro w; rcases w with w | w <;> simp) ?_ ?_
      · clear h
        intro x99 y h
        unfold g_law07_LinesColumns_s2 at h
        refine rb_seq ?_
        refine rb_regionK fun K5496 hK5496 => ?_
        simp -implicitDefEqProofs only [vt, ↓atI_fold, forall_const, implies_true, sevalprocAttr, dd_GF, k9, h19, h20, h21]
        subst hK5496
        refine eb_seq ?_
        refine rb_seq ?_
        rcases ite_or h with ⟨k5498, h⟩ | ⟨k5498, h⟩
        · refine rb_true (by first | exact congrArg D.bool k5498 | rfl) ?_
          refine rb_skip ?_
          refine eb_seq ?_
          refine rb_seq ?_
          refine rb_block ?_
          refine rb_seq ?_
          refine rb_regionK fun K6848 hK6848 => ?_
          simp -implicitDefEqProofs only [vt, ↓atI_fold, forall_const, implies_true, sevalprocAttr, dd_GF, k9, h19, h20, h21, k5498]
          obtain ⟨y6849, h6850, h⟩ := bind_some h
          simp -implicitDefEqProofs only [vt, ↓atI_fold, forall_const, implies_true, sevalprocAttr, dd_GF, k9, h19, h20, h21, k5498, h6850]
          subst hK6848
          refine eb_seq ?_
          refine rb_seq ?_
          obtain ⟨v6854, h6858, h⟩ := bind_some h
          refine rb_cut (fun v6854 => ⟨envL [(0, .str z17), (5, .own 0 e33.length), (9, .ptr 1 0), (43, .sl (r26.1.map T_api_Line.d)), (44, .int .i64 (r26.1.length : Int)), (45, .int .i64 x99.2), (65, .bool v6854)], heapL [(0, .vec 3 1 (e33.map (D.int .i64)) false), (1, .box [.int .i64 y6849.Number, .sl (y6849.Fields.map T_api_Field.d)])], 2, 156⟩) h6858 ?_ ?_
          · clear h
            intro v6854 h
            refine rb_regionK fun K6855 hK6855 => ?_
            simp -implicitDefEqProofs only [vt, ↓atI_fold, forall_const, implies_true, sevalprocAttr, dd_GF, k9, h19, h20, h21, k5498, h6850]
            rcases ite_or h with ⟨k6856, h⟩ | ⟨k6856, h⟩
            · simp -implicitDefEqProofs only [vt, ↓atI_fold, forall_const, implies_true, sevalprocAttr, dd_GF, k9, h19, h20, h21, k5498, h6850, k6856]
              subst hK6855
              obtain rfl := Option.some.inj h
              exact eb_nil ⟨rfl, Wk.of (fun i => if i = 1 then some 4 else if i = 0 then some 0 else some i) _ _ _ (by simp -implicitDefEqProofs [kv, dd_GF, k9, k5498, k6856]) (by simp -implicitDefEqProofs [kv, dd_GF, k9, k5498, k6856])⟩
            · simp -implicitDefEqProofs only [vt, ↓atI_fold, forall_const, implies_true, sevalprocAttr, dd_GF, k9, h19, h20, h21, k5498, h6850, k6856]
              rcases ite_or h with ⟨k6857, h⟩ | ⟨k6857, h⟩
              · simp -implicitDefEqProofs only [vt, ↓atI_fold, forall_const, implies_true, sevalprocAttr, dd_GF, k9, h19, h20, h21, k5498, h6850, k6856, k6857]
                subst hK6855
                obtain rfl := Option.some.inj h
                exact eb_nil ⟨rfl, Wk.of (fun i => if i = 1 then some 4 else if i = 0 then some 0 else some i) _ _ _ (by simp -implicitDefEqProofs [kv, dd_GF, k9, k5498, k6856, k6857]) (by simp -implicitDefEqProofs [kv, dd_GF, k9, k5498, k6856, k6857])⟩
              · simp -implicitDefEqProofs only [vt, ↓atI_fold, forall_const, implies_true, sevalprocAttr, dd_GF, k9, h19, h20, h21, k5498, h6850, k6856, k6857]
                subst hK6855
                obtain rfl := Option.some.inj h
                exact eb_nil ⟨rfl, Wk.of (fun i => if i = 1 then some 4 else if i = 0 then some 0 else some i) _ _ _ (by simp -implicitDefEqProofs [kv, dd_GF, k9, k5498, k6856, k6857]) (by simp -implicitDefEqProofs [kv, dd_GF, k9, k5498, k6856, k6857])⟩
          · rcases ite_or h with ⟨k6859, h⟩ | ⟨k6859, h⟩
            · refine rb_true (by first | exact congrArg D.bool k6859 | rfl) ?_
              refine rb_seq ?_
              refine rb_regionK fun K6861 hK6861 => ?_
              simp -implicitDefEqProofs only [vt, ↓atI_fold, forall_const, implies_true, sevalprocAttr, dd_GF, k9, h19, h20, h21, k5498, h6850, k6859]
              subst hK6861
              refine eb_seq ?_
              refine rb_ret ?_
              refine eb_seq_r ?_
              refine eb_blk_r ?_
              refine eb_seq_r ?_
              obtain rfl := Option.some.inj h
              exact eb_nil ⟨rfl, Wk.of (fun i => some i) _ _ _ (by simp -implicitDefEqProofs [kv, dd_GF, k9, k5498, k6859]) (by simp -implicitDefEqProofs [kv, dd_GF, k9, k5498, k6859])⟩
            · refine rb_false (by first | exact congrArg D.bool k6859 | rfl) ?_
              refine rb_skip ?_
              refine eb_seq ?_
              refine rb_seq ?_
              refine rb_regionK fun K6863 hK6863 => ?_
              simp -implicitDefEqProofs only [vt, ↓atI_fold, forall_const, implies_true, sevalprocAttr, dd_GF, k9, h19, h20, h21, k5498, h6850, k6859]
              subst hK6863
              refine eb_seq ?_
              refine rb_seq ?_
              refine rb_regionK fun K6870 hK6870 => ?_
              simp -implicitDefEqProofs only [vt, ↓atI_fold, forall_const, implies_true, sevalprocAttr, dd_GF, k9, h19, h20, h21, k5498, h6850, k6859]
              obtain ⟨y6871, h6872, h⟩ := bind_some h
              obtain ⟨h6873, h6874, h6875⟩ := atI_own h6872
              simp -implicitDefEqProofs only [vt, ↓atI_fold, forall_const, implies_true, sevalprocAttr, dd_GF, k9, h19, h20, h21, k5498, h6850, k6859, h6873, h6874, h6875]
              subst hK6870
              refine eb_seq ?_
              refine rb_seq ?_
              refine rb_regionK fun K6877 hK6877 => ?_
              simp -implicitDefEqProofs only [vt, ↓atI_fold, forall_const, implies_true, sevalprocAttr, dd_GF, k9, h19, h20, h21, k5498, h6850, k6859, h6873, h6874, h6875]
              subst hK6877
              refine eb_seq ?_
              refine rb_block ?_
              obtain ⟨e6879, h8190, h⟩ := bind_some h
              refine rb_loop (fun x6878 => ⟨envL [(0, .str z17), (5, .own 0 e33.length), (7, .int .i64 y6849.Number), (10, .int .i64 x6878.1), (43, .sl (r26.1.map T_api_Line.d)), (44, .int .i64 (r26.1.length : Int)), (45, .int .i64 x99.2), (74, .sl (y6849.Fields.map T_api_Field.d)), (75, .int .i64 (y6849.Fields.length : Int)), (76, .int .i64 x6878.2)], heapL [(0, .vec 3 1 (e33.map (D.int .i64)) false)], 1, 156⟩) (fun w => match w with | Sum.inl _ => .ret | Sum.inr (_) => .exit 4) (fun w => match w with | Sum.inl e6879 => ⟨envL [(2, .bool false)], heapL [], 0, 156⟩ | Sum.inr (e6879) => ⟨envL [(0, .str z17), (5, .own 0 e33.length), (7, .int .i64 y6849.Number), (43, .sl (r26.1.map T_api_Line.d)), (44, .int .i64 (r26.1.length : Int)), (45, .int .i64 x99.2)], heapL [(0, .vec 3 1 (e33.map (D.int .i64)) false)], 1, 156⟩) h8190 (Wk.of (fun i => if i = 0 then some 0 else some i) _ _ _ (by simp -implicitDefEqProofs [kv, dd_GF, k9, k5498, k6859]) (by simp -implicitDefEqProofs [kv, dd_GF, k9, k5498, k6859])) (by intro w; rcases w with w | w <;> simp) ?_ ?_
              · clear h
                intro x6878 y h
                unfold g_law07_LinesColumns_s3 at h
                refine rb_seq ?_
                refine rb_regionK fun K7761 hK7761 => ?_
                simp -implicitDefEqProofs only [vt, ↓atI_fold, forall_const, implies_true, sevalprocAttr, dd_GF, k9, h19, h20, h21, k5498, h6850, k6859, h6873, h6874, h6875]
                subst hK7761
                refine eb_seq ?_
                refine rb_seq ?_
                rcases ite_or h with ⟨k7763, h⟩ | ⟨k7763, h⟩
                · refine rb_true (by first | exact congrArg D.bool k7763 | rfl) ?_
                  refine rb_skip ?_
                  refine eb_seq ?_
                  refine rb_seq ?_
                  refine rb_block ?_
                  refine rb_seq ?_
                  refine rb_regionK fun K7979 hK7979 => ?_
                  simp -implicitDefEqProofs only [vt, ↓atI_fold, forall_const, implies_true, sevalprocAttr, dd_GF, k9, h19, h20, h21, k5498, h6850, k6859, h6873, h6874, h6875, k7763]
                  obtain ⟨y7980, h7981, h⟩ := bind_some h
                  simp -implicitDefEqProofs only [vt, ↓atI_fold, forall_const, implies_true, sevalprocAttr, dd_GF, k9, h19, h20, h21, k5498, h6850, k6859, h6873, h6874, h6875, k7763, h7981]
                  subst hK7979
                  refine eb_seq ?_
                  refine rb_seq ?_
                  refine rb_drawK hI (by kernel_rfl) (by kernel_rfl) fun K7983 hK7983 => ?_
                  simp -implicitDefEqProofs only [vt, ↓atI_fold, forall_const, implies_true, sevalprocAttr, dd_GF, k9, h19, h20, h21, k5498, h6850, k6859, h6873, h6874, h6875, k7763, h7981]
                  subst hK7983
                  refine eb_seq ?_
                  refine rb_seq ?_
                  obtain ⟨v7990, h7997, h⟩ := bind_some h
                  refine rb_cut (fun v7990 => ⟨envL [(0, .str z17), (5, .own 0 e33.length), (7, .int .i64 y6849.Number), (10, .int .i64 x6878.1), (12, .ptr 1 0), (13, .int .i64 (IntKind.i64.wrap ((IntKind.i64.wrap (y6871 + y7980.Column)) - 1))), (43, .sl (r26.1.map T_api_Line.d)), (44, .int .i64 (r26.1.length : Int)), (45, .int .i64 x99.2), (74, .sl (y6849.Fields.map T_api_Field.d)), (75, .int .i64 (y6849.Fields.length : Int)), (76, .int .i64 x6878.2), (107, .bool v7990)], heapL [(0, .vec 3 1 (e33.map (D.int .i64)) false), (1, .box [.str y7980.Text, .int .i64 y7980.Column, .bool y7980.Quoted])], 2, 156⟩) h7997 ?_ ?_
                  · clear h
                    intro v7990 h
                    refine rb_regionK fun K7991 hK7991 => ?_
                    simp -implicitDefEqProofs only [vt, ↓atI_fold, forall_const, implies_true, sevalprocAttr, dd_GF, k9, h19, h20, h21, k5498, h6850, k6859, h6873, h6874, h6875, k7763, h7981]
                    rcases ite_or h with ⟨k7992, h⟩ | ⟨k7992, h⟩
                    · simp -implicitDefEqProofs only [vt, ↓atI_fold, forall_const, implies_true, sevalprocAttr, dd_GF, k9, h19, h20, h21, k5498, h6850, k6859, h6873, h6874, h6875, k7763, h7981, k7992]
                      subst hK7991
                      obtain rfl := Option.some.inj h
                      exact eb_nil ⟨rfl, Wk.of (fun i => if i = 1 then some 4 else if i = 0 then some 0 else some i) _ _ _ (by simp -implicitDefEqProofs [kv, dd_GF, k9, k5498, k6859, k7763, k7992]) (by simp -implicitDefEqProofs [kv, dd_GF, k9, k5498, k6859, k7763, k7992])⟩
                    · simp -implicitDefEqProofs only [vt, ↓atI_fold, forall_const, implies_true, sevalprocAttr, dd_GF, k9, h19, h20, h21, k5498, h6850, k6859, h6873, h6874, h6875, k7763, h7981, k7992]
                      rcases ite_or h with ⟨k7993, h⟩ | ⟨k7993, h⟩
                      · simp -implicitDefEqProofs only [vt, ↓atI_fold, forall_const, implies_true, sevalprocAttr, dd_GF, k9, h19, h20, h21, k5498, h6850, k6859, h6873, h6874, h6875, k7763, h7981, k7992, k7993]
                        rcases ite_or h with ⟨k7994, h⟩ | ⟨k7994, h⟩
                        · simp -implicitDefEqProofs only [vt, ↓atI_fold, forall_const, implies_true, sevalprocAttr, dd_GF, k9, h19, h20, h21, k5498, h6850, k6859, h6873, h6874, h6875, k7763, h7981, k7992, k7993, k7994]
                          subst hK7991
                          obtain rfl := Option.some.inj h
                          exact eb_nil ⟨rfl, Wk.of (fun i => if i = 1 then some 4 else if i = 0 then some 0 else some i) _ _ _ (by simp -implicitDefEqProofs [kv, dd_GF, k9, k5498, k6859, k7763, k7992, k7993, k7994]) (by simp -implicitDefEqProofs [kv, dd_GF, k9, k5498, k6859, k7763, k7992, k7993, k7994])⟩
                        · simp -implicitDefEqProofs only [vt, ↓atI_fold, forall_const, implies_true, sevalprocAttr, dd_GF, k9, h19, h20, h21, k5498, h6850, k6859, h6873, h6874, h6875, k7763, h7981, k7992, k7993, k7994]
                          obtain ⟨b7995, h7996, h⟩ := bind_some h
                          simp -implicitDefEqProofs only [vt, ↓atI_fold, forall_const, implies_true, sevalprocAttr, dd_GF, k9, h19, h20, h21, k5498, h6850, k6859, h6873, h6874, h6875, k7763, h7981, k7992, k7993, k7994, h7996]
                          subst hK7991
                          obtain rfl := Option.some.inj h
                          exact eb_nil ⟨rfl, Wk.of (fun i => if i = 1 then some 4 else if i = 0 then some 0 else some i) _ _ _ (by simp -implicitDefEqProofs [kv, dd_GF, k9, k5498, k6859, k7763, k7992, k7993, k7994]) (by simp -implicitDefEqProofs [kv, dd_GF, k9, k5498, k6859, k7763, k7992, k7993, k7994])⟩
                      · simp -implicitDefEqProofs only [vt, ↓atI_fold, forall_const, implies_true, sevalprocAttr, dd_GF, k9, h19, h20, h21, k5498, h6850, k6859, h6873, h6874, h6875, k7763, h7981, k7992, k7993]
                        subst hK7991
                        obtain rfl := Option.some.inj h
                        exact eb_nil ⟨rfl, Wk.of (fun i => if i = 1 then some 4 else if i = 0 then some 0 else some i) _ _ _ (by simp -implicitDefEqProofs [kv, dd_GF, k9, k5498, k6859, k7763, k7992, k7993]) (by simp -implicitDefEqProofs [kv, dd_GF, k9, k5498, k6859, k7763, k7992, k7993])⟩
                  · rcases ite_or h with ⟨k7998, h⟩ | ⟨k7998, h⟩
                    · refine rb_true (by first | exact congrArg D.bool k7998 | rfl) ?_
                      refine rb_seq ?_
                      refine rb_regionK fun K8000 hK8000 => ?_
                      simp -implicitDefEqProofs only [vt, ↓atI_fold, forall_const, implies_true, sevalprocAttr, dd_GF, k9, h19, h20, h21, k5498, h6850, k6859, h6873, h6874, h6875, k7763, h7981, k7998]
                      subst hK8000
                      refine eb_seq ?_
                      refine rb_ret ?_
                      refine eb_seq_r ?_
                      refine eb_blk_r ?_
                      refine eb_seq_r ?_
                      obtain rfl := Option.some.inj h
                      exact eb_nil ⟨rfl, Wk.of (fun i => some i) _ _ _ (by simp -implicitDefEqProofs [kv, dd_GF, k9, k5498, k6859, k7763, k7998]) (by simp -implicitDefEqProofs [kv, dd_GF, k9, k5498, k6859, k7763, k7998])⟩
                    · refine rb_false (by first | exact congrArg D.bool k7998 | rfl) ?_
                      refine rb_skip ?_
                      refine eb_seq ?_
                      refine rb_seq ?_
                      refine rb_seq ?_
                      refine rb_regionK fun K8002 hK8002 => ?_
                      simp -implicitDefEqProofs only [vt, ↓atI_fold, forall_const, implies_true, sevalprocAttr, dd_GF, k9, h19, h20, h21, k5498, h6850, k6859, h6873, h6874, h6875, k7763, h7981, k7998]
                      subst hK8002
                      refine eb_seq ?_
                      refine rb_block ?_
                      obtain ⟨e8004, h8071, h⟩ := bind_some h
                      refine rb_loop (fun x8003 => ⟨envL [(0, .str z17), (5, .own 0 e33.length), (7, .int .i64 y6849.Number), (12, .ptr 1 0), (13, .int .i64 (IntKind.i64.wrap ((IntKind.i64.wrap (y6871 + y7980.Column)) - 1))), (14, .int .i64 x8003), (43, .sl (r26.1.map T_api_Line.d)), (44, .int .i64 (r26.1.length : Int)), (45, .int .i64 x99.2), (74, .sl (y6849.Fields.map T_api_Field.d)), (75, .int .i64 (y6849.Fields.length : Int)), (76, .int .i64 x6878.2)], heapL [(0, .vec 3 1 (e33.map (D.int .i64)) false), (1, .box [.str y7980.Text, .int .i64 y7980.Column, .bool y7980.Quoted])], 2, 156⟩) (fun w => match w with | Sum.inl _ => .ret | Sum.inr (_) => .exit 6) (fun w => match w with | Sum.inl e8004 => ⟨envL [(2, .bool false)], heapL [], 0, 156⟩ | Sum.inr (e8004) => ⟨envL [(0, .str z17), (5, .own 0 e33.length), (7, .int .i64 y6849.Number), (12, .ptr 1 0), (13, .int .i64 (IntKind.i64.wrap ((IntKind.i64.wrap (y6871 + y7980.Column)) - 1))), (43, .sl (r26.1.map T_api_Line.d)), (44, .int .i64 (r26.1.length : Int)), (45, .int .i64 x99.2), (74, .sl (y6849.Fields.map T_api_Field.d)), (75, .int .i64 (y6849.Fields.length : Int)), (76, .int .i64 x6878.2)], heapL [(0, .vec 3 1 (e33.map (D.int .i64)) false), (1, .box [.str y7980.Text, .int .i64 y7980.Column, .bool y7980.Quoted])], 2, 156⟩) h8071 (Wk.of (fun i => if i = 1 then some 1 else if i = 0 then some 0 else some i) _ _ _ (by simp -implicitDefEqProofs [kv, dd_GF, k9, k5498, k6859, k7763, k7998]) (by simp -implicitDefEqProofs [kv, dd_GF, k9, k5498, k6859, k7763, k7998])) (by intro w; rcases w with w | w <;> simp) ?_ ?_
                      · clear h
                        intro x8003 y h
                        unfold g_law07_LinesColumns_s4 at h
                        refine rb_seq ?_
                        refine rb_seq ?_
                        refine rb_regionK fun K8050 hK8050 => ?_
                        simp -implicitDefEqProofs only [vt, ↓atI_fold, forall_const, implies_true, sevalprocAttr, dd_GF, k9, h19, h20, h21, k5498, h6850, k6859, h6873, h6874, h6875, k7763, h7981, k7998]
                        subst hK8050
                        refine eb_seq ?_
                        rcases ite_or h with ⟨k8051, h⟩ | ⟨k8051, h⟩
                        · refine rb_true (by first | exact congrArg D.bool k8051 | rfl) ?_
                          refine rb_skip ?_
                          refine eb_seq ?_
                          refine rb_seq ?_
                          refine rb_block ?_
                          refine rb_seq ?_
                          refine rb_regionK fun K8064 hK8064 => ?_
                          simp -implicitDefEqProofs only [vt, ↓atI_fold, forall_const, implies_true, sevalprocAttr, dd_GF, k9, h19, h20, h21, k5498, h6850, k6859, h6873, h6874, h6875, k7763, h7981, k7998, k8051]
                          obtain ⟨b8065, h8066, h⟩ := bind_some h
                          simp -implicitDefEqProofs only [vt, ↓atI_fold, forall_const, implies_true, sevalprocAttr, dd_GF, k9, h19, h20, h21, k5498, h6850, k6859, h6873, h6874, h6875, k7763, h7981, k7998, k8051, h8066]
                          subst hK8064
                          refine eb_seq ?_
                          rcases ite_or h with ⟨k8067, h⟩ | ⟨k8067, h⟩
                          · refine rb_true (by first | exact congrArg D.bool k8067 | rfl) ?_
                            refine rb_seq ?_
                            refine rb_regionK fun K8069 hK8069 => ?_
                            simp -implicitDefEqProofs only [vt, ↓atI_fold, forall_const, implies_true, sevalprocAttr, dd_GF, k9, h19, h20, h21, k5498, h6850, k6859, h6873, h6874, h6875, k7763, h7981, k7998, k8051, h8066, k8067]
                            subst hK8069
                            refine eb_seq ?_
                            refine rb_ret ?_
                            refine eb_blk_r ?_
                            refine eb_seq_r ?_
                            obtain rfl := Option.some.inj h
                            exact eb_nil ⟨rfl, Wk.of (fun i => some i) _ _ _ (by simp -implicitDefEqProofs [kv, dd_GF, k9, k5498, k6859, k7763, k7998, k8051, k8067]) (by simp -implicitDefEqProofs [kv, dd_GF, k9, k5498, k6859, k7763, k7998, k8051, k8067])⟩
                          · refine rb_false (by first | exact congrArg D.bool k8067 | rfl) ?_
                            refine rb_skip ?_
                            refine eb_blk_n ?_
                            refine eb_seq ?_
                            refine rb_regionK fun K8070 hK8070 => ?_
                            simp -implicitDefEqProofs only [vt, ↓atI_fold, forall_const, implies_true, sevalprocAttr, dd_GF, k9, h19, h20, h21, k5498, h6850, k6859, h6873, h6874, h6875, k7763, h7981, k7998, k8051, h8066, k8067]
                            subst hK8070
                            obtain rfl := Option.some.inj h
                            exact eb_nil ⟨rfl, Wk.of (fun i => if i = 1 then some 1 else if i = 0 then some 0 else some i) _ _ _ (by simp -implicitDefEqProofs [kv, dd_GF, k9, k5498, k6859, k7763, k7998, k8051, k8067]) (by simp -implicitDefEqProofs [kv, dd_GF, k9, k5498, k6859, k7763, k7998, k8051, k8067])⟩
                        · refine rb_false (by first | exact congrArg D.bool k8051 | rfl) ?_
                          refine rb_exit ?_
                          refine eb_seq_e ?_
                          obtain rfl := Option.some.inj h
                          exact eb_nil ⟨rfl, Wk.of (fun i => if i = 1 then some 1 else if i = 0 then some 0 else some i) _ _ _ (by simp -implicitDefEqProofs [kv, dd_GF, k9, k5498, k6859, k7763, k7998, k8051]) (by simp -implicitDefEqProofs [kv, dd_GF, k9, k5498, k6859, k7763, k7998, k8051])⟩
                      · rcases e8004 with e8004 | e8004
                        · try dsimp only at h ⊢
                          refine eb_blk_r ?_
                          refine eb_seq_r ?_
                          refine eb_blk_r ?_
                          refine eb_seq_r ?_
                          obtain rfl := Option.some.inj h
                          exact eb_nil ⟨rfl, Wk.of (fun i => some i) _ _ _ (by simp -implicitDefEqProofs [kv, dd_GF, k9, k5498, k6859, k7763, k7998]) (by simp -implicitDefEqProofs [kv, dd_GF, k9, k5498, k6859, k7763, k7998])⟩
                        · try dsimp only at h ⊢
                          refine eb_blk_hit ?_
                          refine eb_seq ?_
                          refine rb_seq ?_
                          refine rb_regionK fun K8073 hK8073 => ?_
                          simp -implicitDefEqProofs only [vt, ↓atI_fold, forall_const, implies_true, sevalprocAttr, dd_GF, k9, h19, h20, h21, k5498, h6850, k6859, h6873, h6874, h6875, k7763, h7981, k7998]
                          subst hK8073
                          refine eb_seq ?_
                          refine rb_seq ?_
                          refine rb_seq ?_
                          refine rb_regionK fun K8075 hK8075 => ?_
                          simp -implicitDefEqProofs only [vt, ↓atI_fold, forall_const, implies_true, sevalprocAttr, dd_GF, k9, h19, h20, h21, k5498, h6850, k6859, h6873, h6874, h6875, k7763, h7981, k7998]
                          subst hK8075
                          refine eb_seq ?_
                          rcases ite_or h with ⟨k8076, h⟩ | ⟨k8076, h⟩
                          · refine rb_true (by first | exact congrArg D.bool k8076 | rfl) ?_
                            refine rb_seq ?_
                            refine rb_block ?_
                            obtain ⟨e8120, h8160, h⟩ := bind_some h
                            refine rb_loop (fun x8119 => ⟨envL [(0, .str z17), (5, .own 0 e33.length), (7, .int .i64 y6849.Number), (10, .int .i64 x8119), (43, .sl (r26.1.map T_api_Line.d)), (44, .int .i64 (r26.1.length : Int)), (45, .int .i64 x99.2), (74, .sl (y6849.Fields.map T_api_Field.d)), (75, .int .i64 (y6849.Fields.length : Int)), (76, .int .i64 x6878.2)], heapL [(0, .vec 3 1 (e33.map (D.int .i64)) false)], 1, 156⟩) (fun _ => .exit 8) (fun e8120 => ⟨envL [(0, .str z17), (5, .own 0 e33.length), (7, .int .i64 y6849.Number), (10, .int .i64 e8120), (43, .sl (r26.1.map T_api_Line.d)), (44, .int .i64 (r26.1.length : Int)), (45, .int .i64 x99.2), (74, .sl (y6849.Fields.map T_api_Field.d)), (75, .int .i64 (y6849.Fields.length : Int)), (76, .int .i64 x6878.2)], heapL [(0, .vec 3 1 (e33.map (D.int .i64)) false)], 1, 156⟩) h8160 (Wk.of (fun i => if i = 0 then some 0 else some i) _ _ _ (by simp -implicitDefEqProofs [kv, dd_GF, k9, k5498, k6859, k7763, k7998, k8076]) (by simp -implicitDefEqProofs [kv, dd_GF, k9, k5498, k6859, k7763, k7998, k8076])) (by intro w; simp) ?_ ?_
                            · clear h
                              intro x8119 y h
                              unfold g_law07_LinesColumns_s5 at h
                              refine rb_seq ?_
                              refine rb_seq ?_
                              refine rb_regionK fun K8150 hK8150 => ?_
                              simp -implicitDefEqProofs only [vt, ↓atI_fold, forall_const, implies_true, sevalprocAttr, dd_GF, k9, h19, h20, h21, k5498, h6850, k6859, h6873, h6874, h6875, k7763, h7981, k7998, k8076]
                              obtain ⟨b8151, h8152, h⟩ := bind_some h
                              simp -implicitDefEqProofs only [vt, ↓atI_fold, forall_const, implies_true, sevalprocAttr, dd_GF, k9, h19, h20, h21, k5498, h6850, k6859, h6873, h6874, h6875, k7763, h7981, k7998, k8076, h8152]
                              subst hK8150
                              refine eb_seq ?_
                              rcases ite_or h with ⟨k8153, h⟩ | ⟨k8153, h⟩
                              · refine rb_true (by first | exact congrArg D.bool k8153 | rfl) ?_
                                refine rb_skip ?_
                                refine eb_seq ?_
                                refine rb_block ?_
                                refine rb_seq ?_
                                refine rb_seq ?_
                                refine rb_regionK fun K8155 hK8155 => ?_
                                simp -implicitDefEqProofs only [vt, ↓atI_fold, forall_const, implies_true, sevalprocAttr, dd_GF, k9, h19, h20, h21, k5498, h6850, k6859, h6873, h6874, h6875, k7763, h7981, k7998, k8076, h8152, k8153]
                                subst hK8155
                                refine eb_seq ?_
                                rcases ite_or h with ⟨k8156, h⟩ | ⟨k8156, h⟩
                                · refine rb_true (by first | exact congrArg D.bool k8156 | rfl) ?_
                                  refine rb_regionK fun K8157 hK8157 => ?_
                                  simp -implicitDefEqProofs only [vt, ↓atI_fold, forall_const, implies_true, sevalprocAttr, dd_GF, k9, h19, h20, h21, k5498, h6850, k6859, h6873, h6874, h6875, k7763, h7981, k7998, k8076, h8152, k8153, k8156]
                                  subst hK8157
                                  refine eb_seq ?_
                                  refine rb_regionK fun K8158 hK8158 => ?_
                                  simp -implicitDefEqProofs only [vt, ↓atI_fold, forall_const, implies_true, sevalprocAttr, dd_GF, k9, h19, h20, h21, k5498, h6850, k6859, h6873, h6874, h6875, k7763, h7981, k7998, k8076, h8152, k8153, k8156]
                                  subst hK8158
                                  refine eb_blk_n ?_
                                  obtain rfl := Option.some.inj h
                                  exact eb_nil ⟨rfl, Wk.of (fun i => if i = 0 then some 0 else some i) _ _ _ (by simp -implicitDefEqProofs [kv, dd_GF, k9, k5498, k6859, k7763, k7998, k8076, k8153, k8156]) (by simp -implicitDefEqProofs [kv, dd_GF, k9, k5498, k6859, k7763, k7998, k8076, k8153, k8156])⟩
                                · refine rb_false (by first | exact congrArg D.bool k8156 | rfl) ?_
                                  refine rb_skip ?_
                                  refine eb_seq ?_
                                  refine rb_regionK fun K8159 hK8159 => ?_
                                  simp -implicitDefEqProofs only [vt, ↓atI_fold, forall_const, implies_true, sevalprocAttr, dd_GF, k9, h19, h20, h21, k5498, h6850, k6859, h6873, h6874, h6875, k7763, h7981, k7998, k8076, h8152, k8153, k8156]
                                  subst hK8159
                                  refine eb_blk_n ?_
                                  obtain rfl := Option.some.inj h
                                  exact eb_nil ⟨rfl, Wk.of (fun i => if i = 0 then some 0 else some i) _ _ _ (by simp -implicitDefEqProofs [kv, dd_GF, k9, k5498, k6859, k7763, k7998, k8076, k8153, k8156]) (by simp -implicitDefEqProofs [kv, dd_GF, k9, k5498, k6859, k7763, k7998, k8076, k8153, k8156])⟩
                              · refine rb_false (by first | exact congrArg D.bool k8153 | rfl) ?_
                                refine rb_exit ?_
                                refine eb_seq_e ?_
                                obtain rfl := Option.some.inj h
                                exact eb_nil ⟨rfl, Wk.of (fun i => if i = 0 then some 0 else some i) _ _ _ (by simp -implicitDefEqProofs [kv, dd_GF, k9, k5498, k6859, k7763, k7998, k8076, k8153]) (by simp -implicitDefEqProofs [kv, dd_GF, k9, k5498, k6859, k7763, k7998, k8076, k8153])⟩
                            · refine eb_blk_hit ?_
                              refine eb_seq ?_
                              refine rb_seq ?_
                              refine rb_regionK fun K8162 hK8162 => ?_
                              simp -implicitDefEqProofs only [vt, ↓atI_fold, forall_const, implies_true, sevalprocAttr, dd_GF, k9, h19, h20, h21, k5498, h6850, k6859, h6873, h6874, h6875, k7763, h7981, k7998, k8076]
                              subst hK8162
                              refine eb_seq ?_
                              refine rb_exit ?_
                              refine eb_seq_e ?_
                              refine eb_blk_hit ?_
                              refine eb_seq ?_
                              refine rb_regionK fun K8163 hK8163 => ?_
                              simp -implicitDefEqProofs only [vt, ↓atI_fold, forall_const, implies_true, sevalprocAttr, dd_GF, k9, h19, h20, h21, k5498, h6850, k6859, h6873, h6874, h6875, k7763, h7981, k7998, k8076]
                              subst hK8163
                              obtain rfl := Option.some.inj h
                              exact eb_nil ⟨rfl, Wk.of (fun i => if i = 0 then some 0 else some i) _ _ _ (by simp -implicitDefEqProofs [kv, dd_GF, k9, k5498, k6859, k7763, k7998, k8076]) (by simp -implicitDefEqProofs [kv, dd_GF, k9, k5498, k6859, k7763, k7998, k8076])⟩
                          · refine rb_false (by first | exact congrArg D.bool k8076 | rfl) ?_
                            refine rb_skip ?_
                            refine eb_seq ?_
                            refine rb_seq ?_
                            refine rb_regionK fun K8165 hK8165 => ?_
                            simp -implicitDefEqProofs only [vt, ↓atI_fold, forall_const, implies_true, sevalprocAttr, dd_GF, k9, h19, h20, h21, k5498, h6850, k6859, h6873, h6874, h6875, k7763, h7981, k7998, k8076]
                            subst hK8165
                            refine eb_seq ?_
                            refine rb_seq ?_
                            refine rb_drawK hI (by kernel_rfl) (by kernel_rfl) fun K8175 hK8175 => ?_
                            simp -implicitDefEqProofs only [vt, ↓atI_fold, forall_const, implies_true, sevalprocAttr, dd_GF, k9, h19, h20, h21, k5498, h6850, k6859, h6873, h6874, h6875, k7763, h7981, k7998, k8076]
                            rcases ite_or h with ⟨k8176, h⟩ | ⟨k8176, h⟩
                            · simp -implicitDefEqProofs only [vt, ↓atI_fold, forall_const, implies_true, sevalprocAttr, dd_GF, k9, h19, h20, h21, k5498, h6850, k6859, h6873, h6874, h6875, k7763, h7981, k7998, k8076, k8176]
                              subst hK8175
                              refine eb_seq ?_
                              refine rb_true (rfl) ?_
                              refine rb_seq ?_
                              refine rb_regionK fun K8178 hK8178 => ?_
                              simp -implicitDefEqProofs only [vt, ↓atI_fold, forall_const, implies_true, sevalprocAttr, dd_GF, k9, h19, h20, h21, k5498, h6850, k6859, h6873, h6874, h6875, k7763, h7981, k7998, k8076, k8176]
                              subst hK8178
                              refine eb_seq ?_
                              refine rb_ret ?_
                              refine eb_blk_r ?_
                              refine eb_seq_r ?_
                              obtain rfl := Option.some.inj h
                              exact eb_nil ⟨rfl, Wk.of (fun i => some i) _ _ _ (by simp -implicitDefEqProofs [kv, dd_GF, k9, k5498, k6859, k7763, k7998, k8076, k8176]) (by simp -implicitDefEqProofs [kv, dd_GF, k9, k5498, k6859, k7763, k7998, k8076, k8176])⟩
                            · simp -implicitDefEqProofs only [vt, ↓atI_fold, forall_const, implies_true, sevalprocAttr, dd_GF, k9, h19, h20, h21, k5498, h6850, k6859, h6873, h6874, h6875, k7763, h7981, k7998, k8076, k8176]
                              obtain ⟨z8179, h8180, h⟩ := bind_some h
                              obtain ⟨⟨h8181, h8182, h8183, h8184⟩, h8185⟩ := subI_some h8180
                              try simp -implicitDefEqProofs only [vt, ↓atI_fold, forall_const, implies_true, sevalprocAttr, dd_GF, k9, h19, h20, h21, k5498, h6850, k6859, h6873, h6874, h6875, k7763, h7981, k7998, k8076, k8176, h8181, h8182, h8183, h8184] at h8185
                              simp -implicitDefEqProofs only [vt, ↓atI_fold, forall_const, implies_true, sevalprocAttr, dd_GF, k9, h19, h20, h21, k5498, h6850, k6859, h6873, h6874, h6875, k7763, h7981, k7998, k8076, k8176, h8181, h8182, h8183, h8184, h8185]
                              subst hK8175
                              refine eb_seq ?_
                              rcases ite_or h with ⟨k8186, h⟩ | ⟨k8186, h⟩
                              · refine rb_false (by first | exact congrArg D.bool (congrArg Bool.not k8186) | rfl) ?_
                                refine rb_skip ?_
                                refine eb_blk_n ?_
                                refine eb_seq ?_
                                refine rb_regionK fun K8187 hK8187 => ?_
                                simp -implicitDefEqProofs only [vt, ↓atI_fold, forall_const, implies_true, sevalprocAttr, dd_GF, k9, h19, h20, h21, k5498, h6850, k6859, h6873, h6874, h6875, k7763, h7981, k7998, k8076, k8176, h8181, h8182, h8183, h8184, h8185, k8186]
                                subst hK8187
                                obtain rfl := Option.some.inj h
                                exact eb_nil ⟨rfl, Wk.of (fun i => if i = 0 then some 0 else some i) _ _ _ (by simp -implicitDefEqProofs [kv, dd_GF, k9, k5498, k6859, k7763, k7998, k8076, k8176, k8186]) (by simp -implicitDefEqProofs [kv, dd_GF, k9, k5498, k6859, k7763, k7998, k8076, k8176, k8186])⟩
                              · refine rb_true (by first | exact congrArg D.bool (congrArg Bool.not k8186) | rfl) ?_
                                refine rb_seq ?_
                                refine rb_regionK fun K8189 hK8189 => ?_
                                simp -implicitDefEqProofs only [vt, ↓atI_fold, forall_const, implies_true, sevalprocAttr, dd_GF, k9, h19, h20, h21, k5498, h6850, k6859, h6873, h6874, h6875, k7763, h7981, k7998, k8076, k8176, h8181, h8182, h8183, h8184, h8185, k8186]
                                subst hK8189
                                refine eb_seq ?_
                                refine rb_ret ?_
                                refine eb_blk_r ?_
                                refine eb_seq_r ?_
                                obtain rfl := Option.some.inj h
                                exact eb_nil ⟨rfl, Wk.of (fun i => some i) _ _ _ (by simp -implicitDefEqProofs [kv, dd_GF, k9, k5498, k6859, k7763, k7998, k8076, k8176, k8186]) (by simp -implicitDefEqProofs [kv, dd_GF, k9, k5498, k6859, k7763, k7998, k8076, k8176, k8186])⟩
                · refine rb_false (by first | exact congrArg D.bool k7763 | rfl) ?_
                  refine rb_exit ?_
                  refine eb_seq_e ?_
                  obtain rfl := Option.some.inj h
                  exact eb_nil ⟨rfl, Wk.of (fun i => if i = 0 then some 0 else some i) _ _ _ (by simp -implicitDefEqProofs [kv, dd_GF, k9, k5498, k6859, k7763]) (by simp -implicitDefEqProofs [kv, dd_GF, k9, k5498, k6859, k7763])⟩
              · rcases e6879 with e6879 | e6879
                · try dsimp only at h ⊢
                  refine eb_blk_r ?_
                  refine eb_blk_r ?_
                  refine eb_seq_r ?_
                  obtain rfl := Option.some.inj h
                  exact eb_nil ⟨rfl, Wk.of (fun i => some i) _ _ _ (by simp -implicitDefEqProofs [kv, dd_GF, k9, k5498, k6859]) (by simp -implicitDefEqProofs [kv, dd_GF, k9, k5498, k6859])⟩
                · try dsimp only at h ⊢
                  refine eb_blk_hit ?_
                  refine eb_blk_n ?_
                  refine eb_seq ?_
                  refine rb_regionK fun K8191 hK8191 => ?_
                  simp -implicitDefEqProofs only [vt, ↓atI_fold, forall_const, implies_true, sevalprocAttr, dd_GF, k9, h19, h20, h21, k5498, h6850, k6859, h6873, h6874, h6875]
                  subst hK8191
                  obtain rfl := Option.some.inj h
                  exact eb_nil ⟨rfl, Wk.of (fun i => if i = 0 then some 0 else some i) _ _ _ (by simp -implicitDefEqProofs [kv, dd_GF, k9, k5498, k6859]) (by simp -implicitDefEqProofs [kv, dd_GF, k9, k5498, k6859])⟩
        · refine rb_false (by first | exact congrArg D.bool k5498 | rfl) ?_
          refine rb_exit ?_
          refine eb_seq_e ?_
          obtain rfl := Option.some.inj h
          exact eb_nil ⟨rfl, Wk.of (fun i => some i) _ _ _ (by simp -implicitDefEqProofs [kv, dd_GF, k9, k5498]) (by simp -implicitDefEqProofs [kv, dd_GF, k9, k5498])⟩
      · rcases e100 with e100 | e100
        · try dsimp only at h ⊢
          refine eb_blk_r ?_
          refine eb_seq_r ?_
          obtain rfl := Option.some.inj h
          refine eb_nil ?_
          simp -implicitDefEqProofs only [vt, ↓atI_fold, forall_const, implies_true, sevalprocAttr, retQ_r, Tryd.results12, dd_GF, k9, h19, h20, h21] <;> first | rfl | (simp [List.map_append, dd_GF]; done)
        · try dsimp only at h ⊢
          refine eb_blk_hit ?_
          refine eb_seq ?_
          refine rb_seq ?_
          refine rb_regionK fun K8194 hK8194 => ?_
          simp -implicitDefEqProofs only [vt, ↓atI_fold, forall_const, implies_true, sevalprocAttr, dd_GF, k9, h19, h20, h21]
          subst hK8194
          refine eb_seq ?_
          refine rb_ret ?_
          obtain rfl := Option.some.inj h
          refine eb_nil ?_
          simp -implicitDefEqProofs only [vt, ↓atI_fold, forall_const, implies_true, sevalprocAttr, retQ_r, Tryd.results12, dd_GF, k9, h19, h20, h21] <;> first | rfl | (simp [List.map_append, dd_GF]; done)
  · refine rb_true (by first | exact congrArg D.bool (congrArg Bool.not k9) | rfl) ?_
    refine rb_seq ?_
    refine rb_regionK fun K8196 hK8196 => ?_
    simp -implicitDefEqProofs only [vt, ↓atI_fold, forall_const, implies_true, sevalprocAttr, dd_GF, k9]
    subst hK8196
    refine eb_seq ?_
    refine rb_ret ?_
    refine eb_seq_r ?_
    obtain rfl := Option.some.inj h
    refine eb_nil ?_
    simp -implicitDefEqProofs only [vt, ↓atI_fold, forall_const, implies_true, sevalprocAttr, retQ_r, Tryd.results12, dd_GF, k9] <;> first | rfl | (simp [List.map_append, dd_GF]; done)
-- captionerlaw07.LinesNumbers
def g_law07_LinesNumbers (s_0 : List UInt8) (n_1 : Int) (hi_2 : Int) : Option (Bool) :=
  ((g_law07_awake).bind fun r7 => (if r7 then ((g_lines_Number s_0 n_1 hi_2).bind fun r14 => ((g_ref07_Number s_0 n_1 hi_2).bind fun r20 => ((((g_lines_Name s_0).bind fun r31 => ((g_ref07_Name s_0).bind fun r33 => (if (r31 == r33) then (if (r14.1 != r20.1) then (some true) else (some (r14.2 != r20.2))) else (some true)))) : Option (Bool)).bind fun v29 => (if v29 then (some false) else ((g_lines_Decimal n_1).bind fun r45 => ((g_lines_Number r45 n_1 n_1).bind fun r51 => (if 1 + r45.length ≤ 9223372036854775807 then ((g_lines_Number ([48] ++ r45) n_1 n_1).bind fun r61 => ((g_ref07_Decimal n_1).bind fun r70 => (if (r45 == r70) then (if (r51.1 == n_1) then (if (r51.2 == 0) then (some (r61.2 == 4)) else (some false)) else (some false)) else (some false)))) else none))))))) else (some false)))
theorem a_law07_LinesNumbers (I : World → Prop) (hI : Stab I) (hPIv : ∀ w, I w → PIv w) (hShp : ∀ w, I w → Shp w) (hTab : ∀ w, I w → Tab w) (s_0 : List UInt8) (n_1 : Int) (hi_2 : Int) {r : Bool} (h : g_law07_LinesNumbers s_0 n_1 hi_2 = some r) : AFun Tryd.prog I 14 [.str s_0, .int .i64 n_1, .int .i64 hi_2] (.bool r) := by
  refine AFun.enterB hI Tryd.func14 rfl (by decide) (by simp [Tryd.f14]) (by kernel_rfl) ?_
  unfold g_law07_LinesNumbers at h
  simp only [S0, Tryd.ntmps14, dd_GF]
  refine rb_seq ?_
  refine rb_regionK fun K2 hK2 => ?_
  simp -implicitDefEqProofs only [vt, ↓atI_fold, forall_const, implies_true, sevalprocAttr, dd_GF]
  subst hK2
  refine eb_seq ?_
  refine rb_seq ?_
  refine rb_seq ?_
  refine rb_regionK fun K6 hK6 => ?_
  simp -implicitDefEqProofs only [vt, ↓atI_fold, forall_const, implies_true, sevalprocAttr, dd_GF]
  obtain ⟨r7, h8, h⟩ := bind_some h
  refine cW.intro (a_law07_awake I hI hPIv hShp h8) (by first | rfl | (simp [List.map_append, dd_GF]; done)) ?_
  simp -implicitDefEqProofs only [vt, ↓atI_fold, forall_const, implies_true, sevalprocAttr, dd_GF]
  subst hK6
  refine eb_seq ?_
  rcases ite_or h with ⟨k9, h⟩ | ⟨k9, h⟩
  · refine rb_false (by first | exact congrArg D.bool (congrArg Bool.not k9) | rfl) ?_
    refine rb_skip ?_
    refine eb_seq ?_
    refine rb_seq ?_
    refine rb_regionK fun K13 hK13 => ?_
    simp -implicitDefEqProofs only [vt, ↓atI_fold, forall_const, implies_true, sevalprocAttr, dd_GF, k9]
    obtain ⟨r14, h15, h⟩ := bind_some h
    refine cW.intro (a_lines_Number I hI hPIv s_0 n_1 hi_2 h15) (by first | rfl | (simp [List.map_append, dd_GF]; done)) ?_
    simp -implicitDefEqProofs only [vt, ↓atI_fold, forall_const, implies_true, sevalprocAttr, dd_GF, k9]
    subst hK13
    refine eb_seq ?_
    refine rb_seq ?_
    refine rb_regionK fun K19 hK19 => ?_
    simp -implicitDefEqProofs only [vt, ↓atI_fold, forall_const, implies_true, sevalprocAttr, dd_GF, k9]
    obtain ⟨r20, h21, h⟩ := bind_some h
    refine cW.intro (a_ref07_Number I hI s_0 n_1 hi_2 h21) (by first | rfl | (simp [List.map_append, dd_GF]; done)) ?_
    simp -implicitDefEqProofs only [vt, ↓atI_fold, forall_const, implies_true, sevalprocAttr, dd_GF, k9]
    subst hK19
    refine eb_seq ?_
    refine rb_seq ?_
    obtain ⟨v29, h37, h⟩ := bind_some h
    refine rb_cut (fun v29 => ⟨envL [(1, .int .i64 n_1), (46, .bool v29)], heapL [], 0, 81⟩) h37 ?_ ?_
    · clear h
      intro v29 h
      refine rb_regionK fun K30 hK30 => ?_
      simp -implicitDefEqProofs only [vt, ↓atI_fold, forall_const, implies_true, sevalprocAttr, dd_GF, k9]
      obtain ⟨r31, h32, h⟩ := bind_some h
      refine cW.intro (a_lines_Name I hI s_0 h32) (by first | rfl | (simp [List.map_append, dd_GF]; done)) ?_
      simp -implicitDefEqProofs only [vt, ↓atI_fold, forall_const, implies_true, sevalprocAttr, dd_GF, k9]
      obtain ⟨r33, h34, h⟩ := bind_some h
      refine cW.intro (a_ref07_Name I hI s_0 h34) (by first | rfl | (simp [List.map_append, dd_GF]; done)) ?_
      simp -implicitDefEqProofs only [vt, ↓atI_fold, forall_const, implies_true, sevalprocAttr, dd_GF, k9]
      rcases ite_or h with ⟨k35, h⟩ | ⟨k35, h⟩
      · simp -implicitDefEqProofs only [vt, ↓atI_fold, forall_const, implies_true, sevalprocAttr, dd_GF, k9, k35]
        rcases ite_or h with ⟨k36, h⟩ | ⟨k36, h⟩
        · simp -implicitDefEqProofs only [vt, ↓atI_fold, forall_const, implies_true, sevalprocAttr, dd_GF, k9, k35, k36]
          subst hK30
          obtain rfl := Option.some.inj h
          exact eb_nil ⟨rfl, Wk.of (fun i => some i) _ _ _ (by simp -implicitDefEqProofs [kv, dd_GF, k9, k35, k36]) (by simp -implicitDefEqProofs [kv, dd_GF, k9, k35, k36])⟩
        · simp -implicitDefEqProofs only [vt, ↓atI_fold, forall_const, implies_true, sevalprocAttr, dd_GF, k9, k35, k36]
          subst hK30
          obtain rfl := Option.some.inj h
          exact eb_nil ⟨rfl, Wk.of (fun i => some i) _ _ _ (by simp -implicitDefEqProofs [kv, dd_GF, k9, k35, k36]) (by simp -implicitDefEqProofs [kv, dd_GF, k9, k35, k36])⟩
      · simp -implicitDefEqProofs only [vt, ↓atI_fold, forall_const, implies_true, sevalprocAttr, dd_GF, k9, k35]
        subst hK30
        obtain rfl := Option.some.inj h
        exact eb_nil ⟨rfl, Wk.of (fun i => some i) _ _ _ (by simp -implicitDefEqProofs [kv, dd_GF, k9, k35]) (by simp -implicitDefEqProofs [kv, dd_GF, k9, k35])⟩
    · rcases ite_or h with ⟨k38, h⟩ | ⟨k38, h⟩
      · refine rb_true (by first | exact congrArg D.bool k38 | rfl) ?_
        refine rb_seq ?_
        refine rb_regionK fun K40 hK40 => ?_
        simp -implicitDefEqProofs only [vt, ↓atI_fold, forall_const, implies_true, sevalprocAttr, dd_GF, k9, k38]
        subst hK40
        refine eb_seq ?_
        refine rb_ret ?_
        refine eb_seq_r ?_
        obtain rfl := Option.some.inj h
        refine eb_nil ?_
        simp -implicitDefEqProofs only [vt, ↓atI_fold, forall_const, implies_true, sevalprocAttr, retQ_r, Tryd.results14, dd_GF, k9, k38] <;> first | rfl | (simp [List.map_append, dd_GF]; done)
      · refine rb_false (by first | exact congrArg D.bool k38 | rfl) ?_
        refine rb_skip ?_
        refine eb_seq ?_
        refine rb_seq ?_
        refine rb_regionK fun K44 hK44 => ?_
        simp -implicitDefEqProofs only [vt, ↓atI_fold, forall_const, implies_true, sevalprocAttr, dd_GF, k9, k38]
        obtain ⟨r45, h46, h⟩ := bind_some h
        refine cW.intro (a_lines_Decimal I hI hTab n_1 h46) (by first | rfl | (simp [List.map_append, dd_GF]; done)) ?_
        simp -implicitDefEqProofs only [vt, ↓atI_fold, forall_const, implies_true, sevalprocAttr, dd_GF, k9, k38]
        subst hK44
        refine eb_seq ?_
        refine rb_seq ?_
        refine rb_regionK fun K50 hK50 => ?_
        simp -implicitDefEqProofs only [vt, ↓atI_fold, forall_const, implies_true, sevalprocAttr, dd_GF, k9, k38]
        obtain ⟨r51, h52, h⟩ := bind_some h
        refine cW.intro (a_lines_Number I hI hPIv r45 n_1 n_1 h52) (by first | rfl | (simp [List.map_append, dd_GF]; done)) ?_
        simp -implicitDefEqProofs only [vt, ↓atI_fold, forall_const, implies_true, sevalprocAttr, dd_GF, k9, k38]
        subst hK50
        refine eb_seq ?_
        refine rb_seq ?_
        refine rb_regionK fun K58 hK58 => ?_
        simp -implicitDefEqProofs only [vt, ↓atI_fold, forall_const, implies_true, sevalprocAttr, dd_GF, k9, k38]
        obtain ⟨h59, h⟩ := ite_on h
        have h60 : ([48] : List UInt8).length + r45.length ≤ 9223372036854775807 := by (try simp only [List.length_append, List.length_cons, List.length_nil]); omega
        try simp -implicitDefEqProofs only [vt, ↓atI_fold, forall_const, implies_true, sevalprocAttr, dd_GF, k9, k38] at h60
        simp -implicitDefEqProofs only [vt, ↓atI_fold, forall_const, implies_true, sevalprocAttr, dd_GF, k9, k38, h60, h59]
        obtain ⟨r61, h62, h⟩ := bind_some h
        refine cW.intro (a_lines_Number I hI hPIv ([48] ++ r45) n_1 n_1 h62) (by first | rfl | (simp [List.map_append, dd_GF]; done)) ?_
        simp -implicitDefEqProofs only [vt, ↓atI_fold, forall_const, implies_true, sevalprocAttr, dd_GF, k9, k38, h60, h59]
        subst hK58
        refine eb_seq ?_
        refine rb_seq ?_
        refine rb_regionK fun K69 hK69 => ?_
        simp -implicitDefEqProofs only [vt, ↓atI_fold, forall_const, implies_true, sevalprocAttr, dd_GF, k9, k38, h60, h59]
        obtain ⟨r70, h71, h⟩ := bind_some h
        refine cW.intro (a_ref07_Decimal I hI n_1 h71) (by first | rfl | (simp [List.map_append, dd_GF]; done)) ?_
        simp -implicitDefEqProofs only [vt, ↓atI_fold, forall_const, implies_true, sevalprocAttr, dd_GF, k9, k38, h60, h59]
        rcases ite_or h with ⟨k72, h⟩ | ⟨k72, h⟩
        · simp -implicitDefEqProofs only [vt, ↓atI_fold, forall_const, implies_true, sevalprocAttr, dd_GF, k9, k38, h60, h59, k72]
          rcases ite_or h with ⟨k73, h⟩ | ⟨k73, h⟩
          · simp -implicitDefEqProofs only [vt, ↓atI_fold, forall_const, implies_true, sevalprocAttr, dd_GF, k9, k38, h60, h59, k72, k73]
            rcases ite_or h with ⟨k74, h⟩ | ⟨k74, h⟩
            · simp -implicitDefEqProofs only [vt, ↓atI_fold, forall_const, implies_true, sevalprocAttr, dd_GF, k9, k38, h60, h59, k72, k73, k74]
              subst hK69
              refine eb_seq ?_
              refine rb_ret ?_
              obtain rfl := Option.some.inj h
              refine eb_nil ?_
              simp -implicitDefEqProofs only [vt, ↓atI_fold, forall_const, implies_true, sevalprocAttr, retQ_r, Tryd.results14, dd_GF, k9, k38, h60, h59, k72, k73, k74] <;> first | rfl | (simp [List.map_append, dd_GF]; done)
            · simp -implicitDefEqProofs only [vt, ↓atI_fold, forall_const, implies_true, sevalprocAttr, dd_GF, k9, k38, h60, h59, k72, k73, k74]
              subst hK69
              refine eb_seq ?_
              refine rb_ret ?_
              obtain rfl := Option.some.inj h
              refine eb_nil ?_
              simp -implicitDefEqProofs only [vt, ↓atI_fold, forall_const, implies_true, sevalprocAttr, retQ_r, Tryd.results14, dd_GF, k9, k38, h60, h59, k72, k73, k74] <;> first | rfl | (simp [List.map_append, dd_GF]; done)
          · simp -implicitDefEqProofs only [vt, ↓atI_fold, forall_const, implies_true, sevalprocAttr, dd_GF, k9, k38, h60, h59, k72, k73]
            subst hK69
            refine eb_seq ?_
            refine rb_ret ?_
            obtain rfl := Option.some.inj h
            refine eb_nil ?_
            simp -implicitDefEqProofs only [vt, ↓atI_fold, forall_const, implies_true, sevalprocAttr, retQ_r, Tryd.results14, dd_GF, k9, k38, h60, h59, k72, k73] <;> first | rfl | (simp [List.map_append, dd_GF]; done)
        · simp -implicitDefEqProofs only [vt, ↓atI_fold, forall_const, implies_true, sevalprocAttr, dd_GF, k9, k38, h60, h59, k72]
          subst hK69
          refine eb_seq ?_
          refine rb_ret ?_
          obtain rfl := Option.some.inj h
          refine eb_nil ?_
          simp -implicitDefEqProofs only [vt, ↓atI_fold, forall_const, implies_true, sevalprocAttr, retQ_r, Tryd.results14, dd_GF, k9, k38, h60, h59, k72] <;> first | rfl | (simp [List.map_append, dd_GF]; done)
  · refine rb_true (by first | exact congrArg D.bool (congrArg Bool.not k9) | rfl) ?_
    refine rb_seq ?_
    refine rb_regionK fun K76 hK76 => ?_
    simp -implicitDefEqProofs only [vt, ↓atI_fold, forall_const, implies_true, sevalprocAttr, dd_GF, k9]
    subst hK76
    refine eb_seq ?_
    refine rb_ret ?_
    refine eb_seq_r ?_
    obtain rfl := Option.some.inj h
    refine eb_nil ?_
    simp -implicitDefEqProofs only [vt, ↓atI_fold, forall_const, implies_true, sevalprocAttr, retQ_r, Tryd.results14, dd_GF, k9] <;> first | rfl | (simp [List.map_append, dd_GF]; done)
end Go.Proofs.YtncmdhkmbmkiiaaDoor
