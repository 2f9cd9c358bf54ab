/- What some functions compute, read off their texts by a program of mine (gen.py): definitions, and contracts (the text computes it). No condition but that the definition answers. -/
import Derived.Test.YtipdmcpmedmicaaDoorGC2
namespace Go.Proofs.YtipdmcpmedmicaaDoor
open Go.RowKit
set_option maxRecDepth 100000
set_option linter.unusedVariables false
set_option linter.unusedSimpArgs false
set_option maxHeartbeats 10000000
theorem dd_UA : (∀ x : Unit, x = ()) := fun _ => rfl
-- lines.Decimal
def g_lines_Decimal (n_0 : Int) : Option ((List UInt8)) :=
  ((g_strconv_FormatInt n_0 10).bind fun r7 => (some r7))
theorem a_lines_Decimal (I : World → Prop) (hI : Stab I) (hTab : ∀ w, I w → Tab w) (n_0 : Int) {r : (List UInt8)} (h : g_lines_Decimal n_0 = some r) : AFun Tryd.prog I 53 [.int .i64 n_0] (.str r) := by
  refine AFun.enterB hI Tryd.func53 rfl (by decide) (by simp [Tryd.f53]) (by kernel_rfl) ?_
  unfold g_lines_Decimal at h
  simp only [S0, Tryd.ntmps53, dd_UA]
  refine rb_seq ?_
  refine rb_regionK fun K2 hK2 => ?_
  simp -implicitDefEqProofs only [vt, vm, ↓atI_fold, forall_const, implies_true, false_implies, sevalprocAttr, dd_UA]
  subst hK2
  refine eb_seq ?_
  refine rb_seq ?_
  refine rb_regionK fun K6 hK6 => ?_
  simp -implicitDefEqProofs only [vt, vm, ↓atI_fold, forall_const, implies_true, false_implies, sevalprocAttr, dd_UA]
  obtain ⟨r7, h8, h⟩ := bind_some h
  refine cW.intro (a_strconv_FormatInt I hI hTab n_0 10 h8) (by first | rfl | (simp [List.map_append, dd_UA]; done)) ?_
  simp -implicitDefEqProofs only [vt, vm, ↓atI_fold, forall_const, implies_true, false_implies, sevalprocAttr, dd_UA]
  subst hK6
  refine eb_seq ?_
  refine rb_ret ?_
  obtain rfl := Option.some.inj h
  refine eb_nil ?_
  simp -implicitDefEqProofs only [vt, vm, ↓atI_fold, forall_const, implies_true, false_implies, sevalprocAttr, retQ_r, Tryd.results53, dd_UA] <;> first | rfl | (simp [List.map_append, dd_UA]; done)
-- lines.Number
def g_lines_Number_s1 (r7 : (List UInt8) × Bool) (x28 : Int) : Option (Nx (Int) (Unit ⊕ Unit)) :=
  (if (decide (x28 < (r7.1.length : Int))) then ((atI r7.1 x28).bind fun b91 => (if (decide ((b91.toNat : Int) < 48)) then (some (.out (.inl ()))) else (if (decide (57 < (b91.toNat : Int))) then (some (.out (.inl ()))) else (some (.go (IntKind.i64.wrap (x28 + 1))))))) else (some (.out (.inr ()))))
def g_lines_Number (s_0 : List UInt8) (lo_1 : Int) (hi_2 : Int) : Option (Int × Int) :=
  ((g_strings_CutPrefix s_0 [45]).bind fun r7 => (((if (r7.1 == ([] : List UInt8)) then (some true) else ((atI r7.1 0).bind fun b18 => (if ((b18.toNat : Int) == 48) then (if (decide (1 < (r7.1.length : Int))) then (some true) else (some r7.2)) else (some false)))) : Option (Bool)).bind fun v15 => (if v15 then (some (0, 4)) else ((iter (g_lines_Number_s1 r7) 0).bind fun e29 => (match e29 with | Sum.inl e29 => (some (0, 4)) | Sum.inr (e29) => ((g_strconv_ParseInt s_0 10 64).bind fun r105 => (((if r105.2 then (some true) else (if (decide (r105.1 < lo_1)) then (some true) else (some (decide (hi_2 < r105.1))))) : Option (Bool)).bind fun v110 => (if v110 then (some (0, 2)) else (some (r105.1, 0))))))))))
theorem a_lines_Number (I : World → Prop) (hI : Stab I) (hPIv : ∀ w, I w → PIv w) (s_0 : List UInt8) (lo_1 : Int) (hi_2 : Int) {r : Int × Int} (h : g_lines_Number s_0 lo_1 hi_2 = some r) : AFun Tryd.prog I 60 [.str s_0, .int .i64 lo_1, .int .i64 hi_2] (.tup [.int .i64 r.1, .int .i64 r.2]) := by
  refine AFun.enterB hI Tryd.func60 rfl (by decide) (by simp [Tryd.f60]) (by kernel_rfl) ?_
  unfold g_lines_Number at h
  simp only [S0, Tryd.ntmps60, dd_UA]
  refine rb_seq ?_
  refine rb_regionK fun K2 hK2 => ?_
  simp -implicitDefEqProofs only [vt, vm, ↓atI_fold, forall_const, implies_true, false_implies, sevalprocAttr, dd_UA]
  subst hK2
  refine eb_seq ?_
  refine rb_seq ?_
  refine rb_regionK fun K6 hK6 => ?_
  simp -implicitDefEqProofs only [vt, vm, ↓atI_fold, forall_const, implies_true, false_implies, sevalprocAttr, dd_UA]
  obtain ⟨r7, h8, h⟩ := bind_some h
  refine cW.intro (a_strings_CutPrefix I hI s_0 [45] h8) (by first | rfl | (simp [List.map_append, dd_UA]; done)) ?_
  simp -implicitDefEqProofs only [vt, vm, ↓atI_fold, forall_const, implies_true, false_implies, sevalprocAttr, dd_UA]
  subst hK6
  refine eb_seq ?_
  refine rb_seq ?_
  obtain ⟨v15, h22, h⟩ := bind_some h
  refine rb_cut (fun v15 => ⟨envL [(0, .str s_0), (1, .int .i64 lo_1), (2, .int .i64 hi_2), (8, .str r7.1), (32, .bool v15)], heapL [], 0, 67⟩) h22 ?_ ?_
  · clear h
    intro v15 h
    refine rb_regionK fun K16 hK16 => ?_
    simp -implicitDefEqProofs only [vt, vm, ↓atI_fold, forall_const, implies_true, false_implies, sevalprocAttr, dd_UA]
    rcases ite_or h with ⟨k17, h⟩ | ⟨k17, h⟩
    · simp -implicitDefEqProofs only [vt, vm, ↓atI_fold, forall_const, implies_true, false_implies, sevalprocAttr, dd_UA, k17]
      subst hK16
      obtain rfl := Option.some.inj h
      exact eb_nil ⟨rfl, Wk.of (fun i => some i) _ _ _ (by simp -implicitDefEqProofs [kv, km, dd_UA, k17]) (by simp -implicitDefEqProofs [kv, km, dd_UA, k17])⟩
    · simp -implicitDefEqProofs only [vt, vm, ↓atI_fold, forall_const, implies_true, false_implies, sevalprocAttr, dd_UA, k17]
      obtain ⟨b18, h19, h⟩ := bind_some h
      simp -implicitDefEqProofs only [vt, vm, ↓atI_fold, forall_const, implies_true, false_implies, sevalprocAttr, dd_UA, k17, h19]
      rcases ite_or h with ⟨k20, h⟩ | ⟨k20, h⟩
      · simp -implicitDefEqProofs only [vt, vm, ↓atI_fold, forall_const, implies_true, false_implies, sevalprocAttr, dd_UA, k17, h19, k20]
        rcases ite_or h with ⟨k21, h⟩ | ⟨k21, h⟩
        · simp -implicitDefEqProofs only [vt, vm, ↓atI_fold, forall_const, implies_true, false_implies, sevalprocAttr, dd_UA, k17, h19, k20, k21]
          subst hK16
          obtain rfl := Option.some.inj h
          exact eb_nil ⟨rfl, Wk.of (fun i => some i) _ _ _ (by simp -implicitDefEqProofs [kv, km, dd_UA, k17, k20, k21]) (by simp -implicitDefEqProofs [kv, km, dd_UA, k17, k20, k21])⟩
        · simp -implicitDefEqProofs only [vt, vm, ↓atI_fold, forall_const, implies_true, false_implies, sevalprocAttr, dd_UA, k17, h19, k20, k21]
          subst hK16
          obtain rfl := Option.some.inj h
          exact eb_nil ⟨rfl, Wk.of (fun i => some i) _ _ _ (by simp -implicitDefEqProofs [kv, km, dd_UA, k17, k20, k21]) (by simp -implicitDefEqProofs [kv, km, dd_UA, k17, k20, k21])⟩
      · simp -implicitDefEqProofs only [vt, vm, ↓atI_fold, forall_const, implies_true, false_implies, sevalprocAttr, dd_UA, k17, h19, k20]
        subst hK16
        obtain rfl := Option.some.inj h
        exact eb_nil ⟨rfl, Wk.of (fun i => some i) _ _ _ (by simp -implicitDefEqProofs [kv, km, dd_UA, k17, k20]) (by simp -implicitDefEqProofs [kv, km, dd_UA, k17, k20])⟩
  · rcases ite_or h with ⟨k23, h⟩ | ⟨k23, h⟩
    · refine rb_true (by first | exact congrArg D.bool k23 | rfl) ?_
      refine rb_seq ?_
      refine rb_regionK fun K25 hK25 => ?_
      simp -implicitDefEqProofs only [vt, vm, ↓atI_fold, forall_const, implies_true, false_implies, sevalprocAttr, dd_UA, k23]
      subst hK25
      refine eb_seq ?_
      refine rb_ret ?_
      refine eb_seq_r ?_
      obtain rfl := Option.some.inj h
      refine eb_nil ?_
      simp -implicitDefEqProofs only [vt, vm, ↓atI_fold, forall_const, implies_true, false_implies, sevalprocAttr, retQ_r, Tryd.results60, dd_UA, k23] <;> first | rfl | (simp [List.map_append, dd_UA]; done)
    · refine rb_false (by first | exact congrArg D.bool k23 | rfl) ?_
      refine rb_skip ?_
      refine eb_seq ?_
      refine rb_seq ?_
      refine rb_seq ?_
      refine rb_regionK fun K27 hK27 => ?_
      simp -implicitDefEqProofs only [vt, vm, ↓atI_fold, forall_const, implies_true, false_implies, sevalprocAttr, dd_UA, k23]
      subst hK27
      refine eb_seq ?_
      refine rb_block ?_
      obtain ⟨e29, h100, h⟩ := bind_some h
      refine rb_loop (fun x28 => ⟨envL [(0, .str s_0), (1, .int .i64 lo_1), (2, .int .i64 hi_2), (8, .str r7.1), (34, .int .i64 (r7.1.length : Int)), (35, .int .i64 x28)], heapL [], 0, 67⟩) (fun w => match w with | Sum.inl _ => .ret | Sum.inr (_) => .exit 0) (fun w => match w with | Sum.inl e29 => ⟨envL [(6, .int .i64 0), (7, .int .i64 4)], heapL [], 0, 67⟩ | Sum.inr (e29) => ⟨envL [(0, .str s_0), (1, .int .i64 lo_1), (2, .int .i64 hi_2)], heapL [], 0, 67⟩) h100 (Wk.of (fun i => some i) _ _ _ (by simp -implicitDefEqProofs [kv, km, dd_UA, k23]) (by simp -implicitDefEqProofs [kv, km, dd_UA, k23])) (by intro w; rcases w with w | w <;> simp) ?_ ?_
      · clear h
        intro x28 y h
        unfold g_lines_Number_s1 at h
        refine rb_seq ?_
        refine rb_regionK fun K66 hK66 => ?_
        simp -implicitDefEqProofs only [vt, vm, ↓atI_fold, forall_const, implies_true, false_implies, sevalprocAttr, dd_UA, k23]
        subst hK66
        refine eb_seq ?_
        refine rb_seq ?_
        rcases ite_or h with ⟨k68, h⟩ | ⟨k68, h⟩
        · refine rb_true (by first | exact congrArg D.bool k68 | rfl) ?_
          refine rb_skip ?_
          refine eb_seq ?_
          refine rb_seq ?_
          refine rb_block ?_
          refine rb_seq ?_
          refine rb_regionK fun K85 hK85 => ?_
          simp -implicitDefEqProofs only [vt, vm, ↓atI_fold, forall_const, implies_true, false_implies, sevalprocAttr, dd_UA, k23, k68]
          subst hK85
          refine eb_seq ?_
          refine rb_seq ?_
          refine rb_regionK fun K90 hK90 => ?_
          simp -implicitDefEqProofs only [vt, vm, ↓atI_fold, forall_const, implies_true, false_implies, sevalprocAttr, dd_UA, k23, k68]
          obtain ⟨b91, h92, h⟩ := bind_some h
          simp -implicitDefEqProofs only [vt, vm, ↓atI_fold, forall_const, implies_true, false_implies, sevalprocAttr, dd_UA, k23, k68, h92]
          rcases ite_or h with ⟨k93, h⟩ | ⟨k93, h⟩
          · simp -implicitDefEqProofs only [vt, vm, ↓atI_fold, forall_const, implies_true, false_implies, sevalprocAttr, dd_UA, k23, k68, h92, k93]
            subst hK90
            refine eb_seq ?_
            refine rb_true (rfl) ?_
            refine rb_seq ?_
            refine rb_regionK fun K95 hK95 => ?_
            simp -implicitDefEqProofs only [vt, vm, ↓atI_fold, forall_const, implies_true, false_implies, sevalprocAttr, dd_UA, k23, k68, h92, k93]
            subst hK95
            refine eb_seq ?_
            refine rb_ret ?_
            refine eb_blk_r ?_
            refine eb_seq_r ?_
            obtain rfl := Option.some.inj h
            exact eb_nil ⟨rfl, Wk.of (fun i => some i) _ _ _ (by simp -implicitDefEqProofs [kv, km, dd_UA, k23, k68, k93]) (by simp -implicitDefEqProofs [kv, km, dd_UA, k23, k68, k93])⟩
          · simp -implicitDefEqProofs only [vt, vm, ↓atI_fold, forall_const, implies_true, false_implies, sevalprocAttr, dd_UA, k23, k68, h92, k93]
            subst hK90
            refine eb_seq ?_
            rcases ite_or h with ⟨k96, h⟩ | ⟨k96, h⟩
            · refine rb_true (by first | exact congrArg D.bool k96 | rfl) ?_
              refine rb_seq ?_
              refine rb_regionK fun K98 hK98 => ?_
              simp -implicitDefEqProofs only [vt, vm, ↓atI_fold, forall_const, implies_true, false_implies, sevalprocAttr, dd_UA, k23, k68, h92, k93, k96]
              subst hK98
              refine eb_seq ?_
              refine rb_ret ?_
              refine eb_blk_r ?_
              refine eb_seq_r ?_
              obtain rfl := Option.some.inj h
              exact eb_nil ⟨rfl, Wk.of (fun i => some i) _ _ _ (by simp -implicitDefEqProofs [kv, km, dd_UA, k23, k68, k93, k96]) (by simp -implicitDefEqProofs [kv, km, dd_UA, k23, k68, k93, k96])⟩
            · refine rb_false (by first | exact congrArg D.bool k96 | rfl) ?_
              refine rb_skip ?_
              refine eb_blk_n ?_
              refine eb_seq ?_
              refine rb_regionK fun K99 hK99 => ?_
              simp -implicitDefEqProofs only [vt, vm, ↓atI_fold, forall_const, implies_true, false_implies, sevalprocAttr, dd_UA, k23, k68, h92, k93, k96]
              subst hK99
              obtain rfl := Option.some.inj h
              exact eb_nil ⟨rfl, Wk.of (fun i => some i) _ _ _ (by simp -implicitDefEqProofs [kv, km, dd_UA, k23, k68, k93, k96]) (by simp -implicitDefEqProofs [kv, km, dd_UA, k23, k68, k93, k96])⟩
        · refine rb_false (by first | exact congrArg D.bool k68 | rfl) ?_
          refine rb_exit ?_
          refine eb_seq_e ?_
          obtain rfl := Option.some.inj h
          exact eb_nil ⟨rfl, Wk.of (fun i => some i) _ _ _ (by simp -implicitDefEqProofs [kv, km, dd_UA, k23, k68]) (by simp -implicitDefEqProofs [kv, km, dd_UA, k23, k68])⟩
      · rcases e29 with e29 | e29
        · try dsimp only at h ⊢
          refine eb_blk_r ?_
          refine eb_seq_r ?_
          obtain rfl := Option.some.inj h
          refine eb_nil ?_
          simp -implicitDefEqProofs only [vt, vm, ↓atI_fold, forall_const, implies_true, false_implies, sevalprocAttr, retQ_r, Tryd.results60, dd_UA, k23] <;> first | rfl | (simp [List.map_append, dd_UA]; done)
        · try dsimp only at h ⊢
          refine eb_blk_hit ?_
          refine eb_seq ?_
          refine rb_seq ?_
          refine rb_regionK fun K104 hK104 => ?_
          simp -implicitDefEqProofs only [vt, vm, ↓atI_fold, forall_const, implies_true, false_implies, sevalprocAttr, dd_UA, k23]
          obtain ⟨r105, h106, h⟩ := bind_some h
          refine cW.intro (a_strconv_ParseInt I hI hPIv s_0 10 64 h106) (by first | rfl | (simp [List.map_append, dd_UA]; done)) ?_
          simp -implicitDefEqProofs only [vt, vm, ↓atI_fold, forall_const, implies_true, false_implies, sevalprocAttr, dd_UA, k23]
          subst hK104
          refine eb_seq ?_
          refine rb_seq ?_
          obtain ⟨v110, h114, h⟩ := bind_some h
          refine rb_cut (fun v110 => ⟨envL [(11, .int .i64 r105.1), (65, .bool v110)], heapL [], 0, 67⟩) h114 ?_ ?_
          · clear h
            intro v110 h
            refine rb_regionK fun K111 hK111 => ?_
            simp -implicitDefEqProofs only [vt, vm, ↓atI_fold, forall_const, implies_true, false_implies, sevalprocAttr, dd_UA, k23]
            rcases ite_or h with ⟨k112, h⟩ | ⟨k112, h⟩
            · simp -implicitDefEqProofs only [vt, vm, ↓atI_fold, forall_const, implies_true, false_implies, sevalprocAttr, dd_UA, k23, k112]
              subst hK111
              obtain rfl := Option.some.inj h
              exact eb_nil ⟨rfl, Wk.of (fun i => some i) _ _ _ (by simp -implicitDefEqProofs [kv, km, dd_UA, k23, k112]) (by simp -implicitDefEqProofs [kv, km, dd_UA, k23, k112])⟩
            · simp -implicitDefEqProofs only [vt, vm, ↓atI_fold, forall_const, implies_true, false_implies, sevalprocAttr, dd_UA, k23, k112]
              rcases ite_or h with ⟨k113, h⟩ | ⟨k113, h⟩
              · simp -implicitDefEqProofs only [vt, vm, ↓atI_fold, forall_const, implies_true, false_implies, sevalprocAttr, dd_UA, k23, k112, k113]
                subst hK111
                obtain rfl := Option.some.inj h
                exact eb_nil ⟨rfl, Wk.of (fun i => some i) _ _ _ (by simp -implicitDefEqProofs [kv, km, dd_UA, k23, k112, k113]) (by simp -implicitDefEqProofs [kv, km, dd_UA, k23, k112, k113])⟩
              · simp -implicitDefEqProofs only [vt, vm, ↓atI_fold, forall_const, implies_true, false_implies, sevalprocAttr, dd_UA, k23, k112, k113]
                subst hK111
                obtain rfl := Option.some.inj h
                exact eb_nil ⟨rfl, Wk.of (fun i => some i) _ _ _ (by simp -implicitDefEqProofs [kv, km, dd_UA, k23, k112, k113]) (by simp -implicitDefEqProofs [kv, km, dd_UA, k23, k112, k113])⟩
          · rcases ite_or h with ⟨k115, h⟩ | ⟨k115, h⟩
            · refine rb_true (by first | exact congrArg D.bool k115 | rfl) ?_
              refine rb_seq ?_
              refine rb_regionK fun K117 hK117 => ?_
              simp -implicitDefEqProofs only [vt, vm, ↓atI_fold, forall_const, implies_true, false_implies, sevalprocAttr, dd_UA, k23, k115]
              subst hK117
              refine eb_seq ?_
              refine rb_ret ?_
              refine eb_seq_r ?_
              obtain rfl := Option.some.inj h
              refine eb_nil ?_
              simp -implicitDefEqProofs only [vt, vm, ↓atI_fold, forall_const, implies_true, false_implies, sevalprocAttr, retQ_r, Tryd.results60, dd_UA, k23, k115] <;> first | rfl | (simp [List.map_append, dd_UA]; done)
            · refine rb_false (by first | exact congrArg D.bool k115 | rfl) ?_
              refine rb_skip ?_
              refine eb_seq ?_
              refine rb_seq ?_
              refine rb_regionK fun K119 hK119 => ?_
              simp -implicitDefEqProofs only [vt, vm, ↓atI_fold, forall_const, implies_true, false_implies, sevalprocAttr, dd_UA, k23, k115]
              subst hK119
              refine eb_seq ?_
              refine rb_ret ?_
              obtain rfl := Option.some.inj h
              refine eb_nil ?_
              simp -implicitDefEqProofs only [vt, vm, ↓atI_fold, forall_const, implies_true, false_implies, sevalprocAttr, retQ_r, Tryd.results60, dd_UA, k23, k115] <;> first | rfl | (simp [List.map_append, dd_UA]; done)
-- captionerref07.digit
def g_ref07_digit (c_0 : Int) : Option (Bool) :=
  (if (decide (48 ≤ c_0)) then (some (decide (c_0 ≤ 57))) else (some false))
theorem a_ref07_digit (I : World → Prop) (hI : Stab I) (c_0 : Int) {r : Bool} (h : g_ref07_digit c_0 = some r) : AFun Tryd.prog I 124 [.int .u8 c_0] (.bool r) := by
  refine AFun.enterB hI Tryd.func124 rfl (by decide) (by simp [Tryd.f124]) (by kernel_rfl) ?_
  unfold g_ref07_digit at h
  simp only [S0, Tryd.ntmps124, dd_UA]
  refine rb_seq ?_
  refine rb_regionK fun K2 hK2 => ?_
  simp -implicitDefEqProofs only [vt, vm, ↓atI_fold, forall_const, implies_true, false_implies, sevalprocAttr, dd_UA]
  subst hK2
  refine eb_seq ?_
  refine rb_seq ?_
  refine rb_regionK fun K5 hK5 => ?_
  simp -implicitDefEqProofs only [vt, vm, ↓atI_fold, forall_const, implies_true, false_implies, sevalprocAttr, dd_UA]
  rcases ite_or h with ⟨k6, h⟩ | ⟨k6, h⟩
  · simp -implicitDefEqProofs only [vt, vm, ↓atI_fold, forall_const, implies_true, false_implies, sevalprocAttr, dd_UA, k6]
    subst hK5
    refine eb_seq ?_
    refine rb_ret ?_
    obtain rfl := Option.some.inj h
    refine eb_nil ?_
    simp -implicitDefEqProofs only [vt, vm, ↓atI_fold, forall_const, implies_true, false_implies, sevalprocAttr, retQ_r, Tryd.results124, dd_UA, k6] <;> first | rfl | (simp [List.map_append, dd_UA]; done)
  · simp -implicitDefEqProofs only [vt, vm, ↓atI_fold, forall_const, implies_true, false_implies, sevalprocAttr, dd_UA, k6]
    subst hK5
    refine eb_seq ?_
    refine rb_ret ?_
    obtain rfl := Option.some.inj h
    refine eb_nil ?_
    simp -implicitDefEqProofs only [vt, vm, ↓atI_fold, forall_const, implies_true, false_implies, sevalprocAttr, retQ_r, Tryd.results124, dd_UA, k6] <;> first | rfl | (simp [List.map_append, dd_UA]; done)
-- captionerref07.Decimal
def g_ref07_Decimal_s1  (x64 : Int × (List UInt8)) : Option (Nx (Int × (List UInt8)) (Int × (List UInt8))) :=
  (if (decide (10 ≤ x64.1)) then ((subI ([48, 49, 50, 51, 52, 53, 54, 55, 56, 57] : List UInt8) (Int.tmod x64.1 10) (IntKind.u64.wrap ((Int.tmod x64.1 10) + 1))).bind fun z104 => (if z104.length + x64.2.length ≤ 9223372036854775807 then (some (.go ((IntKind.u64.wrap (Int.tdiv x64.1 10)), (z104 ++ x64.2)))) else none)) else (some (.out (x64.1, x64.2))))
def g_ref07_Decimal_s2  (x194 : Int × (List UInt8)) : Option (Nx (Int × (List UInt8)) (Int × (List UInt8))) :=
  (if (decide (10 ≤ x194.1)) then ((subI ([48, 49, 50, 51, 52, 53, 54, 55, 56, 57] : List UInt8) (Int.tmod x194.1 10) (IntKind.u64.wrap ((Int.tmod x194.1 10) + 1))).bind fun z234 => (if z234.length + x194.2.length ≤ 9223372036854775807 then (some (.go ((IntKind.u64.wrap (Int.tdiv x194.1 10)), (z234 ++ x194.2)))) else none)) else (some (.out (x194.1, x194.2))))
def g_ref07_Decimal (n_0 : Int) : Option ((List UInt8)) :=
  (if (decide (n_0 < 0)) then ((iter (g_ref07_Decimal_s1) ((IntKind.u64.wrap (0 - (IntKind.u64.wrap n_0))), [])).bind fun e65 => ((subI ([48, 49, 50, 51, 52, 53, 54, 55, 56, 57] : List UInt8) e65.1 (IntKind.u64.wrap (e65.1 + 1))).bind fun z128 => (if 1 + z128.length ≤ 9223372036854775807 then (if (1 + z128.length) + e65.2.length ≤ 9223372036854775807 then (some (([45] ++ z128) ++ e65.2)) else none) else none))) else ((iter (g_ref07_Decimal_s2) ((IntKind.u64.wrap n_0), [])).bind fun e195 => ((subI ([48, 49, 50, 51, 52, 53, 54, 55, 56, 57] : List UInt8) e195.1 (IntKind.u64.wrap (e195.1 + 1))).bind fun z258 => (if 0 + z258.length ≤ 9223372036854775807 then (if (0 + z258.length) + e195.2.length ≤ 9223372036854775807 then (some (([] ++ z258) ++ e195.2)) else none) else none))))
theorem a_ref07_Decimal (I : World → Prop) (hI : Stab I) (n_0 : Int) {r : (List UInt8)} (h : g_ref07_Decimal n_0 = some r) : AFun Tryd.prog I 57 [.int .i64 n_0] (.str r) := by
  refine AFun.enterB hI Tryd.func57 rfl (by decide) (by simp [Tryd.f57]) (by kernel_rfl) ?_
  unfold g_ref07_Decimal at h
  simp only [S0, Tryd.ntmps57, dd_UA]
  refine rb_seq ?_
  refine rb_regionK fun K2 hK2 => ?_
  simp -implicitDefEqProofs only [vt, vm, ↓atI_fold, forall_const, implies_true, false_implies, sevalprocAttr, dd_UA]
  subst hK2
  refine eb_seq ?_
  refine rb_seq ?_
  refine rb_regionK fun K4 hK4 => ?_
  simp -implicitDefEqProofs only [vt, vm, ↓atI_fold, forall_const, implies_true, false_implies, sevalprocAttr, dd_UA]
  subst hK4
  refine eb_seq ?_
  refine rb_seq ?_
  refine rb_seq ?_
  refine rb_regionK fun K6 hK6 => ?_
  simp -implicitDefEqProofs only [vt, vm, ↓atI_fold, forall_const, implies_true, false_implies, sevalprocAttr, dd_UA]
  subst hK6
  refine eb_seq ?_
  rcases ite_or h with ⟨k7, h⟩ | ⟨k7, h⟩
  · refine rb_true (by first | exact congrArg D.bool k7 | rfl) ?_
    refine rb_regionK fun K8 hK8 => ?_
    simp -implicitDefEqProofs only [vt, vm, ↓atI_fold, forall_const, implies_true, false_implies, sevalprocAttr, dd_UA, k7]
    subst hK8
    refine eb_seq ?_
    refine rb_seq ?_
    refine rb_regionK fun K10 hK10 => ?_
    simp -implicitDefEqProofs only [vt, vm, ↓atI_fold, forall_const, implies_true, false_implies, sevalprocAttr, dd_UA, k7]
    subst hK10
    refine eb_seq ?_
    refine rb_seq ?_
    refine rb_regionK fun K12 hK12 => ?_
    simp -implicitDefEqProofs only [vt, vm, ↓atI_fold, forall_const, implies_true, false_implies, sevalprocAttr, dd_UA, k7]
    subst hK12
    refine eb_seq ?_
    refine rb_seq ?_
    refine rb_block ?_
    obtain ⟨e65, h114, h⟩ := bind_some h
    refine rb_loop (fun x64 => ⟨envL [(3, .int .u64 x64.1), (4, .str [45]), (5, .str [48, 49, 50, 51, 52, 53, 54, 55, 56, 57]), (6, .str x64.2)], heapL [], 0, 35⟩) (fun _ => .exit 0) (fun e65 => ⟨envL [(3, .int .u64 e65.1), (4, .str [45]), (5, .str [48, 49, 50, 51, 52, 53, 54, 55, 56, 57]), (6, .str e65.2)], heapL [], 0, 35⟩) h114 (Wk.of (fun i => some i) _ _ _ (by simp -implicitDefEqProofs [kv, km, dd_UA, k7]) (by simp -implicitDefEqProofs [kv, km, dd_UA, k7])) (by intro w; simp) ?_ ?_
    · clear h
      intro x64 y h
      unfold g_ref07_Decimal_s1 at h
      refine rb_seq ?_
      refine rb_seq ?_
      refine rb_regionK fun K91 hK91 => ?_
      simp -implicitDefEqProofs only [vt, vm, ↓atI_fold, forall_const, implies_true, false_implies, sevalprocAttr, dd_UA, k7]
      subst hK91
      refine eb_seq ?_
      rcases ite_or h with ⟨k92, h⟩ | ⟨k92, h⟩
      · refine rb_true (by first | exact congrArg D.bool k92 | rfl) ?_
        refine rb_skip ?_
        refine eb_seq ?_
        refine rb_block ?_
        refine rb_seq ?_
        refine rb_regionK fun K103 hK103 => ?_
        simp -implicitDefEqProofs only [vt, vm, ↓atI_fold, forall_const, implies_true, false_implies, sevalprocAttr, dd_UA, k7, k92]
        obtain ⟨z104, h105, h⟩ := bind_some h
        obtain ⟨⟨h106, h107, h108, h109⟩, h110⟩ := subI_some h105
        try simp only [List.length_cons, List.length_nil, Nat.zero_add, Nat.reduceAdd, Int.reduceToNat] at h106
        try simp only [List.length_cons, List.length_nil, Nat.zero_add, Nat.reduceAdd, Int.reduceToNat] at h107
        try simp only [List.length_cons, List.length_nil, Nat.zero_add, Nat.reduceAdd, Int.reduceToNat] at h108
        try simp only [List.length_cons, List.length_nil, Nat.zero_add, Nat.reduceAdd, Int.reduceToNat] at h109
        try simp -implicitDefEqProofs only [vt, vm, ↓atI_fold, forall_const, implies_true, false_implies, sevalprocAttr, dd_UA, k7, k92, h106, h107, h108, h109] at h110
        simp -implicitDefEqProofs only [vt, vm, ↓atI_fold, forall_const, implies_true, false_implies, sevalprocAttr, dd_UA, k7, k92, h106, h107, h108, h109, h110]
        obtain ⟨h111, h⟩ := ite_on h
        have h112 : z104.length + x64.2.length ≤ 9223372036854775807 := by (try simp only [List.length_append, List.length_cons, List.length_nil]); omega
        try simp -implicitDefEqProofs only [vt, vm, ↓atI_fold, forall_const, implies_true, false_implies, sevalprocAttr, dd_UA, k7, k92, h106, h107, h108, h109, h110] at h112
        simp -implicitDefEqProofs only [vt, vm, ↓atI_fold, forall_const, implies_true, false_implies, sevalprocAttr, dd_UA, k7, k92, h106, h107, h108, h109, h110, h112, h111]
        subst hK103
        refine eb_seq ?_
        refine rb_regionK fun K113 hK113 => ?_
        simp -implicitDefEqProofs only [vt, vm, ↓atI_fold, forall_const, implies_true, false_implies, sevalprocAttr, dd_UA, k7, k92, h106, h107, h108, h109, h110, h112, h111]
        subst hK113
        refine eb_blk_n ?_
        obtain rfl := Option.some.inj h
        exact eb_nil ⟨rfl, Wk.of (fun i => some i) _ _ _ (by simp -implicitDefEqProofs [kv, km, dd_UA, k7, k92]) (by simp -implicitDefEqProofs [kv, km, dd_UA, k7, k92])⟩
      · refine rb_false (by first | exact congrArg D.bool k92 | rfl) ?_
        refine rb_exit ?_
        refine eb_seq_e ?_
        obtain rfl := Option.some.inj h
        exact eb_nil ⟨rfl, Wk.of (fun i => some i) _ _ _ (by simp -implicitDefEqProofs [kv, km, dd_UA, k7, k92]) (by simp -implicitDefEqProofs [kv, km, dd_UA, k7, k92])⟩
    · refine eb_blk_hit ?_
      refine eb_seq ?_
      refine rb_seq ?_
      refine rb_regionK fun K127 hK127 => ?_
      simp -implicitDefEqProofs only [vt, vm, ↓atI_fold, forall_const, implies_true, false_implies, sevalprocAttr, dd_UA, k7]
      obtain ⟨z128, h129, h⟩ := bind_some h
      obtain ⟨⟨h130, h131, h132, h133⟩, h134⟩ := subI_some h129
      try simp only [List.length_cons, List.length_nil, Nat.zero_add, Nat.reduceAdd, Int.reduceToNat] at h130
      try simp only [List.length_cons, List.length_nil, Nat.zero_add, Nat.reduceAdd, Int.reduceToNat] at h131
      try simp only [List.length_cons, List.length_nil, Nat.zero_add, Nat.reduceAdd, Int.reduceToNat] at h132
      try simp only [List.length_cons, List.length_nil, Nat.zero_add, Nat.reduceAdd, Int.reduceToNat] at h133
      try simp -implicitDefEqProofs only [vt, vm, ↓atI_fold, forall_const, implies_true, false_implies, sevalprocAttr, dd_UA, k7, h130, h131, h132, h133] at h134
      simp -implicitDefEqProofs only [vt, vm, ↓atI_fold, forall_const, implies_true, false_implies, sevalprocAttr, dd_UA, k7, h130, h131, h132, h133, h134]
      obtain ⟨h135, h⟩ := ite_on h
      have h136 : ([45] : List UInt8).length + z128.length ≤ 9223372036854775807 := by (try simp only [List.length_append, List.length_cons, List.length_nil]); omega
      try simp -implicitDefEqProofs only [vt, vm, ↓atI_fold, forall_const, implies_true, false_implies, sevalprocAttr, dd_UA, k7, h130, h131, h132, h133, h134] at h136
      simp -implicitDefEqProofs only [vt, vm, ↓atI_fold, forall_const, implies_true, false_implies, sevalprocAttr, dd_UA, k7, h130, h131, h132, h133, h134, h136, h135]
      obtain ⟨h137, h⟩ := ite_on h
      have h138 : ([45] ++ z128).length + e65.2.length ≤ 9223372036854775807 := by (try simp only [List.length_append, List.length_cons, List.length_nil]); omega
      try simp -implicitDefEqProofs only [vt, vm, ↓atI_fold, forall_const, implies_true, false_implies, sevalprocAttr, dd_UA, k7, h130, h131, h132, h133, h134, h136, h135] at h138
      simp -implicitDefEqProofs only [vt, vm, ↓atI_fold, forall_const, implies_true, false_implies, sevalprocAttr, dd_UA, k7, h130, h131, h132, h133, h134, h136, h135, h138, h137]
      subst hK127
      refine eb_seq ?_
      refine rb_ret ?_
      obtain rfl := Option.some.inj h
      refine eb_nil ?_
      simp -implicitDefEqProofs only [vt, vm, ↓atI_fold, forall_const, implies_true, false_implies, sevalprocAttr, retQ_r, Tryd.results57, dd_UA, k7, h130, h131, h132, h133, h134, h136, h135, h138, h137] <;> first | rfl | (simp [List.map_append, dd_UA]; done)
  · refine rb_false (by first | exact congrArg D.bool k7 | rfl) ?_
    refine rb_skip ?_
    refine eb_seq ?_
    refine rb_seq ?_
    refine rb_regionK fun K140 hK140 => ?_
    simp -implicitDefEqProofs only [vt, vm, ↓atI_fold, forall_const, implies_true, false_implies, sevalprocAttr, dd_UA, k7]
    subst hK140
    refine eb_seq ?_
    refine rb_seq ?_
    refine rb_regionK fun K142 hK142 => ?_
    simp -implicitDefEqProofs only [vt, vm, ↓atI_fold, forall_const, implies_true, false_implies, sevalprocAttr, dd_UA, k7]
    subst hK142
    refine eb_seq ?_
    refine rb_seq ?_
    refine rb_block ?_
    obtain ⟨e195, h244, h⟩ := bind_some h
    refine rb_loop (fun x194 => ⟨envL [(3, .int .u64 x194.1), (4, .str []), (5, .str [48, 49, 50, 51, 52, 53, 54, 55, 56, 57]), (6, .str x194.2)], heapL [], 0, 35⟩) (fun _ => .exit 0) (fun e195 => ⟨envL [(3, .int .u64 e195.1), (4, .str []), (5, .str [48, 49, 50, 51, 52, 53, 54, 55, 56, 57]), (6, .str e195.2)], heapL [], 0, 35⟩) h244 (Wk.of (fun i => some i) _ _ _ (by simp -implicitDefEqProofs [kv, km, dd_UA, k7]) (by simp -implicitDefEqProofs [kv, km, dd_UA, k7])) (by intro w; simp) ?_ ?_
    · clear h
      intro x194 y h
      unfold g_ref07_Decimal_s2 at h
      refine rb_seq ?_
      refine rb_seq ?_
      refine rb_regionK fun K221 hK221 => ?_
      simp -implicitDefEqProofs only [vt, vm, ↓atI_fold, forall_const, implies_true, false_implies, sevalprocAttr, dd_UA, k7]
      subst hK221
      refine eb_seq ?_
      rcases ite_or h with ⟨k222, h⟩ | ⟨k222, h⟩
      · refine rb_true (by first | exact congrArg D.bool k222 | rfl) ?_
        refine rb_skip ?_
        refine eb_seq ?_
        refine rb_block ?_
        refine rb_seq ?_
        refine rb_regionK fun K233 hK233 => ?_
        simp -implicitDefEqProofs only [vt, vm, ↓atI_fold, forall_const, implies_true, false_implies, sevalprocAttr, dd_UA, k7, k222]
        obtain ⟨z234, h235, h⟩ := bind_some h
        obtain ⟨⟨h236, h237, h238, h239⟩, h240⟩ := subI_some h235
        try simp only [List.length_cons, List.length_nil, Nat.zero_add, Nat.reduceAdd, Int.reduceToNat] at h236
        try simp only [List.length_cons, List.length_nil, Nat.zero_add, Nat.reduceAdd, Int.reduceToNat] at h237
        try simp only [List.length_cons, List.length_nil, Nat.zero_add, Nat.reduceAdd, Int.reduceToNat] at h238
        try simp only [List.length_cons, List.length_nil, Nat.zero_add, Nat.reduceAdd, Int.reduceToNat] at h239
        try simp -implicitDefEqProofs only [vt, vm, ↓atI_fold, forall_const, implies_true, false_implies, sevalprocAttr, dd_UA, k7, k222, h236, h237, h238, h239] at h240
        simp -implicitDefEqProofs only [vt, vm, ↓atI_fold, forall_const, implies_true, false_implies, sevalprocAttr, dd_UA, k7, k222, h236, h237, h238, h239, h240]
        obtain ⟨h241, h⟩ := ite_on h
        have h242 : z234.length + x194.2.length ≤ 9223372036854775807 := by (try simp only [List.length_append, List.length_cons, List.length_nil]); omega
        try simp -implicitDefEqProofs only [vt, vm, ↓atI_fold, forall_const, implies_true, false_implies, sevalprocAttr, dd_UA, k7, k222, h236, h237, h238, h239, h240] at h242
        simp -implicitDefEqProofs only [vt, vm, ↓atI_fold, forall_const, implies_true, false_implies, sevalprocAttr, dd_UA, k7, k222, h236, h237, h238, h239, h240, h242, h241]
        subst hK233
        refine eb_seq ?_
        refine rb_regionK fun K243 hK243 => ?_
        simp -implicitDefEqProofs only [vt, vm, ↓atI_fold, forall_const, implies_true, false_implies, sevalprocAttr, dd_UA, k7, k222, h236, h237, h238, h239, h240, h242, h241]
        subst hK243
        refine eb_blk_n ?_
        obtain rfl := Option.some.inj h
        exact eb_nil ⟨rfl, Wk.of (fun i => some i) _ _ _ (by simp -implicitDefEqProofs [kv, km, dd_UA, k7, k222]) (by simp -implicitDefEqProofs [kv, km, dd_UA, k7, k222])⟩
      · refine rb_false (by first | exact congrArg D.bool k222 | rfl) ?_
        refine rb_exit ?_
        refine eb_seq_e ?_
        obtain rfl := Option.some.inj h
        exact eb_nil ⟨rfl, Wk.of (fun i => some i) _ _ _ (by simp -implicitDefEqProofs [kv, km, dd_UA, k7, k222]) (by simp -implicitDefEqProofs [kv, km, dd_UA, k7, k222])⟩
    · refine eb_blk_hit ?_
      refine eb_seq ?_
      refine rb_seq ?_
      refine rb_regionK fun K257 hK257 => ?_
      simp -implicitDefEqProofs only [vt, vm, ↓atI_fold, forall_const, implies_true, false_implies, sevalprocAttr, dd_UA, k7]
      obtain ⟨z258, h259, h⟩ := bind_some h
      obtain ⟨⟨h260, h261, h262, h263⟩, h264⟩ := subI_some h259
      try simp only [List.length_cons, List.length_nil, Nat.zero_add, Nat.reduceAdd, Int.reduceToNat] at h260
      try simp only [List.length_cons, List.length_nil, Nat.zero_add, Nat.reduceAdd, Int.reduceToNat] at h261
      try simp only [List.length_cons, List.length_nil, Nat.zero_add, Nat.reduceAdd, Int.reduceToNat] at h262
      try simp only [List.length_cons, List.length_nil, Nat.zero_add, Nat.reduceAdd, Int.reduceToNat] at h263
      try simp -implicitDefEqProofs only [vt, vm, ↓atI_fold, forall_const, implies_true, false_implies, sevalprocAttr, dd_UA, k7, h260, h261, h262, h263] at h264
      simp -implicitDefEqProofs only [vt, vm, ↓atI_fold, forall_const, implies_true, false_implies, sevalprocAttr, dd_UA, k7, h260, h261, h262, h263, h264]
      obtain ⟨h265, h⟩ := ite_on h
      have h266 : ([] : List UInt8).length + z258.length ≤ 9223372036854775807 := by (try simp only [List.length_append, List.length_cons, List.length_nil]); omega
      try simp -implicitDefEqProofs only [vt, vm, ↓atI_fold, forall_const, implies_true, false_implies, sevalprocAttr, dd_UA, k7, h260, h261, h262, h263, h264] at h266
      simp -implicitDefEqProofs only [vt, vm, ↓atI_fold, forall_const, implies_true, false_implies, sevalprocAttr, dd_UA, k7, h260, h261, h262, h263, h264, h266, h265]
      obtain ⟨h267, h⟩ := ite_on h
      have h268 : ([] ++ z258).length + e195.2.length ≤ 9223372036854775807 := by (try simp only [List.length_append, List.length_cons, List.length_nil]); omega
      try simp -implicitDefEqProofs only [vt, vm, ↓atI_fold, forall_const, implies_true, false_implies, sevalprocAttr, dd_UA, k7, h260, h261, h262, h263, h264, h266, h265] at h268
      simp -implicitDefEqProofs only [vt, vm, ↓atI_fold, forall_const, implies_true, false_implies, sevalprocAttr, dd_UA, k7, h260, h261, h262, h263, h264, h266, h265, h268, h267]
      subst hK257
      refine eb_seq ?_
      refine rb_ret ?_
      obtain rfl := Option.some.inj h
      refine eb_nil ?_
      simp -implicitDefEqProofs only [vt, vm, ↓atI_fold, forall_const, implies_true, false_implies, sevalprocAttr, retQ_r, Tryd.results57, dd_UA, k7, h260, h261, h262, h263, h264, h266, h265, h268, h267] <;> first | rfl | (simp [List.map_append, dd_UA]; done)
-- captionerref07.Number
def g_ref07_Number_s1 (z19 : List UInt8) (x43 : Int) : Option (Nx (Int) (Unit ⊕ Unit)) :=
  (if (decide (x43 < (z19.length : Int))) then ((atI z19 x43).bind fun b97 => ((g_ref07_digit (b97.toNat : Int)).bind fun r99 => (if r99 then (some (.go (IntKind.i64.wrap (x43 + 1)))) else (some (.out (.inl ())))))) else (some (.out (.inr ()))))
def g_ref07_Number_s2 (z19 : List UInt8) (x115 : Int × Int) : Option (Nx (Int × Int) (Int)) :=
  (if (decide (x115.2 < (z19.length : Int))) then ((atI z19 x115.2).bind fun b134 => (some (.go ((IntKind.u64.wrap ((IntKind.u64.wrap (10 * x115.1)) + (IntKind.u64.wrap (IntKind.u8.wrap ((b134.toNat : Int) - 48))))), (IntKind.i64.wrap (x115.2 + 1)))))) else (some (.out x115.1)))
def g_ref07_Number_s3 (s_0 : List UInt8) (x182 : Int) : Option (Nx (Int) (Unit ⊕ Unit)) :=
  (if (decide (x182 < (s_0.length : Int))) then ((atI s_0 x182).bind fun b236 => ((g_ref07_digit (b236.toNat : Int)).bind fun r238 => (if r238 then (some (.go (IntKind.i64.wrap (x182 + 1)))) else (some (.out (.inl ())))))) else (some (.out (.inr ()))))
def g_ref07_Number_s4 (s_0 : List UInt8) (x254 : Int × Int) : Option (Nx (Int × Int) (Int)) :=
  (if (decide (x254.2 < (s_0.length : Int))) then ((atI s_0 x254.2).bind fun b273 => (some (.go ((IntKind.u64.wrap ((IntKind.u64.wrap (10 * x254.1)) + (IntKind.u64.wrap (IntKind.u8.wrap ((b273.toNat : Int) - 48))))), (IntKind.i64.wrap (x254.2 + 1)))))) else (some (.out x254.1)))
def g_ref07_Number (s_0 : List UInt8) (lo_1 : Int) (hi_2 : Int) : Option (Int × Int) :=
  (((if (decide (0 < (s_0.length : Int))) then ((atI s_0 0).bind fun b12 => (some ((b12.toNat : Int) == 45))) else (some false)) : Option (Bool)).bind fun v9 => (if v9 then ((subL s_0 1).bind fun z19 => (((if ((z19.length : Int) == 0) then (some true) else ((atI z19 0).bind fun b33 => (if ((b33.toNat : Int) == 48) then (if (decide (1 < (z19.length : Int))) then (some true) else (some v9)) else (some false)))) : Option (Bool)).bind fun v30 => (if v30 then (some (0, 4)) else ((iter (g_ref07_Number_s1 z19) 0).bind fun e44 => (match e44 with | Sum.inl e44 => (some (0, 4)) | Sum.inr (e44) => (if (decide (19 < (z19.length : Int))) then (some (0, 2)) else ((iter (g_ref07_Number_s2 z19) (0, 0)).bind fun e116 => (((if (decide (9223372036854775808 < e116)) then (some true) else (some false)) : Option (Bool)).bind fun v140 => (if v140 then (some (0, 2)) else (if (decide ((IntKind.i64.wrap (0 - (IntKind.i64.wrap e116))) < lo_1)) then (some (0, 2)) else (if (decide (hi_2 < (IntKind.i64.wrap (0 - (IntKind.i64.wrap e116))))) then (some (0, 2)) else (some ((IntKind.i64.wrap (0 - (IntKind.i64.wrap e116))), 0))))))))))))) else (((if ((s_0.length : Int) == 0) then (some true) else ((atI s_0 0).bind fun b172 => (if ((b172.toNat : Int) == 48) then (if (decide (1 < (s_0.length : Int))) then (some true) else (some v9)) else (some false)))) : Option (Bool)).bind fun v169 => (if v169 then (some (0, 4)) else ((iter (g_ref07_Number_s3 s_0) 0).bind fun e183 => (match e183 with | Sum.inl e183 => (some (0, 4)) | Sum.inr (e183) => (if (decide (19 < (s_0.length : Int))) then (some (0, 2)) else ((iter (g_ref07_Number_s4 s_0) (0, 0)).bind fun e255 => (((if (decide (9223372036854775808 < e255)) then (some true) else (some (e255 == 9223372036854775808))) : Option (Bool)).bind fun v279 => (if v279 then (some (0, 2)) else (if (decide ((IntKind.i64.wrap e255) < lo_1)) then (some (0, 2)) else (if (decide (hi_2 < (IntKind.i64.wrap e255))) then (some (0, 2)) else (some ((IntKind.i64.wrap e255), 0))))))))))))))
theorem a_ref07_Number (I : World → Prop) (hI : Stab I) (s_0 : List UInt8) (lo_1 : Int) (hi_2 : Int) {r : Int × Int} (h : g_ref07_Number s_0 lo_1 hi_2 = some r) : AFun Tryd.prog I 109 [.str s_0, .int .i64 lo_1, .int .i64 hi_2] (.tup [.int .i64 r.1, .int .i64 r.2]) := by
  refine AFun.enterB hI Tryd.func109 rfl (by decide) (by simp [Tryd.f109]) (by kernel_rfl) ?_
  unfold g_ref07_Number at h
  simp only [S0, Tryd.ntmps109, dd_UA]
  refine rb_seq ?_
  refine rb_regionK fun K2 hK2 => ?_
  simp -implicitDefEqProofs only [vt, vm, ↓atI_fold, forall_const, implies_true, false_implies, sevalprocAttr, dd_UA]
  subst hK2
  refine eb_seq ?_
  refine rb_seq ?_
  refine rb_regionK fun K4 hK4 => ?_
  simp -implicitDefEqProofs only [vt, vm, ↓atI_fold, forall_const, implies_true, false_implies, sevalprocAttr, dd_UA]
  subst hK4
  refine eb_seq ?_
  obtain ⟨v9, h14, h⟩ := bind_some h
  refine rb_cut (fun v9 => ⟨envL [(0, .str s_0), (1, .int .i64 lo_1), (2, .int .i64 hi_2), (8, .str s_0), (9, .bool v9)], heapL [], 0, 94⟩) h14 ?_ ?_
  · clear h
    intro v9 h
    refine rb_regionK fun K10 hK10 => ?_
    simp -implicitDefEqProofs only [vt, vm, ↓atI_fold, forall_const, implies_true, false_implies, sevalprocAttr, dd_UA]
    rcases ite_or h with ⟨k11, h⟩ | ⟨k11, h⟩
    · simp -implicitDefEqProofs only [vt, vm, ↓atI_fold, forall_const, implies_true, false_implies, sevalprocAttr, dd_UA, k11]
      obtain ⟨b12, h13, h⟩ := bind_some h
      simp -implicitDefEqProofs only [vt, vm, ↓atI_fold, forall_const, implies_true, false_implies, sevalprocAttr, dd_UA, k11, h13]
      subst hK10
      obtain rfl := Option.some.inj h
      exact eb_nil ⟨rfl, Wk.of (fun i => some i) _ _ _ (by simp -implicitDefEqProofs [kv, km, dd_UA, k11]) (by simp -implicitDefEqProofs [kv, km, dd_UA, k11])⟩
    · simp -implicitDefEqProofs only [vt, vm, ↓atI_fold, forall_const, implies_true, false_implies, sevalprocAttr, dd_UA, k11]
      subst hK10
      obtain rfl := Option.some.inj h
      exact eb_nil ⟨rfl, Wk.of (fun i => some i) _ _ _ (by simp -implicitDefEqProofs [kv, km, dd_UA, k11]) (by simp -implicitDefEqProofs [kv, km, dd_UA, k11])⟩
  · refine rb_seq ?_
    refine rb_seq ?_
    refine rb_regionK fun K16 hK16 => ?_
    simp -implicitDefEqProofs only [vt, vm, ↓atI_fold, forall_const, implies_true, false_implies, sevalprocAttr, dd_UA]
    subst hK16
    refine eb_seq ?_
    rcases ite_or h with ⟨k17, h⟩ | ⟨k17, h⟩
    · refine rb_true (by first | exact congrArg D.bool k17 | rfl) ?_
      refine rb_regionK fun K18 hK18 => ?_
      simp -implicitDefEqProofs only [vt, vm, ↓atI_fold, forall_const, implies_true, false_implies, sevalprocAttr, dd_UA, k17]
      obtain ⟨z19, h20, h⟩ := bind_some h
      obtain ⟨⟨h21, h22⟩, h23⟩ := subL_some h20
      try simp only [List.length_cons, List.length_nil, Nat.zero_add, Nat.reduceAdd, Int.reduceToNat] at h22
      try simp -implicitDefEqProofs only [vt, vm, ↓atI_fold, forall_const, implies_true, false_implies, sevalprocAttr, dd_UA, k17, h22] at h23
      simp -implicitDefEqProofs only [vt, vm, ↓atI_fold, forall_const, implies_true, false_implies, sevalprocAttr, dd_UA, k17, h22, h23]
      subst hK18
      refine eb_seq ?_
      refine rb_seq ?_
      obtain ⟨v30, h37, h⟩ := bind_some h
      refine rb_cut (fun v30 => ⟨envL [(1, .int .i64 lo_1), (2, .int .i64 hi_2), (8, .str z19), (9, .bool v9), (41, .bool v30)], heapL [], 0, 94⟩) h37 ?_ ?_
      · clear h
        intro v30 h
        refine rb_regionK fun K31 hK31 => ?_
        simp -implicitDefEqProofs only [vt, vm, ↓atI_fold, forall_const, implies_true, false_implies, sevalprocAttr, dd_UA, k17, h22, h23]
        rcases ite_or h with ⟨k32, h⟩ | ⟨k32, h⟩
        · simp -implicitDefEqProofs only [vt, vm, ↓atI_fold, forall_const, implies_true, false_implies, sevalprocAttr, dd_UA, k17, h22, h23, k32]
          subst hK31
          obtain rfl := Option.some.inj h
          exact eb_nil ⟨rfl, Wk.of (fun i => some i) _ _ _ (by simp -implicitDefEqProofs [kv, km, dd_UA, k17, k32]) (by simp -implicitDefEqProofs [kv, km, dd_UA, k17, k32])⟩
        · simp -implicitDefEqProofs only [vt, vm, ↓atI_fold, forall_const, implies_true, false_implies, sevalprocAttr, dd_UA, k17, h22, h23, k32]
          obtain ⟨b33, h34, h⟩ := bind_some h
          simp -implicitDefEqProofs only [vt, vm, ↓atI_fold, forall_const, implies_true, false_implies, sevalprocAttr, dd_UA, k17, h22, h23, k32, h34]
          rcases ite_or h with ⟨k35, h⟩ | ⟨k35, h⟩
          · simp -implicitDefEqProofs only [vt, vm, ↓atI_fold, forall_const, implies_true, false_implies, sevalprocAttr, dd_UA, k17, h22, h23, k32, h34, k35]
            rcases ite_or h with ⟨k36, h⟩ | ⟨k36, h⟩
            · simp -implicitDefEqProofs only [vt, vm, ↓atI_fold, forall_const, implies_true, false_implies, sevalprocAttr, dd_UA, k17, h22, h23, k32, h34, k35, k36]
              subst hK31
              obtain rfl := Option.some.inj h
              exact eb_nil ⟨rfl, Wk.of (fun i => some i) _ _ _ (by simp -implicitDefEqProofs [kv, km, dd_UA, k17, k32, k35, k36]) (by simp -implicitDefEqProofs [kv, km, dd_UA, k17, k32, k35, k36])⟩
            · simp -implicitDefEqProofs only [vt, vm, ↓atI_fold, forall_const, implies_true, false_implies, sevalprocAttr, dd_UA, k17, h22, h23, k32, h34, k35, k36]
              subst hK31
              obtain rfl := Option.some.inj h
              exact eb_nil ⟨rfl, Wk.of (fun i => some i) _ _ _ (by simp -implicitDefEqProofs [kv, km, dd_UA, k17, k32, k35, k36]) (by simp -implicitDefEqProofs [kv, km, dd_UA, k17, k32, k35, k36])⟩
          · simp -implicitDefEqProofs only [vt, vm, ↓atI_fold, forall_const, implies_true, false_implies, sevalprocAttr, dd_UA, k17, h22, h23, k32, h34, k35]
            subst hK31
            obtain rfl := Option.some.inj h
            exact eb_nil ⟨rfl, Wk.of (fun i => some i) _ _ _ (by simp -implicitDefEqProofs [kv, km, dd_UA, k17, k32, k35]) (by simp -implicitDefEqProofs [kv, km, dd_UA, k17, k32, k35])⟩
      · rcases ite_or h with ⟨k38, h⟩ | ⟨k38, h⟩
        · refine rb_true (by first | exact congrArg D.bool k38 | rfl) ?_
          refine rb_seq ?_
          refine rb_regionK fun K40 hK40 => ?_
          simp -implicitDefEqProofs only [vt, vm, ↓atI_fold, forall_const, implies_true, false_implies, sevalprocAttr, dd_UA, k17, h22, h23, k38]
          subst hK40
          refine eb_seq ?_
          refine rb_ret ?_
          refine eb_seq_r ?_
          obtain rfl := Option.some.inj h
          refine eb_nil ?_
          simp -implicitDefEqProofs only [vt, vm, ↓atI_fold, forall_const, implies_true, false_implies, sevalprocAttr, retQ_r, Tryd.results109, dd_UA, k17, h22, h23, k38] <;> first | rfl | (simp [List.map_append, dd_UA]; done)
        · refine rb_false (by first | exact congrArg D.bool k38 | rfl) ?_
          refine rb_skip ?_
          refine eb_seq ?_
          refine rb_seq ?_
          refine rb_seq ?_
          refine rb_regionK fun K42 hK42 => ?_
          simp -implicitDefEqProofs only [vt, vm, ↓atI_fold, forall_const, implies_true, false_implies, sevalprocAttr, dd_UA, k17, h22, h23, k38]
          subst hK42
          refine eb_seq ?_
          refine rb_block ?_
          obtain ⟨e44, h105, h⟩ := bind_some h
          refine rb_loop (fun x43 => ⟨envL [(1, .int .i64 lo_1), (2, .int .i64 hi_2), (8, .str z19), (9, .bool v9), (10, .int .i64 x43)], heapL [], 0, 94⟩) (fun w => match w with | Sum.inl _ => .ret | Sum.inr (_) => .exit 0) (fun w => match w with | Sum.inl e44 => ⟨envL [(6, .int .i64 0), (7, .int .i64 4)], heapL [], 0, 94⟩ | Sum.inr (e44) => ⟨envL [(1, .int .i64 lo_1), (2, .int .i64 hi_2), (8, .str z19), (9, .bool v9)], heapL [], 0, 94⟩) h105 (Wk.of (fun i => some i) _ _ _ (by simp -implicitDefEqProofs [kv, km, dd_UA, k17, k38]) (by simp -implicitDefEqProofs [kv, km, dd_UA, k17, k38])) (by intro w; rcases w with w | w <;> simp) ?_ ?_
          · clear h
            intro x43 y h
            unfold g_ref07_Number_s1 at h
            refine rb_seq ?_
            refine rb_seq ?_
            refine rb_regionK fun K76 hK76 => ?_
            simp -implicitDefEqProofs only [vt, vm, ↓atI_fold, forall_const, implies_true, false_implies, sevalprocAttr, dd_UA, k17, h22, h23, k38]
            subst hK76
            refine eb_seq ?_
            rcases ite_or h with ⟨k77, h⟩ | ⟨k77, h⟩
            · refine rb_true (by first | exact congrArg D.bool k77 | rfl) ?_
              refine rb_skip ?_
              refine eb_seq ?_
              refine rb_seq ?_
              refine rb_block ?_
              refine rb_seq ?_
              refine rb_regionK fun K96 hK96 => ?_
              simp -implicitDefEqProofs only [vt, vm, ↓atI_fold, forall_const, implies_true, false_implies, sevalprocAttr, dd_UA, k17, h22, h23, k38, k77]
              obtain ⟨b97, h98, h⟩ := bind_some h
              simp -implicitDefEqProofs only [vt, vm, ↓atI_fold, forall_const, implies_true, false_implies, sevalprocAttr, dd_UA, k17, h22, h23, k38, k77, h98]
              obtain ⟨r99, h100, h⟩ := bind_some h
              refine cW.intro (a_ref07_digit I hI (b97.toNat : Int) h100) (by first | rfl | (simp [List.map_append, dd_UA]; done)) ?_
              simp -implicitDefEqProofs only [vt, vm, ↓atI_fold, forall_const, implies_true, false_implies, sevalprocAttr, dd_UA, k17, h22, h23, k38, k77, h98]
              subst hK96
              refine eb_seq ?_
              rcases ite_or h with ⟨k101, h⟩ | ⟨k101, h⟩
              · refine rb_false (by first | exact congrArg D.bool (congrArg Bool.not k101) | rfl) ?_
                refine rb_skip ?_
                refine eb_blk_n ?_
                refine eb_seq ?_
                refine rb_regionK fun K102 hK102 => ?_
                simp -implicitDefEqProofs only [vt, vm, ↓atI_fold, forall_const, implies_true, false_implies, sevalprocAttr, dd_UA, k17, h22, h23, k38, k77, h98, k101]
                subst hK102
                obtain rfl := Option.some.inj h
                exact eb_nil ⟨rfl, Wk.of (fun i => some i) _ _ _ (by simp -implicitDefEqProofs [kv, km, dd_UA, k17, k38, k77, k101]) (by simp -implicitDefEqProofs [kv, km, dd_UA, k17, k38, k77, k101])⟩
              · refine rb_true (by first | exact congrArg D.bool (congrArg Bool.not k101) | rfl) ?_
                refine rb_seq ?_
                refine rb_regionK fun K104 hK104 => ?_
                simp -implicitDefEqProofs only [vt, vm, ↓atI_fold, forall_const, implies_true, false_implies, sevalprocAttr, dd_UA, k17, h22, h23, k38, k77, h98, k101]
                subst hK104
                refine eb_seq ?_
                refine rb_ret ?_
                refine eb_blk_r ?_
                refine eb_seq_r ?_
                obtain rfl := Option.some.inj h
                exact eb_nil ⟨rfl, Wk.of (fun i => some i) _ _ _ (by simp -implicitDefEqProofs [kv, km, dd_UA, k17, k38, k77, k101]) (by simp -implicitDefEqProofs [kv, km, dd_UA, k17, k38, k77, k101])⟩
            · refine rb_false (by first | exact congrArg D.bool k77 | rfl) ?_
              refine rb_exit ?_
              refine eb_seq_e ?_
              obtain rfl := Option.some.inj h
              exact eb_nil ⟨rfl, Wk.of (fun i => some i) _ _ _ (by simp -implicitDefEqProofs [kv, km, dd_UA, k17, k38, k77]) (by simp -implicitDefEqProofs [kv, km, dd_UA, k17, k38, k77])⟩
          · rcases e44 with e44 | e44
            · try dsimp only at h ⊢
              refine eb_blk_r ?_
              refine eb_seq_r ?_
              obtain rfl := Option.some.inj h
              refine eb_nil ?_
              simp -implicitDefEqProofs only [vt, vm, ↓atI_fold, forall_const, implies_true, false_implies, sevalprocAttr, retQ_r, Tryd.results109, dd_UA, k17, h22, h23, k38] <;> first | rfl | (simp [List.map_append, dd_UA]; done)
            · try dsimp only at h ⊢
              refine eb_blk_hit ?_
              refine eb_seq ?_
              refine rb_seq ?_
              refine rb_seq ?_
              refine rb_regionK fun K107 hK107 => ?_
              simp -implicitDefEqProofs only [vt, vm, ↓atI_fold, forall_const, implies_true, false_implies, sevalprocAttr, dd_UA, k17, h22, h23, k38]
              subst hK107
              refine eb_seq ?_
              rcases ite_or h with ⟨k108, h⟩ | ⟨k108, h⟩
              · refine rb_true (by first | exact congrArg D.bool k108 | rfl) ?_
                refine rb_seq ?_
                refine rb_regionK fun K110 hK110 => ?_
                simp -implicitDefEqProofs only [vt, vm, ↓atI_fold, forall_const, implies_true, false_implies, sevalprocAttr, dd_UA, k17, h22, h23, k38, k108]
                subst hK110
                refine eb_seq ?_
                refine rb_ret ?_
                refine eb_seq_r ?_
                obtain rfl := Option.some.inj h
                refine eb_nil ?_
                simp -implicitDefEqProofs only [vt, vm, ↓atI_fold, forall_const, implies_true, false_implies, sevalprocAttr, retQ_r, Tryd.results109, dd_UA, k17, h22, h23, k38, k108] <;> first | rfl | (simp [List.map_append, dd_UA]; done)
              · refine rb_false (by first | exact congrArg D.bool k108 | rfl) ?_
                refine rb_skip ?_
                refine eb_seq ?_
                refine rb_seq ?_
                refine rb_regionK fun K112 hK112 => ?_
                simp -implicitDefEqProofs only [vt, vm, ↓atI_fold, forall_const, implies_true, false_implies, sevalprocAttr, dd_UA, k17, h22, h23, k38, k108]
                subst hK112
                refine eb_seq ?_
                refine rb_seq ?_
                refine rb_seq ?_
                refine rb_regionK fun K114 hK114 => ?_
                simp -implicitDefEqProofs only [vt, vm, ↓atI_fold, forall_const, implies_true, false_implies, sevalprocAttr, dd_UA, k17, h22, h23, k38, k108]
                subst hK114
                refine eb_seq ?_
                refine rb_block ?_
                obtain ⟨e116, h137, h⟩ := bind_some h
                refine rb_loop (fun x115 => ⟨envL [(1, .int .i64 lo_1), (2, .int .i64 hi_2), (8, .str z19), (9, .bool v9), (11, .int .u64 x115.1), (12, .int .i64 x115.2)], heapL [], 0, 94⟩) (fun _ => .exit 2) (fun e116 => ⟨envL [(1, .int .i64 lo_1), (2, .int .i64 hi_2), (9, .bool v9), (11, .int .u64 e116)], heapL [], 0, 94⟩) h137 (Wk.of (fun i => some i) _ _ _ (by simp -implicitDefEqProofs [kv, km, dd_UA, k17, k38, k108]) (by simp -implicitDefEqProofs [kv, km, dd_UA, k17, k38, k108])) (by intro w; simp) ?_ ?_
                · clear h
                  intro x115 y h
                  unfold g_ref07_Number_s2 at h
                  refine rb_seq ?_
                  refine rb_seq ?_
                  refine rb_regionK fun K128 hK128 => ?_
                  simp -implicitDefEqProofs only [vt, vm, ↓atI_fold, forall_const, implies_true, false_implies, sevalprocAttr, dd_UA, k17, h22, h23, k38, k108]
                  subst hK128
                  refine eb_seq ?_
                  rcases ite_or h with ⟨k129, h⟩ | ⟨k129, h⟩
                  · refine rb_true (by first | exact congrArg D.bool k129 | rfl) ?_
                    refine rb_skip ?_
                    refine eb_seq ?_
                    refine rb_seq ?_
                    refine rb_block ?_
                    refine rb_regionK fun K133 hK133 => ?_
                    simp -implicitDefEqProofs only [vt, vm, ↓atI_fold, forall_const, implies_true, false_implies, sevalprocAttr, dd_UA, k17, h22, h23, k38, k108, k129]
                    obtain ⟨b134, h135, h⟩ := bind_some h
                    simp -implicitDefEqProofs only [vt, vm, ↓atI_fold, forall_const, implies_true, false_implies, sevalprocAttr, dd_UA, k17, h22, h23, k38, k108, k129, h135]
                    subst hK133
                    refine eb_blk_n ?_
                    refine eb_seq ?_
                    refine rb_regionK fun K136 hK136 => ?_
                    simp -implicitDefEqProofs only [vt, vm, ↓atI_fold, forall_const, implies_true, false_implies, sevalprocAttr, dd_UA, k17, h22, h23, k38, k108, k129, h135]
                    subst hK136
                    obtain rfl := Option.some.inj h
                    exact eb_nil ⟨rfl, Wk.of (fun i => some i) _ _ _ (by simp -implicitDefEqProofs [kv, km, dd_UA, k17, k38, k108, k129]) (by simp -implicitDefEqProofs [kv, km, dd_UA, k17, k38, k108, k129])⟩
                  · refine rb_false (by first | exact congrArg D.bool k129 | rfl) ?_
                    refine rb_exit ?_
                    refine eb_seq_e ?_
                    obtain rfl := Option.some.inj h
                    exact eb_nil ⟨rfl, Wk.of (fun i => some i) _ _ _ (by simp -implicitDefEqProofs [kv, km, dd_UA, k17, k38, k108, k129]) (by simp -implicitDefEqProofs [kv, km, dd_UA, k17, k38, k108, k129])⟩
                · refine eb_blk_hit ?_
                  refine eb_seq ?_
                  refine rb_seq ?_
                  obtain ⟨v140, h143, h⟩ := bind_some h
                  refine rb_cut (fun v140 => ⟨envL [(1, .int .i64 lo_1), (2, .int .i64 hi_2), (9, .bool v9), (11, .int .u64 e116), (79, .bool v140)], heapL [], 0, 94⟩) h143 ?_ ?_
                  · clear h
                    intro v140 h
                    refine rb_regionK fun K141 hK141 => ?_
                    simp -implicitDefEqProofs only [vt, vm, ↓atI_fold, forall_const, implies_true, false_implies, sevalprocAttr, dd_UA, k17, h22, h23, k38, k108]
                    rcases ite_or h with ⟨k142, h⟩ | ⟨k142, h⟩
                    · simp -implicitDefEqProofs only [vt, vm, ↓atI_fold, forall_const, implies_true, false_implies, sevalprocAttr, dd_UA, k17, h22, h23, k38, k108, k142]
                      subst hK141
                      obtain rfl := Option.some.inj h
                      exact eb_nil ⟨rfl, Wk.of (fun i => some i) _ _ _ (by simp -implicitDefEqProofs [kv, km, dd_UA, k17, k38, k108, k142]) (by simp -implicitDefEqProofs [kv, km, dd_UA, k17, k38, k108, k142])⟩
                    · simp -implicitDefEqProofs only [vt, vm, ↓atI_fold, forall_const, implies_true, false_implies, sevalprocAttr, dd_UA, k17, h22, h23, k38, k108, k142]
                      subst hK141
                      obtain rfl := Option.some.inj h
                      exact eb_nil ⟨rfl, Wk.of (fun i => some i) _ _ _ (by simp -implicitDefEqProofs [kv, km, dd_UA, k17, k38, k108, k142]) (by simp -implicitDefEqProofs [kv, km, dd_UA, k17, k38, k108, k142])⟩
                  · rcases ite_or h with ⟨k144, h⟩ | ⟨k144, h⟩
                    · refine rb_true (by first | exact congrArg D.bool k144 | rfl) ?_
                      refine rb_seq ?_
                      refine rb_regionK fun K146 hK146 => ?_
                      simp -implicitDefEqProofs only [vt, vm, ↓atI_fold, forall_const, implies_true, false_implies, sevalprocAttr, dd_UA, k17, h22, h23, k38, k108, k144]
                      subst hK146
                      refine eb_seq ?_
                      refine rb_ret ?_
                      refine eb_seq_r ?_
                      obtain rfl := Option.some.inj h
                      refine eb_nil ?_
                      simp -implicitDefEqProofs only [vt, vm, ↓atI_fold, forall_const, implies_true, false_implies, sevalprocAttr, retQ_r, Tryd.results109, dd_UA, k17, h22, h23, k38, k108, k144] <;> first | rfl | (simp [List.map_append, dd_UA]; done)
                    · refine rb_false (by first | exact congrArg D.bool k144 | rfl) ?_
                      refine rb_skip ?_
                      refine eb_seq ?_
                      refine rb_seq ?_
                      refine rb_regionK fun K148 hK148 => ?_
                      simp -implicitDefEqProofs only [vt, vm, ↓atI_fold, forall_const, implies_true, false_implies, sevalprocAttr, dd_UA, k17, h22, h23, k38, k108, k144]
                      subst hK148
                      refine eb_seq ?_
                      refine rb_seq ?_
                      refine rb_seq ?_
                      refine rb_regionK fun K150 hK150 => ?_
                      simp -implicitDefEqProofs only [vt, vm, ↓atI_fold, forall_const, implies_true, false_implies, sevalprocAttr, dd_UA, k17, h22, h23, k38, k108, k144]
                      subst hK150
                      refine eb_seq ?_
                      refine rb_true (by first | exact congrArg D.bool k17 | rfl) ?_
                      refine rb_regionK fun K151 hK151 => ?_
                      simp -implicitDefEqProofs only [vt, vm, ↓atI_fold, forall_const, implies_true, false_implies, sevalprocAttr, dd_UA, k17, h22, h23, k38, k108, k144]
                      subst hK151
                      refine eb_seq ?_
                      refine rb_seq ?_
                      refine rb_seq ?_
                      refine rb_regionK fun K154 hK154 => ?_
                      simp -implicitDefEqProofs only [vt, vm, ↓atI_fold, forall_const, implies_true, false_implies, sevalprocAttr, dd_UA, k17, h22, h23, k38, k108, k144]
                      rcases ite_or h with ⟨k155, h⟩ | ⟨k155, h⟩
                      · simp -implicitDefEqProofs only [vt, vm, ↓atI_fold, forall_const, implies_true, false_implies, sevalprocAttr, dd_UA, k17, h22, h23, k38, k108, k144, k155]
                        subst hK154
                        refine eb_seq ?_
                        refine rb_true (rfl) ?_
                        refine rb_seq ?_
                        refine rb_regionK fun K157 hK157 => ?_
                        simp -implicitDefEqProofs only [vt, vm, ↓atI_fold, forall_const, implies_true, false_implies, sevalprocAttr, dd_UA, k17, h22, h23, k38, k108, k144, k155]
                        subst hK157
                        refine eb_seq ?_
                        refine rb_ret ?_
                        refine eb_seq_r ?_
                        obtain rfl := Option.some.inj h
                        refine eb_nil ?_
                        simp -implicitDefEqProofs only [vt, vm, ↓atI_fold, forall_const, implies_true, false_implies, sevalprocAttr, retQ_r, Tryd.results109, dd_UA, k17, h22, h23, k38, k108, k144, k155] <;> first | rfl | (simp [List.map_append, dd_UA]; done)
                      · simp -implicitDefEqProofs only [vt, vm, ↓atI_fold, forall_const, implies_true, false_implies, sevalprocAttr, dd_UA, k17, h22, h23, k38, k108, k144, k155]
                        subst hK154
                        refine eb_seq ?_
                        rcases ite_or h with ⟨k158, h⟩ | ⟨k158, h⟩
                        · refine rb_true (by first | exact congrArg D.bool k158 | rfl) ?_
                          refine rb_seq ?_
                          refine rb_regionK fun K160 hK160 => ?_
                          simp -implicitDefEqProofs only [vt, vm, ↓atI_fold, forall_const, implies_true, false_implies, sevalprocAttr, dd_UA, k17, h22, h23, k38, k108, k144, k155, k158]
                          subst hK160
                          refine eb_seq ?_
                          refine rb_ret ?_
                          refine eb_seq_r ?_
                          obtain rfl := Option.some.inj h
                          refine eb_nil ?_
                          simp -implicitDefEqProofs only [vt, vm, ↓atI_fold, forall_const, implies_true, false_implies, sevalprocAttr, retQ_r, Tryd.results109, dd_UA, k17, h22, h23, k38, k108, k144, k155, k158] <;> first | rfl | (simp [List.map_append, dd_UA]; done)
                        · refine rb_false (by first | exact congrArg D.bool k158 | rfl) ?_
                          refine rb_skip ?_
                          refine eb_seq ?_
                          refine rb_seq ?_
                          refine rb_regionK fun K162 hK162 => ?_
                          simp -implicitDefEqProofs only [vt, vm, ↓atI_fold, forall_const, implies_true, false_implies, sevalprocAttr, dd_UA, k17, h22, h23, k38, k108, k144, k155, k158]
                          subst hK162
                          refine eb_seq ?_
                          refine rb_ret ?_
                          obtain rfl := Option.some.inj h
                          refine eb_nil ?_
                          simp -implicitDefEqProofs only [vt, vm, ↓atI_fold, forall_const, implies_true, false_implies, sevalprocAttr, retQ_r, Tryd.results109, dd_UA, k17, h22, h23, k38, k108, k144, k155, k158] <;> first | rfl | (simp [List.map_append, dd_UA]; done)
    · refine rb_false (by first | exact congrArg D.bool k17 | rfl) ?_
      refine rb_skip ?_
      refine eb_seq ?_
      refine rb_seq ?_
      obtain ⟨v169, h176, h⟩ := bind_some h
      refine rb_cut (fun v169 => ⟨envL [(1, .int .i64 lo_1), (2, .int .i64 hi_2), (8, .str s_0), (9, .bool v9), (41, .bool v169)], heapL [], 0, 94⟩) h176 ?_ ?_
      · clear h
        intro v169 h
        refine rb_regionK fun K170 hK170 => ?_
        simp -implicitDefEqProofs only [vt, vm, ↓atI_fold, forall_const, implies_true, false_implies, sevalprocAttr, dd_UA, k17]
        rcases ite_or h with ⟨k171, h⟩ | ⟨k171, h⟩
        · simp -implicitDefEqProofs only [vt, vm, ↓atI_fold, forall_const, implies_true, false_implies, sevalprocAttr, dd_UA, k17, k171]
          subst hK170
          obtain rfl := Option.some.inj h
          exact eb_nil ⟨rfl, Wk.of (fun i => some i) _ _ _ (by simp -implicitDefEqProofs [kv, km, dd_UA, k17, k171]) (by simp -implicitDefEqProofs [kv, km, dd_UA, k17, k171])⟩
        · simp -implicitDefEqProofs only [vt, vm, ↓atI_fold, forall_const, implies_true, false_implies, sevalprocAttr, dd_UA, k17, k171]
          obtain ⟨b172, h173, h⟩ := bind_some h
          simp -implicitDefEqProofs only [vt, vm, ↓atI_fold, forall_const, implies_true, false_implies, sevalprocAttr, dd_UA, k17, k171, h173]
          rcases ite_or h with ⟨k174, h⟩ | ⟨k174, h⟩
          · simp -implicitDefEqProofs only [vt, vm, ↓atI_fold, forall_const, implies_true, false_implies, sevalprocAttr, dd_UA, k17, k171, h173, k174]
            rcases ite_or h with ⟨k175, h⟩ | ⟨k175, h⟩
            · simp -implicitDefEqProofs only [vt, vm, ↓atI_fold, forall_const, implies_true, false_implies, sevalprocAttr, dd_UA, k17, k171, h173, k174, k175]
              subst hK170
              obtain rfl := Option.some.inj h
              exact eb_nil ⟨rfl, Wk.of (fun i => some i) _ _ _ (by simp -implicitDefEqProofs [kv, km, dd_UA, k17, k171, k174, k175]) (by simp -implicitDefEqProofs [kv, km, dd_UA, k17, k171, k174, k175])⟩
            · simp -implicitDefEqProofs only [vt, vm, ↓atI_fold, forall_const, implies_true, false_implies, sevalprocAttr, dd_UA, k17, k171, h173, k174, k175]
              subst hK170
              obtain rfl := Option.some.inj h
              exact eb_nil ⟨rfl, Wk.of (fun i => some i) _ _ _ (by simp -implicitDefEqProofs [kv, km, dd_UA, k17, k171, k174, k175]) (by simp -implicitDefEqProofs [kv, km, dd_UA, k17, k171, k174, k175])⟩
          · simp -implicitDefEqProofs only [vt, vm, ↓atI_fold, forall_const, implies_true, false_implies, sevalprocAttr, dd_UA, k17, k171, h173, k174]
            subst hK170
            obtain rfl := Option.some.inj h
            exact eb_nil ⟨rfl, Wk.of (fun i => some i) _ _ _ (by simp -implicitDefEqProofs [kv, km, dd_UA, k17, k171, k174]) (by simp -implicitDefEqProofs [kv, km, dd_UA, k17, k171, k174])⟩
      · rcases ite_or h with ⟨k177, h⟩ | ⟨k177, h⟩
        · refine rb_true (by first | exact congrArg D.bool k177 | rfl) ?_
          refine rb_seq ?_
          refine rb_regionK fun K179 hK179 => ?_
          simp -implicitDefEqProofs only [vt, vm, ↓atI_fold, forall_const, implies_true, false_implies, sevalprocAttr, dd_UA, k17, k177]
          subst hK179
          refine eb_seq ?_
          refine rb_ret ?_
          refine eb_seq_r ?_
          obtain rfl := Option.some.inj h
          refine eb_nil ?_
          simp -implicitDefEqProofs only [vt, vm, ↓atI_fold, forall_const, implies_true, false_implies, sevalprocAttr, retQ_r, Tryd.results109, dd_UA, k17, k177] <;> first | rfl | (simp [List.map_append, dd_UA]; done)
        · refine rb_false (by first | exact congrArg D.bool k177 | rfl) ?_
          refine rb_skip ?_
          refine eb_seq ?_
          refine rb_seq ?_
          refine rb_seq ?_
          refine rb_regionK fun K181 hK181 => ?_
          simp -implicitDefEqProofs only [vt, vm, ↓atI_fold, forall_const, implies_true, false_implies, sevalprocAttr, dd_UA, k17, k177]
          subst hK181
          refine eb_seq ?_
          refine rb_block ?_
          obtain ⟨e183, h244, h⟩ := bind_some h
          refine rb_loop (fun x182 => ⟨envL [(1, .int .i64 lo_1), (2, .int .i64 hi_2), (8, .str s_0), (9, .bool v9), (10, .int .i64 x182)], heapL [], 0, 94⟩) (fun w => match w with | Sum.inl _ => .ret | Sum.inr (_) => .exit 0) (fun w => match w with | Sum.inl e183 => ⟨envL [(6, .int .i64 0), (7, .int .i64 4)], heapL [], 0, 94⟩ | Sum.inr (e183) => ⟨envL [(1, .int .i64 lo_1), (2, .int .i64 hi_2), (8, .str s_0), (9, .bool v9)], heapL [], 0, 94⟩) h244 (Wk.of (fun i => some i) _ _ _ (by simp -implicitDefEqProofs [kv, km, dd_UA, k17, k177]) (by simp -implicitDefEqProofs [kv, km, dd_UA, k17, k177])) (by intro w; rcases w with w | w <;> simp) ?_ ?_
          · clear h
            intro x182 y h
            unfold g_ref07_Number_s3 at h
            refine rb_seq ?_
            refine rb_seq ?_
            refine rb_regionK fun K215 hK215 => ?_
            simp -implicitDefEqProofs only [vt, vm, ↓atI_fold, forall_const, implies_true, false_implies, sevalprocAttr, dd_UA, k17, k177]
            subst hK215
            refine eb_seq ?_
            rcases ite_or h with ⟨k216, h⟩ | ⟨k216, h⟩
            · refine rb_true (by first | exact congrArg D.bool k216 | rfl) ?_
              refine rb_skip ?_
              refine eb_seq ?_
              refine rb_seq ?_
              refine rb_block ?_
              refine rb_seq ?_
              refine rb_regionK fun K235 hK235 => ?_
              simp -implicitDefEqProofs only [vt, vm, ↓atI_fold, forall_const, implies_true, false_implies, sevalprocAttr, dd_UA, k17, k177, k216]
              obtain ⟨b236, h237, h⟩ := bind_some h
              simp -implicitDefEqProofs only [vt, vm, ↓atI_fold, forall_const, implies_true, false_implies, sevalprocAttr, dd_UA, k17, k177, k216, h237]
              obtain ⟨r238, h239, h⟩ := bind_some h
              refine cW.intro (a_ref07_digit I hI (b236.toNat : Int) h239) (by first | rfl | (simp [List.map_append, dd_UA]; done)) ?_
              simp -implicitDefEqProofs only [vt, vm, ↓atI_fold, forall_const, implies_true, false_implies, sevalprocAttr, dd_UA, k17, k177, k216, h237]
              subst hK235
              refine eb_seq ?_
              rcases ite_or h with ⟨k240, h⟩ | ⟨k240, h⟩
              · refine rb_false (by first | exact congrArg D.bool (congrArg Bool.not k240) | rfl) ?_
                refine rb_skip ?_
                refine eb_blk_n ?_
                refine eb_seq ?_
                refine rb_regionK fun K241 hK241 => ?_
                simp -implicitDefEqProofs only [vt, vm, ↓atI_fold, forall_const, implies_true, false_implies, sevalprocAttr, dd_UA, k17, k177, k216, h237, k240]
                subst hK241
                obtain rfl := Option.some.inj h
                exact eb_nil ⟨rfl, Wk.of (fun i => some i) _ _ _ (by simp -implicitDefEqProofs [kv, km, dd_UA, k17, k177, k216, k240]) (by simp -implicitDefEqProofs [kv, km, dd_UA, k17, k177, k216, k240])⟩
              · refine rb_true (by first | exact congrArg D.bool (congrArg Bool.not k240) | rfl) ?_
                refine rb_seq ?_
                refine rb_regionK fun K243 hK243 => ?_
                simp -implicitDefEqProofs only [vt, vm, ↓atI_fold, forall_const, implies_true, false_implies, sevalprocAttr, dd_UA, k17, k177, k216, h237, k240]
                subst hK243
                refine eb_seq ?_
                refine rb_ret ?_
                refine eb_blk_r ?_
                refine eb_seq_r ?_
                obtain rfl := Option.some.inj h
                exact eb_nil ⟨rfl, Wk.of (fun i => some i) _ _ _ (by simp -implicitDefEqProofs [kv, km, dd_UA, k17, k177, k216, k240]) (by simp -implicitDefEqProofs [kv, km, dd_UA, k17, k177, k216, k240])⟩
            · refine rb_false (by first | exact congrArg D.bool k216 | rfl) ?_
              refine rb_exit ?_
              refine eb_seq_e ?_
              obtain rfl := Option.some.inj h
              exact eb_nil ⟨rfl, Wk.of (fun i => some i) _ _ _ (by simp -implicitDefEqProofs [kv, km, dd_UA, k17, k177, k216]) (by simp -implicitDefEqProofs [kv, km, dd_UA, k17, k177, k216])⟩
          · rcases e183 with e183 | e183
            · try dsimp only at h ⊢
              refine eb_blk_r ?_
              refine eb_seq_r ?_
              obtain rfl := Option.some.inj h
              refine eb_nil ?_
              simp -implicitDefEqProofs only [vt, vm, ↓atI_fold, forall_const, implies_true, false_implies, sevalprocAttr, retQ_r, Tryd.results109, dd_UA, k17, k177] <;> first | rfl | (simp [List.map_append, dd_UA]; done)
            · try dsimp only at h ⊢
              refine eb_blk_hit ?_
              refine eb_seq ?_
              refine rb_seq ?_
              refine rb_seq ?_
              refine rb_regionK fun K246 hK246 => ?_
              simp -implicitDefEqProofs only [vt, vm, ↓atI_fold, forall_const, implies_true, false_implies, sevalprocAttr, dd_UA, k17, k177]
              subst hK246
              refine eb_seq ?_
              rcases ite_or h with ⟨k247, h⟩ | ⟨k247, h⟩
              · refine rb_true (by first | exact congrArg D.bool k247 | rfl) ?_
                refine rb_seq ?_
                refine rb_regionK fun K249 hK249 => ?_
                simp -implicitDefEqProofs only [vt, vm, ↓atI_fold, forall_const, implies_true, false_implies, sevalprocAttr, dd_UA, k17, k177, k247]
                subst hK249
                refine eb_seq ?_
                refine rb_ret ?_
                refine eb_seq_r ?_
                obtain rfl := Option.some.inj h
                refine eb_nil ?_
                simp -implicitDefEqProofs only [vt, vm, ↓atI_fold, forall_const, implies_true, false_implies, sevalprocAttr, retQ_r, Tryd.results109, dd_UA, k17, k177, k247] <;> first | rfl | (simp [List.map_append, dd_UA]; done)
              · refine rb_false (by first | exact congrArg D.bool k247 | rfl) ?_
                refine rb_skip ?_
                refine eb_seq ?_
                refine rb_seq ?_
                refine rb_regionK fun K251 hK251 => ?_
                simp -implicitDefEqProofs only [vt, vm, ↓atI_fold, forall_const, implies_true, false_implies, sevalprocAttr, dd_UA, k17, k177, k247]
                subst hK251
                refine eb_seq ?_
                refine rb_seq ?_
                refine rb_seq ?_
                refine rb_regionK fun K253 hK253 => ?_
                simp -implicitDefEqProofs only [vt, vm, ↓atI_fold, forall_const, implies_true, false_implies, sevalprocAttr, dd_UA, k17, k177, k247]
                subst hK253
                refine eb_seq ?_
                refine rb_block ?_
                obtain ⟨e255, h276, h⟩ := bind_some h
                refine rb_loop (fun x254 => ⟨envL [(1, .int .i64 lo_1), (2, .int .i64 hi_2), (8, .str s_0), (9, .bool v9), (11, .int .u64 x254.1), (12, .int .i64 x254.2)], heapL [], 0, 94⟩) (fun _ => .exit 2) (fun e255 => ⟨envL [(1, .int .i64 lo_1), (2, .int .i64 hi_2), (9, .bool v9), (11, .int .u64 e255)], heapL [], 0, 94⟩) h276 (Wk.of (fun i => some i) _ _ _ (by simp -implicitDefEqProofs [kv, km, dd_UA, k17, k177, k247]) (by simp -implicitDefEqProofs [kv, km, dd_UA, k17, k177, k247])) (by intro w; simp) ?_ ?_
                · clear h
                  intro x254 y h
                  unfold g_ref07_Number_s4 at h
                  refine rb_seq ?_
                  refine rb_seq ?_
                  refine rb_regionK fun K267 hK267 => ?_
                  simp -implicitDefEqProofs only [vt, vm, ↓atI_fold, forall_const, implies_true, false_implies, sevalprocAttr, dd_UA, k17, k177, k247]
                  subst hK267
                  refine eb_seq ?_
                  rcases ite_or h with ⟨k268, h⟩ | ⟨k268, h⟩
                  · refine rb_true (by first | exact congrArg D.bool k268 | rfl) ?_
                    refine rb_skip ?_
                    refine eb_seq ?_
                    refine rb_seq ?_
                    refine rb_block ?_
                    refine rb_regionK fun K272 hK272 => ?_
                    simp -implicitDefEqProofs only [vt, vm, ↓atI_fold, forall_const, implies_true, false_implies, sevalprocAttr, dd_UA, k17, k177, k247, k268]
                    obtain ⟨b273, h274, h⟩ := bind_some h
                    simp -implicitDefEqProofs only [vt, vm, ↓atI_fold, forall_const, implies_true, false_implies, sevalprocAttr, dd_UA, k17, k177, k247, k268, h274]
                    subst hK272
                    refine eb_blk_n ?_
                    refine eb_seq ?_
                    refine rb_regionK fun K275 hK275 => ?_
                    simp -implicitDefEqProofs only [vt, vm, ↓atI_fold, forall_const, implies_true, false_implies, sevalprocAttr, dd_UA, k17, k177, k247, k268, h274]
                    subst hK275
                    obtain rfl := Option.some.inj h
                    exact eb_nil ⟨rfl, Wk.of (fun i => some i) _ _ _ (by simp -implicitDefEqProofs [kv, km, dd_UA, k17, k177, k247, k268]) (by simp -implicitDefEqProofs [kv, km, dd_UA, k17, k177, k247, k268])⟩
                  · refine rb_false (by first | exact congrArg D.bool k268 | rfl) ?_
                    refine rb_exit ?_
                    refine eb_seq_e ?_
                    obtain rfl := Option.some.inj h
                    exact eb_nil ⟨rfl, Wk.of (fun i => some i) _ _ _ (by simp -implicitDefEqProofs [kv, km, dd_UA, k17, k177, k247, k268]) (by simp -implicitDefEqProofs [kv, km, dd_UA, k17, k177, k247, k268])⟩
                · refine eb_blk_hit ?_
                  refine eb_seq ?_
                  refine rb_seq ?_
                  obtain ⟨v279, h282, h⟩ := bind_some h
                  refine rb_cut (fun v279 => ⟨envL [(1, .int .i64 lo_1), (2, .int .i64 hi_2), (9, .bool v9), (11, .int .u64 e255), (79, .bool v279)], heapL [], 0, 94⟩) h282 ?_ ?_
                  · clear h
                    intro v279 h
                    refine rb_regionK fun K280 hK280 => ?_
                    simp -implicitDefEqProofs only [vt, vm, ↓atI_fold, forall_const, implies_true, false_implies, sevalprocAttr, dd_UA, k17, k177, k247]
                    rcases ite_or h with ⟨k281, h⟩ | ⟨k281, h⟩
                    · simp -implicitDefEqProofs only [vt, vm, ↓atI_fold, forall_const, implies_true, false_implies, sevalprocAttr, dd_UA, k17, k177, k247, k281]
                      subst hK280
                      obtain rfl := Option.some.inj h
                      exact eb_nil ⟨rfl, Wk.of (fun i => some i) _ _ _ (by simp -implicitDefEqProofs [kv, km, dd_UA, k17, k177, k247, k281]) (by simp -implicitDefEqProofs [kv, km, dd_UA, k17, k177, k247, k281])⟩
                    · simp -implicitDefEqProofs only [vt, vm, ↓atI_fold, forall_const, implies_true, false_implies, sevalprocAttr, dd_UA, k17, k177, k247, k281]
                      subst hK280
                      obtain rfl := Option.some.inj h
                      exact eb_nil ⟨rfl, Wk.of (fun i => some i) _ _ _ (by simp -implicitDefEqProofs [kv, km, dd_UA, k17, k177, k247, k281]) (by simp -implicitDefEqProofs [kv, km, dd_UA, k17, k177, k247, k281])⟩
                  · rcases ite_or h with ⟨k283, h⟩ | ⟨k283, h⟩
                    · refine rb_true (by first | exact congrArg D.bool k283 | rfl) ?_
                      refine rb_seq ?_
                      refine rb_regionK fun K285 hK285 => ?_
                      simp -implicitDefEqProofs only [vt, vm, ↓atI_fold, forall_const, implies_true, false_implies, sevalprocAttr, dd_UA, k17, k177, k247, k283]
                      subst hK285
                      refine eb_seq ?_
                      refine rb_ret ?_
                      refine eb_seq_r ?_
                      obtain rfl := Option.some.inj h
                      refine eb_nil ?_
                      simp -implicitDefEqProofs only [vt, vm, ↓atI_fold, forall_const, implies_true, false_implies, sevalprocAttr, retQ_r, Tryd.results109, dd_UA, k17, k177, k247, k283] <;> first | rfl | (simp [List.map_append, dd_UA]; done)
                    · refine rb_false (by first | exact congrArg D.bool k283 | rfl) ?_
                      refine rb_skip ?_
                      refine eb_seq ?_
                      refine rb_seq ?_
                      refine rb_regionK fun K287 hK287 => ?_
                      simp -implicitDefEqProofs only [vt, vm, ↓atI_fold, forall_const, implies_true, false_implies, sevalprocAttr, dd_UA, k17, k177, k247, k283]
                      subst hK287
                      refine eb_seq ?_
                      refine rb_seq ?_
                      refine rb_seq ?_
                      refine rb_regionK fun K289 hK289 => ?_
                      simp -implicitDefEqProofs only [vt, vm, ↓atI_fold, forall_const, implies_true, false_implies, sevalprocAttr, dd_UA, k17, k177, k247, k283]
                      subst hK289
                      refine eb_seq ?_
                      refine rb_false (by first | exact congrArg D.bool k17 | rfl) ?_
                      refine rb_skip ?_
                      refine eb_seq ?_
                      refine rb_seq ?_
                      refine rb_seq ?_
                      refine rb_regionK fun K292 hK292 => ?_
                      simp -implicitDefEqProofs only [vt, vm, ↓atI_fold, forall_const, implies_true, false_implies, sevalprocAttr, dd_UA, k17, k177, k247, k283]
                      rcases ite_or h with ⟨k293, h⟩ | ⟨k293, h⟩
                      · simp -implicitDefEqProofs only [vt, vm, ↓atI_fold, forall_const, implies_true, false_implies, sevalprocAttr, dd_UA, k17, k177, k247, k283, k293]
                        subst hK292
                        refine eb_seq ?_
                        refine rb_true (rfl) ?_
                        refine rb_seq ?_
                        refine rb_regionK fun K295 hK295 => ?_
                        simp -implicitDefEqProofs only [vt, vm, ↓atI_fold, forall_const, implies_true, false_implies, sevalprocAttr, dd_UA, k17, k177, k247, k283, k293]
                        subst hK295
                        refine eb_seq ?_
                        refine rb_ret ?_
                        refine eb_seq_r ?_
                        obtain rfl := Option.some.inj h
                        refine eb_nil ?_
                        simp -implicitDefEqProofs only [vt, vm, ↓atI_fold, forall_const, implies_true, false_implies, sevalprocAttr, retQ_r, Tryd.results109, dd_UA, k17, k177, k247, k283, k293] <;> first | rfl | (simp [List.map_append, dd_UA]; done)
                      · simp -implicitDefEqProofs only [vt, vm, ↓atI_fold, forall_const, implies_true, false_implies, sevalprocAttr, dd_UA, k17, k177, k247, k283, k293]
                        subst hK292
                        refine eb_seq ?_
                        rcases ite_or h with ⟨k296, h⟩ | ⟨k296, h⟩
                        · refine rb_true (by first | exact congrArg D.bool k296 | rfl) ?_
                          refine rb_seq ?_
                          refine rb_regionK fun K298 hK298 => ?_
                          simp -implicitDefEqProofs only [vt, vm, ↓atI_fold, forall_const, implies_true, false_implies, sevalprocAttr, dd_UA, k17, k177, k247, k283, k293, k296]
                          subst hK298
                          refine eb_seq ?_
                          refine rb_ret ?_
                          refine eb_seq_r ?_
                          obtain rfl := Option.some.inj h
                          refine eb_nil ?_
                          simp -implicitDefEqProofs only [vt, vm, ↓atI_fold, forall_const, implies_true, false_implies, sevalprocAttr, retQ_r, Tryd.results109, dd_UA, k17, k177, k247, k283, k293, k296] <;> first | rfl | (simp [List.map_append, dd_UA]; done)
                        · refine rb_false (by first | exact congrArg D.bool k296 | rfl) ?_
                          refine rb_skip ?_
                          refine eb_seq ?_
                          refine rb_seq ?_
                          refine rb_regionK fun K300 hK300 => ?_
                          simp -implicitDefEqProofs only [vt, vm, ↓atI_fold, forall_const, implies_true, false_implies, sevalprocAttr, dd_UA, k17, k177, k247, k283, k293, k296]
                          subst hK300
                          refine eb_seq ?_
                          refine rb_ret ?_
                          obtain rfl := Option.some.inj h
                          refine eb_nil ?_
                          simp -implicitDefEqProofs only [vt, vm, ↓atI_fold, forall_const, implies_true, false_implies, sevalprocAttr, retQ_r, Tryd.results109, dd_UA, k17, k177, k247, k283, k293, k296] <;> first | rfl | (simp [List.map_append, dd_UA]; done)
end Go.Proofs.YtipdmcpmedmicaaDoor
