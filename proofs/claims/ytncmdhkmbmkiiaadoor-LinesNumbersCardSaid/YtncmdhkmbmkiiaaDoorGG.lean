/- What some functions compute, read off their texts by a program of mine (gen.py): definitions, and contracts (the text computes it). No condition but that the definition answers. -/
import Derived.Test.YtncmdhkmbmkiiaaDoorGF
namespace Go.Proofs.YtncmdhkmbmkiiaaDoor
open Go.RowKit
set_option maxRecDepth 100000
set_option linter.unusedVariables false
set_option linter.unusedSimpArgs false
set_option maxHeartbeats 10000000
theorem dd_GG : (∀ x, T_api_Diag.d x = .agg [.int .i64 x.Line, .int .i64 x.Column, .int .i64 x.Code]) ∧ (∀ x, T_api_Field.d x = .agg [.str x.Text, .int .i64 x.Column, .bool x.Quoted]) ∧ (∀ x, T_api_Line.d x = .agg [.int .i64 x.Number, .sl (x.Fields.map T_api_Field.d)]) := ⟨fun _ => rfl, fun _ => rfl, fun _ => rfl⟩
-- captionerlaw07.LinesLong
def g_law07_LinesLong_s1 (n_0 : Int) (x16 : (List UInt8) × Int) : Option (Nx ((List UInt8) × Int) ((List UInt8))) :=
  (if (decide (x16.2 < (IntKind.i64.wrap (998 + (IntKind.i64.wrap (Int.tmod n_0 5)))))) then (if x16.1.length + 1 ≤ 9223372036854775807 then (some (.go ((x16.1 ++ [97]), (IntKind.i64.wrap (x16.2 + 1))))) else none) else (some (.out x16.1)))
def g_law07_LinesLong_s2 (n_0 : Int) (c_1 : Int) (x67 : (List UInt8) × Int) : Option (Nx ((List UInt8) × Int) ((List UInt8))) :=
  (if (decide (x67.2 < (Int.tmod (IntKind.i64.wrap n_0) 120))) then (if x67.1.length + (bytesOf [120, 32, c_1, 10]).length ≤ 9223372036854775807 then (some (.go ((x67.1 ++ (bytesOf [120, 32, c_1, 10])), (IntKind.i64.wrap (x67.2 + 1))))) else none) else (some (.out x67.1)))
def g_law07_LinesLong_s3  (x124 : Int × (List Int)) : Option (Nx (Int × (List Int)) ((List Int))) :=
  (if (decide (x124.1 < 262145)) then ((atI x124.2 x124.1).bind fun y180 => ((setI x124.2 x124.1 32).bind fun m185 => (some (.go ((IntKind.i64.wrap (x124.1 + 1)), m185))))) else (some (.out x124.2)))
def g_law07_LinesLong_s4 (n_0 : Int) (c_1 : Int) (x268 : (List UInt8) × Int) : Option (Nx ((List UInt8) × Int) ((List UInt8))) :=
  (if (decide (x268.2 < (Int.tmod (IntKind.i64.wrap n_0) 120))) then (if x268.1.length + (bytesOf [120, 32, c_1, 10]).length ≤ 9223372036854775807 then (some (.go ((x268.1 ++ (bytesOf [120, 32, c_1, 10])), (IntKind.i64.wrap (x268.2 + 1))))) else none) else (some (.out x268.1)))
def g_law07_LinesLong_s5  (x325 : Int × (List Int)) : Option (Nx (Int × (List Int)) ((List Int))) :=
  (if (decide (x325.1 < 262145)) then ((atI x325.2 x325.1).bind fun y381 => ((setI x325.2 x325.1 32).bind fun m386 => (some (.go ((IntKind.i64.wrap (x325.1 + 1)), m386))))) else (some (.out x325.2)))
def g_law07_LinesLong (n_0 : Int) (c_1 : Int) : Option (Bool) :=
  ((g_law07_awake).bind fun r7 => (if r7 then ((iter (g_law07_LinesLong_s1 n_0) ([], 0)).bind fun e17 => ((g_lines_Split e17).bind fun r45 => (if (decide (1000 < (IntKind.i64.wrap (998 + (IntKind.i64.wrap (Int.tmod n_0 5)))))) then (((if ((r45.1.length : Int) != 0) then (some true) else ((g_law07_sameDiags r45.2 [(T_api_Diag.mk 1 1001 9)]).bind fun r57 => (some (!r57)))) : Option (Bool)).bind fun v54 => (if v54 then (some false) else ((iter (g_law07_LinesLong_s2 n_0 c_1) ([], 0)).bind fun e68 => ((g_lines_Split e68).bind fun r96 => ((g_ref07_Split e68).bind fun r102 => ((mkI 1 262145 (0 : Int)).bind fun m114 => ((iter (g_law07_LinesLong_s3) (0, m114)).bind fun e125 => ((g_lines_Split (bytesOf e125)).bind fun r197 => ((subI e125 1 1001).bind fun z210 => ((g_lines_Split (bytesOf z210)).bind fun r217 => ((g_law07_sameLines r96.1 r102.1).bind fun r233 => (if r233 then ((g_law07_sameDiags r96.2 r102.2).bind fun r236 => (if r236 then (if (decide ((r96.2.length : Int) ≤ 50)) then (if ((r197.1.length : Int) == 0) then ((g_law07_sameDiags r197.2 [(T_api_Diag.mk 1 1 9)]).bind fun r241 => (if r241 then (if ((r217.1.length : Int) == 0) then (some ((r217.2.length : Int) == 0)) else (some false)) else (some false))) else (some false)) else (some false)) else (some false))) else (some false))))))))))))) else (((if ((r45.1.length : Int) != 1) then (some true) else (if ((r45.2.length : Int) != 0) then (some true) else ((atI r45.1 0).bind fun y256 => ((atI y256.Fields 0).bind fun y258 => (some (!(y258.Text == e17))))))) : Option (Bool)).bind fun v252 => (if v252 then (some false) else ((iter (g_law07_LinesLong_s4 n_0 c_1) ([], 0)).bind fun e269 => ((g_lines_Split e269).bind fun r297 => ((g_ref07_Split e269).bind fun r303 => ((mkI 1 262145 (0 : Int)).bind fun m315 => ((iter (g_law07_LinesLong_s5) (0, m315)).bind fun e326 => ((g_lines_Split (bytesOf e326)).bind fun r398 => ((subI e326 1 1001).bind fun z411 => ((g_lines_Split (bytesOf z411)).bind fun r418 => ((g_law07_sameLines r297.1 r303.1).bind fun r434 => (if r434 then ((g_law07_sameDiags r297.2 r303.2).bind fun r437 => (if r437 then (if (decide ((r297.2.length : Int) ≤ 50)) then (if ((r398.1.length : Int) == 0) then ((g_law07_sameDiags r398.2 [(T_api_Diag.mk 1 1 9)]).bind fun r442 => (if r442 then (if ((r418.1.length : Int) == 0) then (some ((r418.2.length : Int) == 0)) else (some false)) else (some false))) else (some false)) else (some false)) else (some false))) else (some false)))))))))))))))) else (some false)))
theorem a_law07_LinesLong (I : World → Prop) (hI : Stab I) (hPIv : ∀ w, I w → PIv w) (hShp : ∀ w, I w → Shp w) (n_0 : Int) (c_1 : Int) {r : Bool} (h : g_law07_LinesLong n_0 c_1 = some r) : AFun Tryd.prog I 11 [.int .u16 n_0, .int .u8 c_1] (.bool r) := by
  refine AFun.enterB hI Tryd.func11 rfl (by decide) (by simp [Tryd.f11]) (by kernel_rfl) ?_
  unfold g_law07_LinesLong at h
  simp only [S0, Tryd.ntmps11, dd_GG]
  refine rb_seq ?_
  refine rb_regionK fun K2 hK2 => ?_
  simp -implicitDefEqProofs only [vt, ↓atI_fold, forall_const, implies_true, sevalprocAttr, dd_GG]
  subst hK2
  refine eb_seq ?_
  refine rb_seq ?_
  refine rb_seq ?_
  refine rb_regionK fun K6 hK6 => ?_
  simp -implicitDefEqProofs only [vt, ↓atI_fold, forall_const, implies_true, sevalprocAttr, dd_GG]
  obtain ⟨r7, h8, h⟩ := bind_some h
  refine cW.intro (a_law07_awake I hI hPIv hShp h8) (by first | rfl | (simp [List.map_append, dd_GG]; done)) ?_
  simp -implicitDefEqProofs only [vt, ↓atI_fold, forall_const, implies_true, sevalprocAttr, dd_GG]
  subst hK6
  refine eb_seq ?_
  rcases ite_or h with ⟨k9, h⟩ | ⟨k9, h⟩
  · refine rb_false (by first | exact congrArg D.bool (congrArg Bool.not k9) | rfl) ?_
    refine rb_skip ?_
    refine eb_seq ?_
    refine rb_seq ?_
    refine rb_regionK fun K11 hK11 => ?_
    simp -implicitDefEqProofs only [vt, ↓atI_fold, forall_const, implies_true, sevalprocAttr, dd_GG, k9]
    subst hK11
    refine eb_seq ?_
    refine rb_seq ?_
    refine rb_regionK fun K13 hK13 => ?_
    simp -implicitDefEqProofs only [vt, ↓atI_fold, forall_const, implies_true, sevalprocAttr, dd_GG, k9]
    subst hK13
    refine eb_seq ?_
    refine rb_seq ?_
    refine rb_seq ?_
    refine rb_regionK fun K15 hK15 => ?_
    simp -implicitDefEqProofs only [vt, ↓atI_fold, forall_const, implies_true, sevalprocAttr, dd_GG, k9]
    subst hK15
    refine eb_seq ?_
    refine rb_block ?_
    obtain ⟨e17, h40, h⟩ := bind_some h
    refine rb_loop (fun x16 => ⟨envL [(0, .int .u16 n_0), (1, .int .u8 c_1), (5, .int .i64 (IntKind.i64.wrap (998 + (IntKind.i64.wrap (Int.tmod n_0 5))))), (6, .str x16.1), (24, .int .i64 (IntKind.i64.wrap (998 + (IntKind.i64.wrap (Int.tmod n_0 5))))), (25, .int .i64 x16.2)], heapL [], 0, 144⟩) (fun _ => .exit 0) (fun e17 => ⟨envL [(0, .int .u16 n_0), (1, .int .u8 c_1), (5, .int .i64 (IntKind.i64.wrap (998 + (IntKind.i64.wrap (Int.tmod n_0 5))))), (6, .str e17)], heapL [], 0, 144⟩) h40 (Wk.of (fun i => some i) _ _ _ (by simp -implicitDefEqProofs [kv, dd_GG, k9]) (by simp -implicitDefEqProofs [kv, dd_GG, k9])) (by intro w; simp) ?_ ?_
    · clear h
      intro x16 y h
      unfold g_law07_LinesLong_s1 at h
      refine rb_seq ?_
      refine rb_regionK fun K30 hK30 => ?_
      simp -implicitDefEqProofs only [vt, ↓atI_fold, forall_const, implies_true, sevalprocAttr, dd_GG, k9]
      subst hK30
      refine eb_seq ?_
      refine rb_seq ?_
      rcases ite_or h with ⟨k32, h⟩ | ⟨k32, h⟩
      · refine rb_true (by first | exact congrArg D.bool k32 | rfl) ?_
        refine rb_skip ?_
        refine eb_seq ?_
        refine rb_seq ?_
        refine rb_block ?_
        refine rb_regionK fun K36 hK36 => ?_
        simp -implicitDefEqProofs only [vt, ↓atI_fold, forall_const, implies_true, sevalprocAttr, dd_GG, k9, k32]
        obtain ⟨h37, h⟩ := ite_on h
        have h38 : x16.1.length + ([97] : List UInt8).length ≤ 9223372036854775807 := by (try simp only [List.length_append, List.length_cons, List.length_nil]); omega
        try simp -implicitDefEqProofs only [vt, ↓atI_fold, forall_const, implies_true, sevalprocAttr, dd_GG, k9, k32] at h38
        simp -implicitDefEqProofs only [vt, ↓atI_fold, forall_const, implies_true, sevalprocAttr, dd_GG, k9, k32, h38, h37]
        subst hK36
        refine eb_blk_n ?_
        refine eb_seq ?_
        refine rb_regionK fun K39 hK39 => ?_
        simp -implicitDefEqProofs only [vt, ↓atI_fold, forall_const, implies_true, sevalprocAttr, dd_GG, k9, k32, h38, h37]
        subst hK39
        obtain rfl := Option.some.inj h
        exact eb_nil ⟨rfl, Wk.of (fun i => some i) _ _ _ (by simp -implicitDefEqProofs [kv, dd_GG, k9, k32]) (by simp -implicitDefEqProofs [kv, dd_GG, k9, k32])⟩
      · refine rb_false (by first | exact congrArg D.bool k32 | rfl) ?_
        refine rb_exit ?_
        refine eb_seq_e ?_
        obtain rfl := Option.some.inj h
        exact eb_nil ⟨rfl, Wk.of (fun i => some i) _ _ _ (by simp -implicitDefEqProofs [kv, dd_GG, k9, k32]) (by simp -implicitDefEqProofs [kv, dd_GG, k9, k32])⟩
    · refine eb_blk_hit ?_
      refine eb_seq ?_
      refine rb_seq ?_
      refine rb_regionK fun K44 hK44 => ?_
      simp -implicitDefEqProofs only [vt, ↓atI_fold, forall_const, implies_true, sevalprocAttr, dd_GG, k9]
      obtain ⟨r45, h46, h⟩ := bind_some h
      refine cW.intro (a_lines_Split I hI hShp e17 h46) (by first | rfl | (simp [List.map_append, dd_GG]; done)) ?_
      simp -implicitDefEqProofs only [vt, ↓atI_fold, forall_const, implies_true, sevalprocAttr, dd_GG, k9]
      subst hK44
      refine eb_seq ?_
      refine rb_seq ?_
      refine rb_seq ?_
      refine rb_regionK fun K48 hK48 => ?_
      simp -implicitDefEqProofs only [vt, ↓atI_fold, forall_const, implies_true, sevalprocAttr, dd_GG, k9]
      subst hK48
      refine eb_seq ?_
      rcases ite_or h with ⟨k49, h⟩ | ⟨k49, h⟩
      · refine rb_true (by first | exact congrArg D.bool k49 | rfl) ?_
        obtain ⟨v54, h59, h⟩ := bind_some h
        refine rb_cut (fun v54 => ⟨envL [(0, .int .u16 n_0), (1, .int .u8 c_1), (46, .bool v54)], heapL [], 0, 144⟩) h59 ?_ ?_
        · clear h
          intro v54 h
          refine rb_regionK fun K55 hK55 => ?_
          simp -implicitDefEqProofs only [vt, ↓atI_fold, forall_const, implies_true, sevalprocAttr, dd_GG, k9, k49]
          rcases ite_or h with ⟨k56, h⟩ | ⟨k56, h⟩
          · simp -implicitDefEqProofs only [vt, ↓atI_fold, forall_const, implies_true, sevalprocAttr, dd_GG, k9, k49, k56]
            subst hK55
            obtain rfl := Option.some.inj h
            exact eb_nil ⟨rfl, Wk.of (fun i => some i) _ _ _ (by simp -implicitDefEqProofs [kv, dd_GG, k9, k49, k56]) (by simp -implicitDefEqProofs [kv, dd_GG, k9, k49, k56])⟩
          · simp -implicitDefEqProofs only [vt, ↓atI_fold, forall_const, implies_true, sevalprocAttr, dd_GG, k9, k49, k56]
            obtain ⟨r57, h58, h⟩ := bind_some h
            refine cW.intro (a_law07_sameDiags I hI r45.2 [(T_api_Diag.mk 1 1001 9)] h58) (by first | rfl | (simp [List.map_append, dd_GG]; done)) ?_
            simp -implicitDefEqProofs only [vt, ↓atI_fold, forall_const, implies_true, sevalprocAttr, dd_GG, k9, k49, k56]
            subst hK55
            obtain rfl := Option.some.inj h
            exact eb_nil ⟨rfl, Wk.of (fun i => some i) _ _ _ (by simp -implicitDefEqProofs [kv, dd_GG, k9, k49, k56]) (by simp -implicitDefEqProofs [kv, dd_GG, k9, k49, k56])⟩
        · rcases ite_or h with ⟨k60, h⟩ | ⟨k60, h⟩
          · refine rb_true (by first | exact congrArg D.bool k60 | rfl) ?_
            refine rb_seq ?_
            refine rb_regionK fun K62 hK62 => ?_
            simp -implicitDefEqProofs only [vt, ↓atI_fold, forall_const, implies_true, sevalprocAttr, dd_GG, k9, k49, k60]
            subst hK62
            refine eb_seq ?_
            refine rb_ret ?_
            refine eb_seq_r ?_
            obtain rfl := Option.some.inj h
            refine eb_nil ?_
            simp -implicitDefEqProofs only [vt, ↓atI_fold, forall_const, implies_true, sevalprocAttr, retQ_r, Tryd.results11, dd_GG, k9, k49, k60] <;> first | rfl | (simp [List.map_append, dd_GG]; done)
          · refine rb_false (by first | exact congrArg D.bool k60 | rfl) ?_
            refine rb_skip ?_
            refine eb_seq ?_
            refine rb_seq ?_
            refine rb_regionK fun K64 hK64 => ?_
            simp -implicitDefEqProofs only [vt, ↓atI_fold, forall_const, implies_true, sevalprocAttr, dd_GG, k9, k49, k60]
            subst hK64
            refine eb_seq ?_
            refine rb_seq ?_
            refine rb_seq ?_
            refine rb_regionK fun K66 hK66 => ?_
            simp -implicitDefEqProofs only [vt, ↓atI_fold, forall_const, implies_true, sevalprocAttr, dd_GG, k9, k49, k60]
            subst hK66
            refine eb_seq ?_
            refine rb_block ?_
            obtain ⟨e68, h91, h⟩ := bind_some h
            refine rb_loop (fun x67 => ⟨envL [(1, .int .u8 c_1), (9, .str x67.1), (68, .int .i64 (Int.tmod (IntKind.i64.wrap n_0) 120)), (69, .int .i64 x67.2)], heapL [], 0, 144⟩) (fun _ => .exit 2) (fun e68 => ⟨envL [(9, .str e68)], heapL [], 0, 144⟩) h91 (Wk.of (fun i => some i) _ _ _ (by simp -implicitDefEqProofs [kv, dd_GG, k9, k49, k60]) (by simp -implicitDefEqProofs [kv, dd_GG, k9, k49, k60])) (by intro w; simp) ?_ ?_
            · clear h
              intro x67 y h
              unfold g_law07_LinesLong_s2 at h
              refine rb_seq ?_
              refine rb_regionK fun K81 hK81 => ?_
              simp -implicitDefEqProofs only [vt, ↓atI_fold, forall_const, implies_true, sevalprocAttr, dd_GG, k9, k49, k60]
              subst hK81
              refine eb_seq ?_
              refine rb_seq ?_
              rcases ite_or h with ⟨k83, h⟩ | ⟨k83, h⟩
              · refine rb_true (by first | exact congrArg D.bool k83 | rfl) ?_
                refine rb_skip ?_
                refine eb_seq ?_
                refine rb_seq ?_
                refine rb_block ?_
                refine rb_regionK fun K87 hK87 => ?_
                simp -implicitDefEqProofs only [vt, ↓atI_fold, forall_const, implies_true, sevalprocAttr, dd_GG, k9, k49, k60, k83]
                obtain ⟨h88, h⟩ := ite_on h
                have h89 : x67.1.length + (bytesOf [120, 32, c_1, 10]).length ≤ 9223372036854775807 := by (try simp only [List.length_append, List.length_cons, List.length_nil]); omega
                try simp -implicitDefEqProofs only [vt, ↓atI_fold, forall_const, implies_true, sevalprocAttr, dd_GG, k9, k49, k60, k83] at h89
                simp -implicitDefEqProofs only [vt, ↓atI_fold, forall_const, implies_true, sevalprocAttr, dd_GG, k9, k49, k60, k83, h89, h88]
                subst hK87
                refine eb_blk_n ?_
                refine eb_seq ?_
                refine rb_regionK fun K90 hK90 => ?_
                simp -implicitDefEqProofs only [vt, ↓atI_fold, forall_const, implies_true, sevalprocAttr, dd_GG, k9, k49, k60, k83, h89, h88]
                subst hK90
                obtain rfl := Option.some.inj h
                exact eb_nil ⟨rfl, Wk.of (fun i => some i) _ _ _ (by simp -implicitDefEqProofs [kv, dd_GG, k9, k49, k60, k83]) (by simp -implicitDefEqProofs [kv, dd_GG, k9, k49, k60, k83])⟩
              · refine rb_false (by first | exact congrArg D.bool k83 | rfl) ?_
                refine rb_exit ?_
                refine eb_seq_e ?_
                obtain rfl := Option.some.inj h
                exact eb_nil ⟨rfl, Wk.of (fun i => some i) _ _ _ (by simp -implicitDefEqProofs [kv, dd_GG, k9, k49, k60, k83]) (by simp -implicitDefEqProofs [kv, dd_GG, k9, k49, k60, k83])⟩
            · refine eb_blk_hit ?_
              refine eb_seq ?_
              refine rb_seq ?_
              refine rb_regionK fun K95 hK95 => ?_
              simp -implicitDefEqProofs only [vt, ↓atI_fold, forall_const, implies_true, sevalprocAttr, dd_GG, k9, k49, k60]
              obtain ⟨r96, h97, h⟩ := bind_some h
              refine cW.intro (a_lines_Split I hI hShp e68 h97) (by first | rfl | (simp [List.map_append, dd_GG]; done)) ?_
              simp -implicitDefEqProofs only [vt, ↓atI_fold, forall_const, implies_true, sevalprocAttr, dd_GG, k9, k49, k60]
              subst hK95
              refine eb_seq ?_
              refine rb_seq ?_
              refine rb_regionK fun K101 hK101 => ?_
              simp -implicitDefEqProofs only [vt, ↓atI_fold, forall_const, implies_true, sevalprocAttr, dd_GG, k9, k49, k60]
              obtain ⟨r102, h103, h⟩ := bind_some h
              refine cW.intro (a_ref07_Split I hI e68 h103) (by first | rfl | (simp [List.map_append, dd_GG]; done)) ?_
              simp -implicitDefEqProofs only [vt, ↓atI_fold, forall_const, implies_true, sevalprocAttr, dd_GG, k9, k49, k60]
              subst hK101
              refine eb_seq ?_
              refine rb_seq ?_
              refine rb_regionK fun K113 hK113 => ?_
              simp -implicitDefEqProofs only [vt, ↓atI_fold, forall_const, implies_true, sevalprocAttr, dd_GG, k9, k49, k60]
              obtain ⟨m114, h115, h⟩ := bind_some h
              obtain ⟨h116, h117, h118, k121, h120⟩ := mkI_some h115
              have h120 := h120 (D.int .u8)
              have k121 : m114.length = 262145 := k121.symm
              rw [k121] at h120
              try simp only [sevalprocAttr, List.map_nil, Int.toNat_natCast, dd_GG] at k121 h120
              simp -implicitDefEqProofs only [vt, ↓atI_fold, forall_const, implies_true, sevalprocAttr, dd_GG, k9, k49, k60, h116, h117, h118, k121, h120]
              subst hK113
              refine eb_seq ?_
              refine rb_seq ?_
              refine rb_seq ?_
              refine rb_regionK fun K123 hK123 => ?_
              simp -implicitDefEqProofs only [vt, ↓atI_fold, forall_const, implies_true, sevalprocAttr, dd_GG, k9, k49, k60, h116, h117, h118, k121, h120]
              subst hK123
              refine eb_seq ?_
              refine rb_block ?_
              obtain ⟨e125, h192, h⟩ := bind_some h
              refine rb_loop (fun x124 => ⟨envL [(7, .sl (r96.1.map T_api_Line.d)), (8, .sl (r96.2.map T_api_Diag.d)), (10, .sl (r102.1.map T_api_Line.d)), (11, .sl (r102.2.map T_api_Diag.d)), (12, .own 0 x124.2.length), (89, .int .i64 262145), (90, .int .i64 x124.1)], heapL [(0, .vec 5 1 (x124.2.map (D.int .u8)) false)], 1, 144⟩) (fun _ => .exit 4) (fun e125 => ⟨envL [(7, .sl (r96.1.map T_api_Line.d)), (8, .sl (r96.2.map T_api_Diag.d)), (10, .sl (r102.1.map T_api_Line.d)), (11, .sl (r102.2.map T_api_Diag.d)), (12, .own 0 e125.length)], heapL [(0, .vec 5 1 (e125.map (D.int .u8)) false)], 1, 144⟩) h192 (Wk.of (fun i => if i = 0 then some 14 else some i) _ _ _ (by simp -implicitDefEqProofs [kv, dd_GG, k9, k49, k60, k121]) (by simp -implicitDefEqProofs [kv, dd_GG, k9, k49, k60, k121])) (by intro w; simp) ?_ ?_
              · clear h
                intro x124 y h
                unfold g_law07_LinesLong_s3 at h
                refine rb_seq ?_
                refine rb_regionK fun K160 hK160 => ?_
                simp -implicitDefEqProofs only [vt, ↓atI_fold, forall_const, implies_true, sevalprocAttr, dd_GG, k9, k49, k60, h116, h117, h118, k121, h120]
                subst hK160
                refine eb_seq ?_
                refine rb_seq ?_
                rcases ite_or h with ⟨k162, h⟩ | ⟨k162, h⟩
                · refine rb_true (by first | exact congrArg D.bool k162 | rfl) ?_
                  refine rb_skip ?_
                  refine eb_seq ?_
                  refine rb_seq ?_
                  refine rb_block ?_
                  refine rb_seq ?_
                  refine rb_regionK fun K178 hK178 => ?_
                  simp -implicitDefEqProofs only [vt, ↓atI_fold, forall_const, implies_true, sevalprocAttr, dd_GG, k9, k49, k60, h116, h117, h118, k121, h120, k162]
                  subst hK178
                  refine eb_seq ?_
                  refine rb_regionK fun K179 hK179 => ?_
                  simp -implicitDefEqProofs only [vt, ↓atI_fold, forall_const, implies_true, sevalprocAttr, dd_GG, k9, k49, k60, h116, h117, h118, k121, h120, k162]
                  obtain ⟨y180, h181, h⟩ := bind_some h
                  obtain ⟨h182, h183, h184⟩ := atI_own h181
                  simp -implicitDefEqProofs only [vt, ↓atI_fold, forall_const, implies_true, sevalprocAttr, dd_GG, k9, k49, k60, h116, h117, h118, k121, h120, k162, h182, h183, h184]
                  obtain ⟨m185, h186, h⟩ := bind_some h
                  obtain ⟨h187, h188, h189, h190⟩ := setI_some h186
                  have h190 := h190 (D.int .u8)
                  try simp only [sevalprocAttr, List.map_nil, dd_GG] at h190
                  simp -implicitDefEqProofs only [vt, ↓atI_fold, forall_const, implies_true, sevalprocAttr, dd_GG, k9, k49, k60, h116, h117, h118, k121, h120, k162, h182, h183, h184, h187, h188, h189, h190]
                  subst hK179
                  refine eb_blk_n ?_
                  refine eb_seq ?_
                  refine rb_regionK fun K191 hK191 => ?_
                  simp -implicitDefEqProofs only [vt, ↓atI_fold, forall_const, implies_true, sevalprocAttr, dd_GG, k9, k49, k60, h116, h117, h118, k121, h120, k162, h182, h183, h184, h187, h188, h189, h190]
                  subst hK191
                  obtain rfl := Option.some.inj h
                  exact eb_nil ⟨rfl, Wk.of (fun i => if i = 0 then some 0 else some i) _ _ _ (by simp -implicitDefEqProofs [kv, dd_GG, k9, k49, k60, k121, k162]) (by simp -implicitDefEqProofs [kv, dd_GG, k9, k49, k60, k121, k162])⟩
                · refine rb_false (by first | exact congrArg D.bool k162 | rfl) ?_
                  refine rb_exit ?_
                  refine eb_seq_e ?_
                  obtain rfl := Option.some.inj h
                  exact eb_nil ⟨rfl, Wk.of (fun i => if i = 0 then some 0 else some i) _ _ _ (by simp -implicitDefEqProofs [kv, dd_GG, k9, k49, k60, k121, k162]) (by simp -implicitDefEqProofs [kv, dd_GG, k9, k49, k60, k121, k162])⟩
              · refine eb_blk_hit ?_
                refine eb_seq ?_
                refine rb_seq ?_
                refine rb_regionK fun K196 hK196 => ?_
                simp -implicitDefEqProofs only [vt, ↓atI_fold, forall_const, implies_true, sevalprocAttr, dd_GG, k9, k49, k60, h116, h117, h118, k121, h120]
                obtain ⟨r197, h198, h⟩ := bind_some h
                refine cW.intro (a_lines_Split I hI hShp (bytesOf e125) h198) (by first | rfl | (simp [List.map_append, dd_GG]; done)) ?_
                simp -implicitDefEqProofs only [vt, ↓atI_fold, forall_const, implies_true, sevalprocAttr, dd_GG, k9, k49, k60, h116, h117, h118, k121, h120]
                subst hK196
                refine eb_seq ?_
                refine rb_seq ?_
                refine rb_regionK fun K209 hK209 => ?_
                simp -implicitDefEqProofs only [vt, ↓atI_fold, forall_const, implies_true, sevalprocAttr, dd_GG, k9, k49, k60, h116, h117, h118, k121, h120]
                obtain ⟨z210, h211, h⟩ := bind_some h
                obtain ⟨⟨h212, h213, h214, h215⟩, h216⟩ := subI_some h211
                try simp only [List.length_cons, List.length_nil, Nat.zero_add, Nat.reduceAdd, Int.reduceToNat] at h214
                try simp -implicitDefEqProofs only [vt, ↓atI_fold, forall_const, implies_true, sevalprocAttr, dd_GG, k9, k49, k60, h116, h117, h118, k121, h120, h214] at h216
                simp -implicitDefEqProofs only [vt, ↓atI_fold, forall_const, implies_true, sevalprocAttr, dd_GG, k9, k49, k60, h116, h117, h118, k121, h120, h214, h216]
                obtain ⟨r217, h218, h⟩ := bind_some h
                refine cW.intro (a_lines_Split I hI hShp (bytesOf z210) h218) (by first | rfl | (simp [List.map_append, dd_GG]; done)) ?_
                simp -implicitDefEqProofs only [vt, ↓atI_fold, forall_const, implies_true, sevalprocAttr, dd_GG, k9, k49, k60, h116, h117, h118, k121, h120, h214, h216]
                subst hK209
                refine eb_seq ?_
                refine rb_seq ?_
                refine rb_regionK fun K232 hK232 => ?_
                simp -implicitDefEqProofs only [vt, ↓atI_fold, forall_const, implies_true, sevalprocAttr, dd_GG, k9, k49, k60, h116, h117, h118, k121, h120, h214, h216]
                obtain ⟨r233, h234, h⟩ := bind_some h
                refine cW.intro (a_law07_sameLines I hI r96.1 r102.1 h234) (by first | rfl | (simp [List.map_append, dd_GG]; done)) ?_
                simp -implicitDefEqProofs only [vt, ↓atI_fold, forall_const, implies_true, sevalprocAttr, dd_GG, k9, k49, k60, h116, h117, h118, k121, h120, h214, h216]
                rcases ite_or h with ⟨k235, h⟩ | ⟨k235, h⟩
                · simp -implicitDefEqProofs only [vt, ↓atI_fold, forall_const, implies_true, sevalprocAttr, dd_GG, k9, k49, k60, h116, h117, h118, k121, h120, h214, h216, k235]
                  obtain ⟨r236, h237, h⟩ := bind_some h
                  refine cW.intro (a_law07_sameDiags I hI r96.2 r102.2 h237) (by first | rfl | (simp [List.map_append, dd_GG]; done)) ?_
                  simp -implicitDefEqProofs only [vt, ↓atI_fold, forall_const, implies_true, sevalprocAttr, dd_GG, k9, k49, k60, h116, h117, h118, k121, h120, h214, h216, k235]
                  rcases ite_or h with ⟨k238, h⟩ | ⟨k238, h⟩
                  · simp -implicitDefEqProofs only [vt, ↓atI_fold, forall_const, implies_true, sevalprocAttr, dd_GG, k9, k49, k60, h116, h117, h118, k121, h120, h214, h216, k235, k238]
                    rcases ite_or h with ⟨k239, h⟩ | ⟨k239, h⟩
                    · simp -implicitDefEqProofs only [vt, ↓atI_fold, forall_const, implies_true, sevalprocAttr, dd_GG, k9, k49, k60, h116, h117, h118, k121, h120, h214, h216, k235, k238, k239]
                      rcases ite_or h with ⟨k240, h⟩ | ⟨k240, h⟩
                      · simp -implicitDefEqProofs only [vt, ↓atI_fold, forall_const, implies_true, sevalprocAttr, dd_GG, k9, k49, k60, h116, h117, h118, k121, h120, h214, h216, k235, k238, k239, k240]
                        obtain ⟨r241, h242, h⟩ := bind_some h
                        refine cW.intro (a_law07_sameDiags I hI r197.2 [(T_api_Diag.mk 1 1 9)] h242) (by first | rfl | (simp [List.map_append, dd_GG]; done)) ?_
                        simp -implicitDefEqProofs only [vt, ↓atI_fold, forall_const, implies_true, sevalprocAttr, dd_GG, k9, k49, k60, h116, h117, h118, k121, h120, h214, h216, k235, k238, k239, k240]
                        rcases ite_or h with ⟨k243, h⟩ | ⟨k243, h⟩
                        · simp -implicitDefEqProofs only [vt, ↓atI_fold, forall_const, implies_true, sevalprocAttr, dd_GG, k9, k49, k60, h116, h117, h118, k121, h120, h214, h216, k235, k238, k239, k240, k243]
                          rcases ite_or h with ⟨k244, h⟩ | ⟨k244, h⟩
                          · simp -implicitDefEqProofs only [vt, ↓atI_fold, forall_const, implies_true, sevalprocAttr, dd_GG, k9, k49, k60, h116, h117, h118, k121, h120, h214, h216, k235, k238, k239, k240, k243, k244]
                            subst hK232
                            refine eb_seq ?_
                            refine rb_ret ?_
                            obtain rfl := Option.some.inj h
                            refine eb_nil ?_
                            simp -implicitDefEqProofs only [vt, ↓atI_fold, forall_const, implies_true, sevalprocAttr, retQ_r, Tryd.results11, dd_GG, k9, k49, k60, h116, h117, h118, k121, h120, h214, h216, k235, k238, k239, k240, k243, k244] <;> first | rfl | (simp [List.map_append, dd_GG]; done)
                          · simp -implicitDefEqProofs only [vt, ↓atI_fold, forall_const, implies_true, sevalprocAttr, dd_GG, k9, k49, k60, h116, h117, h118, k121, h120, h214, h216, k235, k238, k239, k240, k243, k244]
                            subst hK232
                            refine eb_seq ?_
                            refine rb_ret ?_
                            obtain rfl := Option.some.inj h
                            refine eb_nil ?_
                            simp -implicitDefEqProofs only [vt, ↓atI_fold, forall_const, implies_true, sevalprocAttr, retQ_r, Tryd.results11, dd_GG, k9, k49, k60, h116, h117, h118, k121, h120, h214, h216, k235, k238, k239, k240, k243, k244] <;> first | rfl | (simp [List.map_append, dd_GG]; done)
                        · simp -implicitDefEqProofs only [vt, ↓atI_fold, forall_const, implies_true, sevalprocAttr, dd_GG, k9, k49, k60, h116, h117, h118, k121, h120, h214, h216, k235, k238, k239, k240, k243]
                          subst hK232
                          refine eb_seq ?_
                          refine rb_ret ?_
                          obtain rfl := Option.some.inj h
                          refine eb_nil ?_
                          simp -implicitDefEqProofs only [vt, ↓atI_fold, forall_const, implies_true, sevalprocAttr, retQ_r, Tryd.results11, dd_GG, k9, k49, k60, h116, h117, h118, k121, h120, h214, h216, k235, k238, k239, k240, k243] <;> first | rfl | (simp [List.map_append, dd_GG]; done)
                      · simp -implicitDefEqProofs only [vt, ↓atI_fold, forall_const, implies_true, sevalprocAttr, dd_GG, k9, k49, k60, h116, h117, h118, k121, h120, h214, h216, k235, k238, k239, k240]
                        subst hK232
                        refine eb_seq ?_
                        refine rb_ret ?_
                        obtain rfl := Option.some.inj h
                        refine eb_nil ?_
                        simp -implicitDefEqProofs only [vt, ↓atI_fold, forall_const, implies_true, sevalprocAttr, retQ_r, Tryd.results11, dd_GG, k9, k49, k60, h116, h117, h118, k121, h120, h214, h216, k235, k238, k239, k240] <;> first | rfl | (simp [List.map_append, dd_GG]; done)
                    · simp -implicitDefEqProofs only [vt, ↓atI_fold, forall_const, implies_true, sevalprocAttr, dd_GG, k9, k49, k60, h116, h117, h118, k121, h120, h214, h216, k235, k238, k239]
                      subst hK232
                      refine eb_seq ?_
                      refine rb_ret ?_
                      obtain rfl := Option.some.inj h
                      refine eb_nil ?_
                      simp -implicitDefEqProofs only [vt, ↓atI_fold, forall_const, implies_true, sevalprocAttr, retQ_r, Tryd.results11, dd_GG, k9, k49, k60, h116, h117, h118, k121, h120, h214, h216, k235, k238, k239] <;> first | rfl | (simp [List.map_append, dd_GG]; done)
                  · simp -implicitDefEqProofs only [vt, ↓atI_fold, forall_const, implies_true, sevalprocAttr, dd_GG, k9, k49, k60, h116, h117, h118, k121, h120, h214, h216, k235, k238]
                    subst hK232
                    refine eb_seq ?_
                    refine rb_ret ?_
                    obtain rfl := Option.some.inj h
                    refine eb_nil ?_
                    simp -implicitDefEqProofs only [vt, ↓atI_fold, forall_const, implies_true, sevalprocAttr, retQ_r, Tryd.results11, dd_GG, k9, k49, k60, h116, h117, h118, k121, h120, h214, h216, k235, k238] <;> first | rfl | (simp [List.map_append, dd_GG]; done)
                · simp -implicitDefEqProofs only [vt, ↓atI_fold, forall_const, implies_true, sevalprocAttr, dd_GG, k9, k49, k60, h116, h117, h118, k121, h120, h214, h216, k235]
                  subst hK232
                  refine eb_seq ?_
                  refine rb_ret ?_
                  obtain rfl := Option.some.inj h
                  refine eb_nil ?_
                  simp -implicitDefEqProofs only [vt, ↓atI_fold, forall_const, implies_true, sevalprocAttr, retQ_r, Tryd.results11, dd_GG, k9, k49, k60, h116, h117, h118, k121, h120, h214, h216, k235] <;> first | rfl | (simp [List.map_append, dd_GG]; done)
      · refine rb_false (by first | exact congrArg D.bool k49 | rfl) ?_
        obtain ⟨v252, h260, h⟩ := bind_some h
        refine rb_cut (fun v252 => ⟨envL [(0, .int .u16 n_0), (1, .int .u8 c_1), (65, .bool v252)], heapL [], 0, 144⟩) h260 ?_ ?_
        · clear h
          intro v252 h
          refine rb_regionK fun K253 hK253 => ?_
          simp -implicitDefEqProofs only [vt, ↓atI_fold, forall_const, implies_true, sevalprocAttr, dd_GG, k9, k49]
          rcases ite_or h with ⟨k254, h⟩ | ⟨k254, h⟩
          · simp -implicitDefEqProofs only [vt, ↓atI_fold, forall_const, implies_true, sevalprocAttr, dd_GG, k9, k49, k254]
            subst hK253
            obtain rfl := Option.some.inj h
            exact eb_nil ⟨rfl, Wk.of (fun i => some i) _ _ _ (by simp -implicitDefEqProofs [kv, dd_GG, k9, k49, k254]) (by simp -implicitDefEqProofs [kv, dd_GG, k9, k49, k254])⟩
          · simp -implicitDefEqProofs only [vt, ↓atI_fold, forall_const, implies_true, sevalprocAttr, dd_GG, k9, k49, k254]
            rcases ite_or h with ⟨k255, h⟩ | ⟨k255, h⟩
            · simp -implicitDefEqProofs only [vt, ↓atI_fold, forall_const, implies_true, sevalprocAttr, dd_GG, k9, k49, k254, k255]
              subst hK253
              obtain rfl := Option.some.inj h
              exact eb_nil ⟨rfl, Wk.of (fun i => some i) _ _ _ (by simp -implicitDefEqProofs [kv, dd_GG, k9, k49, k254, k255]) (by simp -implicitDefEqProofs [kv, dd_GG, k9, k49, k254, k255])⟩
            · simp -implicitDefEqProofs only [vt, ↓atI_fold, forall_const, implies_true, sevalprocAttr, dd_GG, k9, k49, k254, k255]
              obtain ⟨y256, h257, h⟩ := bind_some h
              simp -implicitDefEqProofs only [vt, ↓atI_fold, forall_const, implies_true, sevalprocAttr, dd_GG, k9, k49, k254, k255, h257]
              obtain ⟨y258, h259, h⟩ := bind_some h
              simp -implicitDefEqProofs only [vt, ↓atI_fold, forall_const, implies_true, sevalprocAttr, dd_GG, k9, k49, k254, k255, h257, h259]
              subst hK253
              obtain rfl := Option.some.inj h
              exact eb_nil ⟨rfl, Wk.of (fun i => some i) _ _ _ (by simp -implicitDefEqProofs [kv, dd_GG, k9, k49, k254, k255]) (by simp -implicitDefEqProofs [kv, dd_GG, k9, k49, k254, k255])⟩
        · rcases ite_or h with ⟨k261, h⟩ | ⟨k261, h⟩
          · refine rb_true (by first | exact congrArg D.bool k261 | rfl) ?_
            refine rb_seq ?_
            refine rb_regionK fun K263 hK263 => ?_
            simp -implicitDefEqProofs only [vt, ↓atI_fold, forall_const, implies_true, sevalprocAttr, dd_GG, k9, k49, k261]
            subst hK263
            refine eb_seq ?_
            refine rb_ret ?_
            refine eb_seq_r ?_
            obtain rfl := Option.some.inj h
            refine eb_nil ?_
            simp -implicitDefEqProofs only [vt, ↓atI_fold, forall_const, implies_true, sevalprocAttr, retQ_r, Tryd.results11, dd_GG, k9, k49, k261] <;> first | rfl | (simp [List.map_append, dd_GG]; done)
          · refine rb_false (by first | exact congrArg D.bool k261 | rfl) ?_
            refine rb_skip ?_
            refine eb_seq ?_
            refine rb_seq ?_
            refine rb_regionK fun K265 hK265 => ?_
            simp -implicitDefEqProofs only [vt, ↓atI_fold, forall_const, implies_true, sevalprocAttr, dd_GG, k9, k49, k261]
            subst hK265
            refine eb_seq ?_
            refine rb_seq ?_
            refine rb_seq ?_
            refine rb_regionK fun K267 hK267 => ?_
            simp -implicitDefEqProofs only [vt, ↓atI_fold, forall_const, implies_true, sevalprocAttr, dd_GG, k9, k49, k261]
            subst hK267
            refine eb_seq ?_
            refine rb_block ?_
            obtain ⟨e269, h292, h⟩ := bind_some h
            refine rb_loop (fun x268 => ⟨envL [(1, .int .u8 c_1), (9, .str x268.1), (68, .int .i64 (Int.tmod (IntKind.i64.wrap n_0) 120)), (69, .int .i64 x268.2)], heapL [], 0, 144⟩) (fun _ => .exit 2) (fun e269 => ⟨envL [(9, .str e269)], heapL [], 0, 144⟩) h292 (Wk.of (fun i => some i) _ _ _ (by simp -implicitDefEqProofs [kv, dd_GG, k9, k49, k261]) (by simp -implicitDefEqProofs [kv, dd_GG, k9, k49, k261])) (by intro w; simp) ?_ ?_
            · clear h
              intro x268 y h
              unfold g_law07_LinesLong_s4 at h
              refine rb_seq ?_
              refine rb_regionK fun K282 hK282 => ?_
              simp -implicitDefEqProofs only [vt, ↓atI_fold, forall_const, implies_true, sevalprocAttr, dd_GG, k9, k49, k261]
              subst hK282
              refine eb_seq ?_
              refine rb_seq ?_
              rcases ite_or h with ⟨k284, h⟩ | ⟨k284, h⟩
              · refine rb_true (by first | exact congrArg D.bool k284 | rfl) ?_
                refine rb_skip ?_
                refine eb_seq ?_
                refine rb_seq ?_
                refine rb_block ?_
                refine rb_regionK fun K288 hK288 => ?_
                simp -implicitDefEqProofs only [vt, ↓atI_fold, forall_const, implies_true, sevalprocAttr, dd_GG, k9, k49, k261, k284]
                obtain ⟨h289, h⟩ := ite_on h
                have h290 : x268.1.length + (bytesOf [120, 32, c_1, 10]).length ≤ 9223372036854775807 := by (try simp only [List.length_append, List.length_cons, List.length_nil]); omega
                try simp -implicitDefEqProofs only [vt, ↓atI_fold, forall_const, implies_true, sevalprocAttr, dd_GG, k9, k49, k261, k284] at h290
                simp -implicitDefEqProofs only [vt, ↓atI_fold, forall_const, implies_true, sevalprocAttr, dd_GG, k9, k49, k261, k284, h290, h289]
                subst hK288
                refine eb_blk_n ?_
                refine eb_seq ?_
                refine rb_regionK fun K291 hK291 => ?_
                simp -implicitDefEqProofs only [vt, ↓atI_fold, forall_const, implies_true, sevalprocAttr, dd_GG, k9, k49, k261, k284, h290, h289]
                subst hK291
                obtain rfl := Option.some.inj h
                exact eb_nil ⟨rfl, Wk.of (fun i => some i) _ _ _ (by simp -implicitDefEqProofs [kv, dd_GG, k9, k49, k261, k284]) (by simp -implicitDefEqProofs [kv, dd_GG, k9, k49, k261, k284])⟩
              · refine rb_false (by first | exact congrArg D.bool k284 | rfl) ?_
                refine rb_exit ?_
                refine eb_seq_e ?_
                obtain rfl := Option.some.inj h
                exact eb_nil ⟨rfl, Wk.of (fun i => some i) _ _ _ (by simp -implicitDefEqProofs [kv, dd_GG, k9, k49, k261, k284]) (by simp -implicitDefEqProofs [kv, dd_GG, k9, k49, k261, k284])⟩
            · refine eb_blk_hit ?_
              refine eb_seq ?_
              refine rb_seq ?_
              refine rb_regionK fun K296 hK296 => ?_
              simp -implicitDefEqProofs only [vt, ↓atI_fold, forall_const, implies_true, sevalprocAttr, dd_GG, k9, k49, k261]
              obtain ⟨r297, h298, h⟩ := bind_some h
              refine cW.intro (a_lines_Split I hI hShp e269 h298) (by first | rfl | (simp [List.map_append, dd_GG]; done)) ?_
              simp -implicitDefEqProofs only [vt, ↓atI_fold, forall_const, implies_true, sevalprocAttr, dd_GG, k9, k49, k261]
              subst hK296
              refine eb_seq ?_
              refine rb_seq ?_
              refine rb_regionK fun K302 hK302 => ?_
              simp -implicitDefEqProofs only [vt, ↓atI_fold, forall_const, implies_true, sevalprocAttr, dd_GG, k9, k49, k261]
              obtain ⟨r303, h304, h⟩ := bind_some h
              refine cW.intro (a_ref07_Split I hI e269 h304) (by first | rfl | (simp [List.map_append, dd_GG]; done)) ?_
              simp -implicitDefEqProofs only [vt, ↓atI_fold, forall_const, implies_true, sevalprocAttr, dd_GG, k9, k49, k261]
              subst hK302
              refine eb_seq ?_
              refine rb_seq ?_
              refine rb_regionK fun K314 hK314 => ?_
              simp -implicitDefEqProofs only [vt, ↓atI_fold, forall_const, implies_true, sevalprocAttr, dd_GG, k9, k49, k261]
              obtain ⟨m315, h316, h⟩ := bind_some h
              obtain ⟨h317, h318, h319, k322, h321⟩ := mkI_some h316
              have h321 := h321 (D.int .u8)
              have k322 : m315.length = 262145 := k322.symm
              rw [k322] at h321
              try simp only [sevalprocAttr, List.map_nil, Int.toNat_natCast, dd_GG] at k322 h321
              simp -implicitDefEqProofs only [vt, ↓atI_fold, forall_const, implies_true, sevalprocAttr, dd_GG, k9, k49, k261, h317, h318, h319, k322, h321]
              subst hK314
              refine eb_seq ?_
              refine rb_seq ?_
              refine rb_seq ?_
              refine rb_regionK fun K324 hK324 => ?_
              simp -implicitDefEqProofs only [vt, ↓atI_fold, forall_const, implies_true, sevalprocAttr, dd_GG, k9, k49, k261, h317, h318, h319, k322, h321]
              subst hK324
              refine eb_seq ?_
              refine rb_block ?_
              obtain ⟨e326, h393, h⟩ := bind_some h
              refine rb_loop (fun x325 => ⟨envL [(7, .sl (r297.1.map T_api_Line.d)), (8, .sl (r297.2.map T_api_Diag.d)), (10, .sl (r303.1.map T_api_Line.d)), (11, .sl (r303.2.map T_api_Diag.d)), (12, .own 0 x325.2.length), (89, .int .i64 262145), (90, .int .i64 x325.1)], heapL [(0, .vec 5 1 (x325.2.map (D.int .u8)) false)], 1, 144⟩) (fun _ => .exit 4) (fun e326 => ⟨envL [(7, .sl (r297.1.map T_api_Line.d)), (8, .sl (r297.2.map T_api_Diag.d)), (10, .sl (r303.1.map T_api_Line.d)), (11, .sl (r303.2.map T_api_Diag.d)), (12, .own 0 e326.length)], heapL [(0, .vec 5 1 (e326.map (D.int .u8)) false)], 1, 144⟩) h393 (Wk.of (fun i => if i = 0 then some 14 else some i) _ _ _ (by simp -implicitDefEqProofs [kv, dd_GG, k9, k49, k261, k322]) (by simp -implicitDefEqProofs [kv, dd_GG, k9, k49, k261, k322])) (by intro w; simp) ?_ ?_
              · clear h
                intro x325 y h
                unfold g_law07_LinesLong_s5 at h
                refine rb_seq ?_
                refine rb_regionK fun K361 hK361 => ?_
                simp -implicitDefEqProofs only [vt, ↓atI_fold, forall_const, implies_true, sevalprocAttr, dd_GG, k9, k49, k261, h317, h318, h319, k322, h321]
                subst hK361
                refine eb_seq ?_
                refine rb_seq ?_
                rcases ite_or h with ⟨k363, h⟩ | ⟨k363, h⟩
                · refine rb_true (by first | exact congrArg D.bool k363 | rfl) ?_
                  refine rb_skip ?_
                  refine eb_seq ?_
                  refine rb_seq ?_
                  refine rb_block ?_
                  refine rb_seq ?_
                  refine rb_regionK fun K379 hK379 => ?_
                  simp -implicitDefEqProofs only [vt, ↓atI_fold, forall_const, implies_true, sevalprocAttr, dd_GG, k9, k49, k261, h317, h318, h319, k322, h321, k363]
                  subst hK379
                  refine eb_seq ?_
                  refine rb_regionK fun K380 hK380 => ?_
                  simp -implicitDefEqProofs only [vt, ↓atI_fold, forall_const, implies_true, sevalprocAttr, dd_GG, k9, k49, k261, h317, h318, h319, k322, h321, k363]
                  obtain ⟨y381, h382, h⟩ := bind_some h
                  obtain ⟨h383, h384, h385⟩ := atI_own h382
                  simp -implicitDefEqProofs only [vt, ↓atI_fold, forall_const, implies_true, sevalprocAttr, dd_GG, k9, k49, k261, h317, h318, h319, k322, h321, k363, h383, h384, h385]
                  obtain ⟨m386, h387, h⟩ := bind_some h
                  obtain ⟨h388, h389, h390, h391⟩ := setI_some h387
                  have h391 := h391 (D.int .u8)
                  try simp only [sevalprocAttr, List.map_nil, dd_GG] at h391
                  simp -implicitDefEqProofs only [vt, ↓atI_fold, forall_const, implies_true, sevalprocAttr, dd_GG, k9, k49, k261, h317, h318, h319, k322, h321, k363, h383, h384, h385, h388, h389, h390, h391]
                  subst hK380
                  refine eb_blk_n ?_
                  refine eb_seq ?_
                  refine rb_regionK fun K392 hK392 => ?_
                  simp -implicitDefEqProofs only [vt, ↓atI_fold, forall_const, implies_true, sevalprocAttr, dd_GG, k9, k49, k261, h317, h318, h319, k322, h321, k363, h383, h384, h385, h388, h389, h390, h391]
                  subst hK392
                  obtain rfl := Option.some.inj h
                  exact eb_nil ⟨rfl, Wk.of (fun i => if i = 0 then some 0 else some i) _ _ _ (by simp -implicitDefEqProofs [kv, dd_GG, k9, k49, k261, k322, k363]) (by simp -implicitDefEqProofs [kv, dd_GG, k9, k49, k261, k322, k363])⟩
                · refine rb_false (by first | exact congrArg D.bool k363 | rfl) ?_
                  refine rb_exit ?_
                  refine eb_seq_e ?_
                  obtain rfl := Option.some.inj h
                  exact eb_nil ⟨rfl, Wk.of (fun i => if i = 0 then some 0 else some i) _ _ _ (by simp -implicitDefEqProofs [kv, dd_GG, k9, k49, k261, k322, k363]) (by simp -implicitDefEqProofs [kv, dd_GG, k9, k49, k261, k322, k363])⟩
              · refine eb_blk_hit ?_
                refine eb_seq ?_
                refine rb_seq ?_
                refine rb_regionK fun K397 hK397 => ?_
                simp -implicitDefEqProofs only [vt, ↓atI_fold, forall_const, implies_true, sevalprocAttr, dd_GG, k9, k49, k261, h317, h318, h319, k322, h321]
                obtain ⟨r398, h399, h⟩ := bind_some h
                refine cW.intro (a_lines_Split I hI hShp (bytesOf e326) h399) (by first | rfl | (simp [List.map_append, dd_GG]; done)) ?_
                simp -implicitDefEqProofs only [vt, ↓atI_fold, forall_const, implies_true, sevalprocAttr, dd_GG, k9, k49, k261, h317, h318, h319, k322, h321]
                subst hK397
                refine eb_seq ?_
                refine rb_seq ?_
                refine rb_regionK fun K410 hK410 => ?_
                simp -implicitDefEqProofs only [vt, ↓atI_fold, forall_const, implies_true, sevalprocAttr, dd_GG, k9, k49, k261, h317, h318, h319, k322, h321]
                obtain ⟨z411, h412, h⟩ := bind_some h
                obtain ⟨⟨h413, h414, h415, h416⟩, h417⟩ := subI_some h412
                try simp only [List.length_cons, List.length_nil, Nat.zero_add, Nat.reduceAdd, Int.reduceToNat] at h415
                try simp -implicitDefEqProofs only [vt, ↓atI_fold, forall_const, implies_true, sevalprocAttr, dd_GG, k9, k49, k261, h317, h318, h319, k322, h321, h415] at h417
                simp -implicitDefEqProofs only [vt, ↓atI_fold, forall_const, implies_true, sevalprocAttr, dd_GG, k9, k49, k261, h317, h318, h319, k322, h321, h415, h417]
                obtain ⟨r418, h419, h⟩ := bind_some h
                refine cW.intro (a_lines_Split I hI hShp (bytesOf z411) h419) (by first | rfl | (simp [List.map_append, dd_GG]; done)) ?_
                simp -implicitDefEqProofs only [vt, ↓atI_fold, forall_const, implies_true, sevalprocAttr, dd_GG, k9, k49, k261, h317, h318, h319, k322, h321, h415, h417]
                subst hK410
                refine eb_seq ?_
                refine rb_seq ?_
                refine rb_regionK fun K433 hK433 => ?_
                simp -implicitDefEqProofs only [vt, ↓atI_fold, forall_const, implies_true, sevalprocAttr, dd_GG, k9, k49, k261, h317, h318, h319, k322, h321, h415, h417]
                obtain ⟨r434, h435, h⟩ := bind_some h
                refine cW.intro (a_law07_sameLines I hI r297.1 r303.1 h435) (by first | rfl | (simp [List.map_append, dd_GG]; done)) ?_
                simp -implicitDefEqProofs only [vt, ↓atI_fold, forall_const, implies_true, sevalprocAttr, dd_GG, k9, k49, k261, h317, h318, h319, k322, h321, h415, h417]
                rcases ite_or h with ⟨k436, h⟩ | ⟨k436, h⟩
                · simp -implicitDefEqProofs only [vt, ↓atI_fold, forall_const, implies_true, sevalprocAttr, dd_GG, k9, k49, k261, h317, h318, h319, k322, h321, h415, h417, k436]
                  obtain ⟨r437, h438, h⟩ := bind_some h
                  refine cW.intro (a_law07_sameDiags I hI r297.2 r303.2 h438) (by first | rfl | (simp [List.map_append, dd_GG]; done)) ?_
                  simp -implicitDefEqProofs only [vt, ↓atI_fold, forall_const, implies_true, sevalprocAttr, dd_GG, k9, k49, k261, h317, h318, h319, k322, h321, h415, h417, k436]
                  rcases ite_or h with ⟨k439, h⟩ | ⟨k439, h⟩
                  · simp -implicitDefEqProofs only [vt, ↓atI_fold, forall_const, implies_true, sevalprocAttr, dd_GG, k9, k49, k261, h317, h318, h319, k322, h321, h415, h417, k436, k439]
                    rcases ite_or h with ⟨k440, h⟩ | ⟨k440, h⟩
                    · simp -implicitDefEqProofs only [vt, ↓atI_fold, forall_const, implies_true, sevalprocAttr, dd_GG, k9, k49, k261, h317, h318, h319, k322, h321, h415, h417, k436, k439, k440]
                      rcases ite_or h with ⟨k441, h⟩ | ⟨k441, h⟩
                      · simp -implicitDefEqProofs only [vt, ↓atI_fold, forall_const, implies_true, sevalprocAttr, dd_GG, k9, k49, k261, h317, h318, h319, k322, h321, h415, h417, k436, k439, k440, k441]
                        obtain ⟨r442, h443, h⟩ := bind_some h
                        refine cW.intro (a_law07_sameDiags I hI r398.2 [(T_api_Diag.mk 1 1 9)] h443) (by first | rfl | (simp [List.map_append, dd_GG]; done)) ?_
                        simp -implicitDefEqProofs only [vt, ↓atI_fold, forall_const, implies_true, sevalprocAttr, dd_GG, k9, k49, k261, h317, h318, h319, k322, h321, h415, h417, k436, k439, k440, k441]
                        rcases ite_or h with ⟨k444, h⟩ | ⟨k444, h⟩
                        · simp -implicitDefEqProofs only [vt, ↓atI_fold, forall_const, implies_true, sevalprocAttr, dd_GG, k9, k49, k261, h317, h318, h319, k322, h321, h415, h417, k436, k439, k440, k441, k444]
                          rcases ite_or h with ⟨k445, h⟩ | ⟨k445, h⟩
                          · simp -implicitDefEqProofs only [vt, ↓atI_fold, forall_const, implies_true, sevalprocAttr, dd_GG, k9, k49, k261, h317, h318, h319, k322, h321, h415, h417, k436, k439, k440, k441, k444, k445]
                            subst hK433
                            refine eb_seq ?_
                            refine rb_ret ?_
                            obtain rfl := Option.some.inj h
                            refine eb_nil ?_
                            simp -implicitDefEqProofs only [vt, ↓atI_fold, forall_const, implies_true, sevalprocAttr, retQ_r, Tryd.results11, dd_GG, k9, k49, k261, h317, h318, h319, k322, h321, h415, h417, k436, k439, k440, k441, k444, k445] <;> first | rfl | (simp [List.map_append, dd_GG]; done)
                          · simp -implicitDefEqProofs only [vt, ↓atI_fold, forall_const, implies_true, sevalprocAttr, dd_GG, k9, k49, k261, h317, h318, h319, k322, h321, h415, h417, k436, k439, k440, k441, k444, k445]
                            subst hK433
                            refine eb_seq ?_
                            refine rb_ret ?_
                            obtain rfl := Option.some.inj h
                            refine eb_nil ?_
                            simp -implicitDefEqProofs only [vt, ↓atI_fold, forall_const, implies_true, sevalprocAttr, retQ_r, Tryd.results11, dd_GG, k9, k49, k261, h317, h318, h319, k322, h321, h415, h417, k436, k439, k440, k441, k444, k445] <;> first | rfl | (simp [List.map_append, dd_GG]; done)
                        · simp -implicitDefEqProofs only [vt, ↓atI_fold, forall_const, implies_true, sevalprocAttr, dd_GG, k9, k49, k261, h317, h318, h319, k322, h321, h415, h417, k436, k439, k440, k441, k444]
                          subst hK433
                          refine eb_seq ?_
                          refine rb_ret ?_
                          obtain rfl := Option.some.inj h
                          refine eb_nil ?_
                          simp -implicitDefEqProofs only [vt, ↓atI_fold, forall_const, implies_true, sevalprocAttr, retQ_r, Tryd.results11, dd_GG, k9, k49, k261, h317, h318, h319, k322, h321, h415, h417, k436, k439, k440, k441, k444] <;> first | rfl | (simp [List.map_append, dd_GG]; done)
                      · simp -implicitDefEqProofs only [vt, ↓atI_fold, forall_const, implies_true, sevalprocAttr, dd_GG, k9, k49, k261, h317, h318, h319, k322, h321, h415, h417, k436, k439, k440, k441]
                        subst hK433
                        refine eb_seq ?_
                        refine rb_ret ?_
                        obtain rfl := Option.some.inj h
                        refine eb_nil ?_
                        simp -implicitDefEqProofs only [vt, ↓atI_fold, forall_const, implies_true, sevalprocAttr, retQ_r, Tryd.results11, dd_GG, k9, k49, k261, h317, h318, h319, k322, h321, h415, h417, k436, k439, k440, k441] <;> first | rfl | (simp [List.map_append, dd_GG]; done)
                    · simp -implicitDefEqProofs only [vt, ↓atI_fold, forall_const, implies_true, sevalprocAttr, dd_GG, k9, k49, k261, h317, h318, h319, k322, h321, h415, h417, k436, k439, k440]
                      subst hK433
                      refine eb_seq ?_
                      refine rb_ret ?_
                      obtain rfl := Option.some.inj h
                      refine eb_nil ?_
                      simp -implicitDefEqProofs only [vt, ↓atI_fold, forall_const, implies_true, sevalprocAttr, retQ_r, Tryd.results11, dd_GG, k9, k49, k261, h317, h318, h319, k322, h321, h415, h417, k436, k439, k440] <;> first | rfl | (simp [List.map_append, dd_GG]; done)
                  · simp -implicitDefEqProofs only [vt, ↓atI_fold, forall_const, implies_true, sevalprocAttr, dd_GG, k9, k49, k261, h317, h318, h319, k322, h321, h415, h417, k436, k439]
                    subst hK433
                    refine eb_seq ?_
                    refine rb_ret ?_
                    obtain rfl := Option.some.inj h
                    refine eb_nil ?_
                    simp -implicitDefEqProofs only [vt, ↓atI_fold, forall_const, implies_true, sevalprocAttr, retQ_r, Tryd.results11, dd_GG, k9, k49, k261, h317, h318, h319, k322, h321, h415, h417, k436, k439] <;> first | rfl | (simp [List.map_append, dd_GG]; done)
                · simp -implicitDefEqProofs only [vt, ↓atI_fold, forall_const, implies_true, sevalprocAttr, dd_GG, k9, k49, k261, h317, h318, h319, k322, h321, h415, h417, k436]
                  subst hK433
                  refine eb_seq ?_
                  refine rb_ret ?_
                  obtain rfl := Option.some.inj h
                  refine eb_nil ?_
                  simp -implicitDefEqProofs only [vt, ↓atI_fold, forall_const, implies_true, sevalprocAttr, retQ_r, Tryd.results11, dd_GG, k9, k49, k261, h317, h318, h319, k322, h321, h415, h417, k436] <;> first | rfl | (simp [List.map_append, dd_GG]; done)
  · refine rb_true (by first | exact congrArg D.bool (congrArg Bool.not k9) | rfl) ?_
    refine rb_seq ?_
    refine rb_regionK fun K447 hK447 => ?_
    simp -implicitDefEqProofs only [vt, ↓atI_fold, forall_const, implies_true, sevalprocAttr, dd_GG, k9]
    subst hK447
    refine eb_seq ?_
    refine rb_ret ?_
    refine eb_seq_r ?_
    obtain rfl := Option.some.inj h
    refine eb_nil ?_
    simp -implicitDefEqProofs only [vt, ↓atI_fold, forall_const, implies_true, sevalprocAttr, retQ_r, Tryd.results11, dd_GG, k9] <;> first | rfl | (simp [List.map_append, dd_GG]; done)
-- captionerlaw07.LinesQuotes
def g_law07_LinesQuotes_s1 (s_0 : List UInt8) (x45 : Bool × Int) : Option (Nx (Bool × Int) (Bool)) :=
  (if (decide (x45.2 < (s_0.length : Int))) then (if x45.1 then ((atI s_0 x45.2).bind fun b87 => (if (decide (32 ≤ (b87.toNat : Int))) then (if ((b87.toNat : Int) != 127) then (some (.go (true, (IntKind.i64.wrap (x45.2 + 1))))) else (some (.go (((b87.toNat : Int) == 10), (IntKind.i64.wrap (x45.2 + 1)))))) else (some (.go (((b87.toNat : Int) == 10), (IntKind.i64.wrap (x45.2 + 1))))))) else (some (.go (false, (IntKind.i64.wrap (x45.2 + 1)))))) else (some (.out x45.1)))
def g_law07_LinesQuotes (s_0 : List UInt8) : Option (Bool) :=
  ((g_law07_awake).bind fun r7 => (if r7 then ((g_lines_Unquote s_0).bind fun r14 => ((g_ref07_Unquote s_0).bind fun r20 => ((((g_lines_Quote s_0).bind fun r31 => ((g_ref07_Quote s_0).bind fun r33 => (if (r31 == r33) then (if (r14.1 == r20.1) then (some (r14.2 != r20.2)) else (some true)) else (some true)))) : Option (Bool)).bind fun v29 => (if v29 then (some false) else ((iter (g_law07_LinesQuotes_s1 s_0) (true, 0)).bind fun e46 => ((g_lines_Quote s_0).bind fun r102 => ((g_lines_Unquote r102).bind fun r104 => (if e46 then (if (r104.1 == s_0) then (some (r104.2 == 0)) else (some false)) else (some true))))))))) else (some false)))
theorem a_law07_LinesQuotes (I : World → Prop) (hI : Stab I) (hPIv : ∀ w, I w → PIv w) (hShp : ∀ w, I w → Shp w) (s_0 : List UInt8) {r : Bool} (h : g_law07_LinesQuotes s_0 = some r) : AFun Tryd.prog I 13 [.str s_0] (.bool r) := by
  refine AFun.enterB hI Tryd.func13 rfl (by decide) (by simp [Tryd.f13]) (by kernel_rfl) ?_
  unfold g_law07_LinesQuotes at h
  simp only [S0, Tryd.ntmps13, dd_GG]
  refine rb_seq ?_
  refine rb_regionK fun K2 hK2 => ?_
  simp -implicitDefEqProofs only [vt, ↓atI_fold, forall_const, implies_true, sevalprocAttr, dd_GG]
  subst hK2
  refine eb_seq ?_
  refine rb_seq ?_
  refine rb_seq ?_
  refine rb_regionK fun K6 hK6 => ?_
  simp -implicitDefEqProofs only [vt, ↓atI_fold, forall_const, implies_true, sevalprocAttr, dd_GG]
  obtain ⟨r7, h8, h⟩ := bind_some h
  refine cW.intro (a_law07_awake I hI hPIv hShp h8) (by first | rfl | (simp [List.map_append, dd_GG]; done)) ?_
  simp -implicitDefEqProofs only [vt, ↓atI_fold, forall_const, implies_true, sevalprocAttr, dd_GG]
  subst hK6
  refine eb_seq ?_
  rcases ite_or h with ⟨k9, h⟩ | ⟨k9, h⟩
  · refine rb_false (by first | exact congrArg D.bool (congrArg Bool.not k9) | rfl) ?_
    refine rb_skip ?_
    refine eb_seq ?_
    refine rb_seq ?_
    refine rb_regionK fun K13 hK13 => ?_
    simp -implicitDefEqProofs only [vt, ↓atI_fold, forall_const, implies_true, sevalprocAttr, dd_GG, k9]
    obtain ⟨r14, h15, h⟩ := bind_some h
    refine cW.intro (a_lines_Unquote I hI s_0 h15) (by first | rfl | (simp [List.map_append, dd_GG]; done)) ?_
    simp -implicitDefEqProofs only [vt, ↓atI_fold, forall_const, implies_true, sevalprocAttr, dd_GG, k9]
    subst hK13
    refine eb_seq ?_
    refine rb_seq ?_
    refine rb_regionK fun K19 hK19 => ?_
    simp -implicitDefEqProofs only [vt, ↓atI_fold, forall_const, implies_true, sevalprocAttr, dd_GG, k9]
    obtain ⟨r20, h21, h⟩ := bind_some h
    refine cW.intro (a_ref07_Unquote I hI s_0 h21) (by first | rfl | (simp [List.map_append, dd_GG]; done)) ?_
    simp -implicitDefEqProofs only [vt, ↓atI_fold, forall_const, implies_true, sevalprocAttr, dd_GG, k9]
    subst hK19
    refine eb_seq ?_
    refine rb_seq ?_
    obtain ⟨v29, h37, h⟩ := bind_some h
    refine rb_cut (fun v29 => ⟨envL [(0, .str s_0), (37, .bool v29)], heapL [], 0, 80⟩) h37 ?_ ?_
    · clear h
      intro v29 h
      refine rb_regionK fun K30 hK30 => ?_
      simp -implicitDefEqProofs only [vt, ↓atI_fold, forall_const, implies_true, sevalprocAttr, dd_GG, k9]
      obtain ⟨r31, h32, h⟩ := bind_some h
      refine cW.intro (a_lines_Quote I hI s_0 h32) (by first | rfl | (simp [List.map_append, dd_GG]; done)) ?_
      simp -implicitDefEqProofs only [vt, ↓atI_fold, forall_const, implies_true, sevalprocAttr, dd_GG, k9]
      obtain ⟨r33, h34, h⟩ := bind_some h
      refine cW.intro (a_ref07_Quote I hI s_0 h34) (by first | rfl | (simp [List.map_append, dd_GG]; done)) ?_
      simp -implicitDefEqProofs only [vt, ↓atI_fold, forall_const, implies_true, sevalprocAttr, dd_GG, k9]
      rcases ite_or h with ⟨k35, h⟩ | ⟨k35, h⟩
      · simp -implicitDefEqProofs only [vt, ↓atI_fold, forall_const, implies_true, sevalprocAttr, dd_GG, k9, k35]
        rcases ite_or h with ⟨k36, h⟩ | ⟨k36, h⟩
        · simp -implicitDefEqProofs only [vt, ↓atI_fold, forall_const, implies_true, sevalprocAttr, dd_GG, k9, k35, k36]
          subst hK30
          obtain rfl := Option.some.inj h
          exact eb_nil ⟨rfl, Wk.of (fun i => some i) _ _ _ (by simp -implicitDefEqProofs [kv, dd_GG, k9, k35, k36]) (by simp -implicitDefEqProofs [kv, dd_GG, k9, k35, k36])⟩
        · simp -implicitDefEqProofs only [vt, ↓atI_fold, forall_const, implies_true, sevalprocAttr, dd_GG, k9, k35, k36]
          subst hK30
          obtain rfl := Option.some.inj h
          exact eb_nil ⟨rfl, Wk.of (fun i => some i) _ _ _ (by simp -implicitDefEqProofs [kv, dd_GG, k9, k35, k36]) (by simp -implicitDefEqProofs [kv, dd_GG, k9, k35, k36])⟩
      · simp -implicitDefEqProofs only [vt, ↓atI_fold, forall_const, implies_true, sevalprocAttr, dd_GG, k9, k35]
        subst hK30
        obtain rfl := Option.some.inj h
        exact eb_nil ⟨rfl, Wk.of (fun i => some i) _ _ _ (by simp -implicitDefEqProofs [kv, dd_GG, k9, k35]) (by simp -implicitDefEqProofs [kv, dd_GG, k9, k35])⟩
    · rcases ite_or h with ⟨k38, h⟩ | ⟨k38, h⟩
      · refine rb_true (by first | exact congrArg D.bool k38 | rfl) ?_
        refine rb_seq ?_
        refine rb_regionK fun K40 hK40 => ?_
        simp -implicitDefEqProofs only [vt, ↓atI_fold, forall_const, implies_true, sevalprocAttr, dd_GG, k9, k38]
        subst hK40
        refine eb_seq ?_
        refine rb_ret ?_
        refine eb_seq_r ?_
        obtain rfl := Option.some.inj h
        refine eb_nil ?_
        simp -implicitDefEqProofs only [vt, ↓atI_fold, forall_const, implies_true, sevalprocAttr, retQ_r, Tryd.results13, dd_GG, k9, k38] <;> first | rfl | (simp [List.map_append, dd_GG]; done)
      · refine rb_false (by first | exact congrArg D.bool k38 | rfl) ?_
        refine rb_skip ?_
        refine eb_seq ?_
        refine rb_seq ?_
        refine rb_regionK fun K42 hK42 => ?_
        simp -implicitDefEqProofs only [vt, ↓atI_fold, forall_const, implies_true, sevalprocAttr, dd_GG, k9, k38]
        subst hK42
        refine eb_seq ?_
        refine rb_seq ?_
        refine rb_seq ?_
        refine rb_regionK fun K44 hK44 => ?_
        simp -implicitDefEqProofs only [vt, ↓atI_fold, forall_const, implies_true, sevalprocAttr, dd_GG, k9, k38]
        subst hK44
        refine eb_seq ?_
        refine rb_block ?_
        obtain ⟨e46, h95, h⟩ := bind_some h
        refine rb_loop (fun x45 => ⟨envL [(0, .str s_0), (7, .bool x45.1), (39, .int .i64 (s_0.length : Int)), (40, .int .i64 x45.2)], heapL [], 0, 80⟩) (fun _ => .exit 0) (fun e46 => ⟨envL [(0, .str s_0), (7, .bool e46)], heapL [], 0, 80⟩) h95 (Wk.of (fun i => some i) _ _ _ (by simp -implicitDefEqProofs [kv, dd_GG, k9, k38]) (by simp -implicitDefEqProofs [kv, dd_GG, k9, k38])) (by intro w; simp) ?_ ?_
        · clear h
          intro x45 y h
          unfold g_law07_LinesQuotes_s1 at h
          refine rb_seq ?_
          refine rb_regionK fun K72 hK72 => ?_
          simp -implicitDefEqProofs only [vt, ↓atI_fold, forall_const, implies_true, sevalprocAttr, dd_GG, k9, k38]
          subst hK72
          refine eb_seq ?_
          refine rb_seq ?_
          rcases ite_or h with ⟨k74, h⟩ | ⟨k74, h⟩
          · refine rb_true (by first | exact congrArg D.bool k74 | rfl) ?_
            refine rb_skip ?_
            refine eb_seq ?_
            refine rb_seq ?_
            refine rb_block ?_
            refine rb_seq ?_
            refine rb_regionK fun K84 hK84 => ?_
            simp -implicitDefEqProofs only [vt, ↓atI_fold, forall_const, implies_true, sevalprocAttr, dd_GG, k9, k38, k74]
            subst hK84
            refine eb_seq ?_
            refine rb_regionK fun K85 hK85 => ?_
            simp -implicitDefEqProofs only [vt, ↓atI_fold, forall_const, implies_true, sevalprocAttr, dd_GG, k9, k38, k74]
            rcases ite_or h with ⟨k86, h⟩ | ⟨k86, h⟩
            · simp -implicitDefEqProofs only [vt, ↓atI_fold, forall_const, implies_true, sevalprocAttr, dd_GG, k9, k38, k74, k86]
              obtain ⟨b87, h88, h⟩ := bind_some h
              simp -implicitDefEqProofs only [vt, ↓atI_fold, forall_const, implies_true, sevalprocAttr, dd_GG, k9, k38, k74, k86, h88]
              rcases ite_or h with ⟨k89, h⟩ | ⟨k89, h⟩
              · simp -implicitDefEqProofs only [vt, ↓atI_fold, forall_const, implies_true, sevalprocAttr, dd_GG, k9, k38, k74, k86, h88, k89]
                rcases ite_or h with ⟨k90, h⟩ | ⟨k90, h⟩
                · simp -implicitDefEqProofs only [vt, ↓atI_fold, forall_const, implies_true, sevalprocAttr, dd_GG, k9, k38, k74, k86, h88, k89, k90]
                  subst hK85
                  refine eb_blk_n ?_
                  refine eb_seq ?_
                  refine rb_regionK fun K91 hK91 => ?_
                  simp -implicitDefEqProofs only [vt, ↓atI_fold, forall_const, implies_true, sevalprocAttr, dd_GG, k9, k38, k74, k86, h88, k89, k90]
                  subst hK91
                  obtain rfl := Option.some.inj h
                  exact eb_nil ⟨rfl, Wk.of (fun i => some i) _ _ _ (by simp -implicitDefEqProofs [kv, dd_GG, k9, k38, k74, k86, k89, k90]) (by simp -implicitDefEqProofs [kv, dd_GG, k9, k38, k74, k86, k89, k90])⟩
                · simp -implicitDefEqProofs only [vt, ↓atI_fold, forall_const, implies_true, sevalprocAttr, dd_GG, k9, k38, k74, k86, h88, k89, k90]
                  subst hK85
                  refine eb_blk_n ?_
                  refine eb_seq ?_
                  refine rb_regionK fun K92 hK92 => ?_
                  simp -implicitDefEqProofs only [vt, ↓atI_fold, forall_const, implies_true, sevalprocAttr, dd_GG, k9, k38, k74, k86, h88, k89, k90]
                  subst hK92
                  obtain rfl := Option.some.inj h
                  exact eb_nil ⟨rfl, Wk.of (fun i => some i) _ _ _ (by simp -implicitDefEqProofs [kv, dd_GG, k9, k38, k74, k86, k89, k90]) (by simp -implicitDefEqProofs [kv, dd_GG, k9, k38, k74, k86, k89, k90])⟩
              · simp -implicitDefEqProofs only [vt, ↓atI_fold, forall_const, implies_true, sevalprocAttr, dd_GG, k9, k38, k74, k86, h88, k89]
                subst hK85
                refine eb_blk_n ?_
                refine eb_seq ?_
                refine rb_regionK fun K93 hK93 => ?_
                simp -implicitDefEqProofs only [vt, ↓atI_fold, forall_const, implies_true, sevalprocAttr, dd_GG, k9, k38, k74, k86, h88, k89]
                subst hK93
                obtain rfl := Option.some.inj h
                exact eb_nil ⟨rfl, Wk.of (fun i => some i) _ _ _ (by simp -implicitDefEqProofs [kv, dd_GG, k9, k38, k74, k86, k89]) (by simp -implicitDefEqProofs [kv, dd_GG, k9, k38, k74, k86, k89])⟩
            · simp -implicitDefEqProofs only [vt, ↓atI_fold, forall_const, implies_true, sevalprocAttr, dd_GG, k9, k38, k74, k86]
              subst hK85
              refine eb_blk_n ?_
              refine eb_seq ?_
              refine rb_regionK fun K94 hK94 => ?_
              simp -implicitDefEqProofs only [vt, ↓atI_fold, forall_const, implies_true, sevalprocAttr, dd_GG, k9, k38, k74, k86]
              subst hK94
              obtain rfl := Option.some.inj h
              exact eb_nil ⟨rfl, Wk.of (fun i => some i) _ _ _ (by simp -implicitDefEqProofs [kv, dd_GG, k9, k38, k74, k86]) (by simp -implicitDefEqProofs [kv, dd_GG, k9, k38, k74, k86])⟩
          · refine rb_false (by first | exact congrArg D.bool k74 | rfl) ?_
            refine rb_exit ?_
            refine eb_seq_e ?_
            obtain rfl := Option.some.inj h
            exact eb_nil ⟨rfl, Wk.of (fun i => some i) _ _ _ (by simp -implicitDefEqProofs [kv, dd_GG, k9, k38, k74]) (by simp -implicitDefEqProofs [kv, dd_GG, k9, k38, k74])⟩
        · refine eb_blk_hit ?_
          refine eb_seq ?_
          refine rb_seq ?_
          refine rb_regionK fun K101 hK101 => ?_
          simp -implicitDefEqProofs only [vt, ↓atI_fold, forall_const, implies_true, sevalprocAttr, dd_GG, k9, k38]
          obtain ⟨r102, h103, h⟩ := bind_some h
          refine cW.intro (a_lines_Quote I hI s_0 h103) (by first | rfl | (simp [List.map_append, dd_GG]; done)) ?_
          simp -implicitDefEqProofs only [vt, ↓atI_fold, forall_const, implies_true, sevalprocAttr, dd_GG, k9, k38]
          obtain ⟨r104, h105, h⟩ := bind_some h
          refine cW.intro (a_lines_Unquote I hI r102 h105) (by first | rfl | (simp [List.map_append, dd_GG]; done)) ?_
          simp -implicitDefEqProofs only [vt, ↓atI_fold, forall_const, implies_true, sevalprocAttr, dd_GG, k9, k38]
          subst hK101
          refine eb_seq ?_
          refine rb_seq ?_
          refine rb_regionK fun K109 hK109 => ?_
          simp -implicitDefEqProofs only [vt, ↓atI_fold, forall_const, implies_true, sevalprocAttr, dd_GG, k9, k38]
          rcases ite_or h with ⟨k110, h⟩ | ⟨k110, h⟩
          · simp -implicitDefEqProofs only [vt, ↓atI_fold, forall_const, implies_true, sevalprocAttr, dd_GG, k9, k38, k110]
            rcases ite_or h with ⟨k111, h⟩ | ⟨k111, h⟩
            · simp -implicitDefEqProofs only [vt, ↓atI_fold, forall_const, implies_true, sevalprocAttr, dd_GG, k9, k38, k110, k111]
              subst hK109
              refine eb_seq ?_
              refine rb_ret ?_
              obtain rfl := Option.some.inj h
              refine eb_nil ?_
              simp -implicitDefEqProofs only [vt, ↓atI_fold, forall_const, implies_true, sevalprocAttr, retQ_r, Tryd.results13, dd_GG, k9, k38, k110, k111] <;> first | rfl | (simp [List.map_append, dd_GG]; done)
            · simp -implicitDefEqProofs only [vt, ↓atI_fold, forall_const, implies_true, sevalprocAttr, dd_GG, k9, k38, k110, k111]
              subst hK109
              refine eb_seq ?_
              refine rb_ret ?_
              obtain rfl := Option.some.inj h
              refine eb_nil ?_
              simp -implicitDefEqProofs only [vt, ↓atI_fold, forall_const, implies_true, sevalprocAttr, retQ_r, Tryd.results13, dd_GG, k9, k38, k110, k111] <;> first | rfl | (simp [List.map_append, dd_GG]; done)
          · simp -implicitDefEqProofs only [vt, ↓atI_fold, forall_const, implies_true, sevalprocAttr, dd_GG, k9, k38, k110]
            subst hK109
            refine eb_seq ?_
            refine rb_ret ?_
            obtain rfl := Option.some.inj h
            refine eb_nil ?_
            simp -implicitDefEqProofs only [vt, ↓atI_fold, forall_const, implies_true, sevalprocAttr, retQ_r, Tryd.results13, dd_GG, k9, k38, k110] <;> first | rfl | (simp [List.map_append, dd_GG]; done)
  · refine rb_true (by first | exact congrArg D.bool (congrArg Bool.not k9) | rfl) ?_
    refine rb_seq ?_
    refine rb_regionK fun K113 hK113 => ?_
    simp -implicitDefEqProofs only [vt, ↓atI_fold, forall_const, implies_true, sevalprocAttr, dd_GG, k9]
    subst hK113
    refine eb_seq ?_
    refine rb_ret ?_
    refine eb_seq_r ?_
    obtain rfl := Option.some.inj h
    refine eb_nil ?_
    simp -implicitDefEqProofs only [vt, ↓atI_fold, forall_const, implies_true, sevalprocAttr, retQ_r, Tryd.results13, dd_GG, k9] <;> first | rfl | (simp [List.map_append, dd_GG]; done)
end Go.Proofs.YtncmdhkmbmkiiaaDoor
