/- Texts of one proof, put together (PE, GRp, PF, FwY, FwZ, RP, Q1, Q2, Q3, Q4, Q5, Q6). No condition but those that each theorem states. -/
import Derived.Test.YtedhognhhcihpaaGreatDoorX4
import Derived.Lib.Replace
import Derived.Shelf.Strings.Replace
import Derived.Lib.Join
import Derived.Lib.ItoaMem
import Derived.Lib.ItoaLen
import Derived.Lib.ValidLaws
set_option linter.unusedSimpArgs false
set_option linter.unusedVariables false
namespace Go.Proofs.YtedhognhhcihpaaGreatDoor
open Go.RowKit
set_option maxRecDepth 100000
set_option maxHeartbeats 10000000
theorem dd_PE : (∀ x, T_api_Profile.d x = .agg [.str x.Name, .int .i64 x.Reading, .int .i64 x.MinFrames, .int .i64 x.MaxFrames, .int .i64 x.MinGap, .int .i64 x.ShotBefore, .int .i64 x.ShotAfter, .int .i64 x.Rows, .int .i64 x.Cols, .str x.Forbidden, .int .i64 x.SafeTop, .int .i64 x.SafeBottom, .int .i64 x.SafeLeft, .int .i64 x.SafeRight]) ∧ (∀ x, T_api_Diag.d x = .agg [.int .i64 x.Line, .int .i64 x.Column, .int .i64 x.Code]) ∧ (∀ x, T_api_Field.d x = .agg [.str x.Text, .int .i64 x.Column, .bool x.Quoted]) ∧ (∀ x, T_api_Line.d x = .agg [.int .i64 x.Number, .sl (x.Fields.map T_api_Field.d)]) ∧ (∀ x, T_captionerref07_Scanner.d x = .agg [.int .i64 x.Line.Number, .sl (x.Line.Fields.map T_api_Field.d), .int .i64 x.At, .int .i64 x.Code, .int .i64 x.Col]) := ⟨fun _ => rfl, fun _ => rfl, fun _ => rfl, fun _ => rfl, fun _ => rfl⟩
def g_ref39_within (n_0 : Int) (lo_1 : Int) (hi_2 : Int) : Option (Bool) :=
  (if (decide (lo_1 ≤ n_0)) then (some (decide (n_0 ≤ hi_2))) else (some false))
def g_ref39_inside (n_0 : Int) (lo_1 : Int) (hi_2 : Int) : Option (Bool) :=
  (if (decide (lo_1 ≤ n_0)) then (some (decide (n_0 ≤ hi_2))) else (some false))
def g_ref39_Check_s1 (r112 : (List Int)) (x116 : Int) : Option (Nx (Int) (Unit ⊕ Unit)) :=
  (if (decide (x116 < (r112.length : Int))) then ((atI r112 x116).bind fun y170 => ((atI r112 (IntKind.i64.wrap (x116 - 1))).bind fun y172 => (if (decide (y170 ≤ y172)) then (some (.out (.inl ()))) else (some (.go (IntKind.i64.wrap (x116 + 1))))))) else (some (.out (.inr ()))))
def g_ref39_Check (p_0 : T_api_Profile) : Option (Int) :=
  ((g_ref07_Name p_0.Name).bind fun r7 => (if r7 then ((((g_ref39_within p_0.Reading 1 10000).bind fun r30 => (if r30 then ((g_ref39_within p_0.MinFrames 1 5184000).bind fun r33 => (if r33 then ((g_ref39_within p_0.MaxFrames 1 5184000).bind fun r36 => (if r36 then ((g_ref39_within p_0.MinGap 0 1000).bind fun r39 => (if r39 then ((g_ref39_within p_0.ShotBefore 0 1000).bind fun r42 => (if r42 then ((g_ref39_within p_0.ShotAfter 0 1000).bind fun r45 => (some (!r45))) else (some true))) else (some true))) else (some true))) else (some true))) else (some true))) : Option (Bool)).bind fun v28 => (if v28 then (some 2) else ((((g_ref39_inside p_0.Rows 1 4).bind fun r73 => (if r73 then ((g_ref39_inside p_0.Cols 1 32).bind fun r76 => (if r76 then ((g_ref39_inside p_0.SafeTop 0 31).bind fun r79 => (if r79 then ((g_ref39_inside p_0.SafeBottom 0 31).bind fun r82 => (if r82 then ((g_ref39_inside p_0.SafeLeft 0 31).bind fun r85 => (if r85 then ((g_ref39_inside p_0.SafeRight 0 31).bind fun r88 => (if r88 then (if (decide (14 < (IntKind.i64.wrap (p_0.SafeTop + p_0.SafeBottom)))) then (some true) else (some (decide (31 < (IntKind.i64.wrap (p_0.SafeLeft + p_0.SafeRight)))))) else (some true))) else (some true))) else (some true))) else (some true))) else (some true))) else (some true))) : Option (Bool)).bind fun v71 => (if v71 then (some 2) else (if (decide (p_0.MaxFrames < p_0.MinFrames)) then (some 8) else ((g_ref08_Valid p_0.Forbidden).bind fun r105 => (if r105 then ((g_ref08_Chars p_0.Forbidden).bind fun r112 => ((iter (g_ref39_Check_s1 r112) 1).bind fun e117 => (match e117 with | Sum.inl e117 => (some 8) | Sum.inr (e117) => (some 0)))) else (some 10)))))))) else (some 5)))
def g_ref39_one (d_0 : T_api_Diag) : Option (T_api_Profile × (List T_api_Diag)) :=
  (some ((T_api_Profile.mk [] 0 0 0 0 0 0 0 0 [] 0 0 0 0), [d_0]))
def g_ref39_num (s_0 : T_captionerref07_Scanner) : Option (Int × T_captionerref07_Scanner) :=
  ((g_ref07_Scanner_Number s_0 0 5184000).bind fun r7 => (some (r7.1, r7.2)))
def g_ref39_take (s_0 : T_captionerref07_Scanner) (i_1 : Int) (p_2 : T_api_Profile) : Option (T_captionerref07_Scanner × T_api_Profile) :=
  ((subI ([[80, 82, 79, 70, 73, 76, 69], [82, 69, 65, 68, 73, 78, 71], [70, 82, 65, 77, 69, 83], [71, 65, 80], [83, 72, 79, 84, 83], [83, 73, 90, 69], [83, 65, 70, 69], [70, 79, 82, 66, 73, 68, 68, 69, 78]] : List (List UInt8)) i_1 (IntKind.i64.wrap (i_1 + 1))).bind fun z15 => ((g_ref07_Scanner_Choice s_0 z15).bind fun r23 => (if (i_1 == 0) then ((g_ref07_Scanner_Name r23.2 false).bind fun r31 => (some (r31.2, (T_api_Profile.mk r31.1 p_2.Reading p_2.MinFrames p_2.MaxFrames p_2.MinGap p_2.ShotBefore p_2.ShotAfter p_2.Rows p_2.Cols p_2.Forbidden p_2.SafeTop p_2.SafeBottom p_2.SafeLeft p_2.SafeRight)))) else (if (i_1 == 1) then ((g_ref39_num r23.2).bind fun r37 => (some (r37.2, (T_api_Profile.mk p_2.Name r37.1 p_2.MinFrames p_2.MaxFrames p_2.MinGap p_2.ShotBefore p_2.ShotAfter p_2.Rows p_2.Cols p_2.Forbidden p_2.SafeTop p_2.SafeBottom p_2.SafeLeft p_2.SafeRight)))) else (if (i_1 == 2) then ((g_ref39_num r23.2).bind fun r46 => ((g_ref39_num r46.2).bind fun r49 => (some (r49.2, (T_api_Profile.mk p_2.Name p_2.Reading r46.1 r49.1 p_2.MinGap p_2.ShotBefore p_2.ShotAfter p_2.Rows p_2.Cols p_2.Forbidden p_2.SafeTop p_2.SafeBottom p_2.SafeLeft p_2.SafeRight))))) else (if (i_1 == 3) then ((g_ref39_num r23.2).bind fun r55 => (some (r55.2, (T_api_Profile.mk p_2.Name p_2.Reading p_2.MinFrames p_2.MaxFrames r55.1 p_2.ShotBefore p_2.ShotAfter p_2.Rows p_2.Cols p_2.Forbidden p_2.SafeTop p_2.SafeBottom p_2.SafeLeft p_2.SafeRight)))) else (if (i_1 == 4) then ((g_ref39_num r23.2).bind fun r64 => ((g_ref39_num r64.2).bind fun r67 => (some (r67.2, (T_api_Profile.mk p_2.Name p_2.Reading p_2.MinFrames p_2.MaxFrames p_2.MinGap r64.1 r67.1 p_2.Rows p_2.Cols p_2.Forbidden p_2.SafeTop p_2.SafeBottom p_2.SafeLeft p_2.SafeRight))))) else (if (i_1 == 5) then ((g_ref39_num r23.2).bind fun r76 => ((g_ref39_num r76.2).bind fun r79 => (some (r79.2, (T_api_Profile.mk p_2.Name p_2.Reading p_2.MinFrames p_2.MaxFrames p_2.MinGap p_2.ShotBefore p_2.ShotAfter r76.1 r79.1 p_2.Forbidden p_2.SafeTop p_2.SafeBottom p_2.SafeLeft p_2.SafeRight))))) else (if (i_1 == 6) then ((g_ref39_num r23.2).bind fun r88 => ((g_ref39_num r88.2).bind fun r94 => ((g_ref39_num r94.2).bind fun r100 => ((g_ref39_num r100.2).bind fun r103 => (some (r103.2, (T_api_Profile.mk p_2.Name p_2.Reading p_2.MinFrames p_2.MaxFrames p_2.MinGap p_2.ShotBefore p_2.ShotAfter p_2.Rows p_2.Cols p_2.Forbidden r88.1 r94.1 r100.1 r103.1))))))) else (if (i_1 == 7) then ((g_ref07_Scanner_Quoted r23.2).bind fun r109 => (some (r109.2, (T_api_Profile.mk p_2.Name p_2.Reading p_2.MinFrames p_2.MaxFrames p_2.MinGap p_2.ShotBefore p_2.ShotAfter p_2.Rows p_2.Cols r109.1 p_2.SafeTop p_2.SafeBottom p_2.SafeLeft p_2.SafeRight)))) else (some (r23.2, p_2))))))))))))
def g_ref39_Parse_s1 (r7 : (List T_api_Line) × (List T_api_Diag)) (x15 : Int × (List UInt8) × Int × Int × Int × Int × Int × Int × Int × Int × (List UInt8) × Int × Int × Int × Int) : Option (Nx (Int × (List UInt8) × Int × Int × Int × Int × Int × Int × Int × Int × (List UInt8) × Int × Int × Int × Int) (((List UInt8) × Int × Int × Int × Int × Int × Int × Int × Int × (List UInt8) × Int × Int × Int × Int × (List T_api_Diag)) ⊕ ((List UInt8) × Int × Int × Int × Int × Int × Int × Int × Int × (List UInt8) × Int × Int × Int × Int))) :=
  (if (decide (x15.1 < 8)) then (if (x15.1 == (r7.1.length : Int)) then (if (decide (0 < x15.1)) then ((atI r7.1 (IntKind.i64.wrap (x15.1 - 1))).bind fun y322 => ((g_ref39_one (T_api_Diag.mk (IntKind.i64.wrap (y322.Number + 1)) 1 4)).bind fun r328 => (some (.out (.inl (r328.1.Name, r328.1.Reading, r328.1.MinFrames, r328.1.MaxFrames, r328.1.MinGap, r328.1.ShotBefore, r328.1.ShotAfter, r328.1.Rows, r328.1.Cols, r328.1.Forbidden, r328.1.SafeTop, r328.1.SafeBottom, r328.1.SafeLeft, r328.1.SafeRight, r328.2)))))) else ((g_ref39_one (T_api_Diag.mk 1 1 4)).bind fun r334 => (some (.out (.inl (r334.1.Name, r334.1.Reading, r334.1.MinFrames, r334.1.MaxFrames, r334.1.MinGap, r334.1.ShotBefore, r334.1.ShotAfter, r334.1.Rows, r334.1.Cols, r334.1.Forbidden, r334.1.SafeTop, r334.1.SafeBottom, r334.1.SafeLeft, r334.1.SafeRight, r334.2)))))) else ((atI r7.1 x15.1).bind fun y342 => ((g_ref07_Scan y342).bind fun r344 => ((g_ref39_take r344 x15.1 (T_api_Profile.mk x15.2.1 x15.2.2.1 x15.2.2.2.1 x15.2.2.2.2.1 x15.2.2.2.2.2.1 x15.2.2.2.2.2.2.1 x15.2.2.2.2.2.2.2.1 x15.2.2.2.2.2.2.2.2.1 x15.2.2.2.2.2.2.2.2.2.1 x15.2.2.2.2.2.2.2.2.2.2.1 x15.2.2.2.2.2.2.2.2.2.2.2.1 x15.2.2.2.2.2.2.2.2.2.2.2.2.1 x15.2.2.2.2.2.2.2.2.2.2.2.2.2.1 x15.2.2.2.2.2.2.2.2.2.2.2.2.2.2)).bind fun r350 => ((g_ref07_Scanner_End r350.1).bind fun r356 => (if r356.2.1 then ((g_ref39_one r356.1).bind fun r365 => (some (.out (.inl (r365.1.Name, r365.1.Reading, r365.1.MinFrames, r365.1.MaxFrames, r365.1.MinGap, r365.1.ShotBefore, r365.1.ShotAfter, r365.1.Rows, r365.1.Cols, r365.1.Forbidden, r365.1.SafeTop, r365.1.SafeBottom, r365.1.SafeLeft, r365.1.SafeRight, r365.2))))) else (some (.go ((IntKind.i64.wrap (x15.1 + 1)), r350.2.Name, r350.2.Reading, r350.2.MinFrames, r350.2.MaxFrames, r350.2.MinGap, r350.2.ShotBefore, r350.2.ShotAfter, r350.2.Rows, r350.2.Cols, r350.2.Forbidden, r350.2.SafeTop, r350.2.SafeBottom, r350.2.SafeLeft, r350.2.SafeRight))))))))) else (some (.out (.inr (x15.2.1, x15.2.2.1, x15.2.2.2.1, x15.2.2.2.2.1, x15.2.2.2.2.2.1, x15.2.2.2.2.2.2.1, x15.2.2.2.2.2.2.2.1, x15.2.2.2.2.2.2.2.2.1, x15.2.2.2.2.2.2.2.2.2.1, x15.2.2.2.2.2.2.2.2.2.2.1, x15.2.2.2.2.2.2.2.2.2.2.2.1, x15.2.2.2.2.2.2.2.2.2.2.2.2.1, x15.2.2.2.2.2.2.2.2.2.2.2.2.2.1, x15.2.2.2.2.2.2.2.2.2.2.2.2.2.2)))))
def g_ref39_Parse (src_0 : List UInt8) : Option (T_api_Profile × (List T_api_Diag)) :=
  ((g_ref07_Split_n src_0).bind fun r7 => (if r7.2.isEmpty then ((iter (g_ref39_Parse_s1 r7) (0, [], 0, 0, 0, 0, 0, 0, 0, 0, [], 0, 0, 0, 0)).bind fun e16 => (match e16 with | Sum.inl e16 => (some ((T_api_Profile.mk e16.1 e16.2.1 e16.2.2.1 e16.2.2.2.1 e16.2.2.2.2.1 e16.2.2.2.2.2.1 e16.2.2.2.2.2.2.1 e16.2.2.2.2.2.2.2.1 e16.2.2.2.2.2.2.2.2.1 e16.2.2.2.2.2.2.2.2.2.1 e16.2.2.2.2.2.2.2.2.2.2.1 e16.2.2.2.2.2.2.2.2.2.2.2.1 e16.2.2.2.2.2.2.2.2.2.2.2.2.1 e16.2.2.2.2.2.2.2.2.2.2.2.2.2.1), e16.2.2.2.2.2.2.2.2.2.2.2.2.2.2)) | Sum.inr (e16) => (if (decide (8 < (r7.1.length : Int))) then ((atI r7.1 8).bind fun y380 => ((atI y380.Fields 0).bind fun y382 => ((g_ref39_one (T_api_Diag.mk y380.Number y382.Column 4)).bind fun r384 => (some (r384.1, r384.2))))) else ((g_ref39_Check (T_api_Profile.mk e16.1 e16.2.1 e16.2.2.1 e16.2.2.2.1 e16.2.2.2.2.1 e16.2.2.2.2.2.1 e16.2.2.2.2.2.2.1 e16.2.2.2.2.2.2.2.1 e16.2.2.2.2.2.2.2.2.1 e16.2.2.2.2.2.2.2.2.2.1 e16.2.2.2.2.2.2.2.2.2.2.1 e16.2.2.2.2.2.2.2.2.2.2.2.1 e16.2.2.2.2.2.2.2.2.2.2.2.2.1 e16.2.2.2.2.2.2.2.2.2.2.2.2.2)).bind fun r390 => (if (r390 != 0) then ((atI r7.1 0).bind fun y401 => ((g_ref39_one (T_api_Diag.mk y401.Number 1 r390)).bind fun r403 => (some (r403.1, r403.2)))) else (some ((T_api_Profile.mk e16.1 e16.2.1 e16.2.2.1 e16.2.2.2.1 e16.2.2.2.2.1 e16.2.2.2.2.2.1 e16.2.2.2.2.2.2.1 e16.2.2.2.2.2.2.2.1 e16.2.2.2.2.2.2.2.2.1 e16.2.2.2.2.2.2.2.2.2.1 e16.2.2.2.2.2.2.2.2.2.2.1 e16.2.2.2.2.2.2.2.2.2.2.2.1 e16.2.2.2.2.2.2.2.2.2.2.2.2.1 e16.2.2.2.2.2.2.2.2.2.2.2.2.2), []))))))) else (some ((T_api_Profile.mk [] 0 0 0 0 0 0 0 0 [] 0 0 0 0), r7.2))))
def g_slices_Equal_api_Diag_api_Diag_s1 (s1_0 : List T_api_Diag) (s2_1 : List T_api_Diag) (x10 : Int) : Option (Nx (Int) (Unit ⊕ Unit)) :=
  (if (decide (x10 < (s1_0.length : Int))) then ((atI s1_0 x10).bind fun y74 => ((atI s2_1 x10).bind fun y76 => (if ((y74.Line == y76.Line) && ((y74.Column == y76.Column) && (y74.Code == y76.Code))) then (some (.go (IntKind.i64.wrap (x10 + 1)))) else (some (.out (.inl ())))))) else (some (.out (.inr ()))))
def g_slices_Equal_api_Diag_api_Diag (s1_0 : List T_api_Diag) (s2_1 : List T_api_Diag) : Option (Bool) :=
  (if ((s1_0.length : Int) != (s2_1.length : Int)) then (some false) else ((iter (g_slices_Equal_api_Diag_api_Diag_s1 s1_0 s2_1) 0).bind fun e11 => (match e11 with | Sum.inl e11 => (some false) | Sum.inr (e11) => (some true))))
theorem a_slices_Equal_api_Diag_api_Diag {I : World → Prop} (hI : Stab I) {s1_0 : List T_api_Diag} {s2_1 : List T_api_Diag} {r : Bool} (h : g_slices_Equal_api_Diag_api_Diag s1_0 s2_1 = some r) : AFun Tryz.prog I 17 [.sl (s1_0.map T_api_Diag.d), .sl (s2_1.map T_api_Diag.d)] (.bool r) := by
  have dd := dd_PE; have k := True.intro; have q := k; have rs := Tryz.results17
  unfold g_slices_Equal_api_Diag_api_Diag at h
  refine .en hI Tryz.func17 Tryz.ntmps17 ?_
  refine xs <| rz ?_
  refine es <| xs <| xs <| rz ?_
  refine es ?_
  rcases iK k h with ⟨k, h⟩ | ⟨k, h⟩
  · refine xt <| xs <| rz ?_
    refine es <| xr <| er ?_
    cases h
    exact en fr
  · refine xf <| xk <| es <| xs <| xs <| rz ?_
    refine es <| xb ?_
    obtain ⟨e11, h82, h⟩ := bs h
    refine rb_loop (fun x10 => ⟨envL [(0, .sl (s1_0.map T_api_Diag.d)), (1, .sl (s2_1.map T_api_Diag.d)), (12, .int .i64 (s1_0.length : Int)), (13, .int .i64 x10)], heapL [], 0, 26⟩) (fun w => match w with | Sum.inl _ => .ret | Sum.inr (_) => .exit 0) (fun w => match w with | Sum.inl e11 => ⟨envL [(4, .bool false)], heapL [], 0, 26⟩ | Sum.inr (e11) => ⟨envL [], heapL [], 0, 26⟩) h82 (wk []) (by intro w; rcases w with w | w <;> simp) ?_ ?_
    · clear h
      intro x10 y h
      unfold g_slices_Equal_api_Diag_api_Diag_s1 at h
      refine xs <| rz ?_
      refine es <| xs ?_
      rcases iK k h with ⟨k, h⟩ | ⟨k, h⟩
      · refine xt <| xk <| es <| xs <| xb <| xs <| rz ?_
        refine es <| xs <| rD hI fun K73 RK73 hK73 gK73 => zz ?_
        obtain ⟨y74, q, h⟩ := bK q h
        refine zz ?_
        obtain ⟨y76, q, h⟩ := bK q h
        refine zz ?_
        subst hK73 gK73
        refine es ?_
        rcases iK k h with ⟨k, h⟩ | ⟨k, h⟩
        · refine xf <| xk <| bn <| es <| rz ?_
          cases h
          exact en ⟨rfl, wk []⟩
        · refine xt <| xs <| rz ?_
          refine es <| xr <| br <| er ?_
          cases h
          exact en ⟨rfl, wk []⟩
      · refine xf <| xx <| ee ?_
        cases h
        exact en ⟨rfl, wk []⟩
    · rcases e11 with e11 | e11
      · try dsimp only at h ⊢
        refine br <| er ?_
        cases h
        exact en fr
      · try dsimp only at h ⊢
        refine bh <| es <| xs <| rz ?_
        refine es <| xr ?_
        cases h
        exact en fr
def g_law39_awake  : Option (Bool) :=
  ((g_profile_Standard 3).bind fun r7 => ((g_profile_Text r7.1).bind fun r13 => ((g_profile_Parse [80, 82, 79, 70, 73, 76, 69, 32, 88, 10, 10, 82, 69, 65, 68, 73, 78, 71, 32, 48, 10, 70, 82, 65, 77, 69, 83, 32, 49, 10]).bind fun r19 => (if (r7.2 == 0) then (if (r13.2 == 0) then (if (r13.1 == ([80, 82, 79, 70, 73, 76, 69, 32, 83, 84, 65, 78, 68, 65, 82, 68, 10, 82, 69, 65, 68, 73, 78, 71, 32, 49, 55, 48, 48, 10, 70, 82, 65, 77, 69, 83, 32, 50, 48, 32, 49, 55, 53, 10, 71, 65, 80, 32, 50, 10, 83, 72, 79, 84, 83, 32, 49, 50, 32, 49, 50, 10, 83, 73, 90, 69, 32, 50, 32, 51, 50, 10, 83, 65, 70, 69, 32, 49, 32, 48, 32, 48, 32, 48, 10, 70, 79, 82, 66, 73, 68, 68, 69, 78, 32, 34, 34, 10] : List UInt8)) then (if (r7.1.MinFrames == 20) then ((g_slices_Equal_api_Diag_api_Diag r19.2 [(T_api_Diag.mk 4 0 4)]).bind fun r33 => (some r33)) else (some false)) else (some false)) else (some false)) else (some false)))))
theorem a_law39_awake {I : World → Prop} (hI : Stab I) (hPIv : ∀ w, I w → PIv w) (hShp : ∀ w, I w → Shp w) (hTab : ∀ w, I w → Tab w) (hU8T : ∀ w, I w → U8T w)  {r : Bool} (h : g_law39_awake  = some r) : AFun Tryz.prog I 7 [] (.bool r) := by
  have dd := dd_PE; have k := True.intro; have q := k; have rs := Tryz.results7
  unfold g_law39_awake at h
  refine .en hI Tryz.func7 Tryz.ntmps7 ?_
  refine xs <| rz ?_
  refine es <| xs <| rK fun K6 RK6 hK6 gK6 => zz ?_
  obtain ⟨r7, h8, h⟩ := bs h
  refine cw (a_profile_Standard hI h8) <| zz ?_
  subst hK6 gK6
  refine es <| xs <| rK fun K12 RK12 hK12 gK12 => zz ?_
  obtain ⟨r13, h14, h⟩ := bs h
  refine cw (a_profile_Text hI hTab hU8T h14) <| zz ?_
  subst hK12 gK12
  refine es <| xs <| rK fun K18 RK18 hK18 gK18 => zz ?_
  obtain ⟨r19, h20, h⟩ := bs h
  refine cw (a_profile_Parse hI hPIv hShp hU8T h20) <| zz ?_
  subst hK18 gK18
  refine es <| xs <| rK fun K28 RK28 hK28 gK28 => zz ?_
  rcases iK k h with ⟨k, h⟩ | ⟨k, h⟩
  · refine zz ?_
    rcases iK k h with ⟨k, h⟩ | ⟨k, h⟩
    · refine zz ?_
      rcases iK k h with ⟨k, h⟩ | ⟨k, h⟩
      · refine zz ?_
        rcases iK k h with ⟨k, h⟩ | ⟨k, h⟩
        · refine zz ?_
          obtain ⟨r33, h34, h⟩ := bs h
          refine cw (a_slices_Equal_api_Diag_api_Diag hI h34) <| zz ?_
          subst hK28 gK28
          refine es <| xr ?_
          cases h
          exact en fr
        · refine zz ?_
          subst hK28 gK28
          refine es <| xr ?_
          cases h
          exact en fr
      · refine zz ?_
        subst hK28 gK28
        refine es <| xr ?_
        cases h
        exact en fr
    · refine zz ?_
      subst hK28 gK28
      refine es <| xr ?_
      cases h
      exact en fr
  · refine zz ?_
    subst hK28 gK28
    refine es <| xr ?_
    cases h
    exact en fr
def g_law39_small (p_0 : T_api_Profile) : Option (T_api_Profile) :=
  ((subH p_0.Name (if 40 < (p_0.Name.length : Int) then 40 else (p_0.Name.length : Int))).bind fun z15 => ((subH p_0.Forbidden (if 40 < (p_0.Forbidden.length : Int) then 40 else (p_0.Forbidden.length : Int))).bind fun z20 => (some (T_api_Profile.mk z15 p_0.Reading p_0.MinFrames p_0.MaxFrames p_0.MinGap p_0.ShotBefore p_0.ShotAfter p_0.Rows p_0.Cols z20 p_0.SafeTop p_0.SafeBottom p_0.SafeLeft p_0.SafeRight))))
theorem a_law39_small {I : World → Prop} (hI : Stab I) {p_0 : T_api_Profile} {r : T_api_Profile} (h : g_law39_small p_0 = some r) : AFun Tryz.prog I 8 [T_api_Profile.d p_0] (T_api_Profile.d r) := by
  have dd := dd_PE; have k := True.intro; have q := k; have rs := Tryz.results8
  unfold g_law39_small at h
  refine .en hI Tryz.func8 Tryz.ntmps8 ?_
  refine xs <| rz ?_
  refine es <| xs <| rP hI fun K14 hK14 => rgP_cons <| zq ?_
  refine sP.light rfl fd <| rgP_cons <| zq ?_
  refine sP.foot (.cell 0 0 1) (fun _ => FootOK.ld rfl rfl rfl (by kernel_rfl) (by decide)) fd (by first | exact .inl (by first | rfl | decide) | exact .inr (by kernel_rfl)) <| rgP_cons <| zq ?_
  refine sP.light rfl fd <| rgP_cons <| zq ?_
  refine sP.foot (.cell 0 0 1) (fun _ => FootOK.ld rfl rfl rfl (by kernel_rfl) (by decide)) fd (by first | exact .inl (by first | rfl | decide) | exact .inr (by kernel_rfl)) <| rgP_cons <| zq ?_
  refine sP.light rfl fd <| rgP_cons <| zq ?_
  refine sP.light rfl fd <| rgP_cons <| zq ?_
  obtain ⟨z15, h16, h⟩ := bind_some h
  obtain ⟨⟨h17, h18⟩, h19⟩ := subH_some h16
  have q := And.intro @h17 <| And.intro @h18 <| q
  try simp -implicitDefEqProofs only [vt, vm, sevalprocAttr, dd, k, q] at h19
  have q := And.intro @h19 <| q
  refine zq ?_
  refine sP.foot (.ids []) (fun hN => FootOK.idsB [] (by rfl) rfl hN) fd (by first | exact .inl (by first | rfl | decide) | exact .inr (by kernel_rfl)) <| rgP_cons <| zq ?_
  refine sP.light rfl fd <| rgP_cons <| zq ?_
  refine sP.foot (.cell 0 9 1) (fun _ => FootOK.ld rfl rfl rfl (by kernel_rfl) (by decide)) fd (by first | exact .inl (by first | rfl | decide) | exact .inr (by kernel_rfl)) <| rgP_cons <| zq ?_
  refine sP.light rfl fd <| rgP_cons <| zq ?_
  refine sP.foot (.cell 0 9 1) (fun _ => FootOK.ld rfl rfl rfl (by kernel_rfl) (by decide)) fd (by first | exact .inl (by first | rfl | decide) | exact .inr (by kernel_rfl)) <| rgP_cons <| zq ?_
  refine sP.light rfl fd <| rgP_cons <| zq ?_
  refine sP.light rfl fd <| rgP_cons <| zq ?_
  obtain ⟨z20, h21, h⟩ := bind_some h
  obtain ⟨⟨h22, h23⟩, h24⟩ := subH_some h21
  have q := And.intro @h22 <| And.intro @h23 <| q
  try simp -implicitDefEqProofs only [vt, vm, sevalprocAttr, dd, k, q] at h24
  have q := And.intro @h24 <| q
  refine zq ?_
  refine sP.foot (.ids []) (fun hN => FootOK.idsB [] (by rfl) rfl hN) fd (by first | exact .inl (by first | rfl | decide) | exact .inr (by kernel_rfl)) <| rgP_cons <| zq ?_
  refine sP.light rfl fd <| rgP_cons <| zq ?_
  refine sP.pat 0 0 1 rfl rfl rfl <| rgP_cons <| zq ?_
  refine sP.light rfl fd <| rgP_cons <| zq ?_
  refine sP.pat 0 9 1 rfl rfl rfl <| zq ?_
  refine rgP_nil fk ?_
  subst hK14
  refine es <| xs <| rz ?_
  refine es <| xr ?_
  cases h
  exact en fr
end Go.Proofs.YtedhognhhcihpaaGreatDoor
namespace Go.Proofs.YtedhognhhcihpaaGreatDoor
open Go.RowKit
set_option maxRecDepth 100000
def g_strings_ReplaceAll (s old new : List UInt8) : Option (List UInt8) := if s.length < 4294967281 ∧ 1 ≤ old.length ∧ s.length + Lib.countB ⟨s.toArray⟩ ⟨old.toArray⟩ * new.length ≤ 140737488355328 ∧ (Lib.replaceAll s old new).length ≤ 140737488355328 then some (Lib.replaceAll s old new) else none
theorem a_strings_ReplaceAll (I : World → Prop) (hI : Stab I) (hShp : ∀ w, I w → Shp w) (s old new : List UInt8) {r : List UInt8} (h : g_strings_ReplaceAll s old new = some r) : AFun Tryz.prog I 18 [.str s, .str old, .str new] (.str r) := by
  obtain ⟨⟨h1, h2, h3, h4⟩, h⟩ := ite_on h
  obtain rfl := Option.some.inj h
  refine AFun.of_vals (by kernel_rfl) _ ?_
  intro w F args hIw _ hl hr
  match args, hl with
  | [v, u, x], _ =>
    obtain ⟨rfl, _⟩ := rep_str1 (hr 0 v _ rfl rfl)
    obtain ⟨rfl, _⟩ := rep_str1 (hr 1 u _ rfl rfl)
    obtain ⟨rfl, _⟩ := rep_str1 (hr 2 x _ rfl rfl)
    obtain ⟨m, hm⟩ := hShp w hIw
    refine (Tryz.strings_ReplaceAll ⟨s.toArray⟩ ⟨old.toArray⟩ ⟨new.toArray⟩ m w (by simpa [ByteArray.size] using h1) hm (by simpa [ByteArray.size] using h2) (by simpa [ByteArray.size] using h3)).mono ?_
    rintro e w' ⟨rfl, hb⟩
    exact ⟨_, rfl, hb, fun F => .str (Lib.replaceAll s old new) (by unfold maxLen; omega)⟩
end Go.Proofs.YtedhognhhcihpaaGreatDoor
namespace Go.Proofs.YtedhognhhcihpaaGreatDoor
open Go.RowKit
set_option maxRecDepth 100000
set_option maxHeartbeats 10000000
theorem dd_PF : (∀ x, T_api_Profile.d x = .agg [.str x.Name, .int .i64 x.Reading, .int .i64 x.MinFrames, .int .i64 x.MaxFrames, .int .i64 x.MinGap, .int .i64 x.ShotBefore, .int .i64 x.ShotAfter, .int .i64 x.Rows, .int .i64 x.Cols, .str x.Forbidden, .int .i64 x.SafeTop, .int .i64 x.SafeBottom, .int .i64 x.SafeLeft, .int .i64 x.SafeRight]) := fun _ => rfl
def g_law39_ProfileComments_s1 (note_1 : List UInt8) (x29 : Int) : Option (Nx (Int) (Unit ⊕ Unit)) :=
  (if (decide (x29 < (note_1.length : Int))) then ((atI note_1 x29).bind fun b148 => (if (decide ((b148.toNat : Int) < 32)) then (some (.out (.inl ()))) else (if (decide (126 < (b148.toNat : Int))) then (some (.out (.inl ()))) else (if (decide (80 < (note_1.length : Int))) then (some (.out (.inl ()))) else (some (.go (IntKind.i64.wrap (x29 + 1)))))))) else (some (.out (.inr ()))))
def g_law39_ProfileComments (p_0 : T_api_Profile) (note_1 : List UInt8) : Option (Bool) :=
  ((g_law39_awake).bind fun r7 => (if r7 then ((g_law39_small p_0).bind fun r14 => ((g_profile_Text r14).bind fun r20 => (if (r20.2 != 0) then (some true) else ((iter (g_law39_ProfileComments_s1 note_1) 0).bind fun e30 => (match e30 with | Sum.inl e30 => (some true) | Sum.inr (e30) => (if 2 + note_1.length ≤ 9223372036854775807 then (if (2 + note_1.length) + 1 ≤ 9223372036854775807 then (if 4 + note_1.length ≤ 9223372036854775807 then (if (4 + note_1.length) + 2 ≤ 9223372036854775807 then ((g_strings_ReplaceAll r20.1 [10] (([32, 32, 35, 32] ++ note_1) ++ [10, 10])).bind fun r185 => (if ((2 + note_1.length) + 1) + r185.length ≤ 9223372036854775807 then ((g_profile_Parse ((([35, 32] ++ note_1) ++ [10]) ++ r185)).bind fun r189 => (if ((r189.2.length : Int) == 0) then (some ((r189.1.Name == r14.Name) && ((r189.1.Reading == r14.Reading) && ((r189.1.MinFrames == r14.MinFrames) && ((r189.1.MaxFrames == r14.MaxFrames) && ((r189.1.MinGap == r14.MinGap) && ((r189.1.ShotBefore == r14.ShotBefore) && ((r189.1.ShotAfter == r14.ShotAfter) && ((r189.1.Rows == r14.Rows) && ((r189.1.Cols == r14.Cols) && ((r189.1.Forbidden == r14.Forbidden) && ((r189.1.SafeTop == r14.SafeTop) && ((r189.1.SafeBottom == r14.SafeBottom) && ((r189.1.SafeLeft == r14.SafeLeft) && (r189.1.SafeRight == r14.SafeRight))))))))))))))) else (some false))) else none)) else none) else none) else none) else none)))))) else (some false)))
theorem a_law39_ProfileComments {I : World → Prop} (hI : Stab I) (hPIv : ∀ w, I w → PIv w) (hShp : ∀ w, I w → Shp w) (hTab : ∀ w, I w → Tab w) (hU8T : ∀ w, I w → U8T w) {p_0 : T_api_Profile} {note_1 : List UInt8} {r : Bool} (h : g_law39_ProfileComments p_0 note_1 = some r) : AFun Tryz.prog I 6 [T_api_Profile.d p_0, .str note_1] (.bool r) := by
  have dd := dd_PF; have k := True.intro; have q := k; have rs := Tryz.results6
  unfold g_law39_ProfileComments at h
  refine .en hI Tryz.func6 Tryz.ntmps6 ?_
  refine xs <| rz ?_
  refine es <| xs <| xs <| rK fun K6 RK6 hK6 gK6 => zz ?_
  obtain ⟨r7, h8, h⟩ := bs h
  refine cw (a_law39_awake hI hPIv hShp hTab hU8T h8) <| zz ?_
  subst hK6 gK6
  refine es ?_
  rcases iK k h with ⟨k, h⟩ | ⟨k, h⟩
  · refine xf <| xk <| es <| xs <| rK fun K13 RK13 hK13 gK13 => zz ?_
    obtain ⟨r14, h15, h⟩ := bs h
    refine cw (a_law39_small hI h15) <| zz ?_
    subst hK13 gK13
    refine es <| xs <| rK fun K19 RK19 hK19 gK19 => zz ?_
    obtain ⟨r20, h21, h⟩ := bs h
    refine cw (a_profile_Text hI hTab hU8T h21) <| zz ?_
    subst hK19 gK19
    refine es <| xs <| xs <| rz ?_
    refine es ?_
    rcases iK k h with ⟨k, h⟩ | ⟨k, h⟩
    · refine xt <| xs <| rz ?_
      refine es <| xr <| er ?_
      cases h
      exact en fr
    · refine xf <| xk <| es <| xs <| xs <| rz ?_
      refine es <| xb ?_
      obtain ⟨e30, h160, h⟩ := bs h
      refine rb_loop (fun x29 => ⟨envL [(1, .str note_1), (2, .ptr 0 0), (5, .str r20.1), (22, .int .i64 (note_1.length : Int)), (23, .int .i64 x29)], heapL [(0, .box none [.str r14.Name, .int .i64 r14.Reading, .int .i64 r14.MinFrames, .int .i64 r14.MaxFrames, .int .i64 r14.MinGap, .int .i64 r14.ShotBefore, .int .i64 r14.ShotAfter, .int .i64 r14.Rows, .int .i64 r14.Cols, .str r14.Forbidden, .int .i64 r14.SafeTop, .int .i64 r14.SafeBottom, .int .i64 r14.SafeLeft, .int .i64 r14.SafeRight])], 1, 63⟩) (fun w => match w with | Sum.inl _ => .ret | Sum.inr (_) => .exit 0) (fun w => match w with | Sum.inl e30 => ⟨envL [(4, .bool true)], heapL [], 0, 63⟩ | Sum.inr (e30) => ⟨envL [(1, .str note_1), (2, .ptr 0 0), (5, .str r20.1)], heapL [(0, .box none [.str r14.Name, .int .i64 r14.Reading, .int .i64 r14.MinFrames, .int .i64 r14.MaxFrames, .int .i64 r14.MinGap, .int .i64 r14.ShotBefore, .int .i64 r14.ShotAfter, .int .i64 r14.Rows, .int .i64 r14.Cols, .str r14.Forbidden, .int .i64 r14.SafeTop, .int .i64 r14.SafeBottom, .int .i64 r14.SafeLeft, .int .i64 r14.SafeRight])], 1, 63⟩) h160 (wk []) (by intro w; rcases w with w | w <;> simp) ?_ ?_
      · clear h
        intro x29 y h
        unfold g_law39_ProfileComments_s1 at h
        refine xs <| rz ?_
        refine es <| xs ?_
        rcases iK k h with ⟨k, h⟩ | ⟨k, h⟩
        · refine xt <| xk <| es <| xs <| xb <| xs <| rz ?_
          refine es <| xs <| rK fun K147 RK147 hK147 gK147 => zz ?_
          obtain ⟨b148, q, h⟩ := bK q h
          refine zz ?_
          rcases iK k h with ⟨k, h⟩ | ⟨k, h⟩
          · refine zz ?_
            subst hK147 gK147
            refine es <| xt <| xs <| rz ?_
            refine es <| xr <| br <| er ?_
            cases h
            exact en ⟨rfl, wk []⟩
          · refine zz ?_
            rcases iK k h with ⟨k, h⟩ | ⟨k, h⟩
            · refine zz ?_
              subst hK147 gK147
              refine es <| xt <| xs <| rz ?_
              refine es <| xr <| br <| er ?_
              cases h
              exact en ⟨rfl, wk []⟩
            · refine zz ?_
              subst hK147 gK147
              refine es ?_
              rcases iK k h with ⟨k, h⟩ | ⟨k, h⟩
              · refine xt <| xs <| rz ?_
                refine es <| xr <| br <| er ?_
                cases h
                exact en ⟨rfl, wk []⟩
              · refine xf <| xk <| bn <| es <| rz ?_
                cases h
                exact en ⟨rfl, wk []⟩
        · refine xf <| xx <| ee ?_
          cases h
          exact en ⟨rfl, wk []⟩
      · rcases e30 with e30 | e30
        · try dsimp only at h ⊢
          refine br <| er ?_
          cases h
          exact en fr
        · try dsimp only at h ⊢
          refine bh <| es <| xs <| rK fun K176 RK176 hK176 gK176 => zz ?_
          obtain ⟨h177, h⟩ := ite_on h
          have h178 : ([35, 32] : List UInt8).length + note_1.length ≤ 9223372036854775807 := by (try simp only [List.length_append, List.length_cons, List.length_nil]); omega
          try simp -implicitDefEqProofs only [vt, vm, sevalprocAttr, dd, k, q] at h178
          have q := And.intro @h178 <| And.intro @h177 <| q
          refine zz ?_
          obtain ⟨h179, h⟩ := ite_on h
          have h180 : ([35, 32] ++ note_1).length + ([10] : List UInt8).length ≤ 9223372036854775807 := by (try simp only [List.length_append, List.length_cons, List.length_nil]); omega
          try simp -implicitDefEqProofs only [vt, vm, sevalprocAttr, dd, k, q] at h180
          have q := And.intro @h180 <| And.intro @h179 <| q
          refine zz ?_
          obtain ⟨h181, h⟩ := ite_on h
          have h182 : ([32, 32, 35, 32] : List UInt8).length + note_1.length ≤ 9223372036854775807 := by (try simp only [List.length_append, List.length_cons, List.length_nil]); omega
          try simp -implicitDefEqProofs only [vt, vm, sevalprocAttr, dd, k, q] at h182
          have q := And.intro @h182 <| And.intro @h181 <| q
          refine zz ?_
          obtain ⟨h183, h⟩ := ite_on h
          have h184 : ([32, 32, 35, 32] ++ note_1).length + ([10, 10] : List UInt8).length ≤ 9223372036854775807 := by (try simp only [List.length_append, List.length_cons, List.length_nil]); omega
          try simp -implicitDefEqProofs only [vt, vm, sevalprocAttr, dd, k, q] at h184
          have q := And.intro @h184 <| And.intro @h183 <| q
          refine zz ?_
          obtain ⟨r185, h186, h⟩ := bs h
          refine cw (a_strings_ReplaceAll I hI hShp r20.1 [10] (([32, 32, 35, 32] ++ note_1) ++ [10, 10]) h186) <| zz ?_
          obtain ⟨h187, h⟩ := ite_on h
          have h188 : (([35, 32] ++ note_1) ++ [10]).length + r185.length ≤ 9223372036854775807 := by (try simp only [List.length_append, List.length_cons, List.length_nil]); omega
          try simp -implicitDefEqProofs only [vt, vm, sevalprocAttr, dd, k, q] at h188
          have q := And.intro @h188 <| And.intro @h187 <| q
          refine zz ?_
          obtain ⟨r189, h190, h⟩ := bs h
          refine cw (a_profile_Parse hI hPIv hShp hU8T h190) <| zz ?_
          subst hK176 gK176
          refine es <| xs <| rK fun K193 RK193 hK193 gK193 => zz ?_
          rcases iK k h with ⟨k, h⟩ | ⟨k, h⟩
          · refine zz ?_
            subst hK193 gK193
            refine es <| xr ?_
            cases h
            exact en fr
          · refine zz ?_
            subst hK193 gK193
            refine es <| xr ?_
            cases h
            exact en fr
  · refine xt <| xs <| rz ?_
    refine es <| xr <| er ?_
    cases h
    exact en fr
end Go.Proofs.YtedhognhhcihpaaGreatDoor
namespace Go.Proofs.YtedhognhhcihpaaGreatDoor
theorem iterN_of {X E : Type} {step : X → Option (Nx X E)} (R : X → E → Prop) (μ : X → Nat) (hs : ∀ x e, R x e → (∃ x', step x = some (.go x') ∧ R x' e ∧ μ x' < μ x) ∨ step x = some (.out e)) :
    ∀ (n : Nat) (x : X) (e : E), R x e → μ x < n → iterN step n x = some e := by
  intro n
  induction n with
  | zero => intro x e _ h; omega
  | succ n ih =>
    intro x e h hμ
    rcases hs x e h with ⟨x', h1, h2, h3⟩ | h1
    · simp only [iterN, h1]
      exact ih x' e h2 (by omega)
    · simp only [iterN, h1]
theorem iter_of {X E : Type} {step : X → Option (Nx X E)} (R : X → E → Prop) (μ : X → Nat) (hs : ∀ x e, R x e → (∃ x', step x = some (.go x') ∧ R x' e ∧ μ x' < μ x) ∨ step x = some (.out e)) {x : X} {e : E} (h : R x e) (hμ : μ x < 73786976294838206464) : iter step x = some e :=
  iterN_of R μ hs _ x e h hμ
theorem iter_idx {E : Type} {step : Int → Option (Nx Int E)} (n : Nat) (hn : n ≤ 9223372036854775807) (res : Nat → E) (hgo : ∀ i : Nat, i < n → (step i = some (.go ((i : Int) + 1)) ∧ res i = res (i + 1)) ∨ step i = some (.out (res i))) (hend : step n = some (.out (res n))) : iter step 0 = some (res 0) := by
  refine iter_of (fun (x : Int) e => ∃ i : Nat, x = (i : Int) ∧ i ≤ n ∧ e = res i) (fun (x : Int) => n - x.toNat) ?_ (x := 0) ⟨0, rfl, Nat.zero_le _, rfl⟩ (by show n - _ < _; omega)
  rintro x e ⟨i, rfl, hi, rfl⟩
  by_cases h : i < n
  · rcases hgo i h with ⟨h1, h2⟩ | h1
    · exact .inl ⟨(i : Int) + 1, h1, ⟨i + 1, by omega, by omega, h2⟩, by simp only [Int.toNat_natCast]; omega⟩
    · exact .inr h1
  · obtain rfl : i = n := by omega
    exact .inr hend
theorem wr64 {x : Int} (h : -9223372036854775808 ≤ x ∧ x ≤ 9223372036854775807) : IntKind.i64.wrap x = x := wk64 h
theorem wr8 {x : Int} (h : 0 ≤ x ∧ x ≤ 255) : IntKind.u8.wrap x = x := by
  simp [IntKind.wrap, IntKind.bits, IntKind.signed]
  omega
theorem atI_nat {α : Type} {l : List α} {n : Nat} (h : n < l.length) : atI l (n : Int) = some l[n] := by
  simp [atI, h]
theorem atI_lt {α : Type} {l : List α} {n : Int} (h0 : 0 ≤ n) (h : n.toNat < l.length) : atI l n = some (l[n.toNat]'h) := by
  simp [atI, h0, h]
end Go.Proofs.YtedhognhhcihpaaGreatDoor
namespace Go.Proofs.YtedhognhhcihpaaGreatDoor
theorem iterN_post {X E : Type} {step : X → Option (Nx X E)} (Inv : X → Prop) (μ : X → Nat) (Post : E → Prop) (hs : ∀ x, Inv x → (∃ x', step x = some (.go x') ∧ Inv x' ∧ μ x' < μ x) ∨ ∃ e, step x = some (.out e) ∧ Post e) :
    ∀ (n : Nat) (x : X), Inv x → μ x < n → ∃ e, iterN step n x = some e ∧ Post e := by
  intro n
  induction n with
  | zero => intro x _ h; omega
  | succ n ih =>
    intro x h hμ
    rcases hs x h with ⟨x', h1, h2, h3⟩ | ⟨e, h1, h2⟩
    · simp only [iterN, h1]
      exact ih x' h2 (by omega)
    · exact ⟨e, by simp only [iterN, h1], h2⟩
theorem iter_post {X E : Type} {step : X → Option (Nx X E)} (Inv : X → Prop) (μ : X → Nat) (Post : E → Prop) {x : X} (h : Inv x) (hμ : μ x < 73786976294838206464) (hs : ∀ x, Inv x → (∃ x', step x = some (.go x') ∧ Inv x' ∧ μ x' < μ x) ∨ ∃ e, step x = some (.out e) ∧ Post e) : ∃ e, iter step x = some e ∧ Post e :=
  iterN_post Inv μ Post hs _ x h hμ
theorem iter_cnt {E : Type} {step : Int → Option (Nx Int E)} (n : Nat) (hn : n ≤ 9223372036854775807) (Inv : Nat → Prop) (Post : E → Prop) (h0 : Inv 0) (hs : ∀ i : Nat, i < n → Inv i → (step i = some (.go ((i : Int) + 1)) ∧ Inv (i + 1)) ∨ ∃ e, step i = some (.out e) ∧ Post e) (hend : Inv n → ∃ e, step n = some (.out e) ∧ Post e) : ∃ e, iter step 0 = some e ∧ Post e := by
  refine iter_post (fun x => ∃ i : Nat, x = (i : Int) ∧ i ≤ n ∧ Inv i) (fun x => n - x.toNat) Post ⟨0, rfl, Nat.zero_le _, h0⟩ (by show n - _ < _; omega) ?_
  rintro x ⟨i, rfl, hi, hI⟩
  by_cases h : i < n
  · rcases hs i h hI with ⟨h1, h2⟩ | h1
    · exact .inl ⟨_, h1, ⟨i + 1, by omega, by omega, h2⟩, by simp only [Int.toNat_natCast]; omega⟩
    · exact .inr h1
  · obtain rfl : i = n := by omega
    exact .inr (hend hI)
theorem wrap_i64 (x : Int) (h : -9223372036854775808 ≤ x) (h' : x ≤ 9223372036854775807) : IntKind.i64.wrap x = x := wr64 ⟨h, h'⟩
theorem atI_some {α : Type} {l : List α} {n : Int} (h0 : 0 ≤ n) (h : n < l.length) : ∃ x, atI l n = some x ∧ x ∈ l ∧ l[n.toNat]? = some x := by
  refine ⟨l[n.toNat]'(by omega), atI_lt h0 (by omega), List.getElem_mem _, List.getElem?_eq_getElem _⟩
theorem u8lt (b : UInt8) : b.toNat < 256 := b.toNat_lt
end Go.Proofs.YtedhognhhcihpaaGreatDoor
namespace Go.Proofs.YtedhognhhcihpaaGreatDoor
set_option maxRecDepth 100000
inductive QR where
  | ok (text : List UInt8) (n : Nat)
  | bad (n : Nat)
  | stop
def QR.sh (k : Nat) (pre : List UInt8) : QR → QR
  | .ok t n => .ok (pre ++ t) (k + n)
  | .bad n => .bad (k + n)
  | .stop => .stop
def qS : List UInt8 → QR
  | [] => .stop
  | b :: t =>
    if b.toNat = 34 then (if t.head?.any (fun c => c.toNat != 32) then .bad 1 else .ok [] 1)
    else if b.toNat = 92 then
      match t with
      | [] => .bad 0
      | c :: t' => if c.toNat = 34 ∨ c.toNat = 92 then (qS t').sh 2 [c] else if c.toNat = 110 then (qS t').sh 2 [10] else .bad 0
    else if b.toNat < 32 ∨ b.toNat = 127 then .bad 0
    else (qS t).sh 1 [b]
theorem qS_nil : qS [] = .stop := by unfold qS; rfl
theorem qS_cons (b : UInt8) (t : List UInt8) : qS (b :: t) = if b.toNat = 34 then (if t.head?.any (fun c => c.toNat != 32) then .bad 1 else .ok [] 1)
    else if b.toNat = 92 then
      match t with
      | [] => .bad 0
      | c :: t' => if c.toNat = 34 ∨ c.toNat = 92 then (qS t').sh 2 [c] else if c.toNat = 110 then (qS t').sh 2 [10] else .bad 0
    else if b.toNat < 32 ∨ b.toNat = 127 then .bad 0
    else (qS t).sh 1 [b] := by
  cases t <;> (conv => lhs; unfold qS)
theorem drop_cons {s : List UInt8} {i : Nat} (h : i < s.length) : s.drop i = s[i] :: s.drop (i + 1) := List.drop_eq_getElem_cons h
theorem ib3 (b : UInt8) : g_strings_IndexByte [34, 92, 110] (b.toNat : Int) = some (if b.toNat = 34 then 0 else if b.toNat = 92 then 1 else if b.toNat = 110 then 2 else -1) := by
  have hb : (b.toNat : Int).toNat.toUInt8 = b := by simp
  have key : ∀ c : UInt8, (c == b) = decide (b.toNat = c.toNat) := by
    intro c
    by_cases h : b.toNat = c.toNat
    · have : c = b := UInt8.toNat_inj.1 h.symm
      simp [this]
    · have : c ≠ b := fun e => h (by rw [e])
      simp [this, h]
  simp only [g_strings_IndexByte, hb, Lib.indexByte, key]
  have h1 : (34 : UInt8).toNat = 34 := rfl
  have h2 : (92 : UInt8).toNat = 92 := rfl
  have h3 : (110 : UInt8).toNat = 110 := rfl
  simp only [h1, h2, h3]
  grind
def qfinL (acc : List Int) (i : Nat) : QR → ((List UInt8) × Int × Int) ⊕ Unit
  | .ok t n => .inl (bytesOf acc ++ t, ((i + n : Nat) : Int), -1)
  | .bad n => .inl ([], 0, ((i + n : Nat) : Int))
  | .stop => .inr ()
theorem qfinL_sh (acc : List Int) (i k : Nat) (x : Int) (b : UInt8) (hx : UInt8.ofNat x.toNat = b) (r : QR) : qfinL acc i (r.sh k [b]) = qfinL (acc ++ [x]) (i + k) r := by
  cases r <;> simp [qfinL, QR.sh, bytesOf, hx] <;> omega
theorem lines_quoted_loop (s : List UInt8) (hs : s.length ≤ 140737488355327) (h1 : 1 ≤ s.length) : iter (g_lines_quoted_s1 s) ([], 1) = some (qfinL [] 1 (qS (s.drop 1))) := by
  refine iter_of (fun x e => ∃ i : Nat, x.2 = (i : Int) ∧ 1 ≤ i ∧ i ≤ s.length ∧ x.1.length + 1 ≤ i ∧ e = qfinL x.1 i (qS (s.drop i))) (fun x => s.length - x.2.toNat) ?_ (x := ([], 1)) ⟨1, rfl, Nat.le_refl _, h1, by simp, rfl⟩ (by show s.length - _ < _; omega)
  rintro ⟨acc, z⟩ e ⟨i, hz, hi1, hi, ha, rfl⟩
  simp only at hz ha ⊢
  subst hz
  by_cases h : i < s.length
  · have w1 := wrap_i64 ((i : Int) + 1) (by omega) (by omega)
    have w2 := wrap_i64 ((i : Int) + 1 + 1) (by omega) (by omega)
    have hat := atI_nat h
    have hb := u8lt s[i]
    rw [drop_cons h]
    have hcnd : decide ((i : Int) < (s.length : Int)) = true := by simpa using h
    have hap : (acc.length + 1) * 1 ≤ 140737488355328 := by omega
    simp only [g_lines_quoted_s1, hcnd, if_true, hat, Option.bind_some, w1, w2, if_pos hap]
    generalize hB : s[i] = b at *
    by_cases c34 : b.toNat = 34
    · right
      have q : qS (b :: s.drop (i + 1)) = (if (s.drop (i + 1)).head?.any (fun c => c.toNat != 32) then .bad 1 else .ok [] 1) := by simp only [qS_cons, c34, if_true]
      have e1 : ((b.toNat : Int) == 34) = true := by simp [c34]
      rw [q]
      simp only [e1, if_true]
      by_cases h2 : i + 1 < s.length
      · have hat2 : atI s ((i : Int) + 1) = some s[i + 1] := by have := atI_nat h2; simpa using this
        have hcnd2 : decide ((i : Int) + 1 < (s.length : Int)) = true := by simp; omega
        rw [drop_cons h2]
        simp only [hcnd2, if_true, hat2, Option.bind_some, List.head?_cons, Option.any_some]
        by_cases c32 : s[i + 1].toNat = 32
        · simp [c32, qfinL]
        · have : ((s[i + 1].toNat : Int) != 32) = true := by simp; omega
          simp [c32, qfinL, this]
      · have hcnd2 : decide ((i : Int) + 1 < (s.length : Int)) = false := by simp; omega
        have : s.drop (i + 1) = [] := List.drop_eq_nil_of_le (by omega)
        simp only [hcnd2, Bool.false_eq_true, if_false, Option.bind_some, this]
        simp [qfinL]
    · have e1 : ((b.toNat : Int) == 34) = false := by simp; omega
      simp only [e1, Bool.false_eq_true, if_false]
      by_cases c92 : b.toNat = 92
      · have e2 : ((b.toNat : Int) == 92) = true := by simp [c92]
        simp only [e2, if_true]
        by_cases h2 : i + 1 < s.length
        · have hat2 : atI s ((i : Int) + 1) = some s[i + 1] := by have := atI_nat h2; simpa using this
          have e3 : (((i : Int) + 1) == (s.length : Int)) = false := by simp; omega
          have q : qS (b :: s.drop (i + 1)) = (if s[i + 1].toNat = 34 ∨ s[i + 1].toNat = 92 then (qS (s.drop (i + 2))).sh 2 [s[i + 1]] else if s[i + 1].toNat = 110 then (qS (s.drop (i + 2))).sh 2 [10] else .bad 0) := by
            rw [drop_cons h2]; simp only [qS_cons, c34, c92, if_true, if_false]; rfl
          rw [q]
          simp only [e3, Bool.false_eq_true, if_false, hat2, Option.bind_some, ib3]
          have hc := u8lt s[i + 1]
          generalize s[i + 1] = c at *
          by_cases d1 : c.toNat = 34 ∨ c.toNat = 92
          · left
            refine ⟨(acc ++ [(c.toNat : Int)], (i : Int) + 1 + 1), ?_, ⟨i + 2, by simp; omega, by omega, by omega, by simp; omega, ?_⟩, by simp; omega⟩
            · rcases d1 with d | d <;> simp [d]
            · rw [if_pos d1]
              exact qfinL_sh acc i 2 _ c (by simp) _
          · by_cases d2 : c.toNat = 110
            · left
              refine ⟨(acc ++ [10], (i : Int) + 1 + 1), ?_, ⟨i + 2, by simp; omega, by omega, by omega, by simp; omega, ?_⟩, by simp; omega⟩
              · simp [d2]
              · rw [if_neg d1, if_pos d2]
                exact qfinL_sh acc i 2 10 10 (by rfl) _
            · right
              rw [if_neg d1, if_neg d2]
              have d3 : ¬ c.toNat = 34 := fun h => d1 (.inl h)
              have d4 : ¬ c.toNat = 92 := fun h => d1 (.inr h)
              simp [d2, d3, d4, qfinL]
        · right
          have e3 : (((i : Int) + 1) == (s.length : Int)) = true := by simp; omega
          have : s.drop (i + 1) = [] := List.drop_eq_nil_of_le (by omega)
          simp [e3, this, qS_cons, c92, qfinL]
      · have e2 : ((b.toNat : Int) == 92) = false := by simp; omega
        simp only [e2, Bool.false_eq_true, if_false]
        by_cases cc : b.toNat < 32 ∨ b.toNat = 127
        · right
          have q : qS (b :: s.drop (i + 1)) = .bad 0 := by simp only [qS_cons, c34, c92, cc, if_true, if_false]
          rw [q]
          rcases cc with c | c
          · have : decide ((b.toNat : Int) < 32) = true := by simp; omega
            simp [this, qfinL]
          · simp [c, qfinL]
        · left
          have q : qS (b :: s.drop (i + 1)) = (qS (s.drop (i + 1))).sh 1 [b] := by simp only [qS_cons, c34, c92, cc, if_false]
          rw [q]
          have f1 : decide ((b.toNat : Int) < 32) = false := by simp; omega
          have f2 : ((b.toNat : Int) == 127) = false := by simp; omega
          refine ⟨(acc ++ [(b.toNat : Int)], (i : Int) + 1), ?_, ⟨i + 1, by simp, by omega, by omega, by simp; omega, ?_⟩, by simp; omega⟩
          · simp [f1, f2]
          · exact qfinL_sh acc i 1 _ b (by simp) _
  · right
    obtain rfl : i = s.length := by omega
    simp [g_lines_quoted_s1, qS_nil, qfinL]
def qres (k : Nat) (len : Nat) : QR → (List UInt8) × Int × Int
  | .ok t n => (t, ((k + n : Nat) : Int), -1)
  | .bad n => ([], 0, ((k + n : Nat) : Int))
  | .stop => ([], 0, (len : Int))
theorem lines_quoted_eq (s : List UInt8) (hs : s.length ≤ 140737488355327) (h1 : 1 ≤ s.length) : g_lines_quoted s = some (qres 1 s.length (qS (s.drop 1))) := by
  simp only [g_lines_quoted, lines_quoted_loop s hs h1, Option.bind_some]
  cases qS (s.drop 1) <;> simp [qfinL, qres, bytesOf]
def qfinR (acc : List UInt8) (i : Nat) : QR → ((List UInt8) × Int × Int) ⊕ Unit
  | .ok t n => .inl (acc ++ t, ((i + n : Nat) : Int), -1)
  | .bad n => .inl ([], 0, ((i + n : Nat) : Int))
  | .stop => .inr ()
theorem qfinR_sh (acc : List UInt8) (i k : Nat) (b : UInt8) (r : QR) : qfinR acc i (r.sh k [b]) = qfinR (acc ++ [b]) (i + k) r := by
  cases r <;> simp [qfinR, QR.sh] <;> omega
theorem sub1 {s : List UInt8} {i : Nat} (h : i < s.length) : subI s (i : Int) ((i : Int) + 1) = some [s[i]] := by
  unfold subI
  rw [if_pos (by omega)]
  have : ((i : Int) + 1).toNat - (i : Int).toNat = 1 := by omega
  rw [this, Int.toNat_natCast, drop_cons h, List.take_succ_cons, List.take_zero]
theorem ref_quoted_loop (s : List UInt8) (hs : s.length ≤ 9223372036854775805) (p : Nat) (hp : p < s.length) : iter (g_ref07_quoted_s1 s) (((p + 1 : Nat) : Int), []) = some (qfinR [] (p + 1) (qS (s.drop (p + 1)))) := by
  refine iter_of (fun x e => ∃ i : Nat, x.1 = (i : Int) ∧ i ≤ s.length ∧ x.2.length ≤ i ∧ e = qfinR x.2 i (qS (s.drop i))) (fun x => s.length - x.1.toNat) ?_ (x := (((p + 1 : Nat) : Int), [])) ⟨p + 1, rfl, by omega, by simp, rfl⟩ (by show s.length - _ < _; omega)
  rintro ⟨z, acc⟩ e ⟨i, hz, hi, ha, rfl⟩
  simp only at hz ha ⊢
  subst hz
  by_cases h : i < s.length
  · have w1 := wrap_i64 ((i : Int) + 1) (by omega) (by omega)
    have w2 := wrap_i64 ((i : Int) + 2) (by omega) (by omega)
    have hat := atI_nat h
    have hb := u8lt s[i]
    have hsub := sub1 h
    rw [drop_cons h]
    have hcnd : decide ((i : Int) < (s.length : Int)) = true := by simpa using h
    have hap : acc.length + 1 ≤ 9223372036854775807 := by omega
    simp only [g_ref07_quoted_s1, hcnd, if_true, hat, Option.bind_some, w1, w2, hsub, List.length_cons, List.length_nil, Nat.zero_add, if_pos hap]
    generalize hB : s[i] = b at *
    by_cases c34 : b.toNat = 34
    · right
      have q : qS (b :: s.drop (i + 1)) = (if (s.drop (i + 1)).head?.any (fun c => c.toNat != 32) then .bad 1 else .ok [] 1) := by simp only [qS_cons, c34, if_true]
      have e1 : ((b.toNat : Int) == 34) = true := by simp [c34]
      rw [q]
      simp only [e1, if_true]
      by_cases h2 : i + 1 < s.length
      · have hat2 : atI s ((i : Int) + 1) = some s[i + 1] := by have := atI_nat h2; simpa using this
        have hcnd2 : decide ((i : Int) + 1 < (s.length : Int)) = true := by simp; omega
        rw [drop_cons h2]
        simp only [hcnd2, if_true, hat2, Option.bind_some, List.head?_cons, Option.any_some]
        by_cases c32 : s[i + 1].toNat = 32
        · simp [c32, qfinR]
        · have : ((s[i + 1].toNat : Int) != 32) = true := by simp; omega
          simp [c32, qfinR, this]
      · have hcnd2 : decide ((i : Int) + 1 < (s.length : Int)) = false := by simp; omega
        have : s.drop (i + 1) = [] := List.drop_eq_nil_of_le (by omega)
        simp only [hcnd2, Bool.false_eq_true, if_false, Option.bind_some, this]
        simp [qfinR]
    · have e1 : ((b.toNat : Int) == 34) = false := by simp; omega
      simp only [e1, Bool.false_eq_true, if_false]
      by_cases cc : b.toNat < 32 ∨ b.toNat = 127
      · right
        have c92 : ¬ b.toNat = 92 := by omega
        have q : qS (b :: s.drop (i + 1)) = .bad 0 := by simp only [qS_cons, c34, c92, cc, if_true, if_false]
        rw [q]
        rcases cc with c | c
        · have : decide ((b.toNat : Int) < 32) = true := by simp; omega
          simp [this, qfinR]
        · simp [c, qfinR]
      · have f1 : decide ((b.toNat : Int) < 32) = false := by simp; omega
        have f2 : ((b.toNat : Int) == 127) = false := by simp; omega
        simp only [f1, f2, Bool.false_eq_true, if_false, Option.bind_some]
        by_cases c92 : b.toNat = 92
        · have e2 : ((b.toNat : Int) != 92) = false := by simp [c92]
          simp only [e2, Bool.false_eq_true, if_false]
          by_cases h2 : i + 1 < s.length
          · have hat2 : atI s ((i : Int) + 1) = some s[i + 1] := by have := atI_nat h2; simpa using this
            have hsub2 : subI s ((i : Int) + 1) ((i : Int) + 2) = some [s[i + 1]] := by
              have := sub1 h2
              have e : (((i + 1 : Nat) : Int)) = (i : Int) + 1 := by omega
              rw [e] at this
              rw [show (i : Int) + 2 = (i : Int) + 1 + 1 by omega]
              exact this
            have e3 : decide ((s.length : Int) ≤ (i : Int) + 1) = false := by simp; omega
            have q : qS (b :: s.drop (i + 1)) = (if s[i + 1].toNat = 34 ∨ s[i + 1].toNat = 92 then (qS (s.drop (i + 2))).sh 2 [s[i + 1]] else if s[i + 1].toNat = 110 then (qS (s.drop (i + 2))).sh 2 [10] else .bad 0) := by
              rw [drop_cons h2]; simp only [qS_cons, c34, c92, if_true, if_false]; rfl
            rw [q]
            simp only [e3, Bool.false_eq_true, if_false, hat2, Option.bind_some, hsub2, List.length_cons, List.length_nil, Nat.zero_add, if_pos hap]
            have hc := u8lt s[i + 1]
            generalize s[i + 1] = c at *
            by_cases d1 : c.toNat = 34 ∨ c.toNat = 92
            · left
              refine ⟨((i : Int) + 2, acc ++ [c]), ?_, ⟨i + 2, by simp, by omega, by simp; omega, ?_⟩, by simp; omega⟩
              · rcases d1 with d | d <;> simp [d]
              · rw [if_pos d1]
                exact qfinR_sh acc i 2 c _
            · by_cases d2 : c.toNat = 110
              · left
                refine ⟨((i : Int) + 2, acc ++ [10]), ?_, ⟨i + 2, by simp, by omega, by simp; omega, ?_⟩, by simp; omega⟩
                · simp [d2]
                · rw [if_neg d1, if_pos d2]
                  exact qfinR_sh acc i 2 10 _
              · right
                rw [if_neg d1, if_neg d2]
                have d3 : ¬ c.toNat = 34 := fun h => d1 (.inl h)
                have d4 : ¬ c.toNat = 92 := fun h => d1 (.inr h)
                have g1 : ((c.toNat : Int) == 34) = false := by simp; omega
                have g2 : ((c.toNat : Int) == 92) = false := by simp; omega
                have g3 : ((c.toNat : Int) == 110) = false := by simp; omega
                simp [g1, g2, g3, qfinR]
          · right
            have e3 : decide ((s.length : Int) ≤ (i : Int) + 1) = true := by simp; omega
            have : s.drop (i + 1) = [] := List.drop_eq_nil_of_le (by omega)
            simp [e3, this, qS_cons, c92, qfinR]
        · have e2 : ((b.toNat : Int) != 92) = true := by simp; omega
          left
          have q : qS (b :: s.drop (i + 1)) = (qS (s.drop (i + 1))).sh 1 [b] := by simp only [qS_cons, c34, c92, cc, if_false]
          rw [q]
          refine ⟨((i : Int) + 1, acc ++ [b]), ?_, ⟨i + 1, by simp, by omega, by simp; omega, ?_⟩, by simp; omega⟩
          · simp [e2]
          · exact qfinR_sh acc i 1 b _
  · right
    obtain rfl : i = s.length := by omega
    simp [g_ref07_quoted_s1, qS_nil, qfinR]
theorem ref_quoted_eq (s : List UInt8) (hs : s.length ≤ 9223372036854775805) (p : Nat) (hp : p < s.length) : g_ref07_quoted s (p : Int) = some (qres (p + 1) s.length (qS (s.drop (p + 1)))) := by
  have w1 := wrap_i64 ((p : Int) + 1) (by omega) (by omega)
  have := ref_quoted_loop s hs p hp
  have e : (((p + 1 : Nat)) : Int) = (p : Int) + 1 := by omega
  rw [e] at this
  simp only [g_ref07_quoted, w1, this, Option.bind_some]
  cases qS (s.drop (p + 1)) <;> simp [qfinR, qres]
def wB (b : UInt8) : Bool := decide (33 ≤ b.toNat) && decide (b.toNat ≤ 126) && (b.toNat != 34)
def wSh : Nat ⊕ Nat → Nat ⊕ Nat
  | .inl n => .inl (1 + n)
  | .inr n => .inr (1 + n)
def wS : List UInt8 → Nat ⊕ Nat
  | [] => .inl 0
  | b :: t => if b.toNat = 32 then .inl 0 else if wB b then wSh (wS t) else .inr 0
def wres (i : Nat) : Nat ⊕ Nat → Int × Int
  | .inl n => (((i + n : Nat) : Int), -1)
  | .inr n => (0, ((i + n : Nat) : Int))
theorem wres_sh (i : Nat) (r : Nat ⊕ Nat) : wres i (wSh r) = wres (i + 1) r := by
  cases r <;> simp [wres, wSh] <;> omega
def wex (len : Nat) : (Int × Int) ⊕ Unit → Int × Int
  | .inl p => p
  | .inr _ => ((len : Int), -1)
theorem isWord_eq (b : UInt8) : g_lines_isWord (b.toNat : Int) = some (wB b) := by
  have h1 : decide (32 < (b.toNat : Int)) = decide (33 ≤ b.toNat) := by simp only [decide_eq_decide]; omega
  have h2 : decide ((b.toNat : Int) < 127) = decide (b.toNat ≤ 126) := by simp only [decide_eq_decide]; omega
  have h3 : ((b.toNat : Int) != 34) = (b.toNat != 34) := by rw [Bool.eq_iff_iff]; simp; omega
  simp only [g_lines_isWord, wB, h1, h2, h3]
  cases decide (33 ≤ b.toNat) <;> cases decide (b.toNat ≤ 126) <;> rfl
theorem wordByte_eq (b : UInt8) : g_ref07_wordByte (b.toNat : Int) = some (wB b) := by
  have h1 : decide (33 ≤ (b.toNat : Int)) = decide (33 ≤ b.toNat) := by simp only [decide_eq_decide]; omega
  have h2 : decide ((b.toNat : Int) ≤ 126) = decide (b.toNat ≤ 126) := by simp only [decide_eq_decide]; omega
  have h3 : ((b.toNat : Int) != 34) = (b.toNat != 34) := by rw [Bool.eq_iff_iff]; simp; omega
  simp only [g_ref07_wordByte, wB, h1, h2, h3]
  cases decide (33 ≤ b.toNat) <;> cases decide (b.toNat ≤ 126) <;> rfl
theorem lines_word_eq (s : List UInt8) (hs : s.length ≤ 9223372036854775806) (h0 : ∀ h : 0 < s.length, s[0].toNat ≠ 35) : g_lines_word s = some (wres 0 (wS s)) := by
  have key : ∃ e, iter (g_lines_word_s1 s) 0 = some e ∧ wex s.length e = wres 0 (wS s) := by
    refine iter_cnt s.length (by omega) (fun i => wres i (wS (s.drop i)) = wres 0 (wS s)) _ (by simp) ?_ ?_
    · intro i h hI
      have w1 := wrap_i64 ((i : Int) + 1) (by omega) (by omega)
      have hcnd : decide ((i : Int) < (s.length : Int)) = true := by simpa using h
      have hat := atI_nat h
      have hb := u8lt s[i]
      rw [drop_cons h] at hI
      have h00 : i = 0 → s[i].toNat ≠ 35 := by rintro rfl; exact h0 h
      simp only [g_lines_word_s1, hcnd, if_true, hat, Option.bind_some, w1, isWord_eq]
      generalize s[i] = b at *
      by_cases c32 : b.toNat = 32
      · right
        refine ⟨.inl ((i : Int), -1), by simp [c32], ?_⟩
        rw [← hI]
        simp [wex, wS, c32, wres]
      · have e1 : ((b.toNat : Int) == 32) = false := by simp; omega
        cases hw : wB b with
        | true =>
          left
          have hz : ((i : Int) == 0 && (b.toNat : Int) == 35) = false := by
            by_cases hi0 : i = 0
            · have := h00 hi0; simp; omega
            · simp; omega
          refine ⟨?_, ?_⟩
          · simp only [e1, Bool.false_eq_true, if_false, if_true]
            by_cases hi0 : i = 0
            · have := h00 hi0
              subst hi0
              simp; omega
            · have : ((i : Int) == 0) = false := by simp; omega
              simp [this]
          · rw [← hI, ← wres_sh]
            simp only [wS, c32, if_false, hw, if_true]
        | false =>
          right
          refine ⟨.inl (0, (i : Int)), by simp [e1], ?_⟩
          rw [← hI]
          simp [wex, wS, c32, hw, wres]
    · intro hI
      refine ⟨.inr (), by simp [g_lines_word_s1], ?_⟩
      rw [← hI]
      simp [wex, wS, wres]
  obtain ⟨e, he, hw⟩ := key
  simp only [g_lines_word, he, Option.bind_some]
  rw [← hw]
  rcases e with e | e <;> rfl
def wout (i : Nat) : Nat ⊕ Nat → Int ⊕ Int
  | .inl n => .inr ((i + n : Nat) : Int)
  | .inr n => .inl ((i + n : Nat) : Int)
theorem wout_sh (i : Nat) (r : Nat ⊕ Nat) : wout i (wSh r) = wout (i + 1) r := by
  cases r <;> simp [wout, wSh] <;> omega
theorem ref_word_eq (s : List UInt8) (hs : s.length ≤ 9223372036854775806) (p : Nat) (hp : p ≤ s.length) : iter (g_ref07_fields_s3 s) (p : Int) = some (wout p (wS (s.drop p))) := by
  refine iter_of (fun x e => ∃ i : Nat, x = (i : Int) ∧ i ≤ s.length ∧ e = wout i (wS (s.drop i))) (fun x => s.length - x.toNat) ?_ (x := (p : Int)) ⟨p, rfl, hp, rfl⟩ (by show s.length - _ < _; omega)
  rintro x e ⟨i, rfl, hi, rfl⟩
  by_cases h : i < s.length
  · have w1 := wrap_i64 ((i : Int) + 1) (by omega) (by omega)
    have hcnd : decide ((i : Int) < (s.length : Int)) = true := by simpa using h
    have hat := atI_nat h
    have hb := u8lt s[i]
    rw [drop_cons h]
    simp only [g_ref07_fields_s3, hcnd, if_true, hat, Option.bind_some, w1, wordByte_eq]
    generalize s[i] = b at *
    by_cases c32 : b.toNat = 32
    · right; simp [c32, wS, wout]
    · have e1 : ((b.toNat : Int) != 32) = true := by simp; omega
      cases hw : wB b with
      | true =>
        left
        refine ⟨(i : Int) + 1, by simp [e1], ⟨i + 1, by omega, by omega, ?_⟩, by simp; omega⟩
        rw [← wout_sh]
        simp only [wS, c32, if_false, hw, if_true]
      | false =>
        right; simp [e1, wS, c32, hw, wout]
  · right
    obtain rfl : i = s.length := by omega
    simp [g_ref07_fields_s3, wS, wout]
theorem wS_le : ∀ (t : List UInt8) (n : Nat), wS t = .inl n → n ≤ t.length
  | [], n, h => by simp [wS] at h; omega
  | b :: t, n, h => by
    simp only [wS] at h
    split at h
    · simp at h; omega
    · split at h
      · cases ht : wS t with
        | inl m => rw [ht] at h; simp [wSh] at h; have := wS_le t m ht; simp; omega
        | inr m => rw [ht] at h; simp [wSh] at h
      · simp at h
theorem wS_bad : ∀ (t : List UInt8) (n : Nat), wS t = .inr n → n < t.length
  | [], n, h => by simp [wS] at h
  | b :: t, n, h => by
    simp only [wS] at h
    split at h
    · simp at h
    · split at h
      · cases ht : wS t with
        | inl m => rw [ht] at h; simp [wSh] at h
        | inr m => rw [ht] at h; simp [wSh] at h; have := wS_bad t m ht; simp; omega
      · simp at h; simp; omega
theorem wS_pos {b : UInt8} {t : List UInt8} {n : Nat} (h : wS (b :: t) = .inl n) (hb : b.toNat ≠ 32) : 1 ≤ n := by
  simp only [wS, if_neg hb] at h
  split at h
  · cases ht : wS t with
    | inl m => rw [ht] at h; simp [wSh] at h; omega
    | inr m => rw [ht] at h; simp [wSh] at h
  · simp at h
theorem qS_le : ∀ (t : List UInt8), (∀ text n, qS t = .ok text n → 1 ≤ n ∧ n ≤ t.length) ∧ (∀ n, qS t = .bad n → n ≤ t.length)
  | [] => by simp [qS_nil]
  | [b] => by
    rw [qS_cons]
    have := qS_le []
    refine ⟨fun text n h => ?_, fun n h => ?_⟩ <;> (repeat' split at h) <;> simp_all [QR.sh, qS_nil]
    all_goals omega
  | b :: c :: t => by
    have h1 := qS_le (c :: t)
    have h2 := qS_le t
    rw [qS_cons]
    refine ⟨fun text n h => ?_, fun n h => ?_⟩
    · split at h
      · split at h
        · simp at h
        · simp at h; simp; omega
      · split at h
        · simp only at h
          split at h
          · cases hq : qS t <;> rw [hq] at h <;> simp [QR.sh] at h
            have := h2.1 _ _ hq; simp; omega
          · split at h
            · cases hq : qS t <;> rw [hq] at h <;> simp [QR.sh] at h
              have := h2.1 _ _ hq; simp; omega
            · simp at h
        · split at h
          · simp at h
          · cases hq : qS (c :: t) <;> rw [hq] at h <;> simp [QR.sh] at h
            have := h1.1 _ _ hq; simp at this ⊢; omega
    · split at h
      · split at h
        · simp at h; simp; omega
        · simp at h
      · split at h
        · simp only at h
          split at h
          · cases hq : qS t <;> rw [hq] at h <;> simp [QR.sh] at h
            have := h2.2 _ hq; simp; omega
          · split at h
            · cases hq : qS t <;> rw [hq] at h <;> simp [QR.sh] at h
              have := h2.2 _ hq; simp; omega
            · simp at h; simp; omega
        · split at h
          · simp at h; simp; omega
          · cases hq : qS (c :: t) <;> rw [hq] at h <;> simp [QR.sh] at h
            have := h1.2 _ hq; simp at this ⊢; omega
inductive FR where
  | ok (l : List T_api_Field)
  | bad (n : Nat)
def FR.cons (f : T_api_Field) : FR → FR
  | .ok l => .ok (f :: l)
  | .bad n => .bad n
def fS (t : List UInt8) (p : Nat) : FR :=
  match t with
  | [] => .ok []
  | b :: t' =>
    if b.toNat = 32 then fS t' (p + 1)
    else if b.toNat = 35 then .ok []
    else if b.toNat = 34 then
      match qS t' with
      | .ok text n => (fS (t'.drop n) (p + 1 + n)).cons ⟨text, ((p + 1 : Nat) : Int), true⟩
      | .bad n => .bad (p + 1 + n)
      | .stop => .bad (p + 1 + t'.length)
    else match wS (b :: t') with
      | .inl n => (fS (t'.drop (n - 1)) (p + n)).cons ⟨(b :: t').take n, ((p + 1 : Nat) : Int), false⟩
      | .inr n => .bad (p + n)
termination_by t.length
decreasing_by all_goals (simp; try omega)
theorem fS_nil (p : Nat) : fS [] p = .ok [] := by unfold fS; rfl
theorem fS_cons (b : UInt8) (t' : List UInt8) (p : Nat) : fS (b :: t') p = if b.toNat = 32 then fS t' (p + 1)
    else if b.toNat = 35 then .ok []
    else if b.toNat = 34 then
      match qS t' with
      | .ok text n => (fS (t'.drop n) (p + 1 + n)).cons ⟨text, ((p + 1 : Nat) : Int), true⟩
      | .bad n => .bad (p + 1 + n)
      | .stop => .bad (p + 1 + t'.length)
    else match wS (b :: t') with
      | .inl n => (fS (t'.drop (n - 1)) (p + n)).cons ⟨(b :: t').take n, ((p + 1 : Nat) : Int), false⟩
      | .inr n => .bad (p + n) := by
  conv => lhs; unfold fS
def ffinL (out : List T_api_Field) : FR → (List T_api_Field) ⊕ Int
  | .ok l => .inl (out ++ l)
  | .bad n => .inr (((n + 1 : Nat) : Int))
theorem ffinL_cons (out : List T_api_Field) (f : T_api_Field) (r : FR) : ffinL out (r.cons f) = ffinL (out ++ [f]) r := by
  cases r <;> simp [ffinL, FR.cons]
theorem subL_nat {s : List UInt8} {i : Nat} (h : i ≤ s.length) : subL s (i : Int) = some (s.drop i) := by
  unfold subL
  rw [if_pos (by omega), Int.toNat_natCast, List.take_of_length_le (by simp)]
theorem subI_nat {s : List UInt8} {i j : Nat} (h : i ≤ j) (hj : j ≤ s.length) : subI s (i : Int) (j : Int) = some ((s.drop i).take (j - i)) := by
  unfold subI
  rw [if_pos (by omega)]
  simp
theorem lines_fields_loop (s : List UInt8) (hs : s.length ≤ 4000000000000) : iter (g_lines_fields_s1 s) ([], 0) = some (ffinL [] (fS s 0)) := by
  refine iter_of (fun x e => ∃ i : Nat, x.2 = (i : Int) ∧ i ≤ s.length ∧ x.1.length ≤ i ∧ e = ffinL x.1 (fS (s.drop i) i)) (fun x => s.length - x.2.toNat) ?_ (x := ([], 0)) ⟨0, rfl, by omega, by simp, by simp⟩ (by show s.length - _ < _; omega)
  rintro ⟨out, z⟩ e ⟨i, hz, hi, ha, rfl⟩
  simp only at hz ha ⊢
  subst hz
  by_cases h : i < s.length
  · have w1 := wrap_i64 ((i : Int) + 1) (by omega) (by omega)
    have hat := atI_nat h
    have hb := u8lt s[i]
    have hcnd : decide ((i : Int) < (s.length : Int)) = true := by simpa using h
    have hap : (out.length + 1) * 32 ≤ 140737488355328 := by omega
    have hsl := subL_nat (s := s) (i := i) (by omega)
    have hd1 : (s.drop i).drop 1 = s.drop (i + 1) := by rw [List.drop_drop]
    have hq := lines_quoted_eq (s.drop i) (by simp; omega) (by simp; omega)
    rw [hd1] at hq
    have hdc := drop_cons h
    rw [hdc, fS_cons]
    simp only [g_lines_fields_s1, hcnd, if_true, hat, Option.bind_some, w1, hsl, hq, if_pos hap]
    by_cases c32 : s[i].toNat = 32
    · left
      refine ⟨(out, (i : Int) + 1), by simp [c32], ⟨i + 1, by simp, by omega, by simp; omega, ?_⟩, by simp; omega⟩
      rw [if_pos c32]
    · rw [if_neg c32]
      have e1 : ((s[i].toNat : Int) == 32) = false := by simp; omega
      simp only [e1, Bool.false_eq_true, if_false]
      by_cases c35 : s[i].toNat = 35
      · right
        simp [c35, ffinL]
      · rw [if_neg c35]
        have e2 : ((s[i].toNat : Int) == 35) = false := by simp; omega
        simp only [e2, Bool.false_eq_true, if_false]
        by_cases c34 : s[i].toNat = 34
        · rw [if_pos c34]
          have e3 : ((s[i].toNat : Int) == 34) = true := by simp; omega
          simp only [e3, if_true]
          have hle := qS_le (s.drop (i + 1))
          cases hr : qS (s.drop (i + 1)) with
          | ok text n =>
            left
            have := hle.1 text n hr
            rw [List.length_drop] at this
            have w2 := wrap_i64 ((i : Int) + ((1 + n : Nat) : Int)) (by omega) (by omega)
            refine ⟨(out ++ [⟨text, (i : Int) + 1, true⟩], (i : Int) + ((1 + n : Nat) : Int)), ?_, ⟨i + 1 + n, by simp; omega, by omega, by simp; omega, ?_⟩, by simp; omega⟩
            · simp only [qres, w2]
              simp
            · rw [ffinL_cons, List.drop_drop, show i + 1 + n = i + 1 + n from rfl]
              have : ((i + 1 : Nat) : Int) = (i : Int) + 1 := by omega
              rw [this]
          | bad n =>
            right
            have := hle.2 n hr
            rw [List.length_drop] at this
            have w2 := wrap_i64 ((i : Int) + ((1 + n : Nat) : Int)) (by omega) (by omega)
            have w3 := wrap_i64 ((i : Int) + ((1 + n : Nat) : Int) + 1) (by omega) (by omega)
            have hv : decide (0 ≤ (qres 1 (s.drop i).length (QR.bad n)).2.2) = true := decide_eq_true (Int.natCast_nonneg _)
            simp only [hv, if_true]
            simp only [qres, w2, w3, ffinL]
            congr 3
            omega
          | stop =>
            right
            have hl : (s.drop i).length = s.length - i := List.length_drop
            have w2 := wrap_i64 ((i : Int) + ((s.length - i : Nat) : Int)) (by omega) (by omega)
            have w3 := wrap_i64 ((i : Int) + ((s.length - i : Nat) : Int) + 1) (by omega) (by omega)
            have hv : decide (0 ≤ (qres 1 (s.drop i).length QR.stop).2.2) = true := decide_eq_true (Int.natCast_nonneg _)
            simp only [hv, if_true]
            simp only [qres, hl, w2, w3, ffinL]
            congr 3
            simp only [List.length_drop]
            omega
        · rw [if_neg c34]
          have e3 : ((s[i].toNat : Int) == 34) = false := by simp; omega
          have hw := lines_word_eq (s.drop i) (by simp; omega) (fun hh => by simpa using c35)
          simp only [e3, Bool.false_eq_true, if_false, hw, Option.bind_some]
          rw [← hdc]
          cases hr : wS (s.drop i) with
          | inl n =>
            left
            have hn := wS_le _ n hr
            have hn1 := wS_pos (by rw [hdc] at hr; exact hr) c32
            rw [List.length_drop] at hn
            have w2 := wrap_i64 ((i : Int) + ((0 + n : Nat) : Int)) (by omega) (by omega)
            have hsub : subI s (i : Int) ((i : Int) + ((0 + n : Nat) : Int)) = some ((s.drop i).take n) := by
              have := subI_nat (s := s) (i := i) (j := i + n) (by omega) (by omega)
              rw [show i + n - i = n by omega] at this
              rw [show (i : Int) + ((0 + n : Nat) : Int) = ((i + n : Nat) : Int) by omega]
              exact this
            refine ⟨(out ++ [⟨(s.drop i).take n, (i : Int) + 1, false⟩], (i : Int) + ((0 + n : Nat) : Int)), ?_, ⟨i + n, by simp, by omega, by simp; omega, ?_⟩, by simp; omega⟩
            · simp only [wres, w2, hsub, Option.bind_some]
              simp
            · rw [ffinL_cons, List.drop_drop, show i + 1 + (n - 1) = i + n by omega]
              have : ((i + 1 : Nat) : Int) = (i : Int) + 1 := by omega
              rw [this]
          | inr n =>
            right
            have hn := wS_bad _ n hr
            rw [List.length_drop] at hn
            have w2 := wrap_i64 ((i : Int) + ((0 + n : Nat) : Int)) (by omega) (by omega)
            have w3 := wrap_i64 ((i : Int) + ((0 + n : Nat) : Int) + 1) (by omega) (by omega)
            have w4 := wrap_i64 ((i : Int) + 0) (by omega) (by omega)
            have hsub : subI s (i : Int) ((i : Int) + 0) = some [] := by
              have := subI_nat (s := s) (i := i) (j := i) (by omega) (by omega)
              simpa using this
            have hv : decide (0 ≤ (wres 0 (.inr n)).2) = true := decide_eq_true (Int.natCast_nonneg _)
            simp only [hv, if_true]
            simp only [wres, w2, w3, w4, hsub, Option.bind_some, ffinL]
            congr 3
            omega
  · right
    obtain rfl : i = s.length := by omega
    simp [g_lines_fields_s1, fS_nil, ffinL]
def fresL : FR → (List T_api_Field) × Int
  | .ok l => (l, 0)
  | .bad n => ([], ((n + 1 : Nat) : Int))
theorem lines_fields_eq (s : List UInt8) (hs : s.length ≤ 4000000000000) : g_lines_fields s = some (fresL (fS s 0)) := by
  simp only [g_lines_fields, lines_fields_loop s hs, Option.bind_some]
  cases fS s 0 <;> simp [ffinL, fresL]
def fresR : FR → (List T_api_Field) × Int
  | .ok l => (l, -1)
  | .bad n => ([], (n : Int))
def ffinR (out : List T_api_Field) : FR → (List T_api_Field) × Int
  | .ok l => (out ++ l, -1)
  | .bad n => ([], (n : Int))
theorem ffinR_cons (out : List T_api_Field) (f : T_api_Field) (r : FR) : ffinR out (r.cons f) = ffinR (out ++ [f]) r := by
  cases r <;> simp [ffinR, FR.cons]
theorem ref_skip (s : List UInt8) (hs : s.length ≤ 9223372036854775806) (p : Nat) (hp : p ≤ s.length) : ∃ j : Nat, iter (g_ref07_fields_s2 s) (p : Int) = some (j : Int) ∧ p ≤ j ∧ j ≤ s.length ∧ fS (s.drop j) j = fS (s.drop p) p ∧ ∀ h : j < s.length, s[j].toNat ≠ 32 := by
  have := iter_post (step := g_ref07_fields_s2 s) (fun x => ∃ i : Nat, x = (i : Int) ∧ p ≤ i ∧ i ≤ s.length ∧ fS (s.drop i) i = fS (s.drop p) p) (fun x => s.length - x.toNat)
    (fun e => ∃ j : Nat, e = (j : Int) ∧ p ≤ j ∧ j ≤ s.length ∧ fS (s.drop j) j = fS (s.drop p) p ∧ ∀ h : j < s.length, s[j].toNat ≠ 32) (x := (p : Int)) ⟨p, rfl, Nat.le_refl _, hp, rfl⟩ (by show s.length - _ < _; omega) ?_
  · obtain ⟨e, he, j, rfl, h⟩ := this
    exact ⟨j, he, h⟩
  · rintro x ⟨i, rfl, hpi, hi, hf⟩
    by_cases h : i < s.length
    · have w1 := wrap_i64 ((i : Int) + 1) (by omega) (by omega)
      have hat := atI_nat h
      have hcnd : decide ((i : Int) < (s.length : Int)) = true := by simpa using h
      simp only [g_ref07_fields_s2, hcnd, if_true, hat, Option.bind_some, w1]
      by_cases c32 : s[i].toNat = 32
      · left
        refine ⟨(i : Int) + 1, by simp [c32], ⟨i + 1, by omega, by omega, by omega, ?_⟩, by simp; omega⟩
        rw [← hf, drop_cons h, fS_cons, if_pos c32]
      · right
        have e1 : ((s[i].toNat : Int) == 32) = false := by simp; omega
        exact ⟨(i : Int), by simp [e1], i, rfl, hpi, hi, hf, fun _ => c32⟩
    · right
      obtain rfl : i = s.length := by omega
      exact ⟨(s.length : Int), by simp [g_ref07_fields_s2], s.length, rfl, hpi, hi, hf, fun h' => absurd h' h⟩
theorem ref_fields_loop (s : List UInt8) (hs : s.length ≤ 4000000000000) : iter (g_ref07_fields_s1 s) ([], 0) = some (ffinR [] (fS s 0)) := by
  refine iter_of (fun x e => ∃ i : Nat, x.2 = (i : Int) ∧ i ≤ s.length ∧ x.1.length ≤ i ∧ e = ffinR x.1 (fS (s.drop i) i)) (fun x => s.length - x.2.toNat) ?_ (x := ([], 0)) ⟨0, rfl, by omega, by simp, by simp⟩ (by show s.length - _ < _; omega)
  rintro ⟨out, z⟩ e ⟨i0, hz, hi0, ha0, rfl⟩
  simp only at hz ha0 ⊢
  subst hz
  obtain ⟨i, hit, hi0i, hi, hfs, hne⟩ := ref_skip s (by omega) i0 hi0
  rw [← hfs]
  have ha : out.length ≤ i := by omega
  by_cases h : i < s.length
  · have w1 := wrap_i64 ((i : Int) + 1) (by omega) (by omega)
    have hat := atI_nat h
    have hb := u8lt s[i]
    have c32 := hne h
    have hcnd : decide ((s.length : Int) ≤ (i : Int)) = false := by simp; omega
    have hap : (out.length + 1) * 32 ≤ 140737488355328 := by omega
    have hq := ref_quoted_eq s (by omega) i h
    have hw := ref_word_eq s (by omega) i hi
    have hdc := drop_cons h
    rw [hdc, fS_cons, if_neg c32]
    simp only [g_ref07_fields_s1, hit, hcnd, hat, Option.bind_some, w1, hq, hw, if_pos hap, Bool.false_eq_true, if_false]
    by_cases c35 : s[i].toNat = 35
    · right
      simp [c35, ffinR]
    · rw [if_neg c35]
      have e2 : ((s[i].toNat : Int) == 35) = false := by simp; omega
      simp only [e2, Bool.false_eq_true, if_false]
      by_cases c34 : s[i].toNat = 34
      · rw [if_pos c34]
        have e3 : ((s[i].toNat : Int) == 34) = true := by simp; omega
        simp only [e3, if_true]
        have hle := qS_le (s.drop (i + 1))
        cases hr : qS (s.drop (i + 1)) with
        | ok text n =>
          left
          have := hle.1 text n hr
          rw [List.length_drop] at this
          refine ⟨(out ++ [⟨text, (i : Int) + 1, true⟩], ((i + 1 + n : Nat) : Int)), ?_, ⟨i + 1 + n, rfl, by omega, by simp; omega, ?_⟩, by simp; omega⟩
          · simp only [qres]
            simp
          · rw [ffinR_cons, List.drop_drop]
            have : ((i + 1 : Nat) : Int) = (i : Int) + 1 := by omega
            rw [this]
        | bad n =>
          right
          have hv : decide (0 ≤ (qres (i + 1) s.length (QR.bad n)).2.2) = true := decide_eq_true (Int.natCast_nonneg _)
          simp only [hv, if_true]
          simp only [qres, ffinR]
        | stop =>
          right
          have hv : decide (0 ≤ (qres (i + 1) s.length QR.stop).2.2) = true := decide_eq_true (Int.natCast_nonneg _)
          simp only [hv, if_true]
          simp only [qres, ffinR]
          congr 3
          simp only [List.length_drop]
          omega
      · rw [if_neg c34]
        have e3 : ((s[i].toNat : Int) == 34) = false := by simp; omega
        simp only [e3, Bool.false_eq_true, if_false]
        rw [← hdc]
        cases hr : wS (s.drop i) with
        | inl n =>
          left
          have hn := wS_le _ n hr
          have hn1 := wS_pos (by rw [hdc] at hr; exact hr) c32
          rw [List.length_drop] at hn
          have hsub := subI_nat (s := s) (i := i) (j := i + n) (by omega) (by omega)
          rw [show i + n - i = n by omega] at hsub
          refine ⟨(out ++ [⟨(s.drop i).take n, (i : Int) + 1, false⟩], ((i + n : Nat) : Int)), ?_, ⟨i + n, rfl, by omega, by simp; omega, ?_⟩, by simp; omega⟩
          · simp only [wout, hsub, Option.bind_some]
          · rw [ffinR_cons, List.drop_drop, show i + 1 + (n - 1) = i + n by omega]
            have : ((i + 1 : Nat) : Int) = (i : Int) + 1 := by omega
            rw [this]
        | inr n =>
          right
          simp only [wout, ffinR]
  · right
    obtain rfl : i = s.length := by omega
    simp [g_ref07_fields_s1, hit, fS_nil, ffinR]
theorem ref_fields_eq (s : List UInt8) (hs : s.length ≤ 4000000000000) : g_ref07_fields s = some (fresR (fS s 0)) := by
  simp only [g_ref07_fields, ref_fields_loop s hs, Option.bind_some]
  cases fS s 0 <;> simp [ffinR, fresR]
def spL : List UInt8 → List (List UInt8)
  | [] => [[]]
  | b :: t => if b.toNat = 10 then [] :: spL t else match spL t with
    | [] => [[b]]
    | h :: r => (b :: h) :: r
theorem spL_no : ∀ (s : List UInt8), (∀ b ∈ s, b.toNat ≠ 10) → spL s = [s]
  | [], _ => rfl
  | b :: t, h => by
    have := spL_no t (fun x hx => h x (by simp [hx]))
    simp only [spL, if_neg (h b (by simp)), this]
theorem spL_hit : ∀ (i : Nat) (s : List UInt8) (hi : i < s.length), s[i].toNat = 10 → (∀ (j : Nat) (hj : j < i), s[j].toNat ≠ 10) → spL s = s.take i :: spL (s.drop (i + 1))
  | 0, b :: t, _, h10, _ => by
    have : b.toNat = 10 := h10
    simp [spL, this]
  | i + 1, b :: t, hi, h10, hn => by
    have h0 : b.toNat ≠ 10 := hn 0 (by omega)
    have := spL_hit i t (by simpa using hi) (by simpa using h10) (fun j hj => by have := hn (j + 1) (by omega); simpa using this)
    simp only [spL, if_neg h0, this]
    simp
  | 0, [], hi, _, _ => by simp at hi
  | _ + 1, [], hi, _, _ => by simp at hi
theorem u8_10 (b : UInt8) : b = 10 ↔ b.toNat = 10 := ⟨fun h => by rw [h]; rfl, fun h => UInt8.toNat_inj.1 h⟩
theorem split_eq : ∀ (n : Nat) (s : List UInt8), s.length ≤ n → Lib.split s [10] = spL s := by
  intro n
  induction n with
  | zero => intro s hs; have : s = [] := List.eq_nil_of_length_eq_zero (by omega); subst this; rfl
  | succ n ih =>
    intro s hs
    have hix := Lib.index_one s 10
    by_cases hm : Lib.index s [10] = -1
    · have hno : ∀ b ∈ s, b.toNat ≠ 10 := by
        intro b hb h10
        obtain ⟨k, hk⟩ := List.getElem?_of_mem hb
        exact Lib.indexByte_none (by rw [← hix]; exact hm) k (by rw [hk, (u8_10 b).2 h10])
      rw [spL_no s hno]
      unfold Lib.split
      rw [Lib.count_miss hm]
      rfl
    · have hge := Lib.index_ge s [10]
      obtain ⟨i, hi⟩ : ∃ i : Nat, Lib.index s [10] = i := ⟨(Lib.index s [10]).toNat, by omega⟩
      obtain ⟨h1, h2⟩ := Lib.indexByte_some (by rw [← hix]; exact hi)
      obtain ⟨hlt, hget⟩ := List.getElem?_eq_some_iff.1 h1
      have hspl := spL_hit i s hlt (by rw [hget]; rfl) (fun j hj h10 => h2 j hj (by rw [List.getElem?_eq_getElem (by omega), (u8_10 _).2 h10]))
      rw [hspl]
      unfold Lib.split
      rw [Lib.count_hit (by simp) hi, Nat.add_comm]
      unfold Lib.splitK
      have hne : ¬ (Lib.index s [10] == -1) = true := by simp; omega
      rw [if_neg hne, hi]
      simp only [Int.toNat_natCast, Nat.add_zero, List.length_cons, List.length_nil, Nat.zero_add]
      congr 1
      exact ih (s.drop (i + 1)) (by simp; omega)
theorem fS_bad_le : ∀ (m : Nat) (t : List UInt8) (p n : Nat), t.length ≤ m → fS t p = .bad n → n ≤ p + t.length := by
  intro m
  induction m with
  | zero => intro t p n hm h; have : t = [] := List.eq_nil_of_length_eq_zero (by omega); subst this; rw [fS_nil] at h; cases h
  | succ m ih =>
    intro t p n hm h
    cases t with
    | nil => rw [fS_nil] at h; cases h
    | cons b t =>
      simp only [List.length_cons] at hm ⊢
      rw [fS_cons] at h
      split at h
      · have := ih t (p + 1) n (by omega) h; omega
      · split at h
        · cases h
        · split at h
          · cases hq : qS t with
            | ok text k =>
              rw [hq] at h
              simp only at h
              cases hr : fS (t.drop k) (p + 1 + k) with
              | ok l => rw [hr] at h; cases h
              | bad x =>
                rw [hr] at h
                simp [FR.cons] at h
                subst h
                have := ih (t.drop k) (p + 1 + k) x (by simp; omega) hr
                have hk := (qS_le t).1 text k hq
                rw [List.length_drop] at this; omega
            | bad k => rw [hq] at h; simp at h; have := (qS_le t).2 k hq; omega
            | stop => rw [hq] at h; simp at h; omega
          · rename_i h32 _ _
            cases hq : wS (b :: t) with
            | inl k =>
              rw [hq] at h
              simp only at h
              cases hr : fS (t.drop (k - 1)) (p + k) with
              | ok l => rw [hr] at h; cases h
              | bad x =>
                rw [hr] at h
                simp [FR.cons] at h
                subst h
                have := ih (t.drop (k - 1)) (p + k) x (by simp; omega) hr
                have hk := wS_le _ k hq
                have hk1 := wS_pos hq h32
                simp at hk
                rw [List.length_drop] at this; omega
            | inr k => rw [hq] at h; simp at h; have := wS_bad _ k hq; simp at this; omega
def lr (n : Nat) (y : List UInt8) : Option (T_api_Diag ⊕ T_api_Line) := if 1000 < y.length then some (.inl ⟨((n + 1 : Nat) : Int), 1001, 9⟩) else match fS y 0 with
  | .bad b => some (.inl ⟨((n + 1 : Nat) : Int), ((b + 1 : Nat) : Int), 4⟩)
  | .ok [] => none
  | .ok (f :: l) => some (.inr ⟨((n + 1 : Nat) : Int), f :: l⟩)
def accL (p : List T_api_Line × List T_api_Diag) : Option (T_api_Diag ⊕ T_api_Line) → List T_api_Line × List T_api_Diag
  | none => p
  | some (.inl d) => (p.1, p.2 ++ [d])
  | some (.inr l) => (p.1 ++ [l], p.2)
def allR : Nat → List (List UInt8) → List T_api_Line × List T_api_Diag → List T_api_Line × List T_api_Diag
  | _, [], p => p
  | n, y :: r, p => allR (n + 1) r (accL p (lr n y))
def splitS (src : List UInt8) : List T_api_Line × List T_api_Diag := if 262144 < src.length then ([], [⟨1, 1, 9⟩]) else ((allR 0 (spL src) ([], [])).1, (allR 0 (spL src) ([], [])).2.take 50)
theorem take50 (l : List T_api_Diag) (d : T_api_Diag) : (l ++ [d]).take 50 = if (l.take 50).length < 50 then l.take 50 ++ [d] else l.take 50 := by
  rw [List.length_take]
  by_cases h : l.length < 50
  · rw [if_pos (by omega), List.take_of_length_le (by simp; omega), List.take_of_length_le (by omega)]
  · rw [if_neg (by omega), List.take_append_of_le_length (by omega)]
theorem accL_len (p : List T_api_Line × List T_api_Diag) (x : Option (T_api_Diag ⊕ T_api_Line)) (n : Nat) (h1 : p.1.length ≤ n) (h2 : p.2.length ≤ n) : (accL p x).1.length ≤ n + 1 ∧ (accL p x).2.length ≤ n + 1 := by
  rcases x with _ | d | l <;> simp [accL] <;> omega
theorem lines_Split_loop (r : List (List UInt8)) (hr : r.length ≤ 300000) : iter (g_lines_Split_s1 r) ([], [], 0) = some ((allR 0 r ([], [])).1, (allR 0 r ([], [])).2.take 50) := by
  refine iter_of (fun x e => ∃ (i : Nat) (p : List T_api_Line × List T_api_Diag), x.2.2 = (i : Int) ∧ i ≤ r.length ∧ x.1 = p.1 ∧ x.2.1 = p.2.take 50 ∧ p.1.length ≤ i ∧ p.2.length ≤ i ∧ e = ((allR i (r.drop i) p).1, (allR i (r.drop i) p).2.take 50)) (fun x => r.length - x.2.2.toNat) ?_ (x := ([], [], 0)) ⟨0, ([], []), rfl, by omega, rfl, rfl, by simp, by simp, by simp⟩ (by show r.length - _ < _; omega)
  rintro ⟨out, dg, z⟩ e ⟨i, p, hz, hi, ho, hd, hl1, hl2, rfl⟩
  simp only at hz ho hd ⊢
  subst hz ho hd
  by_cases h : i < r.length
  · left
    have w1 := wrap_i64 ((i : Int) + 1) (by omega) (by omega)
    have hat := atI_nat h
    have hcnd : decide ((i : Int) < (r.length : Int)) = true := by simpa using h
    have hap1 : (p.1.length + 1) * 32 ≤ 140737488355328 := by omega
    have hlt : (p.2.take 50).length ≤ 50 := by rw [List.length_take]; omega
    have hap2 : ((p.2.take 50).length + 1) * 24 ≤ 140737488355328 := by omega
    have hn1 : ((i + 1 : Nat) : Int) = (i : Int) + 1 := by omega
    have key : ∃ (q1 : List T_api_Line) (q2 : List T_api_Diag), q1 = (accL p (lr i r[i])).1 ∧ q2 = (accL p (lr i r[i])).2.take 50 ∧ g_lines_Split_s1 r (p.1, p.2.take 50, (i : Int)) = some (.go (q1, q2, (i : Int) + 1)) := by
      simp only [g_lines_Split_s1, hcnd, if_true, hat, Option.bind_some, w1, if_pos hap1, if_pos hap2]
      by_cases hlong : 1000 < r[i].length
      · have e1 : decide (1000 < (r[i].length : Int)) = true := by simp; omega
        simp only [e1, if_true, lr, if_pos hlong, accL, take50]
        by_cases h50 : (p.2.take 50).length < 50
        · have e2 : decide (((p.2.take 50).length : Int) < 50) = true := by simp only [decide_eq_true_eq]; omega
          simp only [e2, if_true, if_pos h50, Option.bind_some, hn1]
          refine ⟨_, _, ?_, ?_, rfl⟩ <;> rfl
        · have e2 : decide (((p.2.take 50).length : Int) < 50) = false := by simp only [decide_eq_false_iff_not]; omega
          simp only [e2, Bool.false_eq_true, if_false, if_neg h50, Option.bind_some]
          refine ⟨_, _, ?_, ?_, rfl⟩ <;> rfl
      · have e1 : decide (1000 < (r[i].length : Int)) = false := by simp; omega
        have hf := lines_fields_eq r[i] (by omega)
        simp only [e1, Bool.false_eq_true, if_false, lr, if_neg hlong, hf, Option.bind_some]
        cases hfs : fS r[i] 0 with
        | bad n =>
          have e3 : decide (0 < (fresL (.bad n)).2) = true := decide_eq_true (by show (0 : Int) < ((n + 1 : Nat) : Int); omega)
          simp only [e3, if_true, accL, take50]
          simp only [fresL]
          by_cases h50 : (p.2.take 50).length < 50
          · have e2 : decide (((p.2.take 50).length : Int) < 50) = true := by simp only [decide_eq_true_eq]; omega
            simp only [e2, if_true, if_pos h50, Option.bind_some, hn1]
            refine ⟨_, _, ?_, ?_, rfl⟩ <;> rfl
          · have e2 : decide (((p.2.take 50).length : Int) < 50) = false := by simp only [decide_eq_false_iff_not]; omega
            simp only [e2, Bool.false_eq_true, if_false, if_neg h50, Option.bind_some]
            refine ⟨_, _, ?_, ?_, rfl⟩ <;> rfl
        | ok l =>
          have e3 : decide (0 < (fresL (.ok l)).2) = false := by simp [fresL]
          simp only [e3, Bool.false_eq_true, if_false]
          cases l with
          | nil =>
            have e4 : decide (0 < ((fresL (.ok [])).1.length : Int)) = false := by simp [fresL]
            simp only [e4, Bool.false_eq_true, if_false, accL, Option.bind_some]
            exact ⟨p.1, p.2.take 50, rfl, rfl, rfl⟩
          | cons f l =>
            have e4 : decide (0 < ((fresL (.ok (f :: l))).1.length : Int)) = true := by simp [fresL]
            simp only [e4, if_true, accL, hn1, Option.bind_some]
            refine ⟨_, _, ?_, ?_, rfl⟩ <;> rfl
    obtain ⟨q1, q2, hq1, hq2, hq⟩ := key
    refine ⟨_, hq, ⟨i + 1, accL p (lr i r[i]), by simp, by omega, hq1, hq2, (accL_len p _ i hl1 hl2).1, (accL_len p _ i hl1 hl2).2, ?_⟩, by simp; omega⟩
    rw [List.drop_eq_getElem_cons h]
    rfl
  · right
    obtain rfl : i = r.length := by omega
    simp [g_lines_Split_s1, allR]
theorem spL_len : ∀ (s : List UInt8), 1 ≤ (spL s).length ∧ (spL s).length ≤ s.length + 1
  | [] => by simp [spL]
  | b :: t => by
    have := spL_len t
    simp only [spL]
    split
    · simp; omega
    · split
      · rename_i h; rw [h] at this; simp at this
      · rename_i h; rw [h] at this; simp at this ⊢; omega
theorem lines_Split_eq (src : List UInt8) : g_lines_Split src = some (splitS src) := by
  unfold splitS
  by_cases h : 262144 < src.length
  · have e1 : decide (262144 < (src.length : Int)) = true := by simp; omega
    simp only [g_lines_Split, e1, if_true, if_pos h]
  · have e1 : decide (262144 < (src.length : Int)) = false := by simp; omega
    have hl := spL_len src
    simp only [g_lines_Split, e1, Bool.false_eq_true, if_false, if_neg h, g_strings_Split]
    rw [if_pos (by simp; omega), split_eq src.length src (Nat.le_refl _)]
    simp only [Option.bind_some, lines_Split_loop (spL src) (by omega)]
theorem ref_Split_loop (src : List UInt8) (hs : src.length ≤ 262144) : iter (g_ref07_Split_s1 src) ([], [], 1, 0, 0) = some (allR 0 (spL src) ([], [])) := by
  refine iter_of (fun x e => ∃ (n st i : Nat) (p : List T_api_Line × List T_api_Diag), x.2.2.1 = ((n + 1 : Nat) : Int) ∧ x.2.2.2.1 = (st : Int) ∧ x.2.2.2.2 = (i : Int) ∧ n ≤ i ∧ i ≤ src.length + 1 ∧ x.1 = p.1 ∧ x.2.1 = p.2 ∧ p.1.length ≤ n ∧ p.2.length ≤ n ∧
      (i ≤ src.length → st ≤ i ∧ (∀ (j : Nat) (hj : j < src.length), st ≤ j → j < i → src[j].toNat ≠ 10) ∧ e = allR n (spL (src.drop st)) p) ∧ (i = src.length + 1 → e = p)) (fun x => src.length + 1 - x.2.2.2.2.toNat) ?_ (x := ([], [], 1, 0, 0))
      ⟨0, 0, 0, ([], []), rfl, rfl, rfl, by omega, by omega, rfl, rfl, by simp, by simp, fun _ => ⟨by omega, fun j _ _ h => by omega, by simp⟩, fun h => by omega⟩ (by show src.length + 1 - _ < _; omega)
  rintro ⟨out, dg, nm, s0, z⟩ e ⟨n, st, i, p, hn, hst, hz, hni, hi, ho, hd, hl1, hl2, hA, hB⟩
  simp only at hn hst hz ho hd ⊢
  subst hn hst hz ho hd
  by_cases h : i ≤ src.length
  · left
    obtain ⟨hsti, hno, he⟩ := hA h
    have w1 := wrap_i64 ((i : Int) + 1) (by omega) (by omega)
    have w2 := wrap_i64 (((n + 1 : Nat) : Int) + 1) (by omega) (by omega)
    have hcnd : decide ((i : Int) ≤ (src.length : Int)) = true := by simpa using h
    have hap1 : (p.1.length + 1) * 32 ≤ 140737488355328 := by omega
    have hap2 : (p.2.length + 1) * 24 ≤ 140737488355328 := by omega
    have hn1 : ((i + 1 : Nat) : Int) = (i : Int) + 1 := by omega
    have hn2 : ((n + 1 + 1 : Nat) : Int) = ((n + 1 : Nat) : Int) + 1 := by omega
    have hsub := subI_nat (s := src) (i := st) (j := i) hsti h
    by_cases hnl : ∃ hh : i < src.length, src[i].toNat ≠ 10
    · obtain ⟨hh, h10⟩ := hnl
      have hat := atI_nat hh
      have hc2 : decide ((i : Int) < (src.length : Int)) = true := by simpa using hh
      have e1 : ((src[i].toNat : Int) != 10) = true := by simp; omega
      refine ⟨(p.1, p.2, ((n + 1 : Nat) : Int), (st : Int), (i : Int) + 1), ?_, ⟨n, st, i + 1, p, rfl, rfl, by simp, by omega, by omega, rfl, rfl, hl1, hl2, fun h' => ⟨by omega, fun j hj h1 h2 => ?_, he⟩, fun h' => by omega⟩, by simp; omega⟩
      · simp only [g_ref07_Split_s1, hcnd, if_true, hc2, hat, Option.bind_some, e1, w1]
      · by_cases hji : j = i
        · subst hji; exact h10
        · exact hno j hj h1 (by omega)
    · -- a line ends here
      have hv : (((if (decide ((i : Int) < (src.length : Int))) then ((atI src (i : Int)).bind fun b468 => (some ((b468.toNat : Int) != 10))) else (some false)) : Option (Bool))) = some false := by
        by_cases hh : i < src.length
        · have h10 : src[i].toNat = 10 := Classical.not_not.1 fun hx => hnl ⟨hh, hx⟩
          have hc2 : decide ((i : Int) < (src.length : Int)) = true := by simpa using hh
          simp only [hc2, if_true, atI_nat hh, Option.bind_some, h10]
          rfl
        · have hc2 : decide ((i : Int) < (src.length : Int)) = false := by simp; omega
          simp only [hc2, Bool.false_eq_true, if_false]
      have hnb : ∀ (j : Nat) (hj : j < i - st), ((src.drop st)[j]'(by simp; omega)).toNat ≠ 10 := by
        intro j hj
        rw [List.getElem_drop]
        exact hno (st + j) (by omega) (by omega) (by omega)
      have hsp : spL (src.drop st) = (src.drop st).take (i - st) :: (if i < src.length then spL (src.drop (i + 1)) else []) := by
        by_cases hh : i < src.length
        · have h10 : src[i].toNat = 10 := Classical.not_not.1 fun hx => hnl ⟨hh, hx⟩
          rw [if_pos hh]
          have := spL_hit (i - st) (src.drop st) (by simp; omega) (by rw [List.getElem_drop]; simpa [show st + (i - st) = i by omega] using h10) (fun j hj => hnb j hj)
          rw [this, List.drop_drop, show st + (i - st + 1) = i + 1 by omega]
        · rw [if_neg hh]
          obtain rfl : i = src.length := by omega
          rw [spL_no, List.take_of_length_le (by simp)]
          intro b hb
          obtain ⟨j, hj, rfl⟩ := List.getElem_of_mem hb
          exact hnb j (by simpa using hj)
      have key : ∃ q : List T_api_Line × List T_api_Diag, q = accL p (lr n ((src.drop st).take (i - st))) ∧ g_ref07_Split_s1 src (p.1, p.2, ((n + 1 : Nat) : Int), (st : Int), (i : Int)) = some (.go (q.1, q.2, ((n + 1 : Nat) : Int) + 1, (i : Int) + 1, (i : Int) + 1)) := by
        simp only [g_ref07_Split_s1, hcnd, if_true, hv, Option.bind_some, Bool.false_eq_true, if_false, hsub, w1, w2, if_pos hap1, if_pos hap2]
        generalize hy : (src.drop st).take (i - st) = y
        have hyl : y.length ≤ 262144 := by rw [← hy]; simp; omega
        by_cases hlong : 1000 < y.length
        · have e1 : decide (1000 < (y.length : Int)) = true := by simp; omega
          simp only [e1, if_true, lr, if_pos hlong, accL, Option.bind_some]
          exact ⟨_, rfl, rfl⟩
        · have e1 : decide (1000 < (y.length : Int)) = false := by simp; omega
          have hf := ref_fields_eq y (by omega)
          simp only [e1, Bool.false_eq_true, if_false, lr, if_neg hlong, hf, Option.bind_some]
          cases hfs : fS y 0 with
          | bad b =>
            have e3 : decide (0 ≤ (fresR (.bad b)).2) = true := decide_eq_true (Int.natCast_nonneg _)
            simp only [e3, if_true, accL, Option.bind_some]
            simp only [fresR]
            refine ⟨_, rfl, ?_⟩
            have hbl : b ≤ 4000000000000 := by
              have := fS_bad_le y.length y 0 b (Nat.le_refl _) hfs
              omega
            rw [wrap_i64 ((b : Int) + 1) (by omega) (by omega)]
            have : ((b + 1 : Nat) : Int) = (b : Int) + 1 := by omega
            rw [this]
          | ok l =>
            have e3 : decide (0 ≤ (fresR (.ok l)).2) = false := by simp [fresR]
            simp only [e3, Bool.false_eq_true, if_false]
            cases l with
            | nil =>
              have e4 : decide (0 < ((fresR (.ok [])).1.length : Int)) = false := by simp [fresR]
              simp only [e4, Bool.false_eq_true, if_false, accL, Option.bind_some]
              exact ⟨p, rfl, rfl⟩
            | cons f l =>
              have e4 : decide (0 < ((fresR (.ok (f :: l))).1.length : Int)) = true := by simp [fresR]
              simp only [e4, if_true, accL, Option.bind_some]
              exact ⟨_, rfl, rfl⟩
      obtain ⟨q, hq1, hq⟩ := key
      refine ⟨_, hq, ⟨n + 1, i + 1, i + 1, q, by simp only; omega, by simp, by simp, by omega, by omega, rfl, rfl, ?_, ?_, fun h' => ⟨by omega, fun j hj h1 h2 => by omega, ?_⟩, fun h' => ?_⟩, by simp; omega⟩
      · rw [hq1]; exact (accL_len p _ n hl1 hl2).1
      · rw [hq1]; exact (accL_len p _ n hl1 hl2).2
      · rw [he, hsp, if_pos (by omega), hq1]; rfl
      · rw [he, hsp, if_neg (by omega), hq1]; rfl
  · right
    have hc : decide ((i : Int) ≤ (src.length : Int)) = false := by simp; omega
    rw [hB (by omega)]
    simp only [g_ref07_Split_s1, hc, Bool.false_eq_true, if_false]
theorem ref_Split_eq (src : List UInt8) : g_ref07_Split src = some (splitS src) := by
  unfold splitS
  by_cases h : 262144 < src.length
  · have e1 : decide (262144 < (src.length : Int)) = true := by simp; omega
    simp only [g_ref07_Split, e1, if_true, if_pos h]
  · have e1 : decide (262144 < (src.length : Int)) = false := by simp; omega
    simp only [g_ref07_Split, e1, Bool.false_eq_true, if_false, if_neg h, ref_Split_loop src (by omega), Option.bind_some]
    generalize (allR 0 (spL src) ([], [])) = q
    have : subH q.2 (if 50 < ((q.2.length : Nat) : Int) then 50 else ((q.2.length : Nat) : Int)) = some (q.2.take 50) := by
      unfold subH
      by_cases h5 : 50 < ((q.2.length : Nat) : Int)
      · rw [if_pos h5, if_pos (by constructor <;> omega)]; rfl
      · rw [if_neg h5, if_pos (by constructor <;> omega)]
        rw [List.drop_zero, Int.toNat_natCast, Nat.sub_zero, List.take_of_length_le (Nat.le_refl _), List.take_of_length_le (by omega)]
    simp only [this, Option.bind_some]
def nmB (b : UInt8) : Bool := (decide (65 ≤ b.toNat) && decide (b.toNat ≤ 90)) || (decide (48 ≤ b.toNat) && decide (b.toNat ≤ 57)) || b.toNat == 95 || b.toNat == 45
def isNm (s : List UInt8) : Bool := match s with
  | [] => false
  | b :: _ => decide (s.length ≤ 16) && (decide (65 ≤ b.toNat) && decide (b.toNat ≤ 90)) && s.all nmB
theorem isNm_at (s : List UInt8) (h1 : 1 ≤ s.length) : isNm s = true ↔ (s.length ≤ 16 ∧ (65 ≤ s[0].toNat ∧ s[0].toNat ≤ 90) ∧ ∀ i (h : i < s.length), nmB s[i] = true) := by
  match s, h1 with
  | b :: t, _ =>
    simp only [isNm, Bool.and_eq_true, decide_eq_true_eq, List.all_eq_true]
    constructor
    · rintro ⟨⟨h1, h2⟩, h3⟩
      exact ⟨h1, by simpa using h2, fun i h => h3 _ (List.getElem_mem h)⟩
    · rintro ⟨h1, h2, h3⟩
      refine ⟨⟨h1, by simpa using h2⟩, fun x hx => ?_⟩
      obtain ⟨i, hi, rfl⟩ := List.getElem_of_mem hx
      exact h3 i hi
theorem lines_Name_loop (s : List UInt8) (hs : s.length ≤ 16) : ∃ e, iter (g_lines_Name_s1 s) 0 = some e ∧ (e = .inr () ↔ ∀ i (h : i < s.length), nmB s[i] = true) := by
  refine iter_cnt s.length (by omega) (fun n => ∀ i (h : i < s.length), i < n → nmB s[i] = true) _ (by intro i _ h; omega) ?_ ?_
  · intro i hi hI
    have hw := wrap_i64 ((i : Int) + 1) (by omega) (by omega)
    simp only [g_lines_Name_s1, atI_nat hi, Option.bind_some, hw]
    have hb := u8lt s[i]
    have hk : nmB s[i] = true ∨ nmB s[i] = false := by cases nmB s[i] <;> simp
    rcases hk with hk | hk
    · left
      refine ⟨?_, fun j hj hlt => ?_⟩
      · simp only [nmB] at hk; grind
      · by_cases hji : j = i
        · subst hji; exact hk
        · exact hI j hj (by omega)
    · right
      refine ⟨.inl (), ?_, ?_⟩
      · simp only [nmB] at hk; grind
      · simp only [reduceCtorEq, false_iff]
        intro h
        have := h i hi
        simp [hk] at this
  · intro hI
    refine ⟨.inr (), by simp [g_lines_Name_s1], ?_⟩
    simp only [true_iff]
    exact fun i h => hI i h h
theorem lines_Name_eq (s : List UInt8) : g_lines_Name s = some (isNm s) := by
  by_cases h0 : s.length < 1
  · match s, h0 with
    | [], _ => rfl
  · by_cases h1 : s.length ≤ 16
    · obtain ⟨e, he, hi⟩ := lines_Name_loop s h1
      have hn := isNm_at s (by omega)
      have h0' : atI s 0 = some s[0] := atI_nat (n := 0) (by omega)
      simp only [g_lines_Name, he, h0', Option.bind_some]
      rcases e with ⟨⟩ | ⟨⟩ <;> grind
    · have : isNm s = false := by
        cases hh : isNm s with
        | false => rfl
        | true => exact absurd ((isNm_at s (by omega)).1 hh).1 h1
      simp only [g_lines_Name, this]
      grind
theorem digit_eq (c : Int) : g_ref07_digit c = some (decide (48 ≤ c) && decide (c ≤ 57)) := by
  simp only [g_ref07_digit]; grind
theorem ref07_Name_loop (s : List UInt8) (hs : s.length ≤ 16) (hs1 : 1 ≤ s.length) : ∃ e, iter (g_ref07_Name_s1 s) 0 = some e ∧ (e = .inr () ↔ (65 ≤ s[0].toNat ∧ s[0].toNat ≤ 90) ∧ ∀ i (h : i < s.length), nmB s[i] = true) := by
  refine iter_cnt s.length (by omega) (fun n => (0 < n → 65 ≤ s[0].toNat ∧ s[0].toNat ≤ 90) ∧ ∀ i (h : i < s.length), i < n → nmB s[i] = true) _ ⟨by omega, by intro i _ h; omega⟩ ?_ ?_
  · intro i hi ⟨hI0, hI⟩
    have hw := wrap_i64 ((i : Int) + 1) (by omega) (by omega)
    simp only [g_ref07_Name_s1, atI_nat hi, Option.bind_some, hw, digit_eq]
    have hb := u8lt s[i]
    by_cases hk : nmB s[i] = true ∧ (i = 0 → 65 ≤ s[0].toNat ∧ s[0].toNat ≤ 90)
    · left
      obtain ⟨hk, hk0⟩ := hk
      refine ⟨?_, fun _ => ?_, fun j hj hlt => ?_⟩
      · simp only [nmB] at hk
        by_cases h0 : i = 0
        · subst h0; grind
        · grind
      · by_cases h0 : i = 0
        · exact hk0 h0
        · exact hI0 (by omega)
      · by_cases hji : j = i
        · subst hji; exact hk
        · exact hI j hj (by omega)
    · right
      refine ⟨.inl (), ?_, ?_⟩
      · simp only [nmB] at hk
        by_cases h0 : i = 0
        · subst h0; grind
        · grind
      · simp only [reduceCtorEq, false_iff]
        rintro ⟨h1, h2⟩
        exact hk ⟨h2 i hi, fun _ => h1⟩
  · intro ⟨hI0, hI⟩
    refine ⟨.inr (), by simp [g_ref07_Name_s1], ?_⟩
    simp only [true_iff]
    exact ⟨hI0 (by omega), fun i h => hI i h h⟩
theorem ref07_Name_eq (s : List UInt8) : g_ref07_Name s = some (isNm s) := by
  by_cases h0 : s.length < 1
  · match s, h0 with
    | [], _ => rfl
  · by_cases h1 : s.length ≤ 16
    · obtain ⟨e, he, hi⟩ := ref07_Name_loop s h1 (by omega)
      have hn := isNm_at s (by omega)
      simp only [g_ref07_Name, he, Option.bind_some]
      rcases e with ⟨⟩ | ⟨⟩ <;> grind
    · have : isNm s = false := by
        cases hh : isNm s with
        | false => rfl
        | true => exact absurd ((isNm_at s (by omega)).1 hh).1 h1
      simp only [g_ref07_Name, this]
      grind
theorem fS_ok_len : ∀ (m : Nat) (t : List UInt8) (p : Nat) (l : List T_api_Field), t.length ≤ m → fS t p = .ok l → l.length ≤ t.length := by
  intro m
  induction m with
  | zero => intro t p l hm h; have : t = [] := List.eq_nil_of_length_eq_zero (by omega); subst this; rw [fS_nil] at h; injection h with h; subst h; simp
  | succ m ih =>
    intro t p l hm h
    cases t with
    | nil => rw [fS_nil] at h; injection h with h; subst h; simp
    | cons b t =>
      simp only [List.length_cons] at hm ⊢
      rw [fS_cons] at h
      split at h
      · have := ih t (p + 1) l (by omega) h; omega
      · split at h
        · injection h with h; subst h; simp
        · split at h
          · cases hq : qS t with
            | ok text k =>
              rw [hq] at h
              simp only at h
              cases hr : fS (t.drop k) (p + 1 + k) with
              | bad x => rw [hr] at h; cases h
              | ok l' =>
                rw [hr] at h
                simp [FR.cons] at h
                subst h
                have := ih (t.drop k) (p + 1 + k) l' (by simp; omega) hr
                rw [List.length_drop] at this; simp; omega
            | bad k => rw [hq] at h; simp at h
            | stop => rw [hq] at h; simp at h
          · cases hq : wS (b :: t) with
            | inl k =>
              rw [hq] at h
              simp only at h
              cases hr : fS (t.drop (k - 1)) (p + k) with
              | bad x => rw [hr] at h; cases h
              | ok l' =>
                rw [hr] at h
                simp [FR.cons] at h
                subst h
                have := ih (t.drop (k - 1)) (p + k) l' (by simp; omega) hr
                rw [List.length_drop] at this; simp; omega
            | inr k => rw [hq] at h; simp at h
theorem allR_len : ∀ (r : List (List UInt8)) (n : Nat) (p : List T_api_Line × List T_api_Diag), (allR n r p).1.length ≤ p.1.length + r.length ∧ (allR n r p).2.length ≤ p.2.length + r.length
  | [], n, p => by simp [allR]
  | y :: r, n, p => by
    have := allR_len r (n + 1) (accL p (lr n y))
    have h2 : (accL p (lr n y)).1.length ≤ p.1.length + 1 ∧ (accL p (lr n y)).2.length ≤ p.2.length + 1 := by
      rcases lr n y with _ | d | l <;> simp [accL]
    simp only [allR, List.length_cons]
    omega
theorem lr_fields (n : Nat) (y : List UInt8) (l : T_api_Line) (h : lr n y = some (.inr l)) : l.Fields.length ≤ 1000 := by
  unfold lr at h
  split at h
  · cases h
  · cases hf : fS y 0 with
    | bad b => rw [hf] at h; cases h
    | ok fs =>
      rw [hf] at h
      cases fs with
      | nil => cases h
      | cons f fs =>
        injection h with h
        injection h with h
        subst h
        have := fS_ok_len y.length y 0 (f :: fs) (Nat.le_refl _) hf
        show (f :: fs).length ≤ 1000
        omega
theorem allR_fields : ∀ (r : List (List UInt8)) (n : Nat) (p : List T_api_Line × List T_api_Diag), (∀ x ∈ p.1, x.Fields.length ≤ 1000) → ∀ x ∈ (allR n r p).1, x.Fields.length ≤ 1000
  | [], n, p, h => h
  | y :: r, n, p, h => by
    refine allR_fields r (n + 1) (accL p (lr n y)) ?_
    cases hl : lr n y with
    | none => exact h
    | some q =>
      cases q with
      | inl d => exact h
      | inr l =>
        intro x hx
        simp only [accL, List.mem_append, List.mem_singleton] at hx
        rcases hx with hx | rfl
        · exact h x hx
        · exact lr_fields n y _ hl
theorem splitS_small (src : List UInt8) : (splitS src).1.length ≤ 262145 ∧ (splitS src).2.length ≤ 50 ∧ ∀ x ∈ (splitS src).1, x.Fields.length ≤ 1000 := by
  unfold splitS
  split
  · simp
  · have h1 := allR_len (spL src) 0 ([], [])
    have h2 := allR_fields (spL src) 0 ([], []) (by simp)
    have h3 := spL_len src
    simp only [List.length_nil] at h1
    refine ⟨by show (allR 0 (spL src) ([], [])).1.length ≤ _; omega, by simp; omega, h2⟩
def isDg (b : UInt8) : Bool := decide (48 ≤ b.toNat) && decide (b.toNat ≤ 57)
def numV (acc : Nat) (l : List UInt8) : Nat := l.foldl (fun a c => a * 10 + (c.toNat - 48)) acc
def numN (s : List UInt8) : Bool := s.head?.any (fun b => b.toNat == 45)
def numD (s : List UInt8) : List UInt8 := if numN s then s.drop 1 else s
def numBad (s : List UInt8) : Bool := match numD s with
  | [] => true
  | b :: t => (b.toNat == 48 && (decide (1 < (b :: t).length) || numN s)) || !((b :: t).all isDg)
def numVal (s : List UInt8) : Int := if numN s then -(numV 0 (numD s) : Int) else (numV 0 (numD s) : Int)
def numS (s : List UInt8) (lo hi : Int) : Int × Int := if numBad s then (0, 4) else if numVal s < -9223372036854775808 ∨ 9223372036854775807 < numVal s ∨ numVal s < lo ∨ hi < numVal s then (0, 2) else (numVal s, 0)
theorem numV_cons (acc : Nat) (c : UInt8) (r : List UInt8) : numV acc (c :: r) = numV (acc * 10 + (c.toNat - 48)) r := by unfold numV; rw [List.foldl_cons]
theorem numV_ge (l : List UInt8) : ∀ (acc : Nat), acc * 10 ^ l.length ≤ numV acc l := by
  induction l with
  | nil => intro acc; unfold numV; simp
  | cons c r ih =>
    intro acc
    rw [numV_cons, List.length_cons, Nat.pow_succ, Nat.mul_comm (10 ^ r.length) 10, ← Nat.mul_assoc]
    exact Nat.le_trans (Nat.mul_le_mul_right _ (Nat.le_add_right _ _)) (ih _)
theorem numV_le (l : List UInt8) : ∀ (acc : Nat), (∀ b ∈ l, isDg b = true) → numV acc l < (acc + 1) * 10 ^ l.length := by
  induction l with
  | nil => intro acc _; unfold numV; simp
  | cons c r ih =>
    intro acc h
    have hc := h c (by simp)
    simp only [isDg, Bool.and_eq_true, decide_eq_true_eq] at hc
    rw [numV_cons, List.length_cons, Nat.pow_succ, Nat.mul_comm (10 ^ r.length) 10, ← Nat.mul_assoc]
    exact Nat.lt_of_lt_of_le (ih _ (fun b hb => h b (by simp [hb]))) (Nat.mul_le_mul_right _ (by omega))
theorem parseM (l : List UInt8) : ∀ (acc : Nat), (∀ b ∈ l, isDg b = true) → acc ≤ 18446744073709551615 → Lib.parseUintM 18446744073709551615 acc l = if numV acc l ≤ 18446744073709551615 then .ok (numV acc l) else .range := by
  induction l with
  | nil => intro acc _ h; simp [Lib.parseUintM, numV, h]
  | cons c r ih =>
    intro acc hd h
    have hc := hd c (by simp)
    simp only [isDg, Bool.and_eq_true, decide_eq_true_eq] at hc
    have hge := numV_ge r (acc * 10 + (c.toNat - 48))
    have hp : 1 ≤ 10 ^ r.length := Nat.one_le_pow _ _ (by omega)
    have hge2 : acc * 10 + (c.toNat - 48) ≤ numV (acc * 10 + (c.toNat - 48)) r := Nat.le_trans (Nat.le_mul_of_pos_right _ hp) hge
    rw [numV_cons, Lib.parseUintM, if_pos hc]
    by_cases h1 : 1844674407370955162 ≤ acc
    · rw [if_pos h1, if_neg (by omega)]
    · rw [if_neg h1]
      by_cases h2 : 18446744073709551615 < acc * 10 + (c.toNat - 48)
      · rw [if_pos h2, if_neg (by omega)]
      · rw [if_neg h2]
        exact ih _ (fun b hb => hd b (by simp [hb])) (by omega)
theorem u8_45 (b : UInt8) : (b == 45) = (b.toNat == 45) := by
  rw [Bool.eq_iff_iff]
  simp only [beq_iff_eq]
  exact ⟨fun h => by rw [h]; rfl, fun h => UInt8.toNat_inj.1 h⟩
theorem cut_eq (s : List UInt8) : g_strings_CutPrefix s [45] = some (numD s, numN s) := by
  simp only [g_strings_CutPrefix, Lib.trimPrefix, Lib.hasPrefix, numD, numN]
  cases s with
  | nil => rfl
  | cons b t =>
    have : ([45] : List UInt8).isPrefixOf (b :: t) = (b.toNat == 45) := by
      simp only [List.isPrefixOf, Bool.and_true]
      rw [← u8_45]
      rw [Bool.eq_iff_iff]; simp only [beq_iff_eq]; exact eq_comm
    simp only [this, List.head?_cons, Option.any_some, List.length_cons, List.length_nil, Nat.zero_add]
    first | done | rfl
theorem digs_loop (d : List UInt8) (hd : d.length ≤ 9223372036854775806) (b : Bool) : ∃ e, iter (g_lines_Number_s1 (d, b)) 0 = some e ∧ (e = .inr () ↔ d.all isDg = true) := by
  have := iter_cnt (step := g_lines_Number_s1 (d, b)) d.length (by omega) (fun n => ∀ i (h : i < d.length), i < n → isDg d[i] = true) (fun e => (e = .inr () ↔ ∀ i (h : i < d.length), isDg d[i] = true)) (by intro i _ h; omega) ?_ ?_
  · obtain ⟨e, he, h⟩ := this
    refine ⟨e, he, h.trans ?_⟩
    rw [List.all_eq_true]
    exact ⟨fun h x hx => by obtain ⟨i, hi, rfl⟩ := List.getElem_of_mem hx; exact h i hi, fun h i hi => h _ (List.getElem_mem hi)⟩
  · intro i hi hI
    have hw := wrap_i64 ((i : Int) + 1) (by omega) (by omega)
    have hcnd : decide ((i : Int) < (d.length : Int)) = true := by simpa using hi
    simp only [g_lines_Number_s1, hcnd, if_true, atI_nat hi, Option.bind_some, hw]
    by_cases h1 : d[i].toNat < 48
    · right
      refine ⟨.inl (), by have : decide ((d[i].toNat : Int) < 48) = true := by simp; omega
                          simp [this], ?_⟩
      simp only [reduceCtorEq, false_iff]
      intro h; have := h i hi; simp only [isDg, Bool.and_eq_true, decide_eq_true_eq] at this; omega
    · have e1 : decide ((d[i].toNat : Int) < 48) = false := by simp; omega
      by_cases h2 : 57 < d[i].toNat
      · right
        refine ⟨.inl (), by have : decide (57 < (d[i].toNat : Int)) = true := by simp; omega
                            simp [e1, this], ?_⟩
        simp only [reduceCtorEq, false_iff]
        intro h; have := h i hi; simp only [isDg, Bool.and_eq_true, decide_eq_true_eq] at this; omega
      · left
        have e2 : decide (57 < (d[i].toNat : Int)) = false := by simp; omega
        refine ⟨by simp [e1, e2], fun j hj hlt => ?_⟩
        by_cases hji : j = i
        · subst hji; simp only [isDg, Bool.and_eq_true, decide_eq_true_eq]; omega
        · exact hI j hj (by omega)
  · intro hI
    refine ⟨.inr (), by simp [g_lines_Number_s1], ?_⟩
    simp only [true_iff]
    exact fun i h => hI i h h
theorem parse_eq (s : List UInt8) (h : numBad s = false) : Lib.parseIntB 64 s = if numVal s < -9223372036854775808 ∨ 9223372036854775807 < numVal s then .range else .ok (numVal s) := by
  have hD : ∃ b t, numD s = b :: t ∧ (b :: t).all isDg = true := by
    unfold numBad at h
    cases hd : numD s with
    | nil => rw [hd] at h; simp at h
    | cons b t => rw [hd] at h; simp only [Bool.or_eq_false_iff, Bool.not_eq_false'] at h; exact ⟨b, t, rfl, h.2⟩
  obtain ⟨b, t, hd, ha⟩ := hD
  have hall : ∀ x ∈ numD s, isDg x = true := by rw [hd]; exact List.all_eq_true.1 ha
  have hb := hall b (by rw [hd]; simp)
  simp only [isDg, Bool.and_eq_true, decide_eq_true_eq] at hb
  have hpu : Lib.parseUintB 64 (numD s) = if numV 0 (numD s) ≤ 18446744073709551615 then .ok (numV 0 (numD s)) else .range := by
    unfold Lib.parseUintB
    rw [if_neg (by rw [hd]; simp)]
    exact parseM _ 0 hall (by omega)
  cases s with
  | nil => simp [numD, numN] at hd
  | cons c r =>
    unfold Lib.parseIntB
    have hN : numN (c :: r) = (c.toNat == 45) := rfl
    by_cases h45 : c.toNat = 45
    · have hn : numN (c :: r) = true := by rw [hN]; simp [h45]
      have hD2 : numD (c :: r) = r := by simp [numD, hn]
      have hv : numVal (c :: r) = -(numV 0 r : Int) := by simp [numVal, hn, hD2]
      rw [hD2] at hpu
      simp only [h45, or_true, if_true, hpu, hv, not_true_eq_false, false_and, if_false, true_and]
      by_cases h1 : numV 0 r ≤ 18446744073709551615
      · rw [if_pos h1]
        simp only
        by_cases h2 : 2 ^ (64 - 1) < numV 0 r
        · rw [if_pos h2, if_pos (by left; simp at h2; omega)]
        · rw [if_neg h2, if_neg (by simp at h2; omega)]
      · rw [if_neg h1, if_pos (by left; omega)]
    · have hn : numN (c :: r) = false := by rw [hN]; simp [h45]
      have hD2 : numD (c :: r) = c :: r := by simp [numD, hn]
      have hv : numVal (c :: r) = (numV 0 (c :: r) : Int) := by simp [numVal, hn, hD2]
      have hcb : c = b := by rw [hD2] at hd; injection hd
      subst hcb
      have h43 : ¬ (c.toNat = 43 ∨ c.toNat = 45) := by omega
      rw [hD2] at hpu
      dsimp only
      rw [if_neg h43]
      simp only [hpu, hv, h45, not_false_eq_true, true_and, false_and, if_false]
      by_cases h1 : numV 0 (c :: r) ≤ 18446744073709551615
      · rw [if_pos h1]
        simp only
        by_cases h2 : 2 ^ (64 - 1) ≤ numV 0 (c :: r)
        · rw [if_pos h2, if_pos (by right; simp at h2; omega)]
        · rw [if_neg h2, if_neg (by simp at h2; omega)]
      · rw [if_neg h1, if_pos (by right; omega)]
theorem lines_Number_eq (s : List UInt8) (lo hi : Int) (hs : s.length ≤ 281474976710656) : g_lines_Number s lo hi = some (numS s lo hi) := by
  have hDl : (numD s).length ≤ s.length := by unfold numD; split <;> simp
  obtain ⟨e, he, hiff⟩ := digs_loop (numD s) (by omega) (numN s)
  simp only [g_lines_Number, cut_eq, Option.bind_some, he]
  unfold numS
  cases hbad : numBad s with
  | true =>
    simp only [if_true]
    unfold numBad at hbad
    cases hd : numD s with
    | nil => simp
    | cons b t =>
      rw [hd] at hbad hiff
      have e0 : ((b :: t) == ([] : List UInt8)) = false := rfl
      have e1 : atI (b :: t) 0 = some b := rfl
      simp only [e0, Bool.false_eq_true, if_false, e1, Option.bind_some]
      by_cases c48 : b.toNat = 48
      · have e2 : ((b.toNat : Int) == 48) = true := by simp [c48]
        simp only [e2, if_true]
        by_cases c1 : 1 < (b :: t).length
        · have e3 : decide (1 < ((b :: t).length : Int)) = true := by simp only [decide_eq_true_eq]; omega
          simp only [e3, if_true, Option.bind_some]
        · have e3 : decide (1 < ((b :: t).length : Int)) = false := by simp only [decide_eq_false_iff_not]; omega
          cases hn : numN s with
          | true => simp only [e3, Bool.false_eq_true, if_false, Option.bind_some, if_true]
          | false =>
            simp only [e3, Bool.false_eq_true, if_false, Option.bind_some]
            have : ¬ e = .inr () := by
              rw [hiff]
              simp only [hn, c48, c1, decide_false, Bool.or_false, Bool.and_false, Bool.false_or, Bool.not_eq_true'] at hbad
              rw [hbad]; simp
            rcases e with e | e
            · simp
            · exact absurd rfl this
      · have e2 : ((b.toNat : Int) == 48) = false := by simp; omega
        have e3 : (b.toNat == 48) = false := by simpa using c48
        simp only [e2, Bool.false_eq_true, if_false, Option.bind_some]
        have : ¬ e = .inr () := by
          rw [hiff]
          simp only [e3, Bool.false_and, Bool.false_or, Bool.not_eq_true'] at hbad
          rw [hbad]; simp
        rcases e with e | e
        · simp
        · exact absurd rfl this
  | false =>
    have hp := parse_eq s hbad
    simp only [Bool.false_eq_true, if_false]
    unfold numBad at hbad
    cases hd : numD s with
    | nil => rw [hd] at hbad; simp at hbad
    | cons b t =>
      rw [hd] at hbad hiff
      simp only [Bool.or_eq_false_iff, Bool.not_eq_false'] at hbad
      have e0 : ((b :: t) == ([] : List UInt8)) = false := rfl
      have e1 : atI (b :: t) 0 = some b := rfl
      have hv : ((if (b :: t == ([] : List UInt8)) = true then some true
          else (atI (b :: t) 0).bind fun b18 => if ((b18.toNat : Int) == 48) = true then if decide (1 < ((b :: t).length : Int)) = true then some true else some (numN s) else some false) : Option Bool) = some false := by
        simp only [e0, Bool.false_eq_true, if_false, e1, Option.bind_some]
        by_cases c48 : b.toNat = 48
        · have e2 : ((b.toNat : Int) == 48) = true := by simp [c48]
          have := hbad.1
          simp only [c48, beq_self_eq_true, Bool.true_and, Bool.or_eq_false_iff, decide_eq_false_iff_not] at this
          have e3 : decide (1 < ((b :: t).length : Int)) = false := by simp only [decide_eq_false_iff_not]; omega
          simp only [e2, e3, if_true, Bool.false_eq_true, if_false, this.2]
        · have e2 : ((b.toNat : Int) == 48) = false := by simp; omega
          simp [e2]
      have hee : e = .inr () := hiff.2 hbad.2
      subst hee
      rw [hd] at *
      simp only [hv, Option.bind_some, Bool.false_eq_true, if_false, g_strconv_ParseInt, true_and, if_pos hs, hp]
      by_cases hr : numVal s < -9223372036854775808 ∨ 9223372036854775807 < numVal s
      · simp only [if_pos hr, Option.bind_some, if_true]
        rw [if_pos (by omega)]
      · have cd : numVal s < -9223372036854775808 ∨ 9223372036854775807 < numVal s ∨ numVal s < lo ∨ hi < numVal s ↔ numVal s < lo ∨ hi < numVal s := by omega
        simp only [if_neg hr, Option.bind_some, Bool.false_eq_true, if_false, cd]
        by_cases h1 : numVal s < lo
        · simp only [h1, decide_true, if_true, Option.bind_some, true_or]
        · by_cases h2 : hi < numVal s
          · simp only [h1, h2, decide_false, decide_true, Bool.false_eq_true, if_false, if_true, Option.bind_some, or_true]
          · simp only [h1, h2, decide_false, Bool.false_eq_true, if_false, Option.bind_some, or_self]
theorem wrap_u64 (x : Int) (h : 0 ≤ x) (h' : x ≤ 18446744073709551615) : IntKind.u64.wrap x = x := by
  simp [IntKind.wrap, IntKind.bits, IntKind.signed]
  omega
theorem digit_dg (b : UInt8) : g_ref07_digit (b.toNat : Int) = some (isDg b) := by
  have h1 : decide (48 ≤ (b.toNat : Int)) = decide (48 ≤ b.toNat) := by simp only [decide_eq_decide]; omega
  have h2 : decide ((b.toNat : Int) ≤ 57) = decide (b.toNat ≤ 57) := by simp only [decide_eq_decide]; omega
  rw [digit_eq, h1, h2]; rfl
theorem rdigs_loop (d : List UInt8) (hd : d.length ≤ 9223372036854775806) : ∃ e, iter (g_ref07_Number_s1 d) 0 = some e ∧ (e = .inr () ↔ d.all isDg = true) := by
  have := iter_cnt (step := g_ref07_Number_s1 d) d.length (by omega) (fun n => ∀ i (h : i < d.length), i < n → isDg d[i] = true) (fun e => (e = .inr () ↔ ∀ i (h : i < d.length), isDg d[i] = true)) (by intro i _ h; omega) ?_ ?_
  · obtain ⟨e, he, h⟩ := this
    refine ⟨e, he, h.trans ?_⟩
    rw [List.all_eq_true]
    exact ⟨fun h x hx => by obtain ⟨i, hi, rfl⟩ := List.getElem_of_mem hx; exact h i hi, fun h i hi => h _ (List.getElem_mem hi)⟩
  · intro i hi hI
    have hw := wrap_i64 ((i : Int) + 1) (by omega) (by omega)
    have hcnd : decide ((i : Int) < (d.length : Int)) = true := by simpa using hi
    simp only [g_ref07_Number_s1, hcnd, if_true, atI_nat hi, Option.bind_some, hw, digit_dg]
    cases hdg : isDg d[i] with
    | false =>
      right
      refine ⟨.inl (), by simp, ?_⟩
      simp only [reduceCtorEq, false_iff]
      intro h; have := h i hi; rw [hdg] at this; cases this
    | true =>
      left
      refine ⟨by simp, fun j hj hlt => ?_⟩
      by_cases hji : j = i
      · subst hji; exact hdg
      · exact hI j hj (by omega)
  · intro hI
    refine ⟨.inr (), by simp [g_ref07_Number_s1], ?_⟩
    simp only [true_iff]
    exact fun i h => hI i h h
theorem racc_loop (d : List UInt8) (hall : ∀ b ∈ d, isDg b = true) (hl : d.length ≤ 19) : iter (g_ref07_Number_s2 d) (0, 0) = some (numV 0 d : Int) := by
  refine iter_of (fun x e => ∃ (i a : Nat), x.2 = (i : Int) ∧ i ≤ d.length ∧ x.1 = (a : Int) ∧ a < 10 ^ i ∧ numV a (d.drop i) = numV 0 d ∧ e = (numV 0 d : Int)) (fun x => d.length - x.2.toNat) ?_ (x := (0, 0)) ⟨0, 0, rfl, by omega, rfl, by simp, by simp, rfl⟩ (by show d.length - _ < _; omega)
  rintro ⟨u, z⟩ e ⟨i, a, hz, hi, hu, ha, hv, rfl⟩
  simp only at hz hu ⊢
  subst hz hu
  by_cases h : i < d.length
  · left
    have hb := hall d[i] (List.getElem_mem h)
    simp only [isDg, Bool.and_eq_true, decide_eq_true_eq] at hb
    have hp : 10 ^ i ≤ 10 ^ 18 := Nat.pow_le_pow_right (by omega) (by omega)
    have ha2 : a < 1000000000000000000 := Nat.lt_of_lt_of_le ha hp
    have w1 := wrap_i64 ((i : Int) + 1) (by omega) (by omega)
    have w2 := wrap_u64 (10 * (a : Int)) (by omega) (by omega)
    have w3 : IntKind.u8.wrap ((d[i].toNat : Int) - 48) = (d[i].toNat : Int) - 48 := wr8 (by omega)
    have w4 := wrap_u64 ((d[i].toNat : Int) - 48) (by omega) (by omega)
    have w5 := wrap_u64 (10 * (a : Int) + ((d[i].toNat : Int) - 48)) (by omega) (by omega)
    have hcnd : decide ((i : Int) < (d.length : Int)) = true := by simpa using h
    refine ⟨(10 * (a : Int) + ((d[i].toNat : Int) - 48), (i : Int) + 1), ?_, ⟨i + 1, a * 10 + (d[i].toNat - 48), by simp, by omega, by simp only; omega, ?_, ?_, by simp⟩, by simp; omega⟩
    · simp only [g_ref07_Number_s2, hcnd, if_true, atI_nat h, Option.bind_some, w1, w2, w3, w4, w5]
    · rw [Nat.pow_succ]; omega
    · rw [← hv, drop_cons h, numV_cons]
  · right
    obtain rfl : i = d.length := by omega
    rw [List.drop_length] at hv
    have hv : a = numV 0 d := hv
    subst hv
    simp [g_ref07_Number_s2]
theorem numV_big (b : UInt8) (t : List UInt8) (hb : b.toNat ≠ 48) (hd : isDg b = true) (hl : 19 < (b :: t).length) : 9223372036854775808 < numV 0 (b :: t) := by
  simp only [isDg, Bool.and_eq_true, decide_eq_true_eq] at hd
  have := numV_ge t (0 * 10 + (b.toNat - 48))
  rw [numV_cons]
  have hp : 10 ^ 19 ≤ 10 ^ t.length := Nat.pow_le_pow_right (by omega) (by simp at hl; omega)
  have h1 : 1 * 10 ^ t.length ≤ (0 * 10 + (b.toNat - 48)) * 10 ^ t.length := Nat.mul_le_mul_right _ (by omega)
  omega
def dBad (neg : Bool) : List UInt8 → Bool
  | [] => true
  | b :: t => b.toNat == 48 && (decide (1 < (b :: t).length) || neg)
theorem ref_tail (d : List UInt8) (neg : Bool) :
    (((if ((d.length : Int) == 0) = true then (some true) else ((atI d 0).bind fun b33 => (if ((b33.toNat : Int) == 48) = true then (if decide (1 < (d.length : Int)) = true then (some true) else (some neg)) else (some false)))) : Option Bool)) = some (dBad neg d) := by
  cases d with
  | nil => rfl
  | cons b t =>
    have e0 : (((b :: t).length : Int) == 0) = false := by simp; omega
    have e1 : atI (b :: t) 0 = some b := rfl
    simp only [e0, Bool.false_eq_true, if_false, e1, Option.bind_some, dBad]
    have e2 : ((b.toNat : Int) == 48) = (b.toNat == 48) := by rw [Bool.eq_iff_iff]; simp; omega
    have e3 : decide (1 < ((b :: t).length : Int)) = decide (1 < (b :: t).length) := by simp only [decide_eq_decide]; omega
    rw [e2, e3]
    cases (b.toNat == 48) <;> cases decide (1 < (b :: t).length) <;> rfl
theorem numBad_eq (s : List UInt8) : numBad s = (dBad (numN s) (numD s) || !((numD s).all isDg)) := by
  unfold numBad dBad
  cases numD s <;> rfl
theorem dBad_false {neg : Bool} {d : List UInt8} (h : dBad neg d = false) : ∃ b t, d = b :: t ∧ (b.toNat = 48 → d.length ≤ 1 ∧ neg = false) := by
  cases d with
  | nil => cases h
  | cons b t =>
    refine ⟨b, t, rfl, fun h48 => ?_⟩
    simp only [dBad, h48, beq_self_eq_true, Bool.true_and, Bool.or_eq_false_iff, decide_eq_false_iff_not] at h
    exact ⟨by omega, h.2⟩
theorem ref_Number_eq (s : List UInt8) (lo hi : Int) (hs : s.length ≤ 9223372036854775806) : g_ref07_Number s lo hi = some (numS s lo hi) := by
  have hv9 : (((if (decide (0 < (s.length : Int))) then ((atI s 0).bind fun b12 => (some ((b12.toNat : Int) == 45))) else (some false)) : Option (Bool))) = some (numN s) := by
    cases s with
    | nil => rfl
    | cons b t =>
      have e0 : decide (0 < ((b :: t).length : Int)) = true := by simp only [decide_eq_true_eq, List.length_cons]; omega
      have e1 : atI (b :: t) 0 = some b := rfl
      have e2 : ((b.toNat : Int) == 45) = (b.toNat == 45) := by rw [Bool.eq_iff_iff]; simp; omega
      simp only [e0, if_true, e1, Option.bind_some, e2]; rfl
  have hDl : (numD s).length ≤ s.length := by unfold numD; split <;> simp
  obtain ⟨e, he, hiff⟩ := rdigs_loop (numD s) (by omega)
  have he3 : iter (g_ref07_Number_s3 (numD s)) 0 = some e := he
  have htail := ref_tail (numD s) (numN s)
  have hacc := racc_loop (numD s)
  have hacc4 : (∀ b ∈ numD s, isDg b = true) → (numD s).length ≤ 19 → iter (g_ref07_Number_s4 (numD s)) (0, 0) = some (numV 0 (numD s) : Int) := racc_loop (numD s)
  have hbad := numBad_eq s
  simp only [g_ref07_Number, hv9, Option.bind_some]
  unfold numS numVal
  cases hn : numN s with
  | true =>
    have hD : numD s = s.drop 1 := by simp [numD, hn]
    have hl1 : 1 ≤ s.length := by cases s with | nil => simp [numN] at hn | cons b t => simp
    have hsub : subL s 1 = some (numD s) := by rw [hD]; exact subL_nat (i := 1) hl1
    rw [hn] at htail hbad
    simp only [if_true, hsub, Option.bind_some, htail, he, hbad]
    generalize numD s = d at *
    cases hc : dBad true d with
    | true => simp
    | false =>
      obtain ⟨b, t, rfl, h48⟩ := dBad_false hc
      have hb48 : b.toNat ≠ 48 := fun h => by have := (h48 h).2; cases this
      simp only [Bool.false_or, Bool.false_eq_true, if_false]
      cases hall : (b :: t).all isDg with
      | false =>
        have : ¬ e = .inr () := by rw [hiff, hall]; simp
        rcases e with e | e
        · simp
        · exact absurd rfl this
      | true =>
        obtain rfl := hiff.2 hall
        have hal := List.all_eq_true.1 hall
        simp only [Bool.not_true, Bool.false_eq_true, if_false]
        by_cases hbig : 19 < (b :: t).length
        · have e4 : decide (19 < ((b :: t).length : Int)) = true := by simp only [decide_eq_true_eq]; omega
          have := numV_big b t hb48 (hal b (by simp)) hbig
          simp only [e4, if_true]
          rw [if_pos (by omega)]
        · have e4 : decide (19 < ((b :: t).length : Int)) = false := by simp only [decide_eq_false_iff_not]; omega
          have hle := numV_le (b :: t) 0 hal
          have hp : 10 ^ (b :: t).length ≤ 10 ^ 19 := Nat.pow_le_pow_right (by omega) (by omega)
          simp only [e4, Bool.false_eq_true, if_false, hacc hal (by omega), Option.bind_some]
          generalize numV 0 (b :: t) = v at *
          by_cases h1 : 9223372036854775808 < v
          · have e5 : decide (9223372036854775808 < (v : Int)) = true := by simp only [decide_eq_true_eq]; omega
            simp only [e5, if_true, Option.bind_some]
            rw [if_pos (by omega)]
          · have e5 : decide (9223372036854775808 < (v : Int)) = false := by simp only [decide_eq_false_iff_not]; omega
            have hw : IntKind.i64.wrap (0 - IntKind.i64.wrap (v : Int)) = -(v : Int) := by
              by_cases h2 : v = 9223372036854775808
              · subst h2; rfl
              · rw [wrap_i64 (v : Int) (by omega) (by omega), wrap_i64 (0 - (v : Int)) (by omega) (by omega)]; omega
            simp only [e5, Bool.false_eq_true, if_false, Option.bind_some, hw]
            have cd : -(v : Int) < -9223372036854775808 ∨ 9223372036854775807 < -(v : Int) ∨ -(v : Int) < lo ∨ hi < -(v : Int) ↔ -(v : Int) < lo ∨ hi < -(v : Int) := by omega
            simp only [cd]
            by_cases h3 : -(v : Int) < lo
            · simp only [h3, decide_true, if_true, true_or]
            · by_cases h4 : hi < -(v : Int)
              · simp only [h3, h4, decide_false, decide_true, Bool.false_eq_true, if_false, if_true, or_true]
              · simp only [h3, h4, decide_false, Bool.false_eq_true, if_false, or_self]
  | false =>
    have hD : numD s = s := by simp [numD, hn]
    rw [hn] at htail hbad
    rw [hD] at he3 hacc4 hiff htail hbad
    simp only [Bool.false_eq_true, if_false, htail, Option.bind_some, he3, hD, hbad]
    clear hv9 he hacc hDl hbad htail hD hn
    cases hc : dBad false s with
    | true => simp
    | false =>
      obtain ⟨b, t, rfl, h48⟩ := dBad_false hc
      simp only [Bool.false_or, Bool.false_eq_true, if_false]
      cases hall : (b :: t).all isDg with
      | false =>
        have : ¬ e = .inr () := by rw [hiff, hall]; simp
        rcases e with e | e
        · simp
        · exact absurd rfl this
      | true =>
        obtain rfl := hiff.2 hall
        have hal := List.all_eq_true.1 hall
        simp only [Bool.not_true, Bool.false_eq_true, if_false]
        by_cases hbig : 19 < (b :: t).length
        · have hb48 : b.toNat ≠ 48 := fun h => by have := (h48 h).1; omega
          have e4 : decide (19 < ((b :: t).length : Int)) = true := by simp only [decide_eq_true_eq]; omega
          have := numV_big b t hb48 (hal b (by simp)) hbig
          simp only [e4, if_true]
          rw [if_pos (by omega)]
        · have e4 : decide (19 < ((b :: t).length : Int)) = false := by simp only [decide_eq_false_iff_not]; omega
          have hle := numV_le (b :: t) 0 hal
          have hp : 10 ^ (b :: t).length ≤ 10 ^ 19 := Nat.pow_le_pow_right (by omega) (by omega)
          simp only [e4, Bool.false_eq_true, if_false, hacc4 hal (by omega), Option.bind_some]
          generalize numV 0 (b :: t) = v at *
          by_cases h1 : 9223372036854775808 < v
          · have e5 : decide (9223372036854775808 < (v : Int)) = true := by simp only [decide_eq_true_eq]; omega
            simp only [e5, if_true, Option.bind_some]
            rw [if_pos (by omega)]
          · have e5 : decide (9223372036854775808 < (v : Int)) = false := by simp only [decide_eq_false_iff_not]; omega
            by_cases h2 : v = 9223372036854775808
            · have e6 : ((v : Int) == 9223372036854775808) = true := by simp; omega
              simp only [e5, e6, Bool.false_eq_true, if_false, if_true, Option.bind_some]
              rw [if_pos (by omega)]
            · have e6 : ((v : Int) == 9223372036854775808) = false := by simp; omega
              have hw : IntKind.i64.wrap (v : Int) = v := wrap_i64 (v : Int) (by omega) (by omega)
              simp only [e5, e6, Bool.false_eq_true, if_false, Option.bind_some, hw]
              have cd : (v : Int) < -9223372036854775808 ∨ 9223372036854775807 < (v : Int) ∨ (v : Int) < lo ∨ hi < (v : Int) ↔ (v : Int) < lo ∨ hi < (v : Int) := by omega
              simp only [cd]
              by_cases h3 : (v : Int) < lo
              · simp only [h3, decide_true, if_true, true_or]
              · by_cases h4 : hi < (v : Int)
                · simp only [h3, h4, decide_false, decide_true, Bool.false_eq_true, if_false, if_true, or_true]
                · simp only [h3, h4, decide_false, Bool.false_eq_true, if_false, or_self]
theorem itoa_nat (u : Nat) : Lib.itoa (u : Int) = Lib.decDigits u := Lib.itoa_nonneg u
theorem numV_snoc (l : List UInt8) (acc : Nat) (b : UInt8) : numV acc (l ++ [b]) = numV acc l * 10 + (b.toNat - 48) := by
  unfold numV; rw [List.foldl_append]; rfl
theorem dgt (k : Nat) (h : k < 10) : (UInt8.ofNat (48 + k)).toNat = 48 + k := by
  have : ∀ v : Fin 10, (UInt8.ofNat (48 + v.val)).toNat = 48 + v.val := by decide
  exact this ⟨k, h⟩
theorem dec_facts (u : Nat) : numV 0 (Lib.decDigits u) = u ∧ (Lib.decDigits u).all isDg = true ∧ ∃ b t, Lib.decDigits u = b :: t ∧ (1 ≤ u → b.toNat ≠ 48) := by
  induction u using Nat.strongRecOn with
  | _ u ih =>
    by_cases h : u < 10
    · rw [Lib.decDigits_one h]
      refine ⟨by rw [numV_cons, dgt u h]; show 0 * 10 + (48 + u - 48) = u; omega, ?_, _, [], rfl, fun h1 => by rw [dgt u h]; omega⟩
      simp [isDg, dgt u h]; omega
    · obtain ⟨i1, i2, b, t, i3, i4⟩ := ih (u / 10) (by omega)
      rw [Lib.decDigits, dif_neg h]
      refine ⟨?_, ?_, b, t ++ [UInt8.ofNat (48 + u % 10)], by rw [i3]; rfl, fun _ => i4 (by omega)⟩
      · rw [numV_snoc, i1, dgt _ (by omega)]; omega
      · rw [List.all_append, i2]
        simp [isDg, dgt (u % 10) (by omega)]; omega
theorem numS_itoa (n : Int) (h0 : -9223372036854775808 ≤ n) (h1 : n ≤ 9223372036854775807) : numS (Lib.itoa n) n n = (n, 0) := by
  by_cases hn : n < 0
  · obtain ⟨u, rfl, hu⟩ : ∃ u : Nat, n = -(u : Int) ∧ 1 ≤ u := ⟨n.natAbs, by omega, by omega⟩
    rw [Lib.itoa_neg u hu]
    obtain ⟨d1, d2, b, t, d3, d4⟩ := dec_facts u
    have hN : numN (45 :: Lib.decDigits u) = true := rfl
    have hD : numD (45 :: Lib.decDigits u) = Lib.decDigits u := by simp [numD, hN]
    have hB : numBad (45 :: Lib.decDigits u) = false := by
      unfold numBad
      rw [hD, d3]
      rw [d3] at d2
      have : (b.toNat == 48) = false := by simpa using d4 hu
      simp only [this, Bool.false_and, Bool.false_or, d2, Bool.not_true]
    have hV : numVal (45 :: Lib.decDigits u) = -(u : Int) := by unfold numVal; rw [hN, hD, d1]; rfl
    unfold numS
    rw [hB, hV]
    simp only [Bool.false_eq_true, if_false]
    rw [if_neg (by omega)]
  · obtain ⟨u, rfl⟩ : ∃ u : Nat, n = (u : Int) := ⟨n.toNat, by omega⟩
    rw [Lib.itoa_nonneg u]
    obtain ⟨d1, d2, b, t, d3, d4⟩ := dec_facts u
    have hb := List.all_eq_true.1 d2 b (by rw [d3]; simp)
    simp only [isDg, Bool.and_eq_true, decide_eq_true_eq] at hb
    have hN : numN (Lib.decDigits u) = false := by
      rw [d3]; simp [numN]; omega
    have hD : numD (Lib.decDigits u) = Lib.decDigits u := by simp [numD, hN]
    have hB : numBad (Lib.decDigits u) = false := by
      unfold numBad
      rw [hD, hN]
      cases Nat.eq_zero_or_pos u with
      | inl hz => subst hz; decide +kernel
      | inr hp =>
        rw [d3]
        rw [d3] at d2
        have : (b.toNat == 48) = false := by simpa using d4 hp
        simp only [this, Bool.false_and, Bool.false_or, d2, Bool.not_true]
    have hV : numVal (Lib.decDigits u) = (u : Int) := by unfold numVal; rw [hN, hD, d1]; rfl
    unfold numS
    rw [hB, hV]
    simp only [Bool.false_eq_true, if_false]
    rw [if_neg (by omega)]
def quB (b : UInt8) : List UInt8 := if b.toNat = 34 ∨ b.toNat = 92 then [92, b] else if b.toNat = 10 then [92, 110] else [b]
def quS (s : List UInt8) : List UInt8 := 34 :: (s.flatMap quB ++ [34])
theorem toI_append (l m : List UInt8) : toI (l ++ m) = toI l ++ toI m := by simp [toI]
theorem quB_len (b : UInt8) : (quB b).length ≤ 2 := by
  unfold quB; split
  · simp
  · split <;> simp
theorem qu_len : ∀ (s : List UInt8), (s.flatMap quB).length ≤ 2 * s.length
  | [] => by simp
  | b :: t => by
    have := qu_len t; have := quB_len b
    simp only [List.flatMap_cons, List.length_append, List.length_cons]; omega
theorem qu_take {s : List UInt8} {i : Nat} (h : i < s.length) : (s.take (i + 1)).flatMap quB = (s.take i).flatMap quB ++ quB s[i] := by
  rw [List.take_add_one, List.getElem?_eq_getElem h]; simp only [List.flatMap_append, Option.toList_some, List.flatMap_cons, List.flatMap_nil, List.append_nil]
theorem take_len (s : List UInt8) (i : Nat) : ((s.take i).flatMap quB).length ≤ 2 * s.length := by
  have h1 := qu_len (s.take i)
  have h2 : (s.take i).length ≤ s.length := by simp; omega
  omega
theorem lines_Quote_loop (s : List UInt8) (hs : s.length ≤ 70000000000000) : iter (g_lines_Quote_s1 s) (0, [34]) = some (toI (34 :: s.flatMap quB)) := by
  refine iter_of (fun x e => ∃ i : Nat, x.1 = (i : Int) ∧ i ≤ s.length ∧ x.2 = toI (34 :: (s.take i).flatMap quB) ∧ e = toI (34 :: s.flatMap quB)) (fun x => s.length - x.1.toNat) ?_ (x := (0, [34])) ⟨0, rfl, Nat.zero_le _, by simp [toI], rfl⟩ (by show s.length - _ < _; omega)
  rintro ⟨z, acc⟩ e ⟨i, hz, hi, ha, rfl⟩
  simp only at hz ha ⊢
  subst hz ha
  by_cases h : i < s.length
  · left
    have hw := wrap_i64 ((i : Int) + 1) (by omega) (by omega)
    have hcnd : decide ((i : Int) < (s.length : Int)) = true := by simpa using h
    have hl := take_len s i
    have hlen : (toI (34 :: (s.take i).flatMap quB)).length = ((s.take i).flatMap quB).length + 1 := by simp [toI]
    refine ⟨((i : Int) + 1, toI (34 :: (s.take (i + 1)).flatMap quB)), ?_, ⟨i + 1, by simp, by omega, (by first | rfl | trivial), (by first | rfl | trivial)⟩, by simp; omega⟩
    have e1 : toI (34 :: (s.take (i + 1)).flatMap quB) = toI (34 :: (s.take i).flatMap quB) ++ toI (quB s[i]) := by
      rw [qu_take h, ← List.cons_append, toI_append]
    rw [e1]
    generalize hA : toI (34 :: (s.take i).flatMap quB) = A at hlen ⊢
    have g2 : (A.length + 2) * 1 ≤ 140737488355328 := by omega
    have g1 : (A.length + 1) * 1 ≤ 140737488355328 := by omega
    simp only [g_lines_Quote_s1, hcnd, if_true, atI_nat h, Option.bind_some, hw, g1, g2, quB, beq_iff_eq]
    by_cases h1 : s[i].toNat = 34
    · simp [h1, toI]
    · by_cases h2 : s[i].toNat = 92
      · simp [h2, toI]
      · by_cases h3 : s[i].toNat = 10
        · simp [h3, toI]
        · have k1 : ¬ ((s[i].toNat : Int) = 34) := by omega
          have k2 : ¬ ((s[i].toNat : Int) = 92) := by omega
          have k3 : ¬ ((s[i].toNat : Int) = 10) := by omega
          simp [h1, h2, h3, k1, k2, k3, toI]
  · right
    obtain rfl : i = s.length := by omega
    simp [g_lines_Quote_s1]
theorem lines_Quote_eq (s : List UInt8) (hs : s.length ≤ 70000000000000) : g_lines_Quote s = some (quS s) := by
  have hl := qu_len s
  have g1 : ((toI (34 :: s.flatMap quB)).length + 1) * 1 ≤ 140737488355328 := by simp only [toI, List.length_map, List.length_cons]; omega
  have : toI (34 :: s.flatMap quB) ++ [34] = toI (quS s) := by simp [toI, quS]
  simp only [g_lines_Quote, lines_Quote_loop s hs, Option.bind_some, g1, if_true, this, bytesOf_toI]
def plB (b : UInt8) : Bool := (decide (32 ≤ b.toNat) && b.toNat != 127) || b.toNat == 10
theorem qS_quB (b : UInt8) (t : List UInt8) (h : plB b = true) : qS (quB b ++ t) = (qS t).sh (quB b).length [b] := by
  unfold quB
  simp only [plB, Bool.or_eq_true, Bool.and_eq_true, decide_eq_true_eq, bne_iff_ne, ne_eq, beq_iff_eq] at h
  by_cases h1 : b.toNat = 34 ∨ b.toNat = 92
  · simp only [h1, if_true, List.cons_append, List.nil_append]
    rw [qS_cons]
    have e1 : ¬ (92 : UInt8).toNat = 34 := by decide
    have e2 : (92 : UInt8).toNat = 92 := by decide
    simp [e1, e2, h1]
  · simp only [h1, if_false]
    by_cases h2 : b.toNat = 10
    · have hb : b = 10 := UInt8.toNat_inj.1 h2
      subst hb
      simp only [h2, if_true, List.cons_append, List.nil_append]
      rw [qS_cons]
      have e1 : ¬ (92 : UInt8).toNat = 34 := by decide
      have e2 : (92 : UInt8).toNat = 92 := by decide
      have e3 : ¬ ((110 : UInt8).toNat = 34 ∨ (110 : UInt8).toNat = 92) := by decide
      have e4 : (110 : UInt8).toNat = 110 := by decide
      simp [e1, e2, e3, e4]
    · simp only [h2, if_false, List.cons_append, List.nil_append]
      rw [qS_cons]
      have e1 : ¬ b.toNat = 34 := fun h => h1 (.inl h)
      have e2 : ¬ b.toNat = 92 := fun h => h1 (.inr h)
      have e3 : ¬ (b.toNat < 32 ∨ b.toNat = 127) := by omega
      simp [e1, e2, e3]
theorem numS_in (n lo hi : Int) (h0 : -9223372036854775808 ≤ n) (h1 : n ≤ 9223372036854775807) (hl : lo ≤ n) (hh : n ≤ hi) : numS (Lib.itoa n) lo hi = (n, 0) := by
  have h := numS_itoa n h0 h1
  unfold numS at h ⊢
  by_cases hb : numBad (Lib.itoa n) = true
  · rw [if_pos hb] at h; simp at h
  · rw [if_neg hb] at h ⊢
    split at h
    · simp at h
    · rename_i hc
      have hv : numVal (Lib.itoa n) = n := by injection h
      rw [hv] at hc ⊢
      rw [if_neg (by omega)]
theorem iterN_chain {X E : Type} {step : X → Option (Nx X E)} {e : E} : ∀ (n : Nat) (x : Nat → X) (k : Nat), k < n → (∀ i, i < k → step (x i) = some (.go (x (i + 1)))) → step (x k) = some (.out e) → iterN step n (x 0) = some e
  | 0, _, _, h, _, _ => by omega
  | n + 1, x, 0, _, _, h2 => by simp only [iterN, h2]
  | n + 1, x, k + 1, h, h1, h2 => by
    simp only [iterN, h1 0 (by omega)]
    exact iterN_chain n (fun i => x (i + 1)) k (by omega) (fun i hi => h1 (i + 1) (by omega)) h2
theorem iter_chain {X E : Type} {step : X → Option (Nx X E)} {e : E} (x : Nat → X) (k : Nat) (hk : k < 73786976294838206464) (h1 : ∀ i, i < k → step (x i) = some (.go (x (i + 1)))) (h2 : step (x k) = some (.out e)) : iter step (x 0) = some e := iterN_chain _ x k hk h1 h2
theorem nm_len {s : List UInt8} (h : isNm s = true) : 1 ≤ s.length ∧ s.length ≤ 16 := by
  cases s with
  | nil => simp [isNm] at h
  | cons b t => simp only [isNm, Bool.and_eq_true, decide_eq_true_eq] at h; exact ⟨by simp, h.1.1⟩
theorem qS_text : ∀ (t : List UInt8) (text : List UInt8) (n : Nat), qS t = .ok text n → text.length ≤ t.length
  | [], text, n, h => by simp [qS_nil] at h
  | [b], text, n, h => by
    rw [qS_cons] at h
    (repeat' split at h) <;> simp_all [QR.sh, qS_nil]
    all_goals (try (obtain ⟨rfl, _⟩ := h; simp))
  | b :: c :: t, text, n, h => by
    have h1 := qS_text (c :: t)
    have h2 := qS_text t
    rw [qS_cons] at h
    split at h
    · split at h
      · simp at h
      · simp at h; obtain ⟨rfl, _⟩ := h; simp
    · split at h
      · simp only at h
        split at h
        · cases hq : qS t <;> rw [hq] at h <;> simp [QR.sh] at h
          have := h2 _ _ hq; obtain ⟨rfl, _⟩ := h; simp; omega
        · split at h
          · cases hq : qS t <;> rw [hq] at h <;> simp [QR.sh] at h
            have := h2 _ _ hq; obtain ⟨rfl, _⟩ := h; simp; omega
          · simp at h
      · split at h
        · simp at h
        · cases hq : qS (c :: t) <;> rw [hq] at h <;> simp [QR.sh] at h
          have := h1 _ _ hq; obtain ⟨rfl, _⟩ := h; simp at this ⊢; omega
theorem fS_texts : ∀ (m : Nat) (t : List UInt8) (p : Nat) (l : List T_api_Field), t.length ≤ m → fS t p = .ok l → ∀ f ∈ l, f.Text.length ≤ t.length := by
  intro m
  induction m with
  | zero => intro t p l hm h; have : t = [] := List.eq_nil_of_length_eq_zero (by omega); subst this; rw [fS_nil] at h; injection h with h; subst h; simp
  | succ m ih =>
    intro t p l hm h
    cases t with
    | nil => rw [fS_nil] at h; injection h with h; subst h; simp
    | cons b t =>
      simp only [List.length_cons] at hm ⊢
      rw [fS_cons] at h
      split at h
      · intro f hf; have := ih t (p + 1) l (by omega) h f hf; omega
      · split at h
        · injection h with h; subst h; simp
        · split at h
          · cases hq : qS t with
            | ok text k =>
              rw [hq] at h
              simp only at h
              cases hr : fS (t.drop k) (p + 1 + k) with
              | bad x => rw [hr] at h; cases h
              | ok l' =>
                rw [hr] at h
                simp [FR.cons] at h
                subst h
                intro f hf
                rcases List.mem_cons.1 hf with rfl | hf
                · have := qS_text t text k hq; simp only; omega
                · have := ih (t.drop k) (p + 1 + k) l' (by simp; omega) hr f hf
                  rw [List.length_drop] at this; omega
            | bad k => rw [hq] at h; simp at h
            | stop => rw [hq] at h; simp at h
          · cases hq : wS (b :: t) with
            | inl k =>
              rw [hq] at h
              simp only at h
              cases hr : fS (t.drop (k - 1)) (p + k) with
              | bad x => rw [hr] at h; cases h
              | ok l' =>
                rw [hr] at h
                simp [FR.cons] at h
                subst h
                intro f hf
                rcases List.mem_cons.1 hf with rfl | hf
                · simp only [List.length_take, List.length_cons]; omega
                · have := ih (t.drop (k - 1)) (p + k) l' (by simp; omega) hr f hf
                  rw [List.length_drop] at this; omega
            | inr k => rw [hq] at h; simp at h
theorem lr_texts (n : Nat) (y : List UInt8) (l : T_api_Line) (h : lr n y = some (.inr l)) : ∀ f ∈ l.Fields, f.Text.length ≤ 1000 := by
  unfold lr at h
  split at h
  · cases h
  · cases hf : fS y 0 with
    | bad b => rw [hf] at h; cases h
    | ok fs =>
      rw [hf] at h
      cases fs with
      | nil => cases h
      | cons f fs =>
        injection h with h
        injection h with h
        subst h
        intro g hg
        have := fS_texts y.length y 0 (f :: fs) (Nat.le_refl _) hf g hg
        omega
theorem allR_texts : ∀ (r : List (List UInt8)) (n : Nat) (p : List T_api_Line × List T_api_Diag), (∀ x ∈ p.1, ∀ f ∈ x.Fields, f.Text.length ≤ 1000) → ∀ x ∈ (allR n r p).1, ∀ f ∈ x.Fields, f.Text.length ≤ 1000
  | [], n, p, h => h
  | y :: r, n, p, h => by
    refine allR_texts r (n + 1) (accL p (lr n y)) ?_
    cases hl : lr n y with
    | none => exact h
    | some q =>
      cases q with
      | inl d => exact h
      | inr l =>
        intro x hx
        simp only [accL, List.mem_append, List.mem_singleton] at hx
        rcases hx with hx | rfl
        · exact h x hx
        · exact lr_texts n y _ hl
theorem splitS_texts (src : List UInt8) : ∀ x ∈ (splitS src).1, ∀ f ∈ x.Fields, f.Text.length ≤ 1000 := by
  unfold splitS
  split
  · simp
  · exact allR_texts _ _ _ (by simp)
def plainW (w : List UInt8) : Prop := w ≠ [] ∧ (∀ b ∈ w, wB b = true) ∧ ∀ b ∈ w, b.toNat ≠ 35
theorem wB_facts {b : UInt8} (h : wB b = true) : 33 ≤ b.toNat ∧ b.toNat ≤ 126 ∧ b.toNat ≠ 34 := by
  simp [wB] at h; exact ⟨h.1.1, h.1.2, h.2⟩
theorem plain_no10 {w : List UInt8} (h : plainW w) : ∀ b ∈ w, b.toNat ≠ 10 := fun b hb => by have := (wB_facts (h.2.1 _ hb)).1; omega
theorem plain_nm {s : List UInt8} (h : isNm s = true) : plainW s := by
  have hl := (nm_len h).1
  obtain ⟨_, _, h3⟩ := (isNm_at s hl).1 h
  refine ⟨by intro e; subst e; simp at hl, fun b hb => ?_, fun b hb => ?_⟩
  · obtain ⟨i, hi, rfl⟩ := List.getElem_of_mem hb
    have := h3 i hi
    simp [nmB] at this
    simp [wB]; omega
  · obtain ⟨i, hi, rfl⟩ := List.getElem_of_mem hb
    have := h3 i hi
    simp [nmB] at this
    omega
theorem plain_itoa {n : Int} (h : 0 ≤ n) : plainW (Lib.itoa n) := by
  obtain ⟨u, rfl⟩ : ∃ u : Nat, n = u := ⟨n.toNat, by omega⟩
  rw [itoa_nat]
  obtain ⟨_, h2, b, t, h3, _⟩ := dec_facts u
  have hd : ∀ b ∈ Lib.decDigits u, 48 ≤ b.toNat ∧ b.toNat ≤ 57 := fun b hb => by
    have := List.all_eq_true.1 h2 b hb
    simpa [isDg] using this
  refine ⟨by rw [h3]; simp, fun b hb => ?_, fun b hb => ?_⟩
  · have := hd b hb; simp [wB]; omega
  · have := hd b hb; omega
theorem wS_app : ∀ (w : List UInt8) (t : List UInt8), (∀ b ∈ w, wB b = true) → (t = [] ∨ t.head? = some 32) → wS (w ++ t) = .inl w.length
  | [], t, _, ht => by
    rcases ht with rfl | ht
    · rfl
    · cases t with
      | nil => simp at ht
      | cons b t => simp at ht; subst ht; simp [wS]
  | b :: w, t, hw, ht => by
    have hb := wB_facts (hw b (by simp))
    have ih := wS_app w t (fun x hx => hw x (by simp [hx])) ht
    simp only [List.cons_append, wS, ih, hw b (by simp), if_true, wSh, List.length_cons]
    rw [if_neg (by omega), Nat.add_comm]
def fldsOf : List (List UInt8) → Nat → List T_api_Field
  | [], _ => []
  | w :: ws, p => ⟨w, ((p + 1 : Nat) : Int), false⟩ :: fldsOf ws (p + w.length + 1)
def SOK (s : T_captionerref07_Scanner) : Prop := 0 ≤ s.At ∧ s.At ≤ s.Line.Fields.length ∧ s.Line.Fields.length ≤ 1000 ∧ ∀ f ∈ s.Line.Fields, f.Text.length ≤ 1000
theorem itoa_len {n : Int} (h : -9223372036854775808 ≤ n ∧ n ≤ 9223372036854775807) : (Lib.itoa n).length ≤ 21 := Lib.itoa_length_le n h.1 h.2
theorem decL_dec {l : List UInt8} (h : l ≠ []) : decL l = Lib.decodeL l := by
  unfold Lib.decodeL
  have := decL_eq l 0 ((List.length_pos_iff.2 h))
  rw [this]; simp
theorem decL_wd {l : List UInt8} (h : l ≠ []) : 1 ≤ (decL l).2 := by rw [decL_dec h]; exact Lib.decodeL_width l
theorem wd_pos {s : List UInt8} {p : Nat} (h : p < s.length) : 1 ≤ widthAt s p := by
  unfold widthAt
  refine decL_wd fun h0 => ?_
  have := congrArg List.length h0
  simp at this; omega
theorem place_same (s : List UInt8) (r : Int) : g_charset_place_s1 s r = g_ref08_Index_s1 r s := by
  funext x
  unfold g_charset_place_s1 g_ref08_Index_s1
  rfl
theorem place_total (s : List UInt8) (hs : s.length ≤ 1000) (r : Int) : ∃ e, iter (g_ref08_Index_s1 r s) (0, 0) = some e := by
  have := iter_post (step := g_ref08_Index_s1 r s) (fun x => 0 ≤ x.1 ∧ x.1 ≤ x.2) (fun x => s.length - x.2) (fun _ => True) (x := (0, 0)) ⟨Int.le_refl _, by simp⟩ (by show s.length - 0 < _; omega) ?_
  · obtain ⟨e, h, _⟩ := this; exact ⟨e, h⟩
  · rintro ⟨n, p⟩ ⟨h0, h1⟩
    dsimp only at h0 h1
    unfold g_ref08_Index_s1
    dsimp only
    by_cases hp : p < s.length
    · rw [if_pos (by simpa using hp)]
      by_cases hr : (runeAt s p == r) = true
      · right; rw [if_pos hr]; exact ⟨_, rfl, trivial⟩
      · left; rw [if_neg hr]
        have hw := wd_pos hp
        refine ⟨_, rfl, ?_, ?_⟩
        · dsimp only
          rw [wr64 (by omega)]
          omega
        · dsimp only; omega
    · right; rw [if_neg (by simpa using hp)]; exact ⟨_, rfl, trivial⟩
theorem Index_same (r : Int) : ∃ v, g_charset_Index r = some v ∧ g_ref08_Index r = some v := by
  unfold g_charset_Index g_ref08_Index g_charset_place
  by_cases h : 32 ≤ r ∧ r ≤ 126
  · rw [if_pos (by simpa using h.1)]
    simp only [Option.bind_some]
    rw [if_pos (by simpa using h.2), if_pos (by simpa using h.2)]
    exact ⟨_, rfl, rfl⟩
  · have : (if decide (32 ≤ r) = true then some (decide (r ≤ 126)) else some false : Option Bool) = some false := by
      by_cases h1 : 32 ≤ r
      · have : ¬ r ≤ 126 := fun h2 => h ⟨h1, h2⟩
        simp [h1, this]
      · simp [h1]
    rw [this]
    simp only [Option.bind_some, Bool.false_eq_true, if_false, place_same, g_ref08_Repertoire]
    obtain ⟨e, he⟩ := place_total g_ref08_Repertoire.get! (by decide) r
    simp only [g_ref08_Repertoire, Option.get!] at he
    rw [he]
    cases e <;> exact ⟨_, rfl, rfl⟩
def ixv (r : Int) : Int := (g_ref08_Index r).getD 0
theorem ix_eq (r : Int) : g_charset_Index r = some (ixv r) ∧ g_ref08_Index r = some (ixv r) := by
  obtain ⟨v, h1, h2⟩ := Index_same r
  unfold ixv
  rw [h2]
  exact ⟨h1, rfl⟩
theorem ixv_low : ∀ r : Fin 128, (r.val < 32 ∨ r.val = 127) → g_ref08_Index ((r.val : Nat) : Int) = some (-1) := by decide +kernel
theorem ixv_bad : g_ref08_Index 65533 = some (-1) := by decide +kernel
def gv (l : List UInt8) : Bool := if h : l = [] then true else decide (0 ≤ ixv (decL l).1) && gv (l.drop (decL l).2)
termination_by l.length
decreasing_by
  have := decL_wd h
  have := (List.length_pos_iff.2 h)
  simp; omega
theorem gv_nil : gv [] = true := by unfold gv; simp
theorem gv_ne {l : List UInt8} (h : l ≠ []) : gv l = (decide (0 ≤ ixv (decL l).1) && gv (l.drop (decL l).2)) := by
  rw [gv, dif_neg h]
theorem gv_loop {step : Nat → Option (Nx Nat (Unit ⊕ Unit))} (s : List UInt8) (hs : s.length < 73786976294838206464) (hst : ∀ p, step p = (if decide (p < s.length) = true then (if decide (ixv (runeAt s p) < 0) = true then some (.out (.inl ())) else some (.go (p + widthAt s p))) else some (.out (.inr ())))) :
    iter step 0 = some (if gv s then .inr () else .inl ()) := by
  refine iter_of (fun p e => e = if gv (s.drop p) then .inr () else .inl ()) (fun p => s.length - p) ?_ (x := 0) (by simp) (by show s.length - 0 < _; omega)
  rintro p e rfl
  rw [hst]
  by_cases hp : p < s.length
  · rw [if_pos (by simpa using hp)]
    have hne : s.drop p ≠ [] := fun h0 => by have := congrArg List.length h0; simp at this; omega
    by_cases hr : ixv (runeAt s p) < 0
    · right
      rw [if_pos (by simpa using hr), gv_ne hne]
      have : ¬ 0 ≤ ixv (decL (s.drop p)).1 := by unfold runeAt at hr; omega
      simp [this]
    · left
      rw [if_neg (by simpa using hr)]
      have hw := wd_pos hp
      refine ⟨_, rfl, ?_, by omega⟩
      rw [gv_ne hne]
      have : 0 ≤ ixv (decL (s.drop p)).1 := by unfold runeAt at hr; omega
      simp only [this, decide_true, Bool.true_and, List.drop_drop]
      rfl
  · right
    rw [if_neg (by simpa using hp), List.drop_eq_nil_of_le (by omega), gv_nil]; rfl
theorem ref_Valid_eq (s : List UInt8) (hs : s.length ≤ 140737488355328) : g_ref08_Valid s = some (gv s) := by
  unfold g_ref08_Valid
  rw [gv_loop s (by omega) (fun p => by unfold g_ref08_Valid_s1; simp only [(ix_eq _).2, Option.bind_some])]
  cases gv s <;> rfl
theorem gv_valid : ∀ (n : Nat) (l : List UInt8), l.length ≤ n → gv l = true → Lib.validD l = true := by
  intro n
  induction n with
  | zero => intro l hl _; have : l = [] := List.eq_nil_of_length_eq_zero (by omega); subst this; rfl
  | succ n ih =>
    intro l hl h
    by_cases hne : l = []
    · subst hne; rfl
    · rw [gv_ne hne, Bool.and_eq_true, decide_eq_true_eq] at h
      have hw := decL_wd hne
      have hlen := List.length_pos_iff.2 hne
      rw [Lib.validD_step l hne, ← decL_dec hne, if_neg]
      · exact ih _ (by simp; omega) h.2
      · rintro ⟨h1, _⟩
        have h2 := h.1
        rw [h1] at h2
        unfold ixv at h2
        rw [show (((65533 : Nat) : Nat) : Int) = 65533 from rfl, ixv_bad] at h2
        simp at h2
theorem prog_Valid_eq (s : List UInt8) (hs : s.length ≤ 140737488355328) : g_charset_Valid s = some (gv s) := by
  unfold g_charset_Valid g_unicode_utf8_ValidString
  simp only [Option.bind_some]
  rw [gv_loop s (by omega) (fun p => by unfold g_charset_Valid_s1; simp only [(ix_eq _).1, Option.bind_some])]
  cases hg : gv s
  · cases Lib.validD s <;> rfl
  · rw [gv_valid s.length s (Nat.le_refl _) hg]; rfl
theorem take_ge {a : UInt8} {r : List UInt8} (ha : 128 ≤ a.toNat) (n : Nat) (h : ∀ i, i < n → ∃ b, r[i]? = some b ∧ 128 ≤ b.toNat) : ∀ b ∈ (a :: r).take (n + 1), 128 ≤ b.toNat := by
  intro b hb
  obtain ⟨i, hi⟩ := List.mem_iff_getElem?.1 hb
  rw [List.getElem?_take] at hi
  split at hi
  · rename_i hlt
    cases i with
    | zero => simp at hi; subst hi; exact ha
    | succ i =>
      obtain ⟨b', h1, h2⟩ := h i (by omega)
      simp at hi
      rw [h1] at hi
      cases hi
      exact h2
  · cases hi
theorem dec_take (a : UInt8) (r : List UInt8) : (a.toNat < 128 ∧ decL (a :: r) = (a.toNat, 1)) ∨ (128 ≤ a.toNat ∧ ∀ b ∈ (a :: r).take (decL (a :: r)).2, 128 ≤ b.toNat) := by
  by_cases ha : a.toNat < 128
  · left
    refine ⟨ha, ?_⟩
    unfold decL
    simp [ha]
  · right
    have ha' : 128 ≤ a.toNat := by omega
    refine ⟨ha', ?_⟩
    have one : ∀ b ∈ (a :: r).take 1, 128 ≤ b.toNat := take_ge ha' 0 (fun i hi => absurd hi (by omega))
    unfold decL
    simp only
    rw [if_neg (by omega)]
    cases h0 : r[0]? <;> cases h1 : r[1]? <;> cases h2 : r[2]? <;> simp only [Bool.and_false, Bool.false_and, Bool.false_eq_true, if_false]
    all_goals repeat' split
    all_goals first
      | exact one
      | (refine take_ge ha' 1 fun i hi => ?_
         obtain rfl : i = 0 := by omega
         exact ⟨_, h0, by grind⟩)
      | (refine take_ge ha' 2 fun i hi => ?_
         match i, hi with
         | 0, _ => exact ⟨_, h0, by grind⟩
         | 1, _ => exact ⟨_, h1, by grind⟩)
      | (refine take_ge ha' 3 fun i hi => ?_
         match i, hi with
         | 0, _ => exact ⟨_, h0, by grind⟩
         | 1, _ => exact ⟨_, h1, by grind⟩
         | 2, _ => exact ⟨_, h2, by grind⟩)
theorem gv_bytes : ∀ (n : Nat) (l : List UInt8), l.length ≤ n → gv l = true → ∀ b ∈ l, 32 ≤ b.toNat ∧ b.toNat ≠ 127 := by
  intro n
  induction n with
  | zero => intro l hl _ b hb; have : l = [] := List.eq_nil_of_length_eq_zero (by omega); subst this; cases hb
  | succ n ih =>
    intro l hl h b hb
    cases l with
    | nil => cases hb
    | cons a r =>
      have hne : a :: r ≠ [] := by simp
      rw [gv_ne hne, Bool.and_eq_true, decide_eq_true_eq] at h
      have hw := decL_wd hne
      rw [← List.take_append_drop (decL (a :: r)).2 (a :: r)] at hb
      rcases List.mem_append.1 hb with hb | hb
      · rcases dec_take a r with ⟨h1, h2⟩ | ⟨h1, h2⟩
        · rw [h2] at hb
          simp at hb
          subst hb
          have h3 := h.1
          rw [h2] at h3
          by_cases hlow : b.toNat < 32 ∨ b.toNat = 127
          · have := ixv_low ⟨b.toNat, h1⟩ hlow
            unfold ixv at h3
            rw [this] at h3
            simp at h3
          · omega
        · have := h2 b hb; omega
      · exact ih _ (by simp at hl ⊢; omega) h.2 b hb
def d2 (n : Int) : List UInt8 := bytesOf [IntKind.u8.wrap (IntKind.i64.wrap (48 + IntKind.i64.wrap (Int.tdiv n 10))), IntKind.u8.wrap (IntKind.i64.wrap (48 + Int.tmod n 10))]
def lastC (s : T_captionerref07_Scanner) : Int := if s.At ≤ 0 then 0 else match s.Line.Fields[(s.At - 1).toNat]? with
  | some f => f.Column
  | none => 0
def toP (s : T_captionerref07_Scanner) : T_lines_Scanner := ⟨s.Line, s.At, lastC s, if s.Code = 0 then ⟨0, 0, 0⟩ else ⟨s.Line.Number, s.Col, s.Code⟩⟩
theorem toP_code (s : T_captionerref07_Scanner) : (toP s).bad_.Code = s.Code := by
  unfold toP
  by_cases h : s.Code = 0
  · simp [h]
  · simp [h]
theorem done_toP (s : T_captionerref07_Scanner) : g_lines_Scanner_done (toP s) = some (s.Code != 0, toP s) := by
  unfold g_lines_Scanner_done
  rw [toP_code]
theorem note_toP (s : T_captionerref07_Scanner) {e : Int} (c : Int) (he : e ≠ 0) (hs : SOK s) : ∃ s', g_ref07_Scanner_fail s e c = some s' ∧ g_lines_Scanner_note (toP s) c e = some (toP s') ∧ SOK s' ∧ s'.Code ≠ 0 ∧ s'.Line = s.Line := by
  unfold g_lines_Scanner_note g_ref07_Scanner_fail
  rw [done_toP]
  by_cases h : s.Code = 0
  · refine ⟨⟨s.Line, s.At, e, c⟩, by simp [h], ?_, hs, he, rfl⟩
    simp [h, he, toP, lastC]
  · refine ⟨s, by simp [h], ?_, hs, h, rfl⟩
    simp [h]
theorem take_both {s : T_captionerref07_Scanner} (hs : SOK s) (q : Bool) : ∃ f b s', g_ref07_Scanner_take s q = some (f, b, s') ∧ g_lines_Scanner_take (toP s) q = some (f.Text, b, toP s') ∧ SOK s' ∧ s'.Line = s.Line ∧ f.Text.length ≤ 1000 ∧ (b = true → s'.Code = 0 ∧ (toP s').last_ = f.Column) ∧ (b = false → s'.Code ≠ 0 ∧ f.Text = []) := by
  unfold g_ref07_Scanner_take g_lines_Scanner_take
  rw [done_toP]
  simp only [Option.bind_some]
  by_cases hc : s.Code = 0
  · have hc1 : ¬ (s.Code != 0) = true := by simpa using hc
    rw [if_neg hc1, if_neg hc1]
    obtain ⟨h1, h2, h3, h4⟩ := hs
    have hw := wr64 (x := (s.Line.Fields.length : Int) - s.At) (by omega)
    unfold g_ref07_Scanner_Left
    rw [if_neg hc1, hw]
    simp only [Option.bind_some]
    have e1 : (toP s).next_ = s.At := rfl
    have e2 : (toP s).line_ = s.Line := rfl
    rw [e1, e2]
    by_cases hz : s.At = s.Line.Fields.length
    · rw [if_pos (by simp; omega), if_pos (by simpa using hz)]
      obtain ⟨s', k1, k2, k3, k4, k5⟩ := note_toP s (e := 4) 0 (by decide) ⟨h1, h2, h3, h4⟩
      rw [k1, k2]
      exact ⟨_, _, _, rfl, rfl, k3, k5, by simp, fun h => (nomatch h), fun _ => ⟨k4, rfl⟩⟩
    · rw [if_neg (by simp; omega), if_neg (by simpa using hz)]
      obtain ⟨y, hy, hm, hg⟩ := atI_some (l := s.Line.Fields) (n := s.At) h1 (by omega)
      rw [hy]
      simp only [Option.bind_some]
      by_cases hq : (y.Quoted == q) = true
      · rw [if_pos hq, if_pos hq, wr64 (x := s.At + 1) (by omega)]
        have hl : lastC ⟨s.Line, s.At + 1, s.Code, s.Col⟩ = y.Column := by
          unfold lastC
          rw [if_neg (by dsimp only; omega)]
          dsimp only
          rw [show s.At + 1 - 1 = s.At by omega, hg]
        refine ⟨y, true, ⟨s.Line, s.At + 1, s.Code, s.Col⟩, rfl, ?_, ⟨by dsimp only; omega, by dsimp only; omega, h3, h4⟩, rfl, h4 y hm, fun _ => ⟨hc, hl⟩, fun h => (nomatch h)⟩
        unfold toP
        rw [hl]
      · rw [if_neg hq, if_neg hq]
        obtain ⟨s', k1, k2, k3, k4, k5⟩ := note_toP s (e := 4) y.Column (by decide) ⟨h1, h2, h3, h4⟩
        rw [k1, k2]
        exact ⟨_, _, _, rfl, rfl, k3, k5, by simp, fun h => (nomatch h), fun _ => ⟨k4, rfl⟩⟩
  · have hc1 : (s.Code != 0) = true := by simpa using hc
    rw [if_pos hc1, if_pos hc1]
    exact ⟨_, _, _, rfl, rfl, hs, rfl, by simp, fun h => (nomatch h), fun _ => ⟨hc, rfl⟩⟩
theorem quoted_both {s : T_captionerref07_Scanner} (hs : SOK s) : ∃ w s', g_ref07_Scanner_Quoted s = some (w, s') ∧ g_lines_Scanner_Quoted (toP s) = some (w, toP s') ∧ SOK s' ∧ s'.Line = s.Line ∧ w.length ≤ 1000 := by
  obtain ⟨f, b, s', h1, h2, h3, h4, h5, _⟩ := take_both hs true
  unfold g_ref07_Scanner_Quoted g_lines_Scanner_Quoted
  rw [h1, h2]
  exact ⟨_, _, rfl, rfl, h3, h4, h5⟩
theorem name_both {s : T_captionerref07_Scanner} (hs : SOK s) : ∃ w s', g_ref07_Scanner_Name s false = some (w, s') ∧ g_lines_Scanner_Name (toP s) false = some (w, toP s') ∧ SOK s' ∧ s'.Line = s.Line ∧ w.length ≤ 1000 := by
  obtain ⟨f, b, s', h1, h2, h3, h4, h5, h6, h7⟩ := take_both hs false
  unfold g_ref07_Scanner_Name g_lines_Scanner_Name
  rw [h1, h2]
  cases b with
  | false => exact ⟨_, _, rfl, rfl, h3, h4, by simp⟩
  | true =>
    simp only [Option.bind_some, if_true, Bool.false_eq_true, if_false, ref07_Name_eq, lines_Name_eq]
    by_cases hn : isNm f.Text = true
    · rw [if_pos hn, if_pos hn]
      exact ⟨_, _, rfl, rfl, h3, h4, h5⟩
    · rw [if_neg hn, if_neg hn, (h6 rfl).2]
      obtain ⟨s2, k1, k2, k3, k4, k5⟩ := note_toP s' (e := 5) f.Column (by decide) h3
      rw [k1, k2]
      exact ⟨_, _, rfl, rfl, k3, k5.trans h4, by simp⟩
theorem numS_0 {t : List UInt8} {lo hi : Int} (h : (numS t lo hi).2 ≠ 0) : (numS t lo hi).1 = 0 := by
  unfold numS at h ⊢
  split
  · rfl
  · split
    · rfl
    · rename_i h1 h2; rw [if_neg h1, if_neg h2] at h; exact absurd rfl h
theorem number_both {s : T_captionerref07_Scanner} (hs : SOK s) (lo hi : Int) : ∃ n s', g_ref07_Scanner_Number s lo hi = some (n, s') ∧ g_lines_Scanner_Number (toP s) lo hi = some (n, toP s') ∧ SOK s' ∧ s'.Line = s.Line := by
  obtain ⟨f, b, s', h1, h2, h3, h4, h5, h6, h7⟩ := take_both hs false
  unfold g_ref07_Scanner_Number g_lines_Scanner_Number
  rw [h1, h2]
  cases b with
  | false => exact ⟨_, _, rfl, rfl, h3, h4⟩
  | true =>
    simp only [Option.bind_some, if_true, ref_Number_eq f.Text lo hi (by omega), lines_Number_eq f.Text lo hi (by omega)]
    by_cases hn : (numS f.Text lo hi).2 = 0
    · rw [if_neg (by simpa using hn), if_neg (by simpa using hn)]
      exact ⟨_, _, rfl, rfl, h3, h4⟩
    · rw [if_pos (by simpa using hn), if_pos (by simpa using hn), (h6 rfl).2, numS_0 hn]
      obtain ⟨s2, k1, k2, k3, k4, k5⟩ := note_toP s' (e := (numS f.Text lo hi).2) f.Column hn h3
      rw [k1, k2]
      exact ⟨_, _, rfl, rfl, k3, k5.trans h4⟩
theorem end_both {s : T_captionerref07_Scanner} (hs : SOK s) : ∃ d b, g_ref07_Scanner_End s = some (d, b, s) ∧ g_lines_Scanner_End (toP s) = some (d, b, toP s) ∧ (b = true → d.Line = s.Line.Number ∧ d.Code ≠ 0) ∧ (b = false → d = ⟨0, 0, 0⟩ ∧ s.Code = 0) := by
  unfold g_ref07_Scanner_End g_lines_Scanner_End
  rw [toP_code]
  by_cases hc : s.Code = 0
  · have hc1 : ¬ (s.Code != 0) = true := by simpa using hc
    rw [if_neg hc1, if_neg hc1]
    obtain ⟨h1, h2, h3, h4⟩ := hs
    unfold g_ref07_Scanner_Left
    rw [if_neg hc1, wr64 (x := (s.Line.Fields.length : Int) - s.At) (by omega)]
    simp only [Option.bind_some]
    have e1 : (toP s).next_ = s.At := rfl
    have e2 : (toP s).line_ = s.Line := rfl
    rw [e1, e2]
    by_cases hz : s.At = s.Line.Fields.length
    · rw [if_neg (by simp; omega), if_neg (by simp; omega)]
      exact ⟨_, _, rfl, rfl, fun h => (nomatch h), fun _ => ⟨rfl, hc⟩⟩
    · rw [if_pos (by simp; omega), if_pos (by simp; omega)]
      obtain ⟨y, hy, hm, hg⟩ := atI_some (l := s.Line.Fields) (n := s.At) h1 (by omega)
      rw [hy]
      exact ⟨_, _, rfl, rfl, fun _ => ⟨rfl, show (4 : Int) ≠ 0 by decide⟩, fun h => (nomatch h)⟩
  · have hc1 : (s.Code != 0) = true := by simpa using hc
    rw [if_pos hc1, if_pos hc1]
    refine ⟨_, _, rfl, ?_, fun _ => ⟨rfl, hc⟩, fun h => (nomatch h)⟩
    unfold toP
    simp [hc]
section
variable {src : List UInt8} {o o2 : List T_api_Line} {d d2 : List T_api_Diag} {n st i n2 st2 i2 : Int}
theorem zs_go (h : g_ref07_Split_s1 src (o, d, n, st, i) = some (.go (o2, d2, n2, st2, i2))) : (d2 = d ∧ g_ref07_Split_z_s1 src (o, n, st, i) = some (.go (o2, n2, st2, i2))) ∨ d2 ≠ [] := by
  unfold g_ref07_Split_s1 at h
  unfold g_ref07_Split_z_s1
  dsimp only at h ⊢
  by_cases h1 : i ≤ (src.length : Int)
  · simp only [h1, decide_true, if_true] at h ⊢
    obtain ⟨v, hv, h⟩ := bind_some h
    injection h with h
    injection h with h
    obtain ⟨w, hw, hv⟩ := bind_some hv
    rw [hw]
    simp only [Option.bind_some]
    cases w with
    | true =>
      simp only [if_true] at hv ⊢
      injection hv with hv
      subst hv
      injection h with e1 h
      injection h with e2 h
      injection h with e3 h
      injection h with e4 e5
      left
      exact ⟨e2.symm, by rw [← e1, ← e3, ← e4, ← e5]⟩
    | false =>
      simp only [Bool.false_eq_true, if_false] at hv ⊢
      obtain ⟨z, hz, hv⟩ := bind_some hv
      rw [hz]
      simp only [Option.bind_some]
      by_cases h2 : 1000 < (z.length : Int)
      · simp only [h2, decide_true, if_true] at hv
        split at hv
        · injection hv with hv
          subst hv
          injection h with e1 h
          injection h with e2 h
          right; rw [← e2]; simp
        · cases hv
      · simp only [h2, decide_false, Bool.false_eq_true, if_false] at hv ⊢
        obtain ⟨r, hr, hv⟩ := bind_some hv
        rw [hr]
        simp only [Option.bind_some]
        by_cases h3 : 0 ≤ r.2
        · simp only [h3, decide_true, if_true] at hv
          split at hv
          · injection hv with hv
            subst hv
            injection h with e1 h
            injection h with e2 h
            right; rw [← e2]; simp
          · cases hv
        · simp only [h3, decide_false, Bool.false_eq_true, if_false] at hv ⊢
          by_cases h4 : 0 < (r.1.length : Int)
          · simp only [h4, decide_true, if_true] at hv ⊢
            split at hv
            · rename_i h5
              rw [if_pos h5]
              injection hv with hv
              subst hv
              injection h with e1 h
              injection h with e2 h
              injection h with e3 h
              injection h with e4 e5
              left
              exact ⟨e2.symm, by rw [← e1, ← e3, ← e4, ← e5]⟩
            · cases hv
          · simp only [h4, decide_false, Bool.false_eq_true, if_false] at hv ⊢
            injection hv with hv
            subst hv
            injection h with e1 h
            injection h with e2 h
            injection h with e3 h
            injection h with e4 e5
            left
            exact ⟨e2.symm, by rw [← e1, ← e3, ← e4, ← e5]⟩
  · simp only [h1, decide_false, Bool.false_eq_true, if_false] at h
    cases h
theorem zs_out {e : List T_api_Line × List T_api_Diag} (h : g_ref07_Split_s1 src (o, d, n, st, i) = some (.out e)) : e = (o, d) ∧ g_ref07_Split_z_s1 src (o, n, st, i) = some (.out o) := by
  unfold g_ref07_Split_s1 at h
  unfold g_ref07_Split_z_s1
  dsimp only at h ⊢
  by_cases h1 : i ≤ (src.length : Int)
  · simp only [h1, decide_true, if_true] at h
    obtain ⟨v, hv, h⟩ := bind_some h
    cases h
  · simp only [h1, decide_false, Bool.false_eq_true, if_false] at h ⊢
    injection h with h
    injection h with h
    exact ⟨h.symm, by first | rfl | trivial⟩
end
theorem zs_keep {src : List UInt8} : ∀ (k : Nat) (o : List T_api_Line) (d : List T_api_Diag) (n st i : Int) (e : List T_api_Line × List T_api_Diag), iterN (g_ref07_Split_s1 src) k (o, d, n, st, i) = some e → e.2 = [] → d = [] ∧ iterN (g_ref07_Split_z_s1 src) k (o, n, st, i) = some e.1 := by
  intro k
  induction k with
  | zero => intro o d n st i e h; cases h
  | succ k ih =>
    intro o d n st i e h he
    simp only [iterN] at h ⊢
    cases hs : g_ref07_Split_s1 src (o, d, n, st, i) with
    | none => rw [hs] at h; cases h
    | some y =>
      rw [hs] at h
      cases y with
      | out e' =>
        obtain ⟨k1, k2⟩ := zs_out hs
        simp only [Option.some.injEq] at h
        subst h
        subst k1
        rw [k2]
        exact ⟨he, rfl⟩
      | go y =>
        obtain ⟨o2, d2, n2, st2, i2⟩ := y
        obtain ⟨q1, q2⟩ := ih o2 d2 n2 st2 i2 e h he
        rcases zs_go hs with ⟨k1, k2⟩ | k1
        · rw [k2]
          exact ⟨by rw [← k1]; exact q1, q2⟩
        · exact absurd q1 k1
theorem Split_n_eq (src : List UInt8) : g_ref07_Split_n src = some (splitS src) := by
  unfold g_ref07_Split_n
  rw [ref_Split_eq]
  simp only [Option.bind_some]
  cases hd : (splitS src).2 with
  | cons a l => simp
  | nil =>
    simp only [List.isEmpty_nil, if_true]
    have hz : g_ref07_Split_z src = some ((splitS src).1, []) := by
      have h0 := hd
      unfold splitS at h0
      unfold g_ref07_Split_z
      by_cases hl : 262144 < src.length
      · rw [if_pos hl] at h0; simp at h0
      · rw [if_neg hl] at h0
        simp only at h0
        have h1 : (allR 0 (spL src) ([], [])).2 = [] := by
          cases hx : (allR 0 (spL src) ([], [])).2 with
          | nil => rfl
          | cons a l => rw [hx] at h0; simp at h0
        have hit := ref_Split_loop src (by omega)
        unfold iter at hit
        have := (zs_keep _ _ _ _ _ _ _ hit h1).2
        have hl' : ¬ (262144 : Int) < (src.length : Int) := by omega
        simp only [hl', decide_false, Bool.false_eq_true, if_false]
        unfold iter
        rw [this]
        simp only [Option.bind_some]
        unfold splitS
        rw [if_neg hl]
    rw [hz]
    simp only [Option.bind_some]
    rw [← hd]
def lnOK (x : T_api_Line) : Prop := x.Fields.length ≤ 1000 ∧ ∀ f ∈ x.Fields, f.Text.length ≤ 1000
def dgOK (n : Nat) (ds : List T_api_Diag) : Prop := ds.Pairwise (fun a b => a.Line < b.Line) ∧ ∀ x ∈ ds, 1 ≤ x.Line ∧ x.Line ≤ (n : Int) ∧ x.Code ≠ 0
def lnsOK (n : Nat) (ls : List T_api_Line) : Prop := ls.Pairwise (fun a b => a.Number < b.Number) ∧ ∀ x ∈ ls, 1 ≤ x.Number ∧ x.Number ≤ (n : Int) ∧ x.Fields ≠ []
theorem dgOK_snoc {n m : Nat} {ds : List T_api_Diag} {g : T_api_Diag} (h : dgOK n ds) (hn : n ≤ m) (h1 : (n : Int) < g.Line) (h2 : g.Line ≤ (m : Int)) (h3 : g.Code ≠ 0) : dgOK m (ds ++ [g]) := by
  refine ⟨?_, fun x hx => ?_⟩
  · rw [List.pairwise_append]
    refine ⟨h.1, by simp, fun a ha b hb => ?_⟩
    simp at hb; subst hb
    have := (h.2 a ha).2.1
    omega
  · rcases List.mem_append.1 hx with hx | hx
    · have := h.2 x hx; exact ⟨this.1, by omega, this.2.2⟩
    · simp at hx; subst hx; exact ⟨by omega, h2, h3⟩
theorem lnsOK_snoc {n m : Nat} {ls : List T_api_Line} {g : T_api_Line} (h : lnsOK n ls) (hn : n ≤ m) (h1 : (n : Int) < g.Number) (h2 : g.Number ≤ (m : Int)) (h3 : g.Fields ≠ []) : lnsOK m (ls ++ [g]) := by
  refine ⟨?_, fun x hx => ?_⟩
  · rw [List.pairwise_append]
    refine ⟨h.1, by simp, fun a ha b hb => ?_⟩
    simp at hb; subst hb
    have := (h.2 a ha).2.1
    omega
  · rcases List.mem_append.1 hx with hx | hx
    · have := h.2 x hx; exact ⟨this.1, by omega, this.2.2⟩
    · simp at hx; subst hx; exact ⟨by omega, h2, h3⟩
theorem dgOK_mono {n m : Nat} {ds : List T_api_Diag} (h : dgOK n ds) (hn : n ≤ m) : dgOK m ds := ⟨h.1, fun x hx => ⟨(h.2 x hx).1, by have := (h.2 x hx).2.1; omega, (h.2 x hx).2.2⟩⟩
theorem lnsOK_mono {n m : Nat} {ls : List T_api_Line} (h : lnsOK n ls) (hn : n ≤ m) : lnsOK m ls := ⟨h.1, fun x hx => ⟨(h.2 x hx).1, by have := (h.2 x hx).2.1; omega, (h.2 x hx).2.2⟩⟩
theorem lr_num {n : Nat} {y : List UInt8} : (∀ g, lr n y = some (.inl g) → g.Line = ((n + 1 : Nat) : Int) ∧ g.Code ≠ 0) ∧ (∀ l, lr n y = some (.inr l) → l.Number = ((n + 1 : Nat) : Int) ∧ l.Fields ≠ []) := by
  unfold lr
  split
  · refine ⟨fun g h => ?_, fun l h => (by simp at h)⟩
    simp only [Option.some.injEq, Sum.inl.injEq] at h
    subst h
    exact ⟨rfl, show (9 : Int) ≠ 0 by decide⟩
  · split
    · refine ⟨fun g h => ?_, fun l h => (by simp at h)⟩
      simp only [Option.some.injEq, Sum.inl.injEq] at h
      subst h
      exact ⟨rfl, show (4 : Int) ≠ 0 by decide⟩
    · exact ⟨fun g h => (nomatch h), fun l h => (nomatch h)⟩
    · refine ⟨fun g h => (by simp at h), fun l h => ?_⟩
      simp only [Option.some.injEq, Sum.inr.injEq] at h
      subst h
      exact ⟨rfl, by simp⟩
theorem allR_good : ∀ (ys : List (List UInt8)) (n : Nat) (p : List T_api_Line × List T_api_Diag), lnsOK n p.1 → dgOK n p.2 → lnsOK (n + ys.length) (allR n ys p).1 ∧ dgOK (n + ys.length) (allR n ys p).2
  | [], n, p, h1, h2 => ⟨h1, h2⟩
  | y :: ys, n, p, h1, h2 => by
    have key : lnsOK (n + 1) (accL p (lr n y)).1 ∧ dgOK (n + 1) (accL p (lr n y)).2 := by
      obtain ⟨k1, k2⟩ := lr_num (n := n) (y := y)
      cases hl : lr n y with
      | none => exact ⟨lnsOK_mono h1 (by omega), dgOK_mono h2 (by omega)⟩
      | some v =>
        cases v with
        | inl g => exact ⟨lnsOK_mono h1 (by omega), dgOK_snoc h2 (by omega) (by rw [(k1 g hl).1]; omega) (by rw [(k1 g hl).1]; omega) (k1 g hl).2⟩
        | inr l => exact ⟨lnsOK_snoc h1 (by omega) (by rw [(k2 l hl).1]; omega) (by rw [(k2 l hl).1]; omega) (k2 l hl).2, dgOK_mono h2 (by omega)⟩
    have := allR_good ys (n + 1) _ key.1 key.2
    simp only [List.length_cons]
    rw [show n + (ys.length + 1) = n + 1 + ys.length by omega]
    exact this
theorem dgOK_take {n : Nat} {ds : List T_api_Diag} (h : dgOK n ds) (k : Nat) : dgOK n (ds.take k) := ⟨h.1.sublist (List.take_sublist _ _), fun x hx => h.2 x (List.mem_of_mem_take hx)⟩
theorem splitS_good (src : List UInt8) : lnsOK (spL src).length (splitS src).1 ∧ dgOK (spL src).length (splitS src).2 := by
  have hl := (spL_len src).1
  unfold splitS
  split
  · refine ⟨⟨by simp, by simp⟩, ⟨by simp, fun x hx => ?_⟩⟩
    simp at hx; subst hx
    exact ⟨by decide, by dsimp only; omega, by decide⟩
  · have := allR_good (spL src) 0 ([], []) ⟨by simp, by simp⟩ ⟨by simp, by simp⟩
    rw [Nat.zero_add] at this
    exact ⟨this.1, dgOK_take this.2 50⟩
theorem spL_app : ∀ (x t : List UInt8), (∀ b ∈ x, b.toNat ≠ 10) → spL (x ++ 10 :: t) = x :: spL t
  | [], t, _ => by
    rw [List.nil_append]
    simp only [spL]
    rw [if_pos (by decide)]
  | b :: x, t, h => by
    have ih := spL_app x t (fun y hy => h y (by simp [hy]))
    rw [List.cons_append]
    simp only [spL]
    rw [if_neg (h b (by simp)), ih]
theorem fS_word {w t : List UInt8} {p : Nat} (hw : plainW w) (ht : t = [] ∨ t.head? = some 32) : fS (w ++ t) p = (fS t (p + w.length)).cons ⟨w, ((p + 1 : Nat) : Int), false⟩ := by
  obtain ⟨h1, h2, h3⟩ := hw
  have hws := wS_app w t h2 ht
  cases w with
  | nil => exact absurd rfl h1
  | cons b w =>
    have hb := wB_facts (h2 b (by simp))
    have hb3 := h3 b (by simp)
    rw [List.cons_append] at hws ⊢
    rw [fS_cons, if_neg (by omega), if_neg hb3, if_neg (by omega), hws]
    simp only [List.length_cons, Nat.add_sub_cancel]
    rw [List.drop_left]
    congr 2
    rw [← List.cons_append, show w.length + 1 = (b :: w).length from rfl, List.take_left]
theorem fS_blank (t : List UInt8) (p : Nat) : fS (32 :: t) p = fS t (p + 1) := by rw [fS_cons, if_pos (by decide)]
theorem qS_back2 : ∀ (s t : List UInt8), s.all plB = true → (t = [] ∨ t.head? = some 32) → qS (s.flatMap quB ++ 34 :: t) = .ok s ((s.flatMap quB).length + 1)
  | [], t, _, ht => by
    rw [List.flatMap_nil, List.nil_append, qS_cons]
    have e1 : (34 : UInt8).toNat = 34 := by decide
    rw [if_pos e1]
    rcases ht with rfl | ht
    · simp
    · rw [ht]; simp
  | b :: s, t, h, ht => by
    simp only [List.all_cons, Bool.and_eq_true] at h
    rw [List.flatMap_cons, List.append_assoc, qS_quB b _ h.1, qS_back2 s t h.2 ht]
    simp only [QR.sh, List.length_append, List.cons_append, List.nil_append, QR.ok.injEq, true_and]
    omega
theorem fS_quote {s t : List UInt8} {p : Nat} (hs : s.all plB = true) (ht : t = [] ∨ t.head? = some 32) : ∃ q, fS (quS s ++ t) p = (fS t q).cons ⟨s, ((p + 1 : Nat) : Int), true⟩ := by
  unfold quS
  rw [List.cons_append, fS_cons, if_neg (by decide), if_neg (by decide), if_pos (by decide), List.append_assoc, List.cons_append, List.nil_append, qS_back2 s t hs ht]
  refine ⟨p + 1 + ((s.flatMap quB).length + 1), ?_⟩
  simp only
  congr 1
  rw [← List.drop_drop, List.drop_left]
  rfl
theorem join_no10 : ∀ (ws : List (List UInt8)), (∀ w ∈ ws, plainW w) → ∀ b ∈ Lib.join ws [32], b.toNat ≠ 10
  | [], _ => by simp [Lib.join_nil]
  | w :: ws, h => by
    rw [Lib.join_cons]
    intro b hb
    rcases List.mem_append.1 hb with hb | hb
    · exact plain_no10 (h w (by simp)) b hb
    · cases ws with
      | nil => simp [Lib.joinTail] at hb
      | cons v ws =>
        have e : Lib.joinTail [32] (v :: ws) = 32 :: Lib.join (v :: ws) [32] := by rw [Lib.join_cons]; simp [Lib.joinTail]
        rw [e] at hb
        rcases List.mem_cons.1 hb with rfl | hb
        · decide
        · exact join_no10 (v :: ws) (fun x hx => h x (List.mem_cons_of_mem _ hx)) b hb
theorem take_at {L : T_api_Line} {k : Nat} {f : T_api_Field} {q : Bool} (hl : L.Fields.length ≤ 1000) (hf : L.Fields[k]? = some f) (hq : f.Quoted = q) : g_ref07_Scanner_take ⟨L, (k : Int), 0, 0⟩ q = some (f, true, ⟨L, ((k + 1 : Nat) : Int), 0, 0⟩) := by
  have hk : k < L.Fields.length := (List.getElem?_eq_some_iff.1 hf).1
  have hw := wr64 (x := (L.Fields.length : Int) - (k : Int)) (by omega)
  have hw2 := wr64 (x := (k : Int) + 1) (by omega)
  have hat : atI L.Fields (k : Int) = some f := by simp [atI, hf]
  unfold g_ref07_Scanner_take g_ref07_Scanner_Left
  simp only [bne_self_eq_false, Bool.false_eq_true, if_false, hw, Option.bind_some]
  rw [if_neg (by rw [beq_iff_eq]; omega), hat]
  simp only [Option.bind_some, hq, beq_self_eq_true, if_true, hw2]
  rfl
theorem quoted_at {L : T_api_Line} {k : Nat} {f : T_api_Field} (hl : L.Fields.length ≤ 1000) (hf : L.Fields[k]? = some f) (hq : f.Quoted = true) : g_ref07_Scanner_Quoted ⟨L, (k : Int), 0, 0⟩ = some (f.Text, ⟨L, ((k + 1 : Nat) : Int), 0, 0⟩) := by
  unfold g_ref07_Scanner_Quoted
  rw [take_at hl hf hq]; rfl
theorem name_at {L : T_api_Line} {k : Nat} {f : T_api_Field} (hl : L.Fields.length ≤ 1000) (hf : L.Fields[k]? = some f) (hq : f.Quoted = false) (hn : isNm f.Text = true) : g_ref07_Scanner_Name ⟨L, (k : Int), 0, 0⟩ false = some (f.Text, ⟨L, ((k + 1 : Nat) : Int), 0, 0⟩) := by
  unfold g_ref07_Scanner_Name
  rw [take_at hl hf hq]
  simp only [Option.bind_some, if_true, Bool.false_eq_true, if_false, ref07_Name_eq, hn]
theorem number_at {L : T_api_Line} {k : Nat} {f : T_api_Field} {n lo hi : Int} (hl : L.Fields.length ≤ 1000) (hf : L.Fields[k]? = some f) (hq : f.Quoted = false) (hn : g_ref07_Number f.Text lo hi = some (n, 0)) : g_ref07_Scanner_Number ⟨L, (k : Int), 0, 0⟩ lo hi = some (n, ⟨L, ((k + 1 : Nat) : Int), 0, 0⟩) := by
  unfold g_ref07_Scanner_Number
  rw [take_at hl hf hq]
  simp only [Option.bind_some, if_true, hn, bne_self_eq_false, Bool.false_eq_true, if_false]
theorem choice_at {L : T_api_Line} {k : Nat} {f : T_api_Field} {ws : List (List UInt8)} (hl : L.Fields.length ≤ 1000) (hf : L.Fields[k]? = some f) (hq : f.Quoted = false) (i : Nat) (hw : ws.length ≤ 1000) (hi : ws[i]? = some f.Text) (hb : ∀ j, j < i → ws[j]? ≠ some f.Text) : g_ref07_Scanner_Choice ⟨L, (k : Int), 0, 0⟩ ws = some ((i : Int), ⟨L, ((k + 1 : Nat) : Int), 0, 0⟩) := by
  have hil := (List.getElem?_eq_some_iff.1 hi).1
  unfold g_ref07_Scanner_Choice
  rw [take_at hl hf hq]
  simp only [Option.bind_some, if_true]
  have key : iter (g_ref07_Scanner_Choice_s1 ws (f, true, ⟨L, ((k + 1 : Nat) : Int), 0, 0⟩)) 0 = some (.inl (i : Int)) := by
    refine iter_chain (fun j => (j : Int)) i (by omega) (fun j hj => ?_) ?_
    · have hjl : j < ws.length := by omega
      have hwr := wr64 (x := (j : Int) + 1) (by omega)
      simp only [g_ref07_Scanner_Choice_s1, atI_nat hjl, Option.bind_some, hwr]
      rw [if_pos (by simpa using hjl), if_neg (fun e => hb j hj (by rw [List.getElem?_eq_getElem hjl]; simpa using e))]
      rfl
    · have e : ws[i] = f.Text := by
        have := List.getElem?_eq_getElem hil
        rw [hi] at this; injection this with this; exact this.symm
      simp only [g_ref07_Scanner_Choice_s1, atI_nat hil, Option.bind_some]
      rw [if_pos (by simpa using hil), if_pos (by simp [e])]
  rw [key]
  rfl
theorem left_at {L : T_api_Line} {k : Nat} (hl : L.Fields.length ≤ 1000) (hk : k ≤ L.Fields.length) : g_ref07_Scanner_Left ⟨L, (k : Int), 0, 0⟩ = some ((L.Fields.length : Int) - (k : Int), ⟨L, (k : Int), 0, 0⟩) := by
  unfold g_ref07_Scanner_Left
  simp only [bne_self_eq_false, Bool.false_eq_true, if_false]
  rw [wr64 (by omega)]
theorem end_at {L : T_api_Line} (hl : L.Fields.length ≤ 1000) : g_ref07_Scanner_End ⟨L, (L.Fields.length : Int), 0, 0⟩ = some (⟨0, 0, 0⟩, false, ⟨L, (L.Fields.length : Int), 0, 0⟩) := by
  unfold g_ref07_Scanner_End
  rw [left_at hl (Nat.le_refl _)]
  simp
theorem gv_pl {t : List UInt8} (h : gv t = true) : t.all plB = true := by
  rw [List.all_eq_true]
  intro b hb
  have := gv_bytes t.length t (Nat.le_refl _) h b hb
  simp only [plB, Bool.or_eq_true, Bool.and_eq_true, decide_eq_true_eq, bne_iff_ne, ne_eq, beq_iff_eq]
  left; omega
theorem quB_no10 {b : UInt8} (h : 32 ≤ b.toNat) : ∀ x ∈ quB b, x.toNat ≠ 10 := by
  intro x hx
  unfold quB at hx
  split at hx
  · simp only [List.mem_cons, List.not_mem_nil, or_false] at hx
    rcases hx with rfl | rfl
    · decide
    · omega
  · rw [if_neg (by omega)] at hx
    simp at hx
    subst hx; omega
end Go.Proofs.YtedhognhhcihpaaGreatDoor
namespace Go.Proofs.YtedhognhhcihpaaGreatDoor
set_option maxRecDepth 100000
def zP : T_api_Profile := ⟨[], 0, 0, 0, 0, 0, 0, 0, 0, [], 0, 0, 0, 0⟩
def rnL (l : List UInt8) : List Int := if h : l = [] then [] else (((decL l).1 : Nat) : Int) :: rnL (l.drop (decL l).2)
termination_by l.length
decreasing_by
  have h1 := decL_wd h
  have h2 := List.length_pos_iff.2 h
  simp only [List.length_drop]; omega
theorem rnL_nil : rnL [] = [] := by unfold rnL; simp
theorem rnL_ne {l : List UInt8} (h : l ≠ []) : rnL l = (((decL l).1 : Nat) : Int) :: rnL (l.drop (decL l).2) := by rw [rnL, dif_neg h]
theorem rnL_at {s : List UInt8} {p : Nat} (h : p < s.length) : rnL (s.drop p) = runeAt s p :: rnL (s.drop (p + widthAt s p)) := by
  have hne : s.drop p ≠ [] := by
    intro e
    have := congrArg List.length e
    simp at this; omega
  rw [rnL_ne hne]
  unfold runeAt widthAt
  rw [List.drop_drop]
theorem rnL_end {s : List UInt8} {p : Nat} (h : s.length ≤ p) : rnL (s.drop p) = [] := by rw [List.drop_eq_nil_of_le h, rnL_nil]
theorem rnL_len : ∀ (n : Nat) (l : List UInt8), l.length ≤ n → (rnL l).length ≤ l.length
  | 0, l, h => by
    have : l = [] := List.eq_nil_of_length_eq_zero (by omega)
    subst this; rw [rnL_nil]; simp
  | n + 1, l, h => by
    by_cases hl : l = []
    · subst hl; rw [rnL_nil]; simp
    · have h1 := decL_wd hl
      have h2 := List.length_pos_iff.2 hl
      have ih := rnL_len n (l.drop (decL l).2) (by simp only [List.length_drop]; omega)
      rw [rnL_ne hl, List.length_cons]
      simp only [List.length_drop] at ih
      omega
theorem rnL_pos : ∀ (n : Nat) (l : List UInt8), l.length ≤ n → ∀ x ∈ rnL l, 0 ≤ x
  | 0, l, h => by
    have : l = [] := List.eq_nil_of_length_eq_zero (by omega)
    subst this; rw [rnL_nil]; simp
  | n + 1, l, h => by
    by_cases hl : l = []
    · subst hl; rw [rnL_nil]; simp
    · have h1 := decL_wd hl
      have h2 := List.length_pos_iff.2 hl
      have ih := rnL_pos n (l.drop (decL l).2) (by simp only [List.length_drop]; omega)
      rw [rnL_ne hl]
      intro x hx
      rcases List.mem_cons.1 hx with rfl | hx
      · omega
      · exact ih x hx
def ascF : Int → List Int → Bool
  | _, [] => true
  | a, x :: l => decide (a < x) && ascF x l
theorem runes_eq (s : List UInt8) (hs : s.length ≤ 1000) : g_ref08_runes s = some (rnL s) := by
  unfold g_ref08_runes
  have key : iter (g_ref08_runes_s1 s) ([], 0) = some (rnL s) := by
    refine iter_of (fun x e => x.1.length ≤ x.2 ∧ x.1.length ≤ 1000 ∧ e = x.1 ++ rnL (s.drop x.2)) (fun x => s.length - x.2) ?_ (x := ([], 0)) ⟨Nat.le_refl _, by simp, by simp⟩ (by show s.length - 0 < _; omega)
    rintro ⟨o, p⟩ e ⟨h1, h2, rfl⟩
    dsimp only at h1 h2 ⊢
    unfold g_ref08_runes_s1
    dsimp only
    by_cases h : p < s.length
    · left
      have hw : 1 ≤ widthAt s p := wd_pos h
      refine ⟨(o ++ [runeAt s p], p + widthAt s p), ?_, ⟨?_, ?_, ?_⟩, ?_⟩
      · rw [if_pos (by simpa using h), if_pos (by omega)]
      · simp; omega
      · simp; omega
      · dsimp only
        rw [rnL_at h, List.append_assoc]; rfl
      · dsimp only; omega
    · right
      rw [if_neg (by simpa using h), rnL_end (by omega)]
      simp
  rw [key]; rfl
theorem Chars_eq (s : List UInt8) (hs : s.length ≤ 1000) : g_ref08_Chars s = some (if gv s then rnL s else []) := by
  unfold g_ref08_Chars
  rw [ref_Valid_eq s (by omega)]
  cases gv s
  · rfl
  · simp only [Option.bind_some, if_true]
    rw [runes_eq s hs]; rfl
theorem prog_asc (p : T_api_Profile) (hs : p.Forbidden.length ≤ 1000) : iter (g_profile_Check_s2 p) (-1, 0) = some (if ascF (-1) (rnL p.Forbidden) then .inr () else .inl ()) := by
  refine iter_of (fun x e => e = if ascF x.1 (rnL (p.Forbidden.drop x.2)) then .inr () else .inl ()) (fun x => p.Forbidden.length - x.2) ?_ (x := (-1, 0)) (by simp) (by show p.Forbidden.length - 0 < _; omega)
  rintro ⟨a, q⟩ e rfl
  dsimp only
  unfold g_profile_Check_s2
  dsimp only
  by_cases h : q < p.Forbidden.length
  · have hw : 1 ≤ widthAt p.Forbidden q := wd_pos h
    rw [if_pos (by simpa using h), rnL_at h]
    by_cases hr : runeAt p.Forbidden q ≤ a
    · right
      rw [if_pos (by simpa using hr)]
      simp [ascF, show ¬ a < runeAt p.Forbidden q from by omega]
    · left
      rw [if_neg (by simpa using hr)]
      refine ⟨_, rfl, ?_, by dsimp only; omega⟩
      simp [ascF, show a < runeAt p.Forbidden q from by omega]
  · right
    rw [if_neg (by simpa using h), rnL_end (by omega)]
    simp [ascF]
theorem asc_at (l : List Int) {i : Nat} (h0 : 1 ≤ i) (h : i < l.length) : ascF (l[i - 1]'(by omega)) (l.drop i) = (decide (l[i - 1]'(by omega) < l[i]) && ascF l[i] (l.drop (i + 1))) := by
  rw [List.drop_eq_getElem_cons h]
  rfl
theorem ref_asc (l : List Int) (hl : l.length ≤ 1000) (hp : ∀ x ∈ l, 0 ≤ x) : iter (g_ref39_Check_s1 l) 1 = some (if ascF (-1) l then .inr () else .inl ()) := by
  by_cases hn : l = []
  · subst hn
    refine iter_of (fun (x : Int) (e : Unit ⊕ Unit) => x = 1 ∧ e = .inr ()) (fun _ => 0) ?_ ⟨rfl, rfl⟩ (by omega)
    rintro x e ⟨rfl, rfl⟩
    right
    rfl
  · have hpos := List.length_pos_iff.2 hn
    have e0 : ascF (-1) l = ascF (l[0]'hpos) (l.drop 1) := by
      obtain ⟨a, t, rfl⟩ := List.exists_cons_of_ne_nil hn
      have := hp a (by simp)
      simp [ascF]; intro; omega
    rw [e0]
    refine iter_of (fun (x : Int) e => ∃ (i : Nat) (h1 : 1 ≤ i) (h2 : i ≤ l.length), x = (i : Int) ∧ e = if ascF (l[i - 1]'(by omega)) (l.drop i) then Sum.inr () else Sum.inl ()) (fun x => l.length - x.toNat) ?_ (x := 1) ⟨1, Nat.le_refl _, hpos, rfl, rfl⟩ (by show l.length - _ < _; omega)
    rintro x e ⟨i, h1, h2, rfl, rfl⟩
    unfold g_ref39_Check_s1
    by_cases h : i < l.length
    · rw [if_pos (by simpa using h), atI_nat h]
      have e1 : IntKind.i64.wrap ((i : Int) - 1) = ((i - 1 : Nat) : Int) := by rw [wr64 (by omega)]; omega
      simp only [Option.bind_some, e1]
      rw [atI_nat (show i - 1 < l.length by omega), asc_at l h1 h]
      simp only [Option.bind_some]
      by_cases hr : l[i] ≤ l[i - 1]'(by omega)
      · right
        rw [if_pos (by simpa using hr)]
        simp [show ¬ (l[i - 1]'(by omega) < l[i]) from by omega]
      · left
        rw [if_neg (by simpa using hr)]
        refine ⟨((i + 1 : Nat) : Int), by rw [wr64 (by omega)]; rfl, ⟨i + 1, by omega, h, rfl, ?_⟩, by omega⟩
        simp [show l[i - 1]'(by omega) < l[i] from by omega]
    · right
      rw [if_neg (by simpa using h)]
      have : i = l.length := by omega
      subst this
      simp [ascF]
def okR (p : T_api_Profile) : Prop := (1 ≤ p.Reading ∧ p.Reading ≤ 10000) ∧ (1 ≤ p.MinFrames ∧ p.MinFrames ≤ 5184000) ∧ (1 ≤ p.MaxFrames ∧ p.MaxFrames ≤ 5184000) ∧ (0 ≤ p.MinGap ∧ p.MinGap ≤ 1000) ∧ (0 ≤ p.ShotBefore ∧ p.ShotBefore ≤ 1000) ∧ (0 ≤ p.ShotAfter ∧ p.ShotAfter ≤ 1000) ∧ (1 ≤ p.Rows ∧ p.Rows ≤ 4) ∧ (1 ≤ p.Cols ∧ p.Cols ≤ 32) ∧ (0 ≤ p.SafeTop ∧ p.SafeTop ≤ 31) ∧ (0 ≤ p.SafeBottom ∧ p.SafeBottom ≤ 31) ∧ (0 ≤ p.SafeLeft ∧ p.SafeLeft ≤ 31) ∧ (0 ≤ p.SafeRight ∧ p.SafeRight ≤ 31)
instance (p : T_api_Profile) : Decidable (okR p) := by unfold okR; infer_instance
def ckS (p : T_api_Profile) : Int :=
  if isNm p.Name = false then 5 else if ¬ okR p then 2 else if 15 ≤ p.SafeTop + p.SafeBottom ∨ 32 ≤ p.SafeLeft + p.SafeRight then 2 else if p.MaxFrames < p.MinFrames then 8 else if gv p.Forbidden = false then 10 else if ascF (-1) (rnL p.Forbidden) then 0 else 8
def lmL (p : T_api_Profile) : List T_profile_limit := [⟨p.Reading, 1, 10000⟩, ⟨p.MinFrames, 1, 5184000⟩, ⟨p.MaxFrames, 1, 5184000⟩, ⟨p.MinGap, 0, 1000⟩, ⟨p.ShotBefore, 0, 1000⟩, ⟨p.ShotAfter, 0, 1000⟩, ⟨p.Rows, 1, 4⟩, ⟨p.Cols, 1, 32⟩, ⟨p.SafeTop, 0, 31⟩, ⟨p.SafeBottom, 0, 31⟩, ⟨p.SafeLeft, 0, 31⟩, ⟨p.SafeRight, 0, 31⟩]
theorem limits_eq (p : T_api_Profile) : g_profile_limits p = some (lmL p) := by
  unfold g_profile_limits
  rw [show iter (g_profile_limits_s1 p) (0, [(T_profile_limit.mk p.Reading 1 10000), (T_profile_limit.mk p.MinFrames 1 5184000), (T_profile_limit.mk p.MaxFrames 1 5184000), (T_profile_limit.mk p.MinGap 0 1000), (T_profile_limit.mk p.ShotBefore 0 1000), (T_profile_limit.mk p.ShotAfter 0 1000), (T_profile_limit.mk p.Rows 1 4), (T_profile_limit.mk p.Cols 1 32)]) = some (lmL p) from rfl]
  rfl
theorem limits_loop (l : List T_profile_limit) (hl : l.length ≤ 1000) : iter (g_profile_Check_s1 l) 0 = some (if l.all fun y => decide (y.lo_ ≤ y.n_) && decide (y.n_ ≤ y.hi_) then .inr () else .inl ()) := by
  have := iter_idx (step := g_profile_Check_s1 l) l.length (by omega) (fun i => if (l.drop i).all fun y => decide (y.lo_ ≤ y.n_) && decide (y.n_ ≤ y.hi_) then .inr () else .inl ()) (fun i hi => ?_) ?_
  · simpa using this
  · unfold g_profile_Check_s1
    rw [if_pos (by simpa using hi), atI_nat hi, List.drop_eq_getElem_cons hi, wr64 (by omega)]
    simp only [Option.bind_some, List.all_cons]
    by_cases h1 : l[i].n_ < l[i].lo_
    · right; simp [h1, show ¬ l[i].lo_ ≤ l[i].n_ from by omega]
    · by_cases h2 : l[i].hi_ < l[i].n_
      · right; simp [h1, h2, show ¬ l[i].n_ ≤ l[i].hi_ from by omega]
      · left; simp [h1, h2, show l[i].lo_ ≤ l[i].n_ from by omega, show l[i].n_ ≤ l[i].hi_ from by omega]
  · unfold g_profile_Check_s1
    rw [if_neg (by simp)]
    simp
theorem lm_all (p : T_api_Profile) : ((lmL p).all fun y => decide (y.lo_ ≤ y.n_) && decide (y.n_ ≤ y.hi_)) = decide (okR p) := by
  rw [Bool.eq_iff_iff, decide_eq_true_iff]
  unfold lmL okR
  simp only [List.all_cons, List.all_nil, Bool.and_true, Bool.and_eq_true, decide_eq_true_eq]
theorem prog_Check (p : T_api_Profile) (h1 : p.Name.length ≤ 1000) (h2 : p.Forbidden.length ≤ 1000) : g_profile_Check p = some (ckS p) := by
  unfold g_profile_Check ckS
  rw [lines_Name_eq p.Name, limits_eq, prog_Valid_eq p.Forbidden (by omega)]
  simp only [Option.bind_some]
  cases hn : isNm p.Name
  · rfl
  rw [limits_loop _ (by simp [lmL]), lm_all, prog_asc p h2]
  simp only [Option.bind_some, if_true, Bool.true_eq_false, if_false]
  by_cases hr : okR p
  · have hr' := hr
    unfold okR at hr'
    rw [wr64 (by omega), wr64 (by omega)]
    simp only [hr, decide_true, if_true, not_true, if_false]
    by_cases q1 : 15 ≤ p.SafeTop + p.SafeBottom
    · simp [q1]
    · by_cases q2 : 32 ≤ p.SafeLeft + p.SafeRight
      · simp [q1, q2]
      · simp only [q1, q2, decide_false, Bool.false_eq_true, if_false, Option.bind_some, false_or]
        by_cases q3 : p.MaxFrames < p.MinFrames
        · simp [q3]
        · simp only [q3, decide_false, Bool.false_eq_true, if_false]
          cases gv p.Forbidden
          · rfl
          · cases ascF (-1) (rnL p.Forbidden) <;> rfl
  · simp only [hr, decide_false, Bool.false_eq_true, if_false, not_false_eq_true, if_true]
theorem within_eq (n lo hi : Int) : g_ref39_within n lo hi = some (decide (lo ≤ n ∧ n ≤ hi)) := by
  unfold g_ref39_within
  by_cases h : lo ≤ n <;> simp [h]
theorem inside_eq (n lo hi : Int) : g_ref39_inside n lo hi = some (decide (lo ≤ n ∧ n ≤ hi)) := by
  unfold g_ref39_inside
  by_cases h : lo ≤ n <;> simp [h]
theorem ref_Check (p : T_api_Profile) (h1 : p.Name.length ≤ 1000) (h2 : p.Forbidden.length ≤ 1000) : g_ref39_Check p = some (ckS p) := by
  unfold g_ref39_Check ckS
  rw [ref07_Name_eq p.Name, ref_Valid_eq p.Forbidden (by omega), Chars_eq p.Forbidden h2]
  simp only [Option.bind_some, within_eq, inside_eq]
  cases hn : isNm p.Name
  · rfl
  simp only [if_true, Bool.true_eq_false, if_false]
  by_cases hr : okR p
  · have hr' := hr
    unfold okR at hr'
    obtain ⟨a1, a2, a3, a4, a5, a6, a7, a8, a9, b1, b2, b3⟩ := hr'
    rw [wr64 (by omega), wr64 (by omega)]
    simp only [a1, a2, a3, a4, a5, a6, a7, a8, a9, b1, b2, b3, and_self, decide_true, if_true, Bool.not_true, Bool.false_eq_true, if_false, Option.bind_some, hr, not_true]
    by_cases q1 : 15 ≤ p.SafeTop + p.SafeBottom
    · simp [q1, show 14 < p.SafeTop + p.SafeBottom from by omega]
    · by_cases q2 : 32 ≤ p.SafeLeft + p.SafeRight
      · simp [q1, q2, show ¬ 14 < p.SafeTop + p.SafeBottom from by omega, show 31 < p.SafeLeft + p.SafeRight from by omega]
      · simp only [q1, q2, show ¬ 14 < p.SafeTop + p.SafeBottom from by omega, show ¬ 31 < p.SafeLeft + p.SafeRight from by omega, decide_false, Bool.false_eq_true, if_false, Option.bind_some, false_or]
        by_cases q3 : p.MaxFrames < p.MinFrames
        · simp [q3]
        · simp only [q3, decide_false, Bool.false_eq_true, if_false]
          cases hg : gv p.Forbidden
          · rfl
          · simp only [if_true, Option.bind_some]
            rw [ref_asc _ (Nat.le_trans (rnL_len _ _ (Nat.le_refl _)) h2) (rnL_pos _ _ (Nat.le_refl _))]
            cases ascF (-1) (rnL p.Forbidden) <;> rfl
  · have hr' := hr
    unfold okR at hr'
    simp only [hr, not_false_eq_true, if_true]
    by_cases c0 : 1 ≤ p.Reading ∧ p.Reading ≤ 10000
    rotate_left
    · simp only [c0, decide_false, Bool.false_eq_true, if_false, Bool.not_false, Option.bind_some, if_true]
    simp only [c0, and_self, decide_true, if_true, Option.bind_some, Bool.not_true, Bool.false_eq_true, if_false]
    by_cases c1 : 1 ≤ p.MinFrames ∧ p.MinFrames ≤ 5184000
    rotate_left
    · simp only [c1, decide_false, Bool.false_eq_true, if_false, Bool.not_false, Option.bind_some, if_true]
    simp only [c1, and_self, decide_true, if_true, Option.bind_some, Bool.not_true, Bool.false_eq_true, if_false]
    by_cases c2 : 1 ≤ p.MaxFrames ∧ p.MaxFrames ≤ 5184000
    rotate_left
    · simp only [c2, decide_false, Bool.false_eq_true, if_false, Bool.not_false, Option.bind_some, if_true]
    simp only [c2, and_self, decide_true, if_true, Option.bind_some, Bool.not_true, Bool.false_eq_true, if_false]
    by_cases c3 : 0 ≤ p.MinGap ∧ p.MinGap ≤ 1000
    rotate_left
    · simp only [c3, decide_false, Bool.false_eq_true, if_false, Bool.not_false, Option.bind_some, if_true]
    simp only [c3, and_self, decide_true, if_true, Option.bind_some, Bool.not_true, Bool.false_eq_true, if_false]
    by_cases c4 : 0 ≤ p.ShotBefore ∧ p.ShotBefore ≤ 1000
    rotate_left
    · simp only [c4, decide_false, Bool.false_eq_true, if_false, Bool.not_false, Option.bind_some, if_true]
    simp only [c4, and_self, decide_true, if_true, Option.bind_some, Bool.not_true, Bool.false_eq_true, if_false]
    by_cases c5 : 0 ≤ p.ShotAfter ∧ p.ShotAfter ≤ 1000
    rotate_left
    · simp only [c5, decide_false, Bool.false_eq_true, if_false, Bool.not_false, Option.bind_some, if_true]
    simp only [c5, and_self, decide_true, if_true, Option.bind_some, Bool.not_true, Bool.false_eq_true, if_false]
    by_cases c6 : 1 ≤ p.Rows ∧ p.Rows ≤ 4
    rotate_left
    · simp only [c6, decide_false, Bool.false_eq_true, if_false, Bool.not_false, Option.bind_some, if_true]
    simp only [c6, and_self, decide_true, if_true, Option.bind_some, Bool.not_true, Bool.false_eq_true, if_false]
    by_cases c7 : 1 ≤ p.Cols ∧ p.Cols ≤ 32
    rotate_left
    · simp only [c7, decide_false, Bool.false_eq_true, if_false, Bool.not_false, Option.bind_some, if_true]
    simp only [c7, and_self, decide_true, if_true, Option.bind_some, Bool.not_true, Bool.false_eq_true, if_false]
    by_cases c8 : 0 ≤ p.SafeTop ∧ p.SafeTop ≤ 31
    rotate_left
    · simp only [c8, decide_false, Bool.false_eq_true, if_false, Bool.not_false, Option.bind_some, if_true]
    simp only [c8, and_self, decide_true, if_true, Option.bind_some, Bool.not_true, Bool.false_eq_true, if_false]
    by_cases c9 : 0 ≤ p.SafeBottom ∧ p.SafeBottom ≤ 31
    rotate_left
    · simp only [c9, decide_false, Bool.false_eq_true, if_false, Bool.not_false, Option.bind_some, if_true]
    simp only [c9, and_self, decide_true, if_true, Option.bind_some, Bool.not_true, Bool.false_eq_true, if_false]
    by_cases c10 : 0 ≤ p.SafeLeft ∧ p.SafeLeft ≤ 31
    rotate_left
    · simp only [c10, decide_false, Bool.false_eq_true, if_false, Bool.not_false, Option.bind_some, if_true]
    simp only [c10, and_self, decide_true, if_true, Option.bind_some, Bool.not_true, Bool.false_eq_true, if_false]
    by_cases c11 : 0 ≤ p.SafeRight ∧ p.SafeRight ≤ 31
    rotate_left
    · simp only [c11, decide_false, Bool.false_eq_true, if_false, Bool.not_false, Option.bind_some, if_true]
    simp only [c11, and_self, decide_true, if_true, Option.bind_some, Bool.not_true, Bool.false_eq_true, if_false]
    exact absurd ⟨c0, c1, c2, c3, c4, c5, c6, c7, c8, c9, c10, c11⟩ hr'
end Go.Proofs.YtedhognhhcihpaaGreatDoor
namespace Go.Proofs.YtedhognhhcihpaaGreatDoor
set_option maxRecDepth 100000
def fdT (f : T_api_Field) : List UInt8 := if f.Quoted then quS f.Text else f.Text
def fOK (f : T_api_Field) : Prop := f.Text.length ≤ 1000 ∧ (f.Quoted = false → plainW f.Text)
def lnT (l : T_api_Line) : List UInt8 := Lib.join (l.Fields.map fdT) [32] ++ [10]
theorem word_some (s : List UInt8) (hs : s.length ≤ 1000) : ∃ r, g_lines_word s = some r := by
  by_cases h : ∃ h : 0 < s.length, s[0].toNat = 35
  · obtain ⟨h0, h1⟩ := h
    have e : iter (g_lines_word_s1 s) 0 = some (.inl (0, 0)) := by
      refine iter_of (fun x e => x = 0 ∧ e = .inl (0, 0)) (fun _ => 0) ?_ ⟨rfl, rfl⟩ (by omega)
      rintro x e ⟨rfl, rfl⟩
      right
      unfold g_lines_word_s1
      rw [if_pos (by simpa using h0), show atI s 0 = some s[0] from atI_nat (n := 0) h0]
      simp only [Option.bind_some, h1]
      rfl
    unfold g_lines_word
    rw [e]
    exact ⟨_, rfl⟩
  · exact ⟨_, lines_word_eq s (by omega) (fun h0 h1 => h ⟨h0, h1⟩)⟩
theorem fld_v {f : T_api_Field} (h : fOK f) : ∃ r, g_lines_word f.Text = some r ∧ (if f.Quoted = true then some true else if (f.Text == ([] : List UInt8)) = true then some true else if decide (0 ≤ r.2) = true then some true else some (r.1 != (f.Text.length : Int))) = some f.Quoted := by
  cases hq : f.Quoted
  · obtain ⟨h1, h2, h3⟩ := h.2 hq
    have hw : wS f.Text = .inl f.Text.length := by
      have := wS_app f.Text [] h2 (.inl rfl)
      simpa using this
    refine ⟨_, lines_word_eq f.Text (by have := h.1; omega) (fun h0 => h3 _ (List.getElem_mem h0)), ?_⟩
    rw [hw]
    simp [wres, h1]
  · obtain ⟨r, hr⟩ := word_some f.Text h.1
    exact ⟨r, hr, rfl⟩
theorem fdT_len {f : T_api_Field} (h : fOK f) : (fdT f).length ≤ 3000 := by
  have h1 := qu_len f.Text
  have h2 := h.1
  unfold fdT quS
  cases f.Quoted
  · simp; omega
  · simp only [if_true, List.length_cons, List.length_append, List.length_nil]; omega
def pj (L : List (List UInt8)) (k : Nat) : List UInt8 := Lib.join (L.take k) [32]
theorem pj_1 {L : List (List UInt8)} (h : 0 < L.length) : pj L 1 = L[0] := by
  cases L with
  | nil => simp at h
  | cons a t => simp [pj, Lib.join_one]
theorem pj_s {L : List (List UInt8)} {k : Nat} (h0 : 0 < k) (h : k < L.length) : pj L (k + 1) = pj L k ++ [32] ++ L[k] := by
  cases L with
  | nil => simp at h
  | cons a t =>
    obtain ⟨j, rfl⟩ : ∃ j, k = j + 1 := ⟨k - 1, by omega⟩
    simp only [List.length_cons] at h
    simp only [pj, List.take_succ_cons, Lib.join_cons, List.getElem_cons_succ]
    rw [Lib.joinTail_take_succ [32] t j (t[j]'(by omega)) (List.getElem?_eq_getElem (by omega))]
    simp only [List.append_assoc]
theorem pj_len (L : List (List UInt8)) (hL : ∀ x ∈ L, x.length ≤ 3000) : ∀ k, k ≤ L.length → (pj L k).length ≤ 3001 * k
  | 0, _ => by simp [pj, Lib.join_nil]
  | k + 1, h => by
    have ih := pj_len L hL k (by omega)
    have h1 := hL L[k] (List.getElem_mem (by omega))
    by_cases h0 : k = 0
    · subst h0
      rw [pj_1 (by omega)]; omega
    · rw [pj_s (by omega) (by omega)]
      simp only [List.length_append, List.length_cons, List.length_nil]; omega
theorem toI_snoc (a : List UInt8) : toI a ++ [32] = toI (a ++ [32]) := by simp [toI]
theorem toI_snoc10 (a : List UInt8) : toI a ++ [10] = toI (a ++ [10]) := by simp [toI]
theorem W2 (y : T_api_Line) (hf : ∀ f ∈ y.Fields, fOK f) (hn : y.Fields.length ≤ 1000) (acc : List UInt8) (hb : acc.length ≤ 1000000000) : iter (g_lines_Write_s2 y) (0, toI acc) = some (toI (acc ++ Lib.join (y.Fields.map fdT) [32])) := by
  have hL : ∀ x ∈ y.Fields.map fdT, x.length ≤ 3000 := by
    intro x hx
    obtain ⟨f, h1, rfl⟩ := List.mem_map.1 hx
    exact fdT_len (hf f h1)
  have hend : Lib.join (y.Fields.map fdT) [32] = pj (y.Fields.map fdT) y.Fields.length := by
    unfold pj
    rw [List.take_of_length_le (by simp)]
  have hz : pj (y.Fields.map fdT) 0 = [] := by simp [pj, Lib.join_nil]
  have := iter_chain (step := g_lines_Write_s2 y) (e := toI (acc ++ Lib.join (y.Fields.map fdT) [32])) (fun i => ((i : Int), toI (acc ++ pj (y.Fields.map fdT) i))) y.Fields.length (by omega) ?_ ?_
  · simpa [hz] using this
  · intro i hi
    have hlen := pj_len _ hL i (by simp; omega)
    have hlen2 := pj_len _ hL (i + 1) (by simp; omega)
    have hm : y.Fields[i] ∈ y.Fields := List.getElem_mem hi
    obtain ⟨r, hr, hv⟩ := fld_v (hf _ hm)
    have hq := lines_Quote_eq y.Fields[i].Text (by have := (hf _ hm).1; omega)
    have hfl := fdT_len (hf _ hm)
    unfold g_lines_Write_s2
    dsimp only
    rw [if_pos (by simpa using hi), atI_nat hi]
    simp only [Option.bind_some, hr, hv, hq]
    rw [wr64 (by omega)]
    by_cases h0 : i = 0
    · subst h0
      rw [if_neg (by simp)]
      rw [pj_1 (by simpa using hi), hz]
      simp only [List.getElem_map, List.append_nil]
      cases hqq : y.Fields[0].Quoted
      · simp only [hqq, Bool.false_eq_true, if_false, fdT] at hfl ⊢
        rw [if_pos (by rw [toI_length]; omega), ← toI_append]
        rfl
      · simp only [hqq, if_true, fdT] at hfl ⊢
        rw [if_pos (by rw [toI_length]; omega), ← toI_append]
        rfl
    · rw [if_pos (by simp; omega)]
      rw [pj_s (by omega) (by simpa using hi), if_pos (by rw [toI_length, List.length_append]; omega), toI_snoc]
      simp only [List.getElem_map]
      cases hqq : y.Fields[i].Quoted
      · simp only [hqq, Bool.false_eq_true, if_false, fdT] at hfl ⊢
        rw [if_pos (by rw [toI_length]; simp only [List.length_append, List.length_cons, List.length_nil]; omega), ← toI_append]
        simp only [List.append_assoc]
        rfl
      · simp only [hqq, if_true, fdT] at hfl ⊢
        rw [if_pos (by rw [toI_length]; simp only [List.length_append, List.length_cons, List.length_nil]; omega), ← toI_append]
        simp only [List.append_assoc]
        rfl
  · unfold g_lines_Write_s2
    dsimp only
    rw [if_neg (by simp), hend]
theorem Write_eq (l : List T_api_Line) (hl : l.length ≤ 100) (hf : ∀ y ∈ l, y.Fields ≠ [] ∧ y.Fields.length ≤ 1000 ∧ ∀ f ∈ y.Fields, fOK f) : g_lines_Write l = some (l.flatMap lnT) := by
  have hlen : ∀ i, i ≤ l.length → ((l.take i).flatMap lnT).length ≤ 3002000 * i := by
    intro i
    induction i with
    | zero => intro _; simp
    | succ i ih =>
      intro hi
      have ih := ih (by omega)
      obtain ⟨_, h2, h3⟩ := hf l[i] (List.getElem_mem (by omega))
      have hj := pj_len (l[i].Fields.map fdT) (by
        intro x hx
        obtain ⟨f, h1, rfl⟩ := List.mem_map.1 hx
        exact fdT_len (h3 f h1)) l[i].Fields.length (by simp)
      unfold pj at hj
      rw [List.take_of_length_le (by simp)] at hj
      rw [List.take_add_one, List.getElem?_eq_getElem (by omega)]
      simp only [Option.toList_some, List.flatMap_append, List.flatMap_cons, List.flatMap_nil, List.append_nil, List.length_append, lnT, List.length_cons, List.length_nil]
      omega
  have key : iter (g_lines_Write_s1 l) (0, []) = some (toI (l.flatMap lnT)) := by
    have := iter_chain (step := g_lines_Write_s1 l) (e := toI (l.flatMap lnT)) (fun i => ((i : Int), toI ((l.take i).flatMap lnT))) l.length (by omega) ?_ ?_
    · exact this
    · intro i hi
      obtain ⟨h1, h2, h3⟩ := hf l[i] (List.getElem_mem hi)
      have hb := hlen i (by omega)
      have hb2 := hlen (i + 1) (by omega)
      have hs : (l.take (i + 1)).flatMap lnT = (l.take i).flatMap lnT ++ lnT l[i] := by
        rw [List.take_add_one, List.getElem?_eq_getElem hi]; simp only [Option.toList_some, List.flatMap_append, List.flatMap_cons, List.flatMap_nil, List.append_nil]
      rw [hs] at hb2 ⊢
      unfold g_lines_Write_s1
      dsimp only
      rw [if_pos (by simpa using hi), atI_nat hi]
      simp only [Option.bind_some]
      rw [W2 _ h3 h2 _ (by omega)]
      simp only [Option.bind_some]
      have hne : 0 < l[i].Fields.length := List.length_pos_iff.2 h1
      rw [if_pos (by simpa using hne), wr64 (by omega)]
      unfold lnT at hb2 ⊢
      simp only [List.length_append, List.length_cons, List.length_nil] at hb2
      rw [if_pos (by rw [toI_length, List.length_append]; omega), toI_snoc10, List.append_assoc]
      rfl
    · unfold g_lines_Write_s1
      dsimp only
      rw [if_neg (by simp), List.take_of_length_le (Nat.le_refl _)]
  unfold g_lines_Write
  rw [key]
  simp only [Option.bind_some, bytesOf_toI]
def wrd (s : List UInt8) : T_api_Field := ⟨s, 0, false⟩
def ptL (p : T_api_Profile) : List T_api_Line := [⟨0, [wrd [80, 82, 79, 70, 73, 76, 69], wrd p.Name]⟩, ⟨0, [wrd [82, 69, 65, 68, 73, 78, 71], wrd (Lib.itoa p.Reading)]⟩, ⟨0, [wrd [70, 82, 65, 77, 69, 83], wrd (Lib.itoa p.MinFrames), wrd (Lib.itoa p.MaxFrames)]⟩, ⟨0, [wrd [71, 65, 80], wrd (Lib.itoa p.MinGap)]⟩, ⟨0, [wrd [83, 72, 79, 84, 83], wrd (Lib.itoa p.ShotBefore), wrd (Lib.itoa p.ShotAfter)]⟩, ⟨0, [wrd [83, 73, 90, 69], wrd (Lib.itoa p.Rows), wrd (Lib.itoa p.Cols)]⟩, ⟨0, [wrd [83, 65, 70, 69], wrd (Lib.itoa p.SafeTop), wrd (Lib.itoa p.SafeBottom), wrd (Lib.itoa p.SafeLeft), wrd (Lib.itoa p.SafeRight)]⟩, ⟨0, [wrd [70, 79, 82, 66, 73, 68, 68, 69, 78], ⟨p.Forbidden, 0, true⟩]⟩]
def flL (p : T_api_Profile) : List T_api_LineF := [⟨0, ⟨true, [wrd [80, 82, 79, 70, 73, 76, 69]]⟩⟩, ⟨0, ⟨false, [wrd [82, 69, 65, 68, 73, 78, 71], wrd (Lib.itoa p.Reading)]⟩⟩, ⟨0, ⟨false, [wrd [70, 82, 65, 77, 69, 83], wrd (Lib.itoa p.MinFrames), wrd (Lib.itoa p.MaxFrames)]⟩⟩, ⟨0, ⟨false, [wrd [71, 65, 80], wrd (Lib.itoa p.MinGap)]⟩⟩, ⟨0, ⟨false, [wrd [83, 72, 79, 84, 83], wrd (Lib.itoa p.ShotBefore), wrd (Lib.itoa p.ShotAfter)]⟩⟩, ⟨0, ⟨false, [wrd [83, 73, 90, 69], wrd (Lib.itoa p.Rows), wrd (Lib.itoa p.Cols)]⟩⟩, ⟨0, ⟨false, [wrd [83, 65, 70, 69], wrd (Lib.itoa p.SafeTop), wrd (Lib.itoa p.SafeBottom), wrd (Lib.itoa p.SafeLeft), wrd (Lib.itoa p.SafeRight)]⟩⟩, ⟨0, ⟨true, [wrd [70, 79, 82, 66, 73, 68, 68, 69, 78]]⟩⟩]
theorem lines_loop (p : T_api_Profile) : iter (g_profile_Text_s1 [[], [p.Reading], [p.MinFrames, p.MaxFrames], [p.MinGap], [p.ShotBefore, p.ShotAfter], [p.Rows, p.Cols], [p.SafeTop, p.SafeBottom, p.SafeLeft, p.SafeRight], []]) ([], 0) = some (flL p) := rfl
def tpS (p : T_api_Profile) : List UInt8 × Int := if ckS p = 0 then ((ptL p).flatMap lnT, 0) else ([], ckS p)
theorem ck_ok {p : T_api_Profile} (h : ckS p = 0) : isNm p.Name = true ∧ okR p ∧ (p.SafeTop + p.SafeBottom < 15 ∧ p.SafeLeft + p.SafeRight < 32) ∧ p.MinFrames ≤ p.MaxFrames ∧ gv p.Forbidden = true ∧ ascF (-1) (rnL p.Forbidden) = true := by
  unfold ckS at h
  cases h1 : isNm p.Name
  · rw [h1] at h; simp at h
  rw [h1] at h
  simp only [Bool.true_eq_false, if_false] at h
  by_cases h2 : okR p
  · by_cases h3 : 15 ≤ p.SafeTop + p.SafeBottom ∨ 32 ≤ p.SafeLeft + p.SafeRight
    · simp [h2, h3] at h
    · by_cases h4 : p.MaxFrames < p.MinFrames
      · simp [h2, h3, h4] at h
      · cases h5 : gv p.Forbidden
        · simp [h2, h3, h4, h5] at h
        · cases h6 : ascF (-1) (rnL p.Forbidden)
          · simp [h2, h3, h4, h5, h6] at h
          · exact ⟨rfl, h2, ⟨by omega, by omega⟩, by omega, rfl, rfl⟩
  · simp [h2] at h
theorem wrd_nm {s : List UInt8} (h : isNm s = true) : fOK (wrd s) := ⟨by have := (nm_len h).2; show s.length ≤ 1000; omega, fun _ => plain_nm h⟩
theorem wrd_it {n : Int} (h : 0 ≤ n ∧ n ≤ 10000000) : fOK (wrd (Lib.itoa n)) := ⟨by have := itoa_len (n := n) (by omega); show (Lib.itoa n).length ≤ 1000; omega, fun _ => plain_itoa h.1⟩
theorem ptL_ok {p : T_api_Profile} (h : ckS p = 0) (h2 : p.Forbidden.length ≤ 1000) : ∀ y ∈ ptL p, y.Fields ≠ [] ∧ y.Fields.length ≤ 1000 ∧ ∀ f ∈ y.Fields, fOK f := by
  obtain ⟨h1, hr, _, _, _, _⟩ := ck_ok h
  obtain ⟨a1, a2, a3, a4, a5, a6, a7, a8, a9, b1, b2, b3⟩ := hr
  have kw : fOK (wrd [80, 82, 79, 70, 73, 76, 69]) ∧ fOK (wrd [82, 69, 65, 68, 73, 78, 71]) ∧ fOK (wrd [70, 82, 65, 77, 69, 83]) ∧ fOK (wrd [71, 65, 80]) ∧ fOK (wrd [83, 72, 79, 84, 83]) ∧ fOK (wrd [83, 73, 90, 69]) ∧ fOK (wrd [83, 65, 70, 69]) ∧ fOK (wrd [70, 79, 82, 66, 73, 68, 68, 69, 78]) := by
    refine ⟨wrd_nm (by decide), wrd_nm (by decide), wrd_nm (by decide), wrd_nm (by decide), wrd_nm (by decide), wrd_nm (by decide), wrd_nm (by decide), wrd_nm (by decide)⟩
  obtain ⟨k1, k2, k3, k4, k5, k6, k7, k8⟩ := kw
  have n1 := wrd_nm h1
  have m1 := wrd_it (n := p.Reading) (by omega)
  have m2 := wrd_it (n := p.MinFrames) (by omega)
  have m3 := wrd_it (n := p.MaxFrames) (by omega)
  have m4 := wrd_it (n := p.MinGap) (by omega)
  have m5 := wrd_it (n := p.ShotBefore) (by omega)
  have m6 := wrd_it (n := p.ShotAfter) (by omega)
  have m7 := wrd_it (n := p.Rows) (by omega)
  have m8 := wrd_it (n := p.Cols) (by omega)
  have m9 := wrd_it (n := p.SafeTop) (by omega)
  have l1 := wrd_it (n := p.SafeBottom) (by omega)
  have l2 := wrd_it (n := p.SafeLeft) (by omega)
  have l3 := wrd_it (n := p.SafeRight) (by omega)
  have f1 : fOK ⟨p.Forbidden, 0, true⟩ := ⟨h2, fun e => by simp at e⟩
  unfold ptL
  intro y hy
  simp only [List.mem_cons, List.not_mem_nil, or_false] at hy
  rcases hy with rfl | rfl | rfl | rfl | rfl | rfl | rfl | rfl
  all_goals
    refine ⟨by simp, by simp, fun f hf => ?_⟩
    simp only [List.mem_cons, List.not_mem_nil, or_false] at hf
    rcases hf with rfl | rfl | rfl | rfl | rfl <;> assumption
theorem prog_Text (p : T_api_Profile) (h1 : p.Name.length ≤ 1000) (h2 : p.Forbidden.length ≤ 1000) : g_profile_Text p = some (tpS p) := by
  unfold g_profile_Text tpS
  rw [prog_Check p h1 h2]
  simp only [Option.bind_some]
  by_cases h : ckS p = 0
  · rw [if_pos h, if_neg (by simp [h])]
    simp only [g_profile_numbers, Option.bind_some]
    rw [lines_loop p]
    have hw := Write_eq (ptL p) (by simp [ptL]) (ptL_ok h h2)
    simp only [Option.bind_some, flL, atI, setI, wrd]
    simp
    simp only [ptL, wrd] at hw
    simp only [T_api_LineF.un, hw]
    rfl
  · rw [if_neg h, if_pos (by simpa using h)]
end Go.Proofs.YtedhognhhcihpaaGreatDoor
namespace Go.Proofs.YtedhognhhcihpaaGreatDoor
set_option maxRecDepth 1000000
theorem awake39 : g_law39_awake = some true := by decide +kernel
theorem subH_min {α : Type} (s : List α) (n : Nat) : subH s (if (n : Int) < (s.length : Int) then (n : Int) else (s.length : Int)) = some (s.take n) := by
  unfold subH
  by_cases h : n < s.length
  · rw [if_pos (show (n : Int) < (s.length : Int) by omega), if_pos ⟨by omega, by simp; omega⟩]
    simp
  · rw [if_neg (show ¬ (n : Int) < (s.length : Int) by omega), if_pos ⟨by omega, by simp⟩]
    simp only [List.drop_zero, Int.toNat_natCast, Nat.sub_zero]
    rw [List.take_of_length_le (Nat.le_refl _), List.take_of_length_le (by omega)]
def smP (p : T_api_Profile) : T_api_Profile := ⟨p.Name.take 40, p.Reading, p.MinFrames, p.MaxFrames, p.MinGap, p.ShotBefore, p.ShotAfter, p.Rows, p.Cols, p.Forbidden.take 40, p.SafeTop, p.SafeBottom, p.SafeLeft, p.SafeRight⟩
theorem small_eq (p : T_api_Profile) : g_law39_small p = some (smP p) := by
  have h1 := subH_min p.Name 40
  have h2 := subH_min p.Forbidden 40
  unfold g_law39_small
  simp only [Int.cast_ofNat_Int] at h1 h2
  rw [h1, h2]
  rfl
theorem smP_len (p : T_api_Profile) : (smP p).Name.length ≤ 1000 ∧ (smP p).Forbidden.length ≤ 1000 := by
  simp only [smP, List.length_take]; omega
end Go.Proofs.YtedhognhhcihpaaGreatDoor
namespace Go.Proofs.YtedhognhhcihpaaGreatDoor
set_option maxRecDepth 100000
theorem num_both {s : T_captionerref07_Scanner} (hs : SOK s) : ∃ n s', g_ref39_num s = some (n, s') ∧ g_profile_take_1 (toP s) = some (n, toP s') ∧ SOK s' ∧ s'.Line = s.Line := by
  obtain ⟨n, s', h1, h2, h3, h4⟩ := number_both hs 0 5184000
  refine ⟨n, s', ?_, ?_, h3, h4⟩
  · unfold g_ref39_num; rw [h1]; rfl
  · unfold g_profile_take_1; rw [h2]; rfl
theorem bad_take {s : T_captionerref07_Scanner} (h : s.Code = 4) (q : Bool) : g_ref07_Scanner_take s q = some (⟨[], 0, false⟩, false, s) := by
  unfold g_ref07_Scanner_take
  rw [if_pos (by rw [h]; decide)]
theorem bad_num {s : T_captionerref07_Scanner} (h : s.Code = 4) : g_ref39_num s = some (0, s) := by
  unfold g_ref39_num g_ref07_Scanner_Number
  rw [bad_take h]; rfl
theorem bad_name {s : T_captionerref07_Scanner} (h : s.Code = 4) : g_ref07_Scanner_Name s false = some ([], s) := by
  unfold g_ref07_Scanner_Name
  rw [bad_take h]; rfl
theorem bad_quoted {s : T_captionerref07_Scanner} (h : s.Code = 4) : g_ref07_Scanner_Quoted s = some ([], s) := by
  unfold g_ref07_Scanner_Quoted
  rw [bad_take h]; rfl
theorem bad_end {s : T_captionerref07_Scanner} (h : s.Code = 4) : g_ref07_Scanner_End s = some (⟨s.Line.Number, s.Col, 4⟩, true, s) := by
  unfold g_ref07_Scanner_End
  rw [if_pos (by rw [h]; decide), h]
theorem choice_bad {x : T_api_Line} {y : T_api_Field} (hl : x.Fields.length ≤ 1000) (hy : x.Fields[0]? = some y) (w : List UInt8) (hb : ¬ (y.Quoted = false ∧ y.Text = w)) : ∃ a, g_ref07_Scanner_Choice ⟨x, 0, 0, 0⟩ [w] = some (-1, ⟨x, a, 4, y.Column⟩) := by
  unfold g_ref07_Scanner_Choice
  cases hq : y.Quoted
  · have ht := take_at (L := x) (k := 0) (f := y) (q := false) hl hy hq
    have hne : y.Text ≠ w := fun e => hb ⟨hq, e⟩
    refine ⟨1, ?_⟩
    rw [show (⟨x, 0, 0, 0⟩ : T_captionerref07_Scanner) = ⟨x, ((0 : Nat) : Int), 0, 0⟩ from rfl, ht]
    simp only [Option.bind_some, if_true]
    have hi : iter (g_ref07_Scanner_Choice_s1 [w] (y, true, ⟨x, ((0 + 1 : Nat) : Int), 0, 0⟩)) 0 = some (.inr ()) := by
      refine iter_of (fun (x : Int) (e : Int ⊕ Unit) => (x = 0 ∨ x = 1) ∧ e = .inr ()) (fun x => (1 - x).toNat) ?_ ⟨.inl rfl, rfl⟩ (by decide)
      rintro x e ⟨rfl | rfl, rfl⟩
      · left
        refine ⟨1, ?_, ⟨.inr rfl, rfl⟩, by decide⟩
        unfold g_ref07_Scanner_Choice_s1
        rw [if_pos (by simp), show atI [w] 0 = some w from rfl]
        simp only [Option.bind_some]
        rw [if_neg (by simpa using fun e => hne e.symm)]
        rfl
      · right
        unfold g_ref07_Scanner_Choice_s1
        rw [if_neg (by simp)]
    rw [hi]
    rfl
  · refine ⟨0, ?_⟩
    have ht : g_ref07_Scanner_take ⟨x, 0, 0, 0⟩ false = some (⟨[], 0, false⟩, false, ⟨x, 0, 4, y.Column⟩) := by
      have hlen : 0 < x.Fields.length := (List.getElem?_eq_some_iff.1 hy).1
      have h0 : atI x.Fields 0 = some y := by simpa [atI] using hy
      unfold g_ref07_Scanner_take g_ref07_Scanner_Left g_ref07_Scanner_fail
      have hw : IntKind.i64.wrap ((x.Fields.length : Int) - 0) = (x.Fields.length : Int) := by rw [wr64 (by omega)]; omega
      simp only [bne_self_eq_false, Bool.false_eq_true, if_false, Option.bind_some]
      rw [hw, if_neg (by simpa using List.length_pos_iff.1 hlen), h0]
      simp [hq]
    rw [ht]
    rfl
theorem word_ok {x : T_api_Line} (hx : lnOK x) {y : T_api_Field} (hy : x.Fields[0]? = some y) (hq : y.Quoted = false) : g_lines_Scanner_Word (toP ⟨x, 0, 0, 0⟩) = some (y.Text, toP ⟨x, 1, 0, 0⟩) := by
  have hS : SOK ⟨x, 0, 0, 0⟩ := ⟨Int.le_refl _, by simp, hx.1, hx.2⟩
  obtain ⟨f, b, s', h1, h2, _⟩ := take_both hS false
  have ht := take_at (L := x) (k := 0) (f := y) (q := false) hx.1 hy hq
  rw [show (⟨x, ((0 : Nat) : Int), 0, 0⟩ : T_captionerref07_Scanner) = ⟨x, 0, 0, 0⟩ from rfl, h1] at ht
  simp only [Option.some.injEq, Prod.mk.injEq] at ht
  obtain ⟨rfl, rfl, rfl⟩ := ht
  unfold g_lines_Scanner_Word
  rw [h2]; rfl
def takeR (x : T_api_Line) (i : Int) (p : T_api_Profile) : Prop := ∃ d b p' s q, g_profile_take p x i = some (d, b, p') ∧ g_ref39_take ⟨x, 0, 0, 0⟩ i p = some (s, q) ∧ g_ref07_Scanner_End s = some (d, b, s) ∧ (b = false → q = p') ∧ (b = true → d.Code ≠ 0 ∧ d.Line = x.Number) ∧ (p.Name.length ≤ 1000 → p'.Name.length ≤ 1000) ∧ (p.Forbidden.length ≤ 1000 → p'.Forbidden.length ≤ 1000)
theorem take_0 {x : T_api_Line} (hx : lnOK x) (hne : x.Fields ≠ []) (p : T_api_Profile) : takeR x 0 p := by
  obtain ⟨y, t, hxf⟩ := List.exists_cons_of_ne_nil hne
  have hy : atI x.Fields 0 = some y := by rw [hxf]; rfl
  have hy2 : x.Fields[0]? = some y := by rw [hxf]; rfl
  have hlen : 0 < x.Fields.length := List.length_pos_iff.2 hne
  have hsub : subI ([[80, 82, 79, 70, 73, 76, 69], [82, 69, 65, 68, 73, 78, 71], [70, 82, 65, 77, 69, 83], [71, 65, 80], [83, 72, 79, 84, 83], [83, 73, 90, 69], [83, 65, 70, 69], [70, 79, 82, 66, 73, 68, 68, 69, 78]] : List (List UInt8)) 0 (IntKind.i64.wrap (0 + 1)) = some [[80, 82, 79, 70, 73, 76, 69]] := by decide
  have hat : atI ([[80, 82, 79, 70, 73, 76, 69], [82, 69, 65, 68, 73, 78, 71], [70, 82, 65, 77, 69, 83], [71, 65, 80], [83, 72, 79, 84, 83], [83, 73, 90, 69], [83, 65, 70, 69], [70, 79, 82, 66, 73, 68, 68, 69, 78]] : List (List UInt8)) 0 = some [80, 82, 79, 70, 73, 76, 69] := rfl
  have hcap : x.Fields.length * 32 ≤ 140737488355328 := by have := hx.1; omega
  unfold takeR g_profile_take g_ref39_take
  rw [hy, hsub]
  by_cases hg : y.Quoted = false ∧ y.Text = ([80, 82, 79, 70, 73, 76, 69] : List UInt8)
  · have hC := choice_at (L := x) (k := 0) (f := y) (ws := [[80, 82, 79, 70, 73, 76, 69]]) hx.1 hy2 hg.1 0 (by simp) (by rw [hg.2]; rfl) (by omega)
    have hW := word_ok hx hy2 hg.1
    have hS : SOK ⟨x, 1, 0, 0⟩ := ⟨by simp, by simp; omega, hx.1, hx.2⟩
    obtain ⟨v0, s0, r0, q0, k0, m0, j0⟩ := name_both hS
    obtain ⟨d, b, z1, z2, z3, z4⟩ := end_both k0
    have hd : b = true → d.Code ≠ 0 := fun h => (z3 h).2
    refine ⟨d, b, ⟨v0, p.Reading, p.MinFrames, p.MaxFrames, p.MinGap, p.ShotBefore, p.ShotAfter, p.Rows, p.Cols, p.Forbidden, p.SafeTop, p.SafeBottom, p.SafeLeft, p.SafeRight⟩, s0, ⟨v0, p.Reading, p.MinFrames, p.MaxFrames, p.MinGap, p.ShotBefore, p.ShotAfter, p.Rows, p.Cols, p.Forbidden, p.SafeTop, p.SafeBottom, p.SafeLeft, p.SafeRight⟩, ?_, ?_, z1, fun _ => rfl, fun h => ⟨hd h, ?_⟩, fun _ => j0, fun h => h⟩
    · simp only [Option.bind_some, hg.1, Bool.false_eq_true, if_false, g_profile_words, hat, hg.2, beq_self_eq_true, Bool.not_true, g_lines_Scan]
      rw [show (⟨x, 0, 0, ⟨0, 0, 0⟩⟩ : T_lines_Scanner) = toP ⟨x, 0, 0, 0⟩ from rfl]
      simp only [hcap, hW, Option.bind_some, Int.reduceBEq, Bool.false_eq_true, if_false, if_true, q0, z2]
    · rw [show (⟨x, 0, 0, 0⟩ : T_captionerref07_Scanner) = ⟨x, ((0 : Nat) : Int), 0, 0⟩ from rfl]
      simp only [Option.bind_some, hC]
      rw [show (⟨x, ((0 + 1 : Nat) : Int), 0, 0⟩ : T_captionerref07_Scanner) = ⟨x, 1, 0, 0⟩ from rfl]
      simp only [Option.bind_some, Int.reduceBEq, Bool.false_eq_true, if_false, if_true, r0]
    · rw [(z3 h).1]; rw [m0]
  · obtain ⟨a, hB⟩ := choice_bad hx.1 hy2 ([80, 82, 79, 70, 73, 76, 69] : List UInt8) hg
    refine ⟨⟨x.Number, y.Column, 4⟩, true, p, ⟨x, a, 4, y.Column⟩, ⟨[], p.Reading, p.MinFrames, p.MaxFrames, p.MinGap, p.ShotBefore, p.ShotAfter, p.Rows, p.Cols, p.Forbidden, p.SafeTop, p.SafeBottom, p.SafeLeft, p.SafeRight⟩, ?_, ?_, bad_end rfl, fun h => by simp at h, fun _ => ⟨by simp, rfl⟩, fun h => h, fun h => h⟩
    · cases hq : y.Quoted
      · have hne2 : y.Text ≠ ([80, 82, 79, 70, 73, 76, 69] : List UInt8) := fun e => hg ⟨hq, e⟩
        have hb : (y.Text == ([80, 82, 79, 70, 73, 76, 69] : List UInt8)) = false := by simpa using hne2
        simp only [Option.bind_some, hq, Bool.false_eq_true, if_false, g_profile_words, hat, hb, Bool.not_false, if_true]
      · simp only [Option.bind_some, hq, if_true]
    · simp only [Option.bind_some, hB, Int.reduceBEq, Bool.false_eq_true, if_false, if_true, bad_num, bad_name, bad_quoted]
theorem take_1 {x : T_api_Line} (hx : lnOK x) (hne : x.Fields ≠ []) (p : T_api_Profile) : takeR x 1 p := by
  obtain ⟨y, t, hxf⟩ := List.exists_cons_of_ne_nil hne
  have hy : atI x.Fields 0 = some y := by rw [hxf]; rfl
  have hy2 : x.Fields[0]? = some y := by rw [hxf]; rfl
  have hlen : 0 < x.Fields.length := List.length_pos_iff.2 hne
  have hsub : subI ([[80, 82, 79, 70, 73, 76, 69], [82, 69, 65, 68, 73, 78, 71], [70, 82, 65, 77, 69, 83], [71, 65, 80], [83, 72, 79, 84, 83], [83, 73, 90, 69], [83, 65, 70, 69], [70, 79, 82, 66, 73, 68, 68, 69, 78]] : List (List UInt8)) 1 (IntKind.i64.wrap (1 + 1)) = some [[82, 69, 65, 68, 73, 78, 71]] := by decide
  have hat : atI ([[80, 82, 79, 70, 73, 76, 69], [82, 69, 65, 68, 73, 78, 71], [70, 82, 65, 77, 69, 83], [71, 65, 80], [83, 72, 79, 84, 83], [83, 73, 90, 69], [83, 65, 70, 69], [70, 79, 82, 66, 73, 68, 68, 69, 78]] : List (List UInt8)) 1 = some [82, 69, 65, 68, 73, 78, 71] := rfl
  have hcap : x.Fields.length * 32 ≤ 140737488355328 := by have := hx.1; omega
  unfold takeR g_profile_take g_ref39_take
  rw [hy, hsub]
  by_cases hg : y.Quoted = false ∧ y.Text = ([82, 69, 65, 68, 73, 78, 71] : List UInt8)
  · have hC := choice_at (L := x) (k := 0) (f := y) (ws := [[82, 69, 65, 68, 73, 78, 71]]) hx.1 hy2 hg.1 0 (by simp) (by rw [hg.2]; rfl) (by omega)
    have hW := word_ok hx hy2 hg.1
    have hS : SOK ⟨x, 1, 0, 0⟩ := ⟨by simp, by simp; omega, hx.1, hx.2⟩
    obtain ⟨v0, s0, r0, q0, k0, m0⟩ := num_both hS
    obtain ⟨d, b, z1, z2, z3, z4⟩ := end_both k0
    have hd : b = true → d.Code ≠ 0 := fun h => (z3 h).2
    refine ⟨d, b, ⟨p.Name, v0, p.MinFrames, p.MaxFrames, p.MinGap, p.ShotBefore, p.ShotAfter, p.Rows, p.Cols, p.Forbidden, p.SafeTop, p.SafeBottom, p.SafeLeft, p.SafeRight⟩, s0, ⟨p.Name, v0, p.MinFrames, p.MaxFrames, p.MinGap, p.ShotBefore, p.ShotAfter, p.Rows, p.Cols, p.Forbidden, p.SafeTop, p.SafeBottom, p.SafeLeft, p.SafeRight⟩, ?_, ?_, z1, fun _ => rfl, fun h => ⟨hd h, ?_⟩, fun h => h, fun h => h⟩
    · simp only [Option.bind_some, hg.1, Bool.false_eq_true, if_false, g_profile_words, hat, hg.2, beq_self_eq_true, Bool.not_true, g_lines_Scan]
      rw [show (⟨x, 0, 0, ⟨0, 0, 0⟩⟩ : T_lines_Scanner) = toP ⟨x, 0, 0, 0⟩ from rfl]
      simp only [hcap, hW, Option.bind_some, Int.reduceBEq, Bool.false_eq_true, if_false, if_true, q0, z2]
    · rw [show (⟨x, 0, 0, 0⟩ : T_captionerref07_Scanner) = ⟨x, ((0 : Nat) : Int), 0, 0⟩ from rfl]
      simp only [Option.bind_some, hC]
      rw [show (⟨x, ((0 + 1 : Nat) : Int), 0, 0⟩ : T_captionerref07_Scanner) = ⟨x, 1, 0, 0⟩ from rfl]
      simp only [Option.bind_some, Int.reduceBEq, Bool.false_eq_true, if_false, if_true, r0]
    · rw [(z3 h).1]; rw [m0]
  · obtain ⟨a, hB⟩ := choice_bad hx.1 hy2 ([82, 69, 65, 68, 73, 78, 71] : List UInt8) hg
    refine ⟨⟨x.Number, y.Column, 4⟩, true, p, ⟨x, a, 4, y.Column⟩, ⟨p.Name, 0, p.MinFrames, p.MaxFrames, p.MinGap, p.ShotBefore, p.ShotAfter, p.Rows, p.Cols, p.Forbidden, p.SafeTop, p.SafeBottom, p.SafeLeft, p.SafeRight⟩, ?_, ?_, bad_end rfl, fun h => by simp at h, fun _ => ⟨by simp, rfl⟩, fun h => h, fun h => h⟩
    · cases hq : y.Quoted
      · have hne2 : y.Text ≠ ([82, 69, 65, 68, 73, 78, 71] : List UInt8) := fun e => hg ⟨hq, e⟩
        have hb : (y.Text == ([82, 69, 65, 68, 73, 78, 71] : List UInt8)) = false := by simpa using hne2
        simp only [Option.bind_some, hq, Bool.false_eq_true, if_false, g_profile_words, hat, hb, Bool.not_false, if_true]
      · simp only [Option.bind_some, hq, if_true]
    · simp only [Option.bind_some, hB, Int.reduceBEq, Bool.false_eq_true, if_false, if_true, bad_num, bad_name, bad_quoted]
theorem take_2 {x : T_api_Line} (hx : lnOK x) (hne : x.Fields ≠ []) (p : T_api_Profile) : takeR x 2 p := by
  obtain ⟨y, t, hxf⟩ := List.exists_cons_of_ne_nil hne
  have hy : atI x.Fields 0 = some y := by rw [hxf]; rfl
  have hy2 : x.Fields[0]? = some y := by rw [hxf]; rfl
  have hlen : 0 < x.Fields.length := List.length_pos_iff.2 hne
  have hsub : subI ([[80, 82, 79, 70, 73, 76, 69], [82, 69, 65, 68, 73, 78, 71], [70, 82, 65, 77, 69, 83], [71, 65, 80], [83, 72, 79, 84, 83], [83, 73, 90, 69], [83, 65, 70, 69], [70, 79, 82, 66, 73, 68, 68, 69, 78]] : List (List UInt8)) 2 (IntKind.i64.wrap (2 + 1)) = some [[70, 82, 65, 77, 69, 83]] := by decide
  have hat : atI ([[80, 82, 79, 70, 73, 76, 69], [82, 69, 65, 68, 73, 78, 71], [70, 82, 65, 77, 69, 83], [71, 65, 80], [83, 72, 79, 84, 83], [83, 73, 90, 69], [83, 65, 70, 69], [70, 79, 82, 66, 73, 68, 68, 69, 78]] : List (List UInt8)) 2 = some [70, 82, 65, 77, 69, 83] := rfl
  have hcap : x.Fields.length * 32 ≤ 140737488355328 := by have := hx.1; omega
  unfold takeR g_profile_take g_ref39_take
  rw [hy, hsub]
  by_cases hg : y.Quoted = false ∧ y.Text = ([70, 82, 65, 77, 69, 83] : List UInt8)
  · have hC := choice_at (L := x) (k := 0) (f := y) (ws := [[70, 82, 65, 77, 69, 83]]) hx.1 hy2 hg.1 0 (by simp) (by rw [hg.2]; rfl) (by omega)
    have hW := word_ok hx hy2 hg.1
    have hS : SOK ⟨x, 1, 0, 0⟩ := ⟨by simp, by simp; omega, hx.1, hx.2⟩
    obtain ⟨v0, s0, r0, q0, k0, m0⟩ := num_both hS
    obtain ⟨v1, s1, r1, q1, k1, m1⟩ := num_both k0
    obtain ⟨d, b, z1, z2, z3, z4⟩ := end_both k1
    have hd : b = true → d.Code ≠ 0 := fun h => (z3 h).2
    refine ⟨d, b, ⟨p.Name, p.Reading, v0, v1, p.MinGap, p.ShotBefore, p.ShotAfter, p.Rows, p.Cols, p.Forbidden, p.SafeTop, p.SafeBottom, p.SafeLeft, p.SafeRight⟩, s1, ⟨p.Name, p.Reading, v0, v1, p.MinGap, p.ShotBefore, p.ShotAfter, p.Rows, p.Cols, p.Forbidden, p.SafeTop, p.SafeBottom, p.SafeLeft, p.SafeRight⟩, ?_, ?_, z1, fun _ => rfl, fun h => ⟨hd h, ?_⟩, fun h => h, fun h => h⟩
    · simp only [Option.bind_some, hg.1, Bool.false_eq_true, if_false, g_profile_words, hat, hg.2, beq_self_eq_true, Bool.not_true, g_lines_Scan]
      rw [show (⟨x, 0, 0, ⟨0, 0, 0⟩⟩ : T_lines_Scanner) = toP ⟨x, 0, 0, 0⟩ from rfl]
      simp only [hcap, hW, Option.bind_some, Int.reduceBEq, Bool.false_eq_true, if_false, if_true, q0, q1, z2]
    · rw [show (⟨x, 0, 0, 0⟩ : T_captionerref07_Scanner) = ⟨x, ((0 : Nat) : Int), 0, 0⟩ from rfl]
      simp only [Option.bind_some, hC]
      rw [show (⟨x, ((0 + 1 : Nat) : Int), 0, 0⟩ : T_captionerref07_Scanner) = ⟨x, 1, 0, 0⟩ from rfl]
      simp only [Option.bind_some, Int.reduceBEq, Bool.false_eq_true, if_false, if_true, r0, r1]
    · rw [(z3 h).1]; rw [m1, m0]
  · obtain ⟨a, hB⟩ := choice_bad hx.1 hy2 ([70, 82, 65, 77, 69, 83] : List UInt8) hg
    refine ⟨⟨x.Number, y.Column, 4⟩, true, p, ⟨x, a, 4, y.Column⟩, ⟨p.Name, p.Reading, 0, 0, p.MinGap, p.ShotBefore, p.ShotAfter, p.Rows, p.Cols, p.Forbidden, p.SafeTop, p.SafeBottom, p.SafeLeft, p.SafeRight⟩, ?_, ?_, bad_end rfl, fun h => by simp at h, fun _ => ⟨by simp, rfl⟩, fun h => h, fun h => h⟩
    · cases hq : y.Quoted
      · have hne2 : y.Text ≠ ([70, 82, 65, 77, 69, 83] : List UInt8) := fun e => hg ⟨hq, e⟩
        have hb : (y.Text == ([70, 82, 65, 77, 69, 83] : List UInt8)) = false := by simpa using hne2
        simp only [Option.bind_some, hq, Bool.false_eq_true, if_false, g_profile_words, hat, hb, Bool.not_false, if_true]
      · simp only [Option.bind_some, hq, if_true]
    · simp only [Option.bind_some, hB, Int.reduceBEq, Bool.false_eq_true, if_false, if_true, bad_num, bad_name, bad_quoted]
theorem take_3 {x : T_api_Line} (hx : lnOK x) (hne : x.Fields ≠ []) (p : T_api_Profile) : takeR x 3 p := by
  obtain ⟨y, t, hxf⟩ := List.exists_cons_of_ne_nil hne
  have hy : atI x.Fields 0 = some y := by rw [hxf]; rfl
  have hy2 : x.Fields[0]? = some y := by rw [hxf]; rfl
  have hlen : 0 < x.Fields.length := List.length_pos_iff.2 hne
  have hsub : subI ([[80, 82, 79, 70, 73, 76, 69], [82, 69, 65, 68, 73, 78, 71], [70, 82, 65, 77, 69, 83], [71, 65, 80], [83, 72, 79, 84, 83], [83, 73, 90, 69], [83, 65, 70, 69], [70, 79, 82, 66, 73, 68, 68, 69, 78]] : List (List UInt8)) 3 (IntKind.i64.wrap (3 + 1)) = some [[71, 65, 80]] := by decide
  have hat : atI ([[80, 82, 79, 70, 73, 76, 69], [82, 69, 65, 68, 73, 78, 71], [70, 82, 65, 77, 69, 83], [71, 65, 80], [83, 72, 79, 84, 83], [83, 73, 90, 69], [83, 65, 70, 69], [70, 79, 82, 66, 73, 68, 68, 69, 78]] : List (List UInt8)) 3 = some [71, 65, 80] := rfl
  have hcap : x.Fields.length * 32 ≤ 140737488355328 := by have := hx.1; omega
  unfold takeR g_profile_take g_ref39_take
  rw [hy, hsub]
  by_cases hg : y.Quoted = false ∧ y.Text = ([71, 65, 80] : List UInt8)
  · have hC := choice_at (L := x) (k := 0) (f := y) (ws := [[71, 65, 80]]) hx.1 hy2 hg.1 0 (by simp) (by rw [hg.2]; rfl) (by omega)
    have hW := word_ok hx hy2 hg.1
    have hS : SOK ⟨x, 1, 0, 0⟩ := ⟨by simp, by simp; omega, hx.1, hx.2⟩
    obtain ⟨v0, s0, r0, q0, k0, m0⟩ := num_both hS
    obtain ⟨d, b, z1, z2, z3, z4⟩ := end_both k0
    have hd : b = true → d.Code ≠ 0 := fun h => (z3 h).2
    refine ⟨d, b, ⟨p.Name, p.Reading, p.MinFrames, p.MaxFrames, v0, p.ShotBefore, p.ShotAfter, p.Rows, p.Cols, p.Forbidden, p.SafeTop, p.SafeBottom, p.SafeLeft, p.SafeRight⟩, s0, ⟨p.Name, p.Reading, p.MinFrames, p.MaxFrames, v0, p.ShotBefore, p.ShotAfter, p.Rows, p.Cols, p.Forbidden, p.SafeTop, p.SafeBottom, p.SafeLeft, p.SafeRight⟩, ?_, ?_, z1, fun _ => rfl, fun h => ⟨hd h, ?_⟩, fun h => h, fun h => h⟩
    · simp only [Option.bind_some, hg.1, Bool.false_eq_true, if_false, g_profile_words, hat, hg.2, beq_self_eq_true, Bool.not_true, g_lines_Scan]
      rw [show (⟨x, 0, 0, ⟨0, 0, 0⟩⟩ : T_lines_Scanner) = toP ⟨x, 0, 0, 0⟩ from rfl]
      simp only [hcap, hW, Option.bind_some, Int.reduceBEq, Bool.false_eq_true, if_false, if_true, q0, z2]
    · rw [show (⟨x, 0, 0, 0⟩ : T_captionerref07_Scanner) = ⟨x, ((0 : Nat) : Int), 0, 0⟩ from rfl]
      simp only [Option.bind_some, hC]
      rw [show (⟨x, ((0 + 1 : Nat) : Int), 0, 0⟩ : T_captionerref07_Scanner) = ⟨x, 1, 0, 0⟩ from rfl]
      simp only [Option.bind_some, Int.reduceBEq, Bool.false_eq_true, if_false, if_true, r0]
    · rw [(z3 h).1]; rw [m0]
  · obtain ⟨a, hB⟩ := choice_bad hx.1 hy2 ([71, 65, 80] : List UInt8) hg
    refine ⟨⟨x.Number, y.Column, 4⟩, true, p, ⟨x, a, 4, y.Column⟩, ⟨p.Name, p.Reading, p.MinFrames, p.MaxFrames, 0, p.ShotBefore, p.ShotAfter, p.Rows, p.Cols, p.Forbidden, p.SafeTop, p.SafeBottom, p.SafeLeft, p.SafeRight⟩, ?_, ?_, bad_end rfl, fun h => by simp at h, fun _ => ⟨by simp, rfl⟩, fun h => h, fun h => h⟩
    · cases hq : y.Quoted
      · have hne2 : y.Text ≠ ([71, 65, 80] : List UInt8) := fun e => hg ⟨hq, e⟩
        have hb : (y.Text == ([71, 65, 80] : List UInt8)) = false := by simpa using hne2
        simp only [Option.bind_some, hq, Bool.false_eq_true, if_false, g_profile_words, hat, hb, Bool.not_false, if_true]
      · simp only [Option.bind_some, hq, if_true]
    · simp only [Option.bind_some, hB, Int.reduceBEq, Bool.false_eq_true, if_false, if_true, bad_num, bad_name, bad_quoted]
theorem take_4 {x : T_api_Line} (hx : lnOK x) (hne : x.Fields ≠ []) (p : T_api_Profile) : takeR x 4 p := by
  obtain ⟨y, t, hxf⟩ := List.exists_cons_of_ne_nil hne
  have hy : atI x.Fields 0 = some y := by rw [hxf]; rfl
  have hy2 : x.Fields[0]? = some y := by rw [hxf]; rfl
  have hlen : 0 < x.Fields.length := List.length_pos_iff.2 hne
  have hsub : subI ([[80, 82, 79, 70, 73, 76, 69], [82, 69, 65, 68, 73, 78, 71], [70, 82, 65, 77, 69, 83], [71, 65, 80], [83, 72, 79, 84, 83], [83, 73, 90, 69], [83, 65, 70, 69], [70, 79, 82, 66, 73, 68, 68, 69, 78]] : List (List UInt8)) 4 (IntKind.i64.wrap (4 + 1)) = some [[83, 72, 79, 84, 83]] := by decide
  have hat : atI ([[80, 82, 79, 70, 73, 76, 69], [82, 69, 65, 68, 73, 78, 71], [70, 82, 65, 77, 69, 83], [71, 65, 80], [83, 72, 79, 84, 83], [83, 73, 90, 69], [83, 65, 70, 69], [70, 79, 82, 66, 73, 68, 68, 69, 78]] : List (List UInt8)) 4 = some [83, 72, 79, 84, 83] := rfl
  have hcap : x.Fields.length * 32 ≤ 140737488355328 := by have := hx.1; omega
  unfold takeR g_profile_take g_ref39_take
  rw [hy, hsub]
  by_cases hg : y.Quoted = false ∧ y.Text = ([83, 72, 79, 84, 83] : List UInt8)
  · have hC := choice_at (L := x) (k := 0) (f := y) (ws := [[83, 72, 79, 84, 83]]) hx.1 hy2 hg.1 0 (by simp) (by rw [hg.2]; rfl) (by omega)
    have hW := word_ok hx hy2 hg.1
    have hS : SOK ⟨x, 1, 0, 0⟩ := ⟨by simp, by simp; omega, hx.1, hx.2⟩
    obtain ⟨v0, s0, r0, q0, k0, m0⟩ := num_both hS
    obtain ⟨v1, s1, r1, q1, k1, m1⟩ := num_both k0
    obtain ⟨d, b, z1, z2, z3, z4⟩ := end_both k1
    have hd : b = true → d.Code ≠ 0 := fun h => (z3 h).2
    refine ⟨d, b, ⟨p.Name, p.Reading, p.MinFrames, p.MaxFrames, p.MinGap, v0, v1, p.Rows, p.Cols, p.Forbidden, p.SafeTop, p.SafeBottom, p.SafeLeft, p.SafeRight⟩, s1, ⟨p.Name, p.Reading, p.MinFrames, p.MaxFrames, p.MinGap, v0, v1, p.Rows, p.Cols, p.Forbidden, p.SafeTop, p.SafeBottom, p.SafeLeft, p.SafeRight⟩, ?_, ?_, z1, fun _ => rfl, fun h => ⟨hd h, ?_⟩, fun h => h, fun h => h⟩
    · simp only [Option.bind_some, hg.1, Bool.false_eq_true, if_false, g_profile_words, hat, hg.2, beq_self_eq_true, Bool.not_true, g_lines_Scan]
      rw [show (⟨x, 0, 0, ⟨0, 0, 0⟩⟩ : T_lines_Scanner) = toP ⟨x, 0, 0, 0⟩ from rfl]
      simp only [hcap, hW, Option.bind_some, Int.reduceBEq, Bool.false_eq_true, if_false, if_true, q0, q1, z2]
    · rw [show (⟨x, 0, 0, 0⟩ : T_captionerref07_Scanner) = ⟨x, ((0 : Nat) : Int), 0, 0⟩ from rfl]
      simp only [Option.bind_some, hC]
      rw [show (⟨x, ((0 + 1 : Nat) : Int), 0, 0⟩ : T_captionerref07_Scanner) = ⟨x, 1, 0, 0⟩ from rfl]
      simp only [Option.bind_some, Int.reduceBEq, Bool.false_eq_true, if_false, if_true, r0, r1]
    · rw [(z3 h).1]; rw [m1, m0]
  · obtain ⟨a, hB⟩ := choice_bad hx.1 hy2 ([83, 72, 79, 84, 83] : List UInt8) hg
    refine ⟨⟨x.Number, y.Column, 4⟩, true, p, ⟨x, a, 4, y.Column⟩, ⟨p.Name, p.Reading, p.MinFrames, p.MaxFrames, p.MinGap, 0, 0, p.Rows, p.Cols, p.Forbidden, p.SafeTop, p.SafeBottom, p.SafeLeft, p.SafeRight⟩, ?_, ?_, bad_end rfl, fun h => by simp at h, fun _ => ⟨by simp, rfl⟩, fun h => h, fun h => h⟩
    · cases hq : y.Quoted
      · have hne2 : y.Text ≠ ([83, 72, 79, 84, 83] : List UInt8) := fun e => hg ⟨hq, e⟩
        have hb : (y.Text == ([83, 72, 79, 84, 83] : List UInt8)) = false := by simpa using hne2
        simp only [Option.bind_some, hq, Bool.false_eq_true, if_false, g_profile_words, hat, hb, Bool.not_false, if_true]
      · simp only [Option.bind_some, hq, if_true]
    · simp only [Option.bind_some, hB, Int.reduceBEq, Bool.false_eq_true, if_false, if_true, bad_num, bad_name, bad_quoted]
theorem take_5 {x : T_api_Line} (hx : lnOK x) (hne : x.Fields ≠ []) (p : T_api_Profile) : takeR x 5 p := by
  obtain ⟨y, t, hxf⟩ := List.exists_cons_of_ne_nil hne
  have hy : atI x.Fields 0 = some y := by rw [hxf]; rfl
  have hy2 : x.Fields[0]? = some y := by rw [hxf]; rfl
  have hlen : 0 < x.Fields.length := List.length_pos_iff.2 hne
  have hsub : subI ([[80, 82, 79, 70, 73, 76, 69], [82, 69, 65, 68, 73, 78, 71], [70, 82, 65, 77, 69, 83], [71, 65, 80], [83, 72, 79, 84, 83], [83, 73, 90, 69], [83, 65, 70, 69], [70, 79, 82, 66, 73, 68, 68, 69, 78]] : List (List UInt8)) 5 (IntKind.i64.wrap (5 + 1)) = some [[83, 73, 90, 69]] := by decide
  have hat : atI ([[80, 82, 79, 70, 73, 76, 69], [82, 69, 65, 68, 73, 78, 71], [70, 82, 65, 77, 69, 83], [71, 65, 80], [83, 72, 79, 84, 83], [83, 73, 90, 69], [83, 65, 70, 69], [70, 79, 82, 66, 73, 68, 68, 69, 78]] : List (List UInt8)) 5 = some [83, 73, 90, 69] := rfl
  have hcap : x.Fields.length * 32 ≤ 140737488355328 := by have := hx.1; omega
  unfold takeR g_profile_take g_ref39_take
  rw [hy, hsub]
  by_cases hg : y.Quoted = false ∧ y.Text = ([83, 73, 90, 69] : List UInt8)
  · have hC := choice_at (L := x) (k := 0) (f := y) (ws := [[83, 73, 90, 69]]) hx.1 hy2 hg.1 0 (by simp) (by rw [hg.2]; rfl) (by omega)
    have hW := word_ok hx hy2 hg.1
    have hS : SOK ⟨x, 1, 0, 0⟩ := ⟨by simp, by simp; omega, hx.1, hx.2⟩
    obtain ⟨v0, s0, r0, q0, k0, m0⟩ := num_both hS
    obtain ⟨v1, s1, r1, q1, k1, m1⟩ := num_both k0
    obtain ⟨d, b, z1, z2, z3, z4⟩ := end_both k1
    have hd : b = true → d.Code ≠ 0 := fun h => (z3 h).2
    refine ⟨d, b, ⟨p.Name, p.Reading, p.MinFrames, p.MaxFrames, p.MinGap, p.ShotBefore, p.ShotAfter, v0, v1, p.Forbidden, p.SafeTop, p.SafeBottom, p.SafeLeft, p.SafeRight⟩, s1, ⟨p.Name, p.Reading, p.MinFrames, p.MaxFrames, p.MinGap, p.ShotBefore, p.ShotAfter, v0, v1, p.Forbidden, p.SafeTop, p.SafeBottom, p.SafeLeft, p.SafeRight⟩, ?_, ?_, z1, fun _ => rfl, fun h => ⟨hd h, ?_⟩, fun h => h, fun h => h⟩
    · simp only [Option.bind_some, hg.1, Bool.false_eq_true, if_false, g_profile_words, hat, hg.2, beq_self_eq_true, Bool.not_true, g_lines_Scan]
      rw [show (⟨x, 0, 0, ⟨0, 0, 0⟩⟩ : T_lines_Scanner) = toP ⟨x, 0, 0, 0⟩ from rfl]
      simp only [hcap, hW, Option.bind_some, Int.reduceBEq, Bool.false_eq_true, if_false, if_true, q0, q1, z2]
    · rw [show (⟨x, 0, 0, 0⟩ : T_captionerref07_Scanner) = ⟨x, ((0 : Nat) : Int), 0, 0⟩ from rfl]
      simp only [Option.bind_some, hC]
      rw [show (⟨x, ((0 + 1 : Nat) : Int), 0, 0⟩ : T_captionerref07_Scanner) = ⟨x, 1, 0, 0⟩ from rfl]
      simp only [Option.bind_some, Int.reduceBEq, Bool.false_eq_true, if_false, if_true, r0, r1]
    · rw [(z3 h).1]; rw [m1, m0]
  · obtain ⟨a, hB⟩ := choice_bad hx.1 hy2 ([83, 73, 90, 69] : List UInt8) hg
    refine ⟨⟨x.Number, y.Column, 4⟩, true, p, ⟨x, a, 4, y.Column⟩, ⟨p.Name, p.Reading, p.MinFrames, p.MaxFrames, p.MinGap, p.ShotBefore, p.ShotAfter, 0, 0, p.Forbidden, p.SafeTop, p.SafeBottom, p.SafeLeft, p.SafeRight⟩, ?_, ?_, bad_end rfl, fun h => by simp at h, fun _ => ⟨by simp, rfl⟩, fun h => h, fun h => h⟩
    · cases hq : y.Quoted
      · have hne2 : y.Text ≠ ([83, 73, 90, 69] : List UInt8) := fun e => hg ⟨hq, e⟩
        have hb : (y.Text == ([83, 73, 90, 69] : List UInt8)) = false := by simpa using hne2
        simp only [Option.bind_some, hq, Bool.false_eq_true, if_false, g_profile_words, hat, hb, Bool.not_false, if_true]
      · simp only [Option.bind_some, hq, if_true]
    · simp only [Option.bind_some, hB, Int.reduceBEq, Bool.false_eq_true, if_false, if_true, bad_num, bad_name, bad_quoted]
theorem take_6 {x : T_api_Line} (hx : lnOK x) (hne : x.Fields ≠ []) (p : T_api_Profile) : takeR x 6 p := by
  obtain ⟨y, t, hxf⟩ := List.exists_cons_of_ne_nil hne
  have hy : atI x.Fields 0 = some y := by rw [hxf]; rfl
  have hy2 : x.Fields[0]? = some y := by rw [hxf]; rfl
  have hlen : 0 < x.Fields.length := List.length_pos_iff.2 hne
  have hsub : subI ([[80, 82, 79, 70, 73, 76, 69], [82, 69, 65, 68, 73, 78, 71], [70, 82, 65, 77, 69, 83], [71, 65, 80], [83, 72, 79, 84, 83], [83, 73, 90, 69], [83, 65, 70, 69], [70, 79, 82, 66, 73, 68, 68, 69, 78]] : List (List UInt8)) 6 (IntKind.i64.wrap (6 + 1)) = some [[83, 65, 70, 69]] := by decide
  have hat : atI ([[80, 82, 79, 70, 73, 76, 69], [82, 69, 65, 68, 73, 78, 71], [70, 82, 65, 77, 69, 83], [71, 65, 80], [83, 72, 79, 84, 83], [83, 73, 90, 69], [83, 65, 70, 69], [70, 79, 82, 66, 73, 68, 68, 69, 78]] : List (List UInt8)) 6 = some [83, 65, 70, 69] := rfl
  have hcap : x.Fields.length * 32 ≤ 140737488355328 := by have := hx.1; omega
  unfold takeR g_profile_take g_ref39_take
  rw [hy, hsub]
  by_cases hg : y.Quoted = false ∧ y.Text = ([83, 65, 70, 69] : List UInt8)
  · have hC := choice_at (L := x) (k := 0) (f := y) (ws := [[83, 65, 70, 69]]) hx.1 hy2 hg.1 0 (by simp) (by rw [hg.2]; rfl) (by omega)
    have hW := word_ok hx hy2 hg.1
    have hS : SOK ⟨x, 1, 0, 0⟩ := ⟨by simp, by simp; omega, hx.1, hx.2⟩
    obtain ⟨v0, s0, r0, q0, k0, m0⟩ := num_both hS
    obtain ⟨v1, s1, r1, q1, k1, m1⟩ := num_both k0
    obtain ⟨v2, s2, r2, q2, k2, m2⟩ := num_both k1
    obtain ⟨v3, s3, r3, q3, k3, m3⟩ := num_both k2
    obtain ⟨d, b, z1, z2, z3, z4⟩ := end_both k3
    have hd : b = true → d.Code ≠ 0 := fun h => (z3 h).2
    refine ⟨d, b, ⟨p.Name, p.Reading, p.MinFrames, p.MaxFrames, p.MinGap, p.ShotBefore, p.ShotAfter, p.Rows, p.Cols, p.Forbidden, v0, v1, v2, v3⟩, s3, ⟨p.Name, p.Reading, p.MinFrames, p.MaxFrames, p.MinGap, p.ShotBefore, p.ShotAfter, p.Rows, p.Cols, p.Forbidden, v0, v1, v2, v3⟩, ?_, ?_, z1, fun _ => rfl, fun h => ⟨hd h, ?_⟩, fun h => h, fun h => h⟩
    · simp only [Option.bind_some, hg.1, Bool.false_eq_true, if_false, g_profile_words, hat, hg.2, beq_self_eq_true, Bool.not_true, g_lines_Scan]
      rw [show (⟨x, 0, 0, ⟨0, 0, 0⟩⟩ : T_lines_Scanner) = toP ⟨x, 0, 0, 0⟩ from rfl]
      simp only [hcap, hW, Option.bind_some, Int.reduceBEq, Bool.false_eq_true, if_false, if_true, q0, q1, q2, q3, z2]
    · rw [show (⟨x, 0, 0, 0⟩ : T_captionerref07_Scanner) = ⟨x, ((0 : Nat) : Int), 0, 0⟩ from rfl]
      simp only [Option.bind_some, hC]
      rw [show (⟨x, ((0 + 1 : Nat) : Int), 0, 0⟩ : T_captionerref07_Scanner) = ⟨x, 1, 0, 0⟩ from rfl]
      simp only [Option.bind_some, Int.reduceBEq, Bool.false_eq_true, if_false, if_true, r0, r1, r2, r3]
    · rw [(z3 h).1]; rw [m3, m2, m1, m0]
  · obtain ⟨a, hB⟩ := choice_bad hx.1 hy2 ([83, 65, 70, 69] : List UInt8) hg
    refine ⟨⟨x.Number, y.Column, 4⟩, true, p, ⟨x, a, 4, y.Column⟩, ⟨p.Name, p.Reading, p.MinFrames, p.MaxFrames, p.MinGap, p.ShotBefore, p.ShotAfter, p.Rows, p.Cols, p.Forbidden, 0, 0, 0, 0⟩, ?_, ?_, bad_end rfl, fun h => by simp at h, fun _ => ⟨by simp, rfl⟩, fun h => h, fun h => h⟩
    · cases hq : y.Quoted
      · have hne2 : y.Text ≠ ([83, 65, 70, 69] : List UInt8) := fun e => hg ⟨hq, e⟩
        have hb : (y.Text == ([83, 65, 70, 69] : List UInt8)) = false := by simpa using hne2
        simp only [Option.bind_some, hq, Bool.false_eq_true, if_false, g_profile_words, hat, hb, Bool.not_false, if_true]
      · simp only [Option.bind_some, hq, if_true]
    · simp only [Option.bind_some, hB, Int.reduceBEq, Bool.false_eq_true, if_false, if_true, bad_num, bad_name, bad_quoted]
theorem take_7 {x : T_api_Line} (hx : lnOK x) (hne : x.Fields ≠ []) (p : T_api_Profile) : takeR x 7 p := by
  obtain ⟨y, t, hxf⟩ := List.exists_cons_of_ne_nil hne
  have hy : atI x.Fields 0 = some y := by rw [hxf]; rfl
  have hy2 : x.Fields[0]? = some y := by rw [hxf]; rfl
  have hlen : 0 < x.Fields.length := List.length_pos_iff.2 hne
  have hsub : subI ([[80, 82, 79, 70, 73, 76, 69], [82, 69, 65, 68, 73, 78, 71], [70, 82, 65, 77, 69, 83], [71, 65, 80], [83, 72, 79, 84, 83], [83, 73, 90, 69], [83, 65, 70, 69], [70, 79, 82, 66, 73, 68, 68, 69, 78]] : List (List UInt8)) 7 (IntKind.i64.wrap (7 + 1)) = some [[70, 79, 82, 66, 73, 68, 68, 69, 78]] := by decide
  have hat : atI ([[80, 82, 79, 70, 73, 76, 69], [82, 69, 65, 68, 73, 78, 71], [70, 82, 65, 77, 69, 83], [71, 65, 80], [83, 72, 79, 84, 83], [83, 73, 90, 69], [83, 65, 70, 69], [70, 79, 82, 66, 73, 68, 68, 69, 78]] : List (List UInt8)) 7 = some [70, 79, 82, 66, 73, 68, 68, 69, 78] := rfl
  have hcap : x.Fields.length * 32 ≤ 140737488355328 := by have := hx.1; omega
  unfold takeR g_profile_take g_ref39_take
  rw [hy, hsub]
  by_cases hg : y.Quoted = false ∧ y.Text = ([70, 79, 82, 66, 73, 68, 68, 69, 78] : List UInt8)
  · have hC := choice_at (L := x) (k := 0) (f := y) (ws := [[70, 79, 82, 66, 73, 68, 68, 69, 78]]) hx.1 hy2 hg.1 0 (by simp) (by rw [hg.2]; rfl) (by omega)
    have hW := word_ok hx hy2 hg.1
    have hS : SOK ⟨x, 1, 0, 0⟩ := ⟨by simp, by simp; omega, hx.1, hx.2⟩
    obtain ⟨v0, s0, r0, q0, k0, m0, j0⟩ := quoted_both hS
    obtain ⟨d, b, z1, z2, z3, z4⟩ := end_both k0
    have hd : b = true → d.Code ≠ 0 := fun h => (z3 h).2
    refine ⟨d, b, ⟨p.Name, p.Reading, p.MinFrames, p.MaxFrames, p.MinGap, p.ShotBefore, p.ShotAfter, p.Rows, p.Cols, v0, p.SafeTop, p.SafeBottom, p.SafeLeft, p.SafeRight⟩, s0, ⟨p.Name, p.Reading, p.MinFrames, p.MaxFrames, p.MinGap, p.ShotBefore, p.ShotAfter, p.Rows, p.Cols, v0, p.SafeTop, p.SafeBottom, p.SafeLeft, p.SafeRight⟩, ?_, ?_, z1, fun _ => rfl, fun h => ⟨hd h, ?_⟩, fun h => h, fun _ => j0⟩
    · simp only [Option.bind_some, hg.1, Bool.false_eq_true, if_false, g_profile_words, hat, hg.2, beq_self_eq_true, Bool.not_true, g_lines_Scan]
      rw [show (⟨x, 0, 0, ⟨0, 0, 0⟩⟩ : T_lines_Scanner) = toP ⟨x, 0, 0, 0⟩ from rfl]
      simp only [hcap, hW, Option.bind_some, Int.reduceBEq, Bool.false_eq_true, if_false, if_true, q0, z2]
    · rw [show (⟨x, 0, 0, 0⟩ : T_captionerref07_Scanner) = ⟨x, ((0 : Nat) : Int), 0, 0⟩ from rfl]
      simp only [Option.bind_some, hC]
      rw [show (⟨x, ((0 + 1 : Nat) : Int), 0, 0⟩ : T_captionerref07_Scanner) = ⟨x, 1, 0, 0⟩ from rfl]
      simp only [Option.bind_some, Int.reduceBEq, Bool.false_eq_true, if_false, if_true, r0]
    · rw [(z3 h).1]; rw [m0]
  · obtain ⟨a, hB⟩ := choice_bad hx.1 hy2 ([70, 79, 82, 66, 73, 68, 68, 69, 78] : List UInt8) hg
    refine ⟨⟨x.Number, y.Column, 4⟩, true, p, ⟨x, a, 4, y.Column⟩, ⟨p.Name, p.Reading, p.MinFrames, p.MaxFrames, p.MinGap, p.ShotBefore, p.ShotAfter, p.Rows, p.Cols, [], p.SafeTop, p.SafeBottom, p.SafeLeft, p.SafeRight⟩, ?_, ?_, bad_end rfl, fun h => by simp at h, fun _ => ⟨by simp, rfl⟩, fun h => h, fun h => h⟩
    · cases hq : y.Quoted
      · have hne2 : y.Text ≠ ([70, 79, 82, 66, 73, 68, 68, 69, 78] : List UInt8) := fun e => hg ⟨hq, e⟩
        have hb : (y.Text == ([70, 79, 82, 66, 73, 68, 68, 69, 78] : List UInt8)) = false := by simpa using hne2
        simp only [Option.bind_some, hq, Bool.false_eq_true, if_false, g_profile_words, hat, hb, Bool.not_false, if_true]
      · simp only [Option.bind_some, hq, if_true]
    · simp only [Option.bind_some, hB, Int.reduceBEq, Bool.false_eq_true, if_false, if_true, bad_num, bad_name, bad_quoted]
theorem take39 {x : T_api_Line} (hx : lnOK x) (hne : x.Fields ≠ []) (i : Nat) (hi : i < 8) (p : T_api_Profile) : takeR x (i : Int) p := by
  have : i = 0 ∨ i = 1 ∨ i = 2 ∨ i = 3 ∨ i = 4 ∨ i = 5 ∨ i = 6 ∨ i = 7 := by omega
  rcases this with rfl | rfl | rfl | rfl | rfl | rfl | rfl | rfl
  · exact take_0 hx hne p
  · exact take_1 hx hne p
  · exact take_2 hx hne p
  · exact take_3 hx hne p
  · exact take_4 hx hne p
  · exact take_5 hx hne p
  · exact take_6 hx hne p
  · exact take_7 hx hne p
end Go.Proofs.YtedhognhhcihpaaGreatDoor
namespace Go.Proofs.YtedhognhhcihpaaGreatDoor
set_option maxRecDepth 100000
def tpP (p : T_api_Profile) : (List UInt8) × Int × Int × Int × Int × Int × Int × Int × Int × (List UInt8) × Int × Int × Int × Int := (p.Name, p.Reading, p.MinFrames, p.MaxFrames, p.MinGap, p.ShotBefore, p.ShotAfter, p.Rows, p.Cols, p.Forbidden, p.SafeTop, p.SafeBottom, p.SafeLeft, p.SafeRight)
def tpD (p : T_api_Profile) (d : List T_api_Diag) : (List UInt8) × Int × Int × Int × Int × Int × Int × Int × Int × (List UInt8) × Int × Int × Int × Int × (List T_api_Diag) := (p.Name, p.Reading, p.MinFrames, p.MaxFrames, p.MinGap, p.ShotBefore, p.ShotAfter, p.Rows, p.Cols, p.Forbidden, p.SafeTop, p.SafeBottom, p.SafeLeft, p.SafeRight, d)
def lpS (ls : List T_api_Line) : Nat → Nat → Int → T_api_Profile → (List T_api_Diag) ⊕ T_api_Profile
  | 0, _, _, p => .inr p
  | m + 1, i, nx, p => match ls[i]? with
    | none => .inl [⟨nx, 1, 4⟩]
    | some x => match g_profile_take p x (i : Int) with
      | some (d, true, _) => .inl [d]
      | some (_, false, q) => lpS ls m (i + 1) (x.Number + 1) q
      | none => .inr p
def lsG (ls : List T_api_Line) : Prop := ∀ x ∈ ls, lnOK x ∧ x.Fields ≠ [] ∧ 1 ≤ x.Number ∧ x.Number ≤ 10000000
def cvP : (List T_api_Diag) ⊕ T_api_Profile → (List T_api_Diag) ⊕ ((List UInt8) × Int × Int × Int × Int × Int × Int × Int × Int × (List UInt8) × Int × Int × Int × Int)
  | .inl d => .inl d
  | .inr p => .inr (tpP p)
def cvR : (List T_api_Diag) ⊕ T_api_Profile → ((List UInt8) × Int × Int × Int × Int × Int × Int × Int × Int × (List UInt8) × Int × Int × Int × Int × (List T_api_Diag)) ⊕ ((List UInt8) × Int × Int × Int × Int × Int × Int × Int × Int × (List UInt8) × Int × Int × Int × Int)
  | .inl d => .inl (tpD zP d)
  | .inr p => .inr (tpP p)
theorem prog_lp {ls : List T_api_Line} (hls : lsG ls) (hl : ls.length ≤ 10000000) (ds : List T_api_Diag) : iter (g_profile_Parse_s1 (ls, ds) [[80, 82, 79, 70, 73, 76, 69], [82, 69, 65, 68, 73, 78, 71], [70, 82, 65, 77, 69, 83], [71, 65, 80], [83, 72, 79, 84, 83], [83, 73, 90, 69], [83, 65, 70, 69], [70, 79, 82, 66, 73, 68, 68, 69, 78]]) (1, 0, tpP zP) = some (cvP (lpS ls 8 0 1 zP)) := by
  refine iter_of (fun x e => ∃ (m i : Nat) (nx : Int) (p : T_api_Profile), i + m = 8 ∧ x = (nx, (i : Int), tpP p) ∧ e = cvP (lpS ls m i nx p)) (fun x => 8 - x.2.1.toNat) ?_ (x := (1, 0, tpP zP)) ⟨8, 0, 1, zP, rfl, rfl, rfl⟩ (by decide)
  rintro x e ⟨m, i, nx, p, him, rfl, rfl⟩
  unfold g_profile_Parse_s1
  dsimp only [tpP]
  cases m with
  | zero =>
    right
    obtain rfl : i = 8 := by omega
    rw [if_neg (by simp)]
    rfl
  | succ m =>
    rw [if_pos (by simp; omega)]
    by_cases h : i < ls.length
    · have hx := hls ls[i] (List.getElem_mem h)
      obtain ⟨d, b, p', s, q, h1, h2, h3, h4, h5, _⟩ := take39 hx.1 hx.2.1 i (by omega) p
      rw [if_neg (by simp; omega), atI_nat h]
      simp only [Option.bind_some]
      rw [show (T_api_Profile.mk p.Name p.Reading p.MinFrames p.MaxFrames p.MinGap p.ShotBefore p.ShotAfter p.Rows p.Cols p.Forbidden p.SafeTop p.SafeBottom p.SafeLeft p.SafeRight) = p from rfl, h1]
      have hlp : lpS ls (m + 1) i nx p = (if b = true then .inl [d] else lpS ls m (i + 1) (ls[i].Number + 1) p') := by
        rw [lpS, List.getElem?_eq_getElem h]
        simp only [h1]
        cases b <;> rfl
      rw [hlp]
      simp only [Option.bind_some]
      cases b
      · left
        rw [wr64 (by omega), wr64 (by omega)]
        refine ⟨_, rfl, ⟨m, i + 1, ls[i].Number + 1, p', by omega, rfl, rfl⟩, ?_⟩
        dsimp only
        omega
      · right
        rfl
    · right
      rw [if_pos (by simp; omega)]
      rw [lpS, List.getElem?_eq_none (by omega)]
      rfl
theorem ref_lp {ls : List T_api_Line} (hls : lsG ls) (hl : ls.length ≤ 10000000) (ds : List T_api_Diag) : iter (g_ref39_Parse_s1 (ls, ds)) (0, tpP zP) = some (cvR (lpS ls 8 0 1 zP)) := by
  refine iter_of (fun x e => ∃ (m i : Nat) (nx : Int) (p : T_api_Profile), i + m = 8 ∧ i ≤ ls.length ∧ (i = 0 → nx = 1) ∧ (∀ y, 0 < i → ls[i - 1]? = some y → nx = y.Number + 1) ∧ x = ((i : Int), tpP p) ∧ e = cvR (lpS ls m i nx p)) (fun x => 8 - x.1.toNat) ?_ (x := (0, tpP zP)) ⟨8, 0, 1, zP, rfl, Nat.zero_le _, fun _ => rfl, fun _ h => by omega, rfl, rfl⟩ (by decide)
  rintro x e ⟨m, i, nx, p, him, hil, hn0, hn1, rfl, rfl⟩
  unfold g_ref39_Parse_s1
  dsimp only [tpP]
  cases m with
  | zero =>
    right
    obtain rfl : i = 8 := by omega
    rw [if_neg (by simp)]
    rfl
  | succ m =>
    rw [if_pos (by simp; omega)]
    by_cases h : i < ls.length
    · have hx := hls ls[i] (List.getElem_mem h)
      obtain ⟨d, b, p', s, q, h1, h2, h3, h4, h5, _⟩ := take39 hx.1 hx.2.1 i (by omega) p
      rw [if_neg (by simp; omega), atI_nat h]
      simp only [Option.bind_some, g_ref07_Scan]
      have hcap : ls[i].Fields.length * 32 ≤ 140737488355328 := by have := hx.1.1; omega
      rw [show (T_api_Profile.mk p.Name p.Reading p.MinFrames p.MaxFrames p.MinGap p.ShotBefore p.ShotAfter p.Rows p.Cols p.Forbidden p.SafeTop p.SafeBottom p.SafeLeft p.SafeRight) = p from rfl, h2]
      have hlp : lpS ls (m + 1) i nx p = (if b = true then .inl [d] else lpS ls m (i + 1) (ls[i].Number + 1) p') := by
        rw [lpS, List.getElem?_eq_getElem h]
        simp only [h1]
        cases b <;> rfl
      rw [hlp]
      simp only [Option.bind_some, h3]
      cases b
      · left
        obtain rfl := h4 rfl
        rw [wr64 (by omega)]
        refine ⟨_, rfl, ⟨m, i + 1, ls[i].Number + 1, q, by omega, h, fun e => by omega, fun y _ hy => ?_, rfl, rfl⟩, ?_⟩
        · rw [show i + 1 - 1 = i from by omega, List.getElem?_eq_getElem h] at hy
          injection hy with hy
          rw [← hy]
        · dsimp only
          omega
      · right
        rfl
    · have hie : i = ls.length := by omega
      right
      rw [if_pos (by simp [hie])]
      rw [lpS, List.getElem?_eq_none (by omega)]
      by_cases h0 : i = 0
      · subst h0
        rw [hn0 rfl]
        rfl
      · rw [if_pos (by simp; omega)]
        have hi1 : i - 1 < ls.length := by omega
        have hnx := hn1 ls[i - 1] (by omega) (List.getElem?_eq_getElem hi1)
        have e1 : IntKind.i64.wrap ((i : Int) - 1) = ((i - 1 : Nat) : Int) := by rw [wr64 (by omega)]; omega
        have hx := hls ls[i - 1] (List.getElem_mem hi1)
        rw [e1, atI_nat hi1]
        simp only [Option.bind_some]
        rw [wr64 (by omega), hnx]
        rfl
theorem lp_long {ls : List T_api_Line} : ∀ (m i : Nat) (nx : Int) (p q : T_api_Profile), lsG ls → i + m ≤ 8 → lpS ls m i nx p = .inr q → i + m ≤ ls.length ∨ m = 0
  | 0, _, _, _, _, _, _, _ => .inr rfl
  | m + 1, i, nx, p, q, hls, him, h => by
    left
    by_cases hi : i < ls.length
    · have hx := hls ls[i] (List.getElem_mem hi)
      obtain ⟨d, b, p', s, q', h1, _⟩ := take39 hx.1 hx.2.1 i (by omega) p
      rw [lpS, List.getElem?_eq_getElem hi] at h
      simp only [h1] at h
      cases b
      · rcases lp_long m (i + 1) _ p' q hls (by omega) h with h2 | h2 <;> omega
      · cases h
    · rw [lpS, List.getElem?_eq_none (by omega)] at h
      cases h
theorem lp_len {ls : List T_api_Line} : ∀ (m i : Nat) (nx : Int) (p q : T_api_Profile), lsG ls → i + m ≤ 8 → lpS ls m i nx p = .inr q → p.Name.length ≤ 1000 ∧ p.Forbidden.length ≤ 1000 → q.Name.length ≤ 1000 ∧ q.Forbidden.length ≤ 1000
  | 0, _, _, _, _, _, _, h, hp => by injection h with h; subst h; exact hp
  | m + 1, i, nx, p, q, hls, him, h, hp => by
    by_cases hi : i < ls.length
    · have hx := hls ls[i] (List.getElem_mem hi)
      obtain ⟨d', b, p', s, q', h1, _, _, _, _, h6, h7⟩ := take39 hx.1 hx.2.1 i (by omega) p
      rw [lpS, List.getElem?_eq_getElem hi] at h
      simp only [h1] at h
      cases b
      · exact lp_len m (i + 1) _ p' q hls (by omega) h ⟨h6 hp.1, h7 hp.2⟩
      · cases h
    · rw [lpS, List.getElem?_eq_none (by omega)] at h
      cases h
def paS (src : List UInt8) : T_api_Profile × List T_api_Diag :=
  if (splitS src).2 = [] then (match lpS (splitS src).1 8 0 1 zP with
    | .inl d => (zP, d)
    | .inr p => if h : 8 < (splitS src).1.length then (zP, [⟨(splitS src).1[8].Number, ((splitS src).1[8].Fields.map (·.Column)).headD 0, 4⟩]) else if ckS p = 0 then (p, []) else (zP, [⟨(((splitS src).1).map (·.Number)).headD 0, 1, ckS p⟩]))
  else (zP, (splitS src).2)
theorem split_lsG (src : List UInt8) : lsG (splitS src).1 := by
  intro x hx
  have h1 := splitS_small src
  have h2 := splitS_texts src x hx
  have h3 := (splitS_good src).1
  have h4 := spL_len src
  by_cases h : 262144 < src.length
  · have e : (splitS src).1 = [] := by unfold splitS; rw [if_pos h]
    rw [e] at hx; simp at hx
  · obtain ⟨_, h5⟩ := h3
    obtain ⟨a, b, c⟩ := h5 x hx
    refine ⟨⟨h1.2.2 x hx, h2⟩, c, a, ?_⟩
    omega
theorem Parse_both (src : List UInt8) : g_profile_Parse src = some (paS src) ∧ g_ref39_Parse src = some (paS src) := by
  have hg := split_lsG src
  have hsm := splitS_small src
  have hP := prog_lp hg (by omega) (splitS src).2
  have hR := ref_lp hg (by omega) (splitS src).2
  have hw : g_profile_words = some [[80, 82, 79, 70, 73, 76, 69], [82, 69, 65, 68, 73, 78, 71], [70, 82, 65, 77, 69, 83], [71, 65, 80], [83, 72, 79, 84, 83], [83, 73, 90, 69], [83, 65, 70, 69], [70, 79, 82, 66, 73, 68, 68, 69, 78]] := rfl
  by_cases h0 : (splitS src).2 = []
  · have hlen := lp_long (ls := (splitS src).1) 8 0 1 zP
    have hq := lp_len (ls := (splitS src).1) 8 0 1 zP
    constructor
    · unfold g_profile_Parse paS
      rw [lines_Split_eq]
      simp only [Option.bind_some]
      rw [if_neg (by rw [h0]; simp), if_pos h0, hw]
      simp only [Option.bind_some]
      rw [show ((1 : Int), (0 : Int), ([] : List UInt8), (0 : Int), (0 : Int), (0 : Int), (0 : Int), (0 : Int), (0 : Int), (0 : Int), (0 : Int), ([] : List UInt8), (0 : Int), (0 : Int), (0 : Int), (0 : Int)) = (1, 0, tpP zP) from rfl, show splitS src = ((splitS src).1, (splitS src).2) from rfl, hP]
      cases hlp : lpS (splitS src).1 8 0 1 zP with
      | inl d => rfl
      | inr p =>
        have h8 : 8 ≤ (splitS src).1.length := by rcases hlen p hg (by omega) hlp with h | h <;> omega
        have hpl := hq p hg (by omega) hlp (by decide)
        simp only [cvP, Option.bind_some]
        by_cases h9 : 8 < (splitS src).1.length
        · have hx := (hg _ (List.getElem_mem h9)).2.1
          obtain ⟨y, t, hy⟩ := List.exists_cons_of_ne_nil hx
          rw [if_pos (by simp; omega), dif_pos h9, show atI (splitS src).1 (([[80, 82, 79, 70, 73, 76, 69], [82, 69, 65, 68, 73, 78, 71], [70, 82, 65, 77, 69, 83], [71, 65, 80], [83, 72, 79, 84, 83], [83, 73, 90, 69], [83, 65, 70, 69], [70, 79, 82, 66, 73, 68, 68, 69, 78]] : List (List UInt8)).length : Int) = some (splitS src).1[8] from atI_nat (n := 8) h9]
          simp only [Option.bind_some, hy]
          rfl
        · rw [if_neg (by simp; omega), dif_neg h9]
          rw [show (T_api_Profile.mk (tpP p).1 (tpP p).2.1 (tpP p).2.2.1 (tpP p).2.2.2.1 (tpP p).2.2.2.2.1 (tpP p).2.2.2.2.2.1 (tpP p).2.2.2.2.2.2.1 (tpP p).2.2.2.2.2.2.2.1 (tpP p).2.2.2.2.2.2.2.2.1 (tpP p).2.2.2.2.2.2.2.2.2.1 (tpP p).2.2.2.2.2.2.2.2.2.2.1 (tpP p).2.2.2.2.2.2.2.2.2.2.2.1 (tpP p).2.2.2.2.2.2.2.2.2.2.2.2.1 (tpP p).2.2.2.2.2.2.2.2.2.2.2.2.2) = p from rfl, prog_Check p hpl.1 hpl.2]
          simp only [Option.bind_some]
          by_cases hc : ckS p = 0
          · rw [if_neg (by simp [hc]), if_pos hc]
          · obtain ⟨y, t, hy⟩ := List.exists_cons_of_ne_nil (l := (splitS src).1) (by intro e; rw [e] at h8; simp at h8)
            rw [if_pos (by simpa using hc), if_neg hc, show atI (splitS src).1 0 = some y from by rw [hy]; rfl]
            simp only [Option.bind_some, hy]
            rfl
    · unfold g_ref39_Parse paS
      rw [Split_n_eq]
      simp only [Option.bind_some]
      rw [if_pos (by rw [h0]; rfl), if_pos h0]
      rw [show ((0 : Int), ([] : List UInt8), (0 : Int), (0 : Int), (0 : Int), (0 : Int), (0 : Int), (0 : Int), (0 : Int), (0 : Int), ([] : List UInt8), (0 : Int), (0 : Int), (0 : Int), (0 : Int)) = (0, tpP zP) from rfl, show splitS src = ((splitS src).1, (splitS src).2) from rfl, hR]
      cases hlp : lpS (splitS src).1 8 0 1 zP with
      | inl d => rfl
      | inr p =>
        have h8 : 8 ≤ (splitS src).1.length := by rcases hlen p hg (by omega) hlp with h | h <;> omega
        have hpl := hq p hg (by omega) hlp (by decide)
        simp only [cvR, Option.bind_some]
        by_cases h9 : 8 < (splitS src).1.length
        · have hx := (hg _ (List.getElem_mem h9)).2.1
          obtain ⟨y, t, hy⟩ := List.exists_cons_of_ne_nil hx
          rw [if_pos (by simp; omega), dif_pos h9, show atI (splitS src).1 8 = some (splitS src).1[8] from atI_nat (n := 8) h9]
          simp only [Option.bind_some, hy]
          rfl
        · rw [if_neg (by simp; omega), dif_neg h9]
          rw [show (T_api_Profile.mk (tpP p).1 (tpP p).2.1 (tpP p).2.2.1 (tpP p).2.2.2.1 (tpP p).2.2.2.2.1 (tpP p).2.2.2.2.2.1 (tpP p).2.2.2.2.2.2.1 (tpP p).2.2.2.2.2.2.2.1 (tpP p).2.2.2.2.2.2.2.2.1 (tpP p).2.2.2.2.2.2.2.2.2.1 (tpP p).2.2.2.2.2.2.2.2.2.2.1 (tpP p).2.2.2.2.2.2.2.2.2.2.2.1 (tpP p).2.2.2.2.2.2.2.2.2.2.2.2.1 (tpP p).2.2.2.2.2.2.2.2.2.2.2.2.2) = p from rfl, ref_Check p hpl.1 hpl.2]
          simp only [Option.bind_some]
          by_cases hc : ckS p = 0
          · rw [if_neg (by simp [hc]), if_pos hc]
          · obtain ⟨y, t, hy⟩ := List.exists_cons_of_ne_nil (l := (splitS src).1) (by intro e; rw [e] at h8; simp at h8)
            rw [if_pos (by simpa using hc), if_neg hc, show atI (splitS src).1 0 = some y from by rw [hy]; rfl]
            simp only [Option.bind_some, hy]
            rfl
  · have hpos := List.length_pos_iff.2 h0
    constructor
    · unfold g_profile_Parse paS
      rw [lines_Split_eq]
      simp only [Option.bind_some]
      rw [if_pos (by simpa using hpos), if_neg h0]
      rfl
    · unfold g_ref39_Parse paS
      rw [Split_n_eq]
      simp only [Option.bind_some]
      rw [if_neg (by simpa using h0), if_neg h0]
      rfl
end Go.Proofs.YtedhognhhcihpaaGreatDoor
namespace Go.Proofs.YtedhognhhcihpaaGreatDoor
set_option maxRecDepth 100000
theorem num_ok {n : Int} (h : 0 ≤ n ∧ n ≤ 5184000) : g_ref07_Number (Lib.itoa n) 0 5184000 = some (n, 0) := by
  have h1 := itoa_len (n := n) (by omega)
  rw [ref_Number_eq _ _ _ (by omega), numS_in n 0 5184000 (by omega) (by omega) h.1 h.2]
theorem num_at {L : T_api_Line} {k : Nat} {n : Int} {c : Int} (hl : L.Fields.length ≤ 1000) (hf : L.Fields[k]? = some ⟨Lib.itoa n, c, false⟩) (h : 0 ≤ n ∧ n ≤ 5184000) : g_ref39_num ⟨L, (k : Int), 0, 0⟩ = some (n, ⟨L, ((k + 1 : Nat) : Int), 0, 0⟩) := by
  unfold g_ref39_num
  rw [number_at hl hf rfl (num_ok h)]
  rfl
theorem itoa_1000 {n : Int} (h : 0 ≤ n ∧ n ≤ 10000000) : (Lib.itoa n).length ≤ 1000 := by
  have := itoa_len (n := n) (by omega); omega
theorem back_0 {x : T_api_Line} {c0 c1 : Int} {v0 : List UInt8} (hF : x.Fields = [⟨[80, 82, 79, 70, 73, 76, 69], c0, false⟩, ⟨v0, c1, false⟩]) (h0 : isNm v0 = true) (p : T_api_Profile) : g_profile_take p x 0 = some (⟨0, 0, 0⟩, false, ⟨v0, p.Reading, p.MinFrames, p.MaxFrames, p.MinGap, p.ShotBefore, p.ShotAfter, p.Rows, p.Cols, p.Forbidden, p.SafeTop, p.SafeBottom, p.SafeLeft, p.SafeRight⟩) := by
  have hx : lnOK x := by
    refine ⟨by rw [hF]; simp, fun f hf => ?_⟩
    rw [hF] at hf
    simp only [List.mem_cons, List.not_mem_nil, or_false] at hf
    rcases hf with rfl | rfl
    · simp
    · exact Nat.le_trans (nm_len h0).2 (by omega)
  obtain ⟨d, b, p', s, q, k1, k2, k3, k4, k5, _⟩ := take39 hx (by rw [hF]; simp) 0 (by omega) p
  have hsub : subI ([[80, 82, 79, 70, 73, 76, 69], [82, 69, 65, 68, 73, 78, 71], [70, 82, 65, 77, 69, 83], [71, 65, 80], [83, 72, 79, 84, 83], [83, 73, 90, 69], [83, 65, 70, 69], [70, 79, 82, 66, 73, 68, 68, 69, 78]] : List (List UInt8)) 0 (IntKind.i64.wrap (0 + 1)) = some [[80, 82, 79, 70, 73, 76, 69]] := by decide
  have hC := choice_at (L := x) (k := 0) (f := ⟨[80, 82, 79, 70, 73, 76, 69], c0, false⟩) (ws := [[80, 82, 79, 70, 73, 76, 69]]) hx.1 (by rw [hF]; rfl) rfl 0 (by simp) rfl (by omega)
  have e0 := name_at (L := x) (k := 1) (f := ⟨v0, c1, false⟩) hx.1 (by rw [hF]; rfl) rfl h0
  have hE := end_at (L := x) hx.1
  have hn : x.Fields.length = 2 := by rw [hF]; rfl
  rw [hn] at hE
  have hT : g_ref39_take ⟨x, 0, 0, 0⟩ 0 p = some (⟨x, ((2 : Nat) : Int), 0, 0⟩, ⟨v0, p.Reading, p.MinFrames, p.MaxFrames, p.MinGap, p.ShotBefore, p.ShotAfter, p.Rows, p.Cols, p.Forbidden, p.SafeTop, p.SafeBottom, p.SafeLeft, p.SafeRight⟩) := by
    unfold g_ref39_take
    rw [hsub, show (⟨x, 0, 0, 0⟩ : T_captionerref07_Scanner) = ⟨x, ((0 : Nat) : Int), 0, 0⟩ from rfl]
    simp only [Option.bind_some, hC, Int.reduceBEq, Bool.false_eq_true, if_false, if_true, Nat.reduceAdd, Nat.zero_add, e0]
  rw [show (((0 : Nat) : Int)) = 0 from rfl, hT] at k2
  simp only [Option.some.injEq, Prod.mk.injEq] at k2
  obtain ⟨rfl, rfl⟩ := k2
  rw [hE] at k3
  simp only [Option.some.injEq, Prod.mk.injEq] at k3
  obtain ⟨rfl, rfl, _⟩ := k3
  rw [show (((0 : Nat) : Int)) = 0 from rfl] at k1
  rw [k1, ← k4 rfl]
theorem back_1 {x : T_api_Line} {c0 c1 : Int} {v0 : Int} (hF : x.Fields = [⟨[82, 69, 65, 68, 73, 78, 71], c0, false⟩, ⟨Lib.itoa v0, c1, false⟩]) (h0 : 0 ≤ v0 ∧ v0 ≤ 5184000) (p : T_api_Profile) : g_profile_take p x 1 = some (⟨0, 0, 0⟩, false, ⟨p.Name, v0, p.MinFrames, p.MaxFrames, p.MinGap, p.ShotBefore, p.ShotAfter, p.Rows, p.Cols, p.Forbidden, p.SafeTop, p.SafeBottom, p.SafeLeft, p.SafeRight⟩) := by
  have hx : lnOK x := by
    refine ⟨by rw [hF]; simp, fun f hf => ?_⟩
    rw [hF] at hf
    simp only [List.mem_cons, List.not_mem_nil, or_false] at hf
    rcases hf with rfl | rfl
    · simp
    · exact itoa_1000 (by omega)
  obtain ⟨d, b, p', s, q, k1, k2, k3, k4, k5, _⟩ := take39 hx (by rw [hF]; simp) 1 (by omega) p
  have hsub : subI ([[80, 82, 79, 70, 73, 76, 69], [82, 69, 65, 68, 73, 78, 71], [70, 82, 65, 77, 69, 83], [71, 65, 80], [83, 72, 79, 84, 83], [83, 73, 90, 69], [83, 65, 70, 69], [70, 79, 82, 66, 73, 68, 68, 69, 78]] : List (List UInt8)) 1 (IntKind.i64.wrap (1 + 1)) = some [[82, 69, 65, 68, 73, 78, 71]] := by decide
  have hC := choice_at (L := x) (k := 0) (f := ⟨[82, 69, 65, 68, 73, 78, 71], c0, false⟩) (ws := [[82, 69, 65, 68, 73, 78, 71]]) hx.1 (by rw [hF]; rfl) rfl 0 (by simp) rfl (by omega)
  have e0 := num_at (L := x) (k := 1) (n := v0) (c := c1) hx.1 (by rw [hF]; rfl) h0
  have hE := end_at (L := x) hx.1
  have hn : x.Fields.length = 2 := by rw [hF]; rfl
  rw [hn] at hE
  have hT : g_ref39_take ⟨x, 0, 0, 0⟩ 1 p = some (⟨x, ((2 : Nat) : Int), 0, 0⟩, ⟨p.Name, v0, p.MinFrames, p.MaxFrames, p.MinGap, p.ShotBefore, p.ShotAfter, p.Rows, p.Cols, p.Forbidden, p.SafeTop, p.SafeBottom, p.SafeLeft, p.SafeRight⟩) := by
    unfold g_ref39_take
    rw [hsub, show (⟨x, 0, 0, 0⟩ : T_captionerref07_Scanner) = ⟨x, ((0 : Nat) : Int), 0, 0⟩ from rfl]
    simp only [Option.bind_some, hC, Int.reduceBEq, Bool.false_eq_true, if_false, if_true, Nat.reduceAdd, Nat.zero_add, e0]
  rw [show (((1 : Nat) : Int)) = 1 from rfl, hT] at k2
  simp only [Option.some.injEq, Prod.mk.injEq] at k2
  obtain ⟨rfl, rfl⟩ := k2
  rw [hE] at k3
  simp only [Option.some.injEq, Prod.mk.injEq] at k3
  obtain ⟨rfl, rfl, _⟩ := k3
  rw [show (((1 : Nat) : Int)) = 1 from rfl] at k1
  rw [k1, ← k4 rfl]
theorem back_2 {x : T_api_Line} {c0 c1 c2 : Int} {v0 : Int} {v1 : Int} (hF : x.Fields = [⟨[70, 82, 65, 77, 69, 83], c0, false⟩, ⟨Lib.itoa v0, c1, false⟩, ⟨Lib.itoa v1, c2, false⟩]) (h0 : 0 ≤ v0 ∧ v0 ≤ 5184000) (h1 : 0 ≤ v1 ∧ v1 ≤ 5184000) (p : T_api_Profile) : g_profile_take p x 2 = some (⟨0, 0, 0⟩, false, ⟨p.Name, p.Reading, v0, v1, p.MinGap, p.ShotBefore, p.ShotAfter, p.Rows, p.Cols, p.Forbidden, p.SafeTop, p.SafeBottom, p.SafeLeft, p.SafeRight⟩) := by
  have hx : lnOK x := by
    refine ⟨by rw [hF]; simp, fun f hf => ?_⟩
    rw [hF] at hf
    simp only [List.mem_cons, List.not_mem_nil, or_false] at hf
    rcases hf with rfl | rfl | rfl
    · simp
    · exact itoa_1000 (by omega)
    · exact itoa_1000 (by omega)
  obtain ⟨d, b, p', s, q, k1, k2, k3, k4, k5, _⟩ := take39 hx (by rw [hF]; simp) 2 (by omega) p
  have hsub : subI ([[80, 82, 79, 70, 73, 76, 69], [82, 69, 65, 68, 73, 78, 71], [70, 82, 65, 77, 69, 83], [71, 65, 80], [83, 72, 79, 84, 83], [83, 73, 90, 69], [83, 65, 70, 69], [70, 79, 82, 66, 73, 68, 68, 69, 78]] : List (List UInt8)) 2 (IntKind.i64.wrap (2 + 1)) = some [[70, 82, 65, 77, 69, 83]] := by decide
  have hC := choice_at (L := x) (k := 0) (f := ⟨[70, 82, 65, 77, 69, 83], c0, false⟩) (ws := [[70, 82, 65, 77, 69, 83]]) hx.1 (by rw [hF]; rfl) rfl 0 (by simp) rfl (by omega)
  have e0 := num_at (L := x) (k := 1) (n := v0) (c := c1) hx.1 (by rw [hF]; rfl) h0
  have e1 := num_at (L := x) (k := 2) (n := v1) (c := c2) hx.1 (by rw [hF]; rfl) h1
  have hE := end_at (L := x) hx.1
  have hn : x.Fields.length = 3 := by rw [hF]; rfl
  rw [hn] at hE
  have hT : g_ref39_take ⟨x, 0, 0, 0⟩ 2 p = some (⟨x, ((3 : Nat) : Int), 0, 0⟩, ⟨p.Name, p.Reading, v0, v1, p.MinGap, p.ShotBefore, p.ShotAfter, p.Rows, p.Cols, p.Forbidden, p.SafeTop, p.SafeBottom, p.SafeLeft, p.SafeRight⟩) := by
    unfold g_ref39_take
    rw [hsub, show (⟨x, 0, 0, 0⟩ : T_captionerref07_Scanner) = ⟨x, ((0 : Nat) : Int), 0, 0⟩ from rfl]
    simp only [Option.bind_some, hC, Int.reduceBEq, Bool.false_eq_true, if_false, if_true, Nat.reduceAdd, Nat.zero_add, e0, e1]
  rw [show (((2 : Nat) : Int)) = 2 from rfl, hT] at k2
  simp only [Option.some.injEq, Prod.mk.injEq] at k2
  obtain ⟨rfl, rfl⟩ := k2
  rw [hE] at k3
  simp only [Option.some.injEq, Prod.mk.injEq] at k3
  obtain ⟨rfl, rfl, _⟩ := k3
  rw [show (((2 : Nat) : Int)) = 2 from rfl] at k1
  rw [k1, ← k4 rfl]
theorem back_3 {x : T_api_Line} {c0 c1 : Int} {v0 : Int} (hF : x.Fields = [⟨[71, 65, 80], c0, false⟩, ⟨Lib.itoa v0, c1, false⟩]) (h0 : 0 ≤ v0 ∧ v0 ≤ 5184000) (p : T_api_Profile) : g_profile_take p x 3 = some (⟨0, 0, 0⟩, false, ⟨p.Name, p.Reading, p.MinFrames, p.MaxFrames, v0, p.ShotBefore, p.ShotAfter, p.Rows, p.Cols, p.Forbidden, p.SafeTop, p.SafeBottom, p.SafeLeft, p.SafeRight⟩) := by
  have hx : lnOK x := by
    refine ⟨by rw [hF]; simp, fun f hf => ?_⟩
    rw [hF] at hf
    simp only [List.mem_cons, List.not_mem_nil, or_false] at hf
    rcases hf with rfl | rfl
    · simp
    · exact itoa_1000 (by omega)
  obtain ⟨d, b, p', s, q, k1, k2, k3, k4, k5, _⟩ := take39 hx (by rw [hF]; simp) 3 (by omega) p
  have hsub : subI ([[80, 82, 79, 70, 73, 76, 69], [82, 69, 65, 68, 73, 78, 71], [70, 82, 65, 77, 69, 83], [71, 65, 80], [83, 72, 79, 84, 83], [83, 73, 90, 69], [83, 65, 70, 69], [70, 79, 82, 66, 73, 68, 68, 69, 78]] : List (List UInt8)) 3 (IntKind.i64.wrap (3 + 1)) = some [[71, 65, 80]] := by decide
  have hC := choice_at (L := x) (k := 0) (f := ⟨[71, 65, 80], c0, false⟩) (ws := [[71, 65, 80]]) hx.1 (by rw [hF]; rfl) rfl 0 (by simp) rfl (by omega)
  have e0 := num_at (L := x) (k := 1) (n := v0) (c := c1) hx.1 (by rw [hF]; rfl) h0
  have hE := end_at (L := x) hx.1
  have hn : x.Fields.length = 2 := by rw [hF]; rfl
  rw [hn] at hE
  have hT : g_ref39_take ⟨x, 0, 0, 0⟩ 3 p = some (⟨x, ((2 : Nat) : Int), 0, 0⟩, ⟨p.Name, p.Reading, p.MinFrames, p.MaxFrames, v0, p.ShotBefore, p.ShotAfter, p.Rows, p.Cols, p.Forbidden, p.SafeTop, p.SafeBottom, p.SafeLeft, p.SafeRight⟩) := by
    unfold g_ref39_take
    rw [hsub, show (⟨x, 0, 0, 0⟩ : T_captionerref07_Scanner) = ⟨x, ((0 : Nat) : Int), 0, 0⟩ from rfl]
    simp only [Option.bind_some, hC, Int.reduceBEq, Bool.false_eq_true, if_false, if_true, Nat.reduceAdd, Nat.zero_add, e0]
  rw [show (((3 : Nat) : Int)) = 3 from rfl, hT] at k2
  simp only [Option.some.injEq, Prod.mk.injEq] at k2
  obtain ⟨rfl, rfl⟩ := k2
  rw [hE] at k3
  simp only [Option.some.injEq, Prod.mk.injEq] at k3
  obtain ⟨rfl, rfl, _⟩ := k3
  rw [show (((3 : Nat) : Int)) = 3 from rfl] at k1
  rw [k1, ← k4 rfl]
theorem back_4 {x : T_api_Line} {c0 c1 c2 : Int} {v0 : Int} {v1 : Int} (hF : x.Fields = [⟨[83, 72, 79, 84, 83], c0, false⟩, ⟨Lib.itoa v0, c1, false⟩, ⟨Lib.itoa v1, c2, false⟩]) (h0 : 0 ≤ v0 ∧ v0 ≤ 5184000) (h1 : 0 ≤ v1 ∧ v1 ≤ 5184000) (p : T_api_Profile) : g_profile_take p x 4 = some (⟨0, 0, 0⟩, false, ⟨p.Name, p.Reading, p.MinFrames, p.MaxFrames, p.MinGap, v0, v1, p.Rows, p.Cols, p.Forbidden, p.SafeTop, p.SafeBottom, p.SafeLeft, p.SafeRight⟩) := by
  have hx : lnOK x := by
    refine ⟨by rw [hF]; simp, fun f hf => ?_⟩
    rw [hF] at hf
    simp only [List.mem_cons, List.not_mem_nil, or_false] at hf
    rcases hf with rfl | rfl | rfl
    · simp
    · exact itoa_1000 (by omega)
    · exact itoa_1000 (by omega)
  obtain ⟨d, b, p', s, q, k1, k2, k3, k4, k5, _⟩ := take39 hx (by rw [hF]; simp) 4 (by omega) p
  have hsub : subI ([[80, 82, 79, 70, 73, 76, 69], [82, 69, 65, 68, 73, 78, 71], [70, 82, 65, 77, 69, 83], [71, 65, 80], [83, 72, 79, 84, 83], [83, 73, 90, 69], [83, 65, 70, 69], [70, 79, 82, 66, 73, 68, 68, 69, 78]] : List (List UInt8)) 4 (IntKind.i64.wrap (4 + 1)) = some [[83, 72, 79, 84, 83]] := by decide
  have hC := choice_at (L := x) (k := 0) (f := ⟨[83, 72, 79, 84, 83], c0, false⟩) (ws := [[83, 72, 79, 84, 83]]) hx.1 (by rw [hF]; rfl) rfl 0 (by simp) rfl (by omega)
  have e0 := num_at (L := x) (k := 1) (n := v0) (c := c1) hx.1 (by rw [hF]; rfl) h0
  have e1 := num_at (L := x) (k := 2) (n := v1) (c := c2) hx.1 (by rw [hF]; rfl) h1
  have hE := end_at (L := x) hx.1
  have hn : x.Fields.length = 3 := by rw [hF]; rfl
  rw [hn] at hE
  have hT : g_ref39_take ⟨x, 0, 0, 0⟩ 4 p = some (⟨x, ((3 : Nat) : Int), 0, 0⟩, ⟨p.Name, p.Reading, p.MinFrames, p.MaxFrames, p.MinGap, v0, v1, p.Rows, p.Cols, p.Forbidden, p.SafeTop, p.SafeBottom, p.SafeLeft, p.SafeRight⟩) := by
    unfold g_ref39_take
    rw [hsub, show (⟨x, 0, 0, 0⟩ : T_captionerref07_Scanner) = ⟨x, ((0 : Nat) : Int), 0, 0⟩ from rfl]
    simp only [Option.bind_some, hC, Int.reduceBEq, Bool.false_eq_true, if_false, if_true, Nat.reduceAdd, Nat.zero_add, e0, e1]
  rw [show (((4 : Nat) : Int)) = 4 from rfl, hT] at k2
  simp only [Option.some.injEq, Prod.mk.injEq] at k2
  obtain ⟨rfl, rfl⟩ := k2
  rw [hE] at k3
  simp only [Option.some.injEq, Prod.mk.injEq] at k3
  obtain ⟨rfl, rfl, _⟩ := k3
  rw [show (((4 : Nat) : Int)) = 4 from rfl] at k1
  rw [k1, ← k4 rfl]
theorem back_5 {x : T_api_Line} {c0 c1 c2 : Int} {v0 : Int} {v1 : Int} (hF : x.Fields = [⟨[83, 73, 90, 69], c0, false⟩, ⟨Lib.itoa v0, c1, false⟩, ⟨Lib.itoa v1, c2, false⟩]) (h0 : 0 ≤ v0 ∧ v0 ≤ 5184000) (h1 : 0 ≤ v1 ∧ v1 ≤ 5184000) (p : T_api_Profile) : g_profile_take p x 5 = some (⟨0, 0, 0⟩, false, ⟨p.Name, p.Reading, p.MinFrames, p.MaxFrames, p.MinGap, p.ShotBefore, p.ShotAfter, v0, v1, p.Forbidden, p.SafeTop, p.SafeBottom, p.SafeLeft, p.SafeRight⟩) := by
  have hx : lnOK x := by
    refine ⟨by rw [hF]; simp, fun f hf => ?_⟩
    rw [hF] at hf
    simp only [List.mem_cons, List.not_mem_nil, or_false] at hf
    rcases hf with rfl | rfl | rfl
    · simp
    · exact itoa_1000 (by omega)
    · exact itoa_1000 (by omega)
  obtain ⟨d, b, p', s, q, k1, k2, k3, k4, k5, _⟩ := take39 hx (by rw [hF]; simp) 5 (by omega) p
  have hsub : subI ([[80, 82, 79, 70, 73, 76, 69], [82, 69, 65, 68, 73, 78, 71], [70, 82, 65, 77, 69, 83], [71, 65, 80], [83, 72, 79, 84, 83], [83, 73, 90, 69], [83, 65, 70, 69], [70, 79, 82, 66, 73, 68, 68, 69, 78]] : List (List UInt8)) 5 (IntKind.i64.wrap (5 + 1)) = some [[83, 73, 90, 69]] := by decide
  have hC := choice_at (L := x) (k := 0) (f := ⟨[83, 73, 90, 69], c0, false⟩) (ws := [[83, 73, 90, 69]]) hx.1 (by rw [hF]; rfl) rfl 0 (by simp) rfl (by omega)
  have e0 := num_at (L := x) (k := 1) (n := v0) (c := c1) hx.1 (by rw [hF]; rfl) h0
  have e1 := num_at (L := x) (k := 2) (n := v1) (c := c2) hx.1 (by rw [hF]; rfl) h1
  have hE := end_at (L := x) hx.1
  have hn : x.Fields.length = 3 := by rw [hF]; rfl
  rw [hn] at hE
  have hT : g_ref39_take ⟨x, 0, 0, 0⟩ 5 p = some (⟨x, ((3 : Nat) : Int), 0, 0⟩, ⟨p.Name, p.Reading, p.MinFrames, p.MaxFrames, p.MinGap, p.ShotBefore, p.ShotAfter, v0, v1, p.Forbidden, p.SafeTop, p.SafeBottom, p.SafeLeft, p.SafeRight⟩) := by
    unfold g_ref39_take
    rw [hsub, show (⟨x, 0, 0, 0⟩ : T_captionerref07_Scanner) = ⟨x, ((0 : Nat) : Int), 0, 0⟩ from rfl]
    simp only [Option.bind_some, hC, Int.reduceBEq, Bool.false_eq_true, if_false, if_true, Nat.reduceAdd, Nat.zero_add, e0, e1]
  rw [show (((5 : Nat) : Int)) = 5 from rfl, hT] at k2
  simp only [Option.some.injEq, Prod.mk.injEq] at k2
  obtain ⟨rfl, rfl⟩ := k2
  rw [hE] at k3
  simp only [Option.some.injEq, Prod.mk.injEq] at k3
  obtain ⟨rfl, rfl, _⟩ := k3
  rw [show (((5 : Nat) : Int)) = 5 from rfl] at k1
  rw [k1, ← k4 rfl]
theorem back_6 {x : T_api_Line} {c0 c1 c2 c3 c4 : Int} {v0 : Int} {v1 : Int} {v2 : Int} {v3 : Int} (hF : x.Fields = [⟨[83, 65, 70, 69], c0, false⟩, ⟨Lib.itoa v0, c1, false⟩, ⟨Lib.itoa v1, c2, false⟩, ⟨Lib.itoa v2, c3, false⟩, ⟨Lib.itoa v3, c4, false⟩]) (h0 : 0 ≤ v0 ∧ v0 ≤ 5184000) (h1 : 0 ≤ v1 ∧ v1 ≤ 5184000) (h2 : 0 ≤ v2 ∧ v2 ≤ 5184000) (h3 : 0 ≤ v3 ∧ v3 ≤ 5184000) (p : T_api_Profile) : g_profile_take p x 6 = some (⟨0, 0, 0⟩, false, ⟨p.Name, p.Reading, p.MinFrames, p.MaxFrames, p.MinGap, p.ShotBefore, p.ShotAfter, p.Rows, p.Cols, p.Forbidden, v0, v1, v2, v3⟩) := by
  have hx : lnOK x := by
    refine ⟨by rw [hF]; simp, fun f hf => ?_⟩
    rw [hF] at hf
    simp only [List.mem_cons, List.not_mem_nil, or_false] at hf
    rcases hf with rfl | rfl | rfl | rfl | rfl
    · simp
    · exact itoa_1000 (by omega)
    · exact itoa_1000 (by omega)
    · exact itoa_1000 (by omega)
    · exact itoa_1000 (by omega)
  obtain ⟨d, b, p', s, q, k1, k2, k3, k4, k5, _⟩ := take39 hx (by rw [hF]; simp) 6 (by omega) p
  have hsub : subI ([[80, 82, 79, 70, 73, 76, 69], [82, 69, 65, 68, 73, 78, 71], [70, 82, 65, 77, 69, 83], [71, 65, 80], [83, 72, 79, 84, 83], [83, 73, 90, 69], [83, 65, 70, 69], [70, 79, 82, 66, 73, 68, 68, 69, 78]] : List (List UInt8)) 6 (IntKind.i64.wrap (6 + 1)) = some [[83, 65, 70, 69]] := by decide
  have hC := choice_at (L := x) (k := 0) (f := ⟨[83, 65, 70, 69], c0, false⟩) (ws := [[83, 65, 70, 69]]) hx.1 (by rw [hF]; rfl) rfl 0 (by simp) rfl (by omega)
  have e0 := num_at (L := x) (k := 1) (n := v0) (c := c1) hx.1 (by rw [hF]; rfl) h0
  have e1 := num_at (L := x) (k := 2) (n := v1) (c := c2) hx.1 (by rw [hF]; rfl) h1
  have e2 := num_at (L := x) (k := 3) (n := v2) (c := c3) hx.1 (by rw [hF]; rfl) h2
  have e3 := num_at (L := x) (k := 4) (n := v3) (c := c4) hx.1 (by rw [hF]; rfl) h3
  have hE := end_at (L := x) hx.1
  have hn : x.Fields.length = 5 := by rw [hF]; rfl
  rw [hn] at hE
  have hT : g_ref39_take ⟨x, 0, 0, 0⟩ 6 p = some (⟨x, ((5 : Nat) : Int), 0, 0⟩, ⟨p.Name, p.Reading, p.MinFrames, p.MaxFrames, p.MinGap, p.ShotBefore, p.ShotAfter, p.Rows, p.Cols, p.Forbidden, v0, v1, v2, v3⟩) := by
    unfold g_ref39_take
    rw [hsub, show (⟨x, 0, 0, 0⟩ : T_captionerref07_Scanner) = ⟨x, ((0 : Nat) : Int), 0, 0⟩ from rfl]
    simp only [Option.bind_some, hC, Int.reduceBEq, Bool.false_eq_true, if_false, if_true, Nat.reduceAdd, Nat.zero_add, e0, e1, e2, e3]
  rw [show (((6 : Nat) : Int)) = 6 from rfl, hT] at k2
  simp only [Option.some.injEq, Prod.mk.injEq] at k2
  obtain ⟨rfl, rfl⟩ := k2
  rw [hE] at k3
  simp only [Option.some.injEq, Prod.mk.injEq] at k3
  obtain ⟨rfl, rfl, _⟩ := k3
  rw [show (((6 : Nat) : Int)) = 6 from rfl] at k1
  rw [k1, ← k4 rfl]
theorem back_7 {x : T_api_Line} {c0 c1 : Int} {v0 : List UInt8} (hF : x.Fields = [⟨[70, 79, 82, 66, 73, 68, 68, 69, 78], c0, false⟩, ⟨v0, c1, true⟩]) (h0 : v0.length ≤ 1000) (p : T_api_Profile) : g_profile_take p x 7 = some (⟨0, 0, 0⟩, false, ⟨p.Name, p.Reading, p.MinFrames, p.MaxFrames, p.MinGap, p.ShotBefore, p.ShotAfter, p.Rows, p.Cols, v0, p.SafeTop, p.SafeBottom, p.SafeLeft, p.SafeRight⟩) := by
  have hx : lnOK x := by
    refine ⟨by rw [hF]; simp, fun f hf => ?_⟩
    rw [hF] at hf
    simp only [List.mem_cons, List.not_mem_nil, or_false] at hf
    rcases hf with rfl | rfl
    · simp
    · exact h0
  obtain ⟨d, b, p', s, q, k1, k2, k3, k4, k5, _⟩ := take39 hx (by rw [hF]; simp) 7 (by omega) p
  have hsub : subI ([[80, 82, 79, 70, 73, 76, 69], [82, 69, 65, 68, 73, 78, 71], [70, 82, 65, 77, 69, 83], [71, 65, 80], [83, 72, 79, 84, 83], [83, 73, 90, 69], [83, 65, 70, 69], [70, 79, 82, 66, 73, 68, 68, 69, 78]] : List (List UInt8)) 7 (IntKind.i64.wrap (7 + 1)) = some [[70, 79, 82, 66, 73, 68, 68, 69, 78]] := by decide
  have hC := choice_at (L := x) (k := 0) (f := ⟨[70, 79, 82, 66, 73, 68, 68, 69, 78], c0, false⟩) (ws := [[70, 79, 82, 66, 73, 68, 68, 69, 78]]) hx.1 (by rw [hF]; rfl) rfl 0 (by simp) rfl (by omega)
  have e0 := quoted_at (L := x) (k := 1) (f := ⟨v0, c1, true⟩) hx.1 (by rw [hF]; rfl) rfl
  have hE := end_at (L := x) hx.1
  have hn : x.Fields.length = 2 := by rw [hF]; rfl
  rw [hn] at hE
  have hT : g_ref39_take ⟨x, 0, 0, 0⟩ 7 p = some (⟨x, ((2 : Nat) : Int), 0, 0⟩, ⟨p.Name, p.Reading, p.MinFrames, p.MaxFrames, p.MinGap, p.ShotBefore, p.ShotAfter, p.Rows, p.Cols, v0, p.SafeTop, p.SafeBottom, p.SafeLeft, p.SafeRight⟩) := by
    unfold g_ref39_take
    rw [hsub, show (⟨x, 0, 0, 0⟩ : T_captionerref07_Scanner) = ⟨x, ((0 : Nat) : Int), 0, 0⟩ from rfl]
    simp only [Option.bind_some, hC, Int.reduceBEq, Bool.false_eq_true, if_false, if_true, Nat.reduceAdd, Nat.zero_add, e0]
  rw [show (((7 : Nat) : Int)) = 7 from rfl, hT] at k2
  simp only [Option.some.injEq, Prod.mk.injEq] at k2
  obtain ⟨rfl, rfl⟩ := k2
  rw [hE] at k3
  simp only [Option.some.injEq, Prod.mk.injEq] at k3
  obtain ⟨rfl, rfl, _⟩ := k3
  rw [show (((7 : Nat) : Int)) = 7 from rfl] at k1
  rw [k1, ← k4 rfl]
theorem lr_nil (n : Nat) : lr n [] = none := by
  unfold lr
  rw [if_neg (by simp), fS_nil]
def bdL (p : T_api_Profile) : List (List UInt8) := [Lib.join [[80, 82, 79, 70, 73, 76, 69], p.Name] [32], Lib.join [[82, 69, 65, 68, 73, 78, 71], Lib.itoa p.Reading] [32], Lib.join [[70, 82, 65, 77, 69, 83], Lib.itoa p.MinFrames, Lib.itoa p.MaxFrames] [32], Lib.join [[71, 65, 80], Lib.itoa p.MinGap] [32], Lib.join [[83, 72, 79, 84, 83], Lib.itoa p.ShotBefore, Lib.itoa p.ShotAfter] [32], Lib.join [[83, 73, 90, 69], Lib.itoa p.Rows, Lib.itoa p.Cols] [32], Lib.join [[83, 65, 70, 69], Lib.itoa p.SafeTop, Lib.itoa p.SafeBottom, Lib.itoa p.SafeLeft, Lib.itoa p.SafeRight] [32], [70, 79, 82, 66, 73, 68, 68, 69, 78] ++ (32 :: quS p.Forbidden)]
theorem txt_bd (p : T_api_Profile) : (ptL p).flatMap lnT = (bdL p).flatMap fun b => b ++ [10] := by
  simp [ptL, bdL, lnT, fdT, wrd, Lib.join_cons, Lib.joinTail]
theorem lp_step {ls : List T_api_Line} {m i : Nat} {nx : Int} {p q : T_api_Profile} {x : T_api_Line} {d : T_api_Diag} (hx : ls[i]? = some x) (ht : g_profile_take p x (i : Int) = some (d, false, q)) : lpS ls (m + 1) i nx p = lpS ls m (i + 1) (x.Number + 1) q := by
  rw [lpS, hx]
  simp only [ht]
theorem forb_no10 {s : List UInt8} (hg : gv s = true) : ∀ x ∈ ([70, 79, 82, 66, 73, 68, 68, 69, 78] ++ (32 :: quS s) : List UInt8), x.toNat ≠ 10 := by
  have hb := gv_bytes _ s (Nat.le_refl _) hg
  intro x hx
  rcases List.mem_append.1 hx with h | h
  · exact (by decide : ∀ x ∈ ([70, 79, 82, 66, 73, 68, 68, 69, 78] : List UInt8), x.toNat ≠ 10) x h
  rcases List.mem_cons.1 h with rfl | h
  · decide
  unfold quS at h
  rcases List.mem_cons.1 h with rfl | h
  · decide
  rcases List.mem_append.1 h with h | h
  · obtain ⟨b, h1, h2⟩ := List.mem_flatMap.1 h
    exact quB_no10 (hb b h1).1 x h2
  · simp at h; subst h; decide
end Go.Proofs.YtedhognhhcihpaaGreatDoor
