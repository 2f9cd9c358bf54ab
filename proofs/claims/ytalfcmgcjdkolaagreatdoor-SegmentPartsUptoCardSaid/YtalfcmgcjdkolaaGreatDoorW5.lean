/- Texts of one proof, put together (ED, EN, EE, EG, EF, EH). No condition but those that each theorem states. -/
import Derived.Test.YtalfcmgcjdkolaaGreatDoorW4
set_option linter.unusedSimpArgs false
set_option linter.unusedVariables false
namespace Go.Proofs.YtalfcmgcjdkolaaGreatDoor
open Go.RowKit
set_option maxRecDepth 100000
set_option maxHeartbeats 10000000
structure T_api_Part where
  From : Int
  To : Int
  Breaks : List Int
  Span : T_api_Span
  deriving DecidableEq
def T_api_Part.d (x : T_api_Part) : D := .agg [.int .i64 x.From, .int .i64 x.To, .sl (x.Breaks.map (D.int .i64)), .int .i64 x.Span.In, .int .i64 x.Span.Out]
structure T_segment_edge where
  part_ : T_api_Part
  cost_ : Int
  deriving DecidableEq
def T_segment_edge.d (x : T_segment_edge) : D := .agg [.int .i64 x.part_.From, .int .i64 x.part_.To, .sl (x.part_.Breaks.map (D.int .i64)), .int .i64 x.part_.Span.In, .int .i64 x.part_.Span.Out, .int .i64 x.cost_]
structure T_segment_rest where
  cost_ : Int
  parts_ : Int
  deriving DecidableEq
def T_segment_rest.d (x : T_segment_rest) : D := .agg [.int .i64 x.cost_, .int .i64 x.parts_]
structure T_api_Segments where
  Parts : List T_api_Part
  Cost : Int
  Potentials : List Int
  deriving DecidableEq
def T_api_Segments.d (x : T_api_Segments) : D := .agg [.sl (x.Parts.map T_api_Part.d), .int .i64 x.Cost, .sl (x.Potentials.map (D.int .i64))]
def dl_List_T_segment_edge (x : List T_segment_edge) : D := .sl (x.map T_segment_edge.d)
theorem dd_ED : (∀ x, T_api_Span.d x = .agg [.int .i64 x.In, .int .i64 x.Out]) ∧ (∀ x, T_api_Word.d x = .agg [.str x.Text, .int .i64 x.Span.In, .int .i64 x.Span.Out]) ∧ (∀ x, T_arr6_Int.d x = .agg [.int .i64 x.a0, .int .i64 x.a1, .int .i64 x.a2, .int .i64 x.a3, .int .i64 x.a4, .int .i64 x.a5]) ∧ (∀ x, T_api_Penalties.d x = .agg [.int .i64 x.Strength.a0, .int .i64 x.Strength.a1, .int .i64 x.Strength.a2, .int .i64 x.Strength.a3, .int .i64 x.Strength.a4, .int .i64 x.Strength.a5, .int .i64 x.Ragged, .int .i64 x.Row, .int .i64 x.Event, .int .i64 x.Fast, .int .i64 x.Gap, .int .i64 x.Shot]) ∧ (∀ x, T_api_Profile.d x = .agg [.str x.Name, .int .i64 x.Reading, .int .i64 x.MinFrames, .int .i64 x.MaxFrames, .int .i64 x.MinGap, .int .i64 x.ShotBefore, .int .i64 x.ShotAfter, .int .i64 x.Rows, .int .i64 x.Cols, .str x.Forbidden, .int .i64 x.SafeTop, .int .i64 x.SafeBottom, .int .i64 x.SafeLeft, .int .i64 x.SafeRight]) ∧ (∀ x, T_api_Speech.d x = .agg [.int .u8 x.Rate, .sl (x.Words.map T_api_Word.d), .sl (x.Shots.map (D.int .i64)), .int .i64 x.Table.Strength.a0, .int .i64 x.Table.Strength.a1, .int .i64 x.Table.Strength.a2, .int .i64 x.Table.Strength.a3, .int .i64 x.Table.Strength.a4, .int .i64 x.Table.Strength.a5, .int .i64 x.Table.Ragged, .int .i64 x.Table.Row, .int .i64 x.Table.Event, .int .i64 x.Table.Fast, .int .i64 x.Table.Gap, .int .i64 x.Table.Shot, .str x.House.Name, .int .i64 x.House.Reading, .int .i64 x.House.MinFrames, .int .i64 x.House.MaxFrames, .int .i64 x.House.MinGap, .int .i64 x.House.ShotBefore, .int .i64 x.House.ShotAfter, .int .i64 x.House.Rows, .int .i64 x.House.Cols, .str x.House.Forbidden, .int .i64 x.House.SafeTop, .int .i64 x.House.SafeBottom, .int .i64 x.House.SafeLeft, .int .i64 x.House.SafeRight]) ∧ (∀ x, T_api_Token.d x = .agg [.str x.Text, .int .i64 x.Strength]) ∧ (∀ x, T_api_Part.d x = .agg [.int .i64 x.From, .int .i64 x.To, .sl (x.Breaks.map (D.int .i64)), .int .i64 x.Span.In, .int .i64 x.Span.Out]) ∧ (∀ x, T_api_Paragraph.d x = .agg [.sl (x.Tokens.map T_api_Token.d), .int .i64 x.Width, .int .i64 x.Rows, .int .i64 x.Table.Strength.a0, .int .i64 x.Table.Strength.a1, .int .i64 x.Table.Strength.a2, .int .i64 x.Table.Strength.a3, .int .i64 x.Table.Strength.a4, .int .i64 x.Table.Strength.a5, .int .i64 x.Table.Ragged, .int .i64 x.Table.Row, .int .i64 x.Table.Event, .int .i64 x.Table.Fast, .int .i64 x.Table.Gap, .int .i64 x.Table.Shot]) ∧ (∀ x, T_api_Breaks.d x = .agg [.sl (x.Ends.map (D.int .i64)), .int .i64 x.Cost, .sl (x.Potentials.map (D.int .i64))]) ∧ (∀ x, T_api_Load.d x = .agg [.int .i64 x.Fast, .int .i64 x.Gap, .int .i64 x.Shots, .int .i64 x.Strength, .bool x.Last]) ∧ (∀ x, T_segment_edge.d x = .agg [.int .i64 x.part_.From, .int .i64 x.part_.To, .sl (x.part_.Breaks.map (D.int .i64)), .int .i64 x.part_.Span.In, .int .i64 x.part_.Span.Out, .int .i64 x.cost_]) ∧ (∀ x, T_segment_rest.d x = .agg [.int .i64 x.cost_, .int .i64 x.parts_]) ∧ (∀ x, T_api_Segments.d x = .agg [.sl (x.Parts.map T_api_Part.d), .int .i64 x.Cost, .sl (x.Potentials.map (D.int .i64))]) ∧ (∀ x : List T_segment_edge, dl_List_T_segment_edge x = .sl (x.map T_segment_edge.d)) := ⟨fun _ => rfl, fun _ => rfl, fun _ => rfl, fun _ => rfl, fun _ => rfl, fun _ => rfl, fun _ => rfl, fun _ => rfl, fun _ => rfl, fun _ => rfl, fun _ => rfl, fun _ => rfl, fun _ => rfl, fun _ => rfl, fun _ => rfl⟩
def g_segment_part (s_0 : T_api_Speech) (l_1 : List T_api_Token) (from_2 : Int) (to_3 : Int) : Option (T_api_Part × Int × Int) :=
  (((if (decide (from_2 < 0)) then (some true) else (if (decide (to_3 ≤ from_2)) then (some true) else (some (decide ((l_1.length : Int) < to_3))))) : Option (Bool)).bind fun v6 => (if v6 then (some ((T_api_Part.mk 0 0 [] (T_api_Span.mk 0 0)), 0, 1)) else ((atI s_0.Words from_2).bind fun y20 => ((atI s_0.Words (IntKind.i64.wrap (to_3 - 1))).bind fun y22 => (((if (decide (1 < (IntKind.i64.wrap (to_3 - from_2)))) then (some (decide (s_0.House.MaxFrames < (IntKind.i64.wrap (y22.Span.Out - y20.Span.In))))) else (some false)) : Option (Bool)).bind fun v26 => (if v26 then (some ((T_api_Part.mk 0 0 [] (T_api_Span.mk 0 0)), 0, 2)) else ((subI l_1 from_2 to_3).bind fun z46 => ((g_segment_paragraph s_0 z46).bind fun r53 => ((g_rowbreak_Break r53).bind fun r55 => (if (r55.2 != 0) then (some ((T_api_Part.mk 0 0 [] (T_api_Span.mk 0 0)), 0, r55.2)) else ((g_segment_load s_0 l_1 from_2 to_3).bind fun r70 => ((g_penalty_Event s_0.Table r70).bind fun r72 => (if (r72.2 != 0) then (some ((T_api_Part.mk 0 0 [] (T_api_Span.mk 0 0)), 0, r72.2)) else (some ((T_api_Part.mk from_2 to_3 r55.1.Ends (T_api_Span.mk y20.Span.In y22.Span.Out)), (IntKind.i64.wrap (r55.1.Cost + r72.1)), 0)))))))))))))))
theorem a_segment_part {I : World → Prop} (hI : Stab I) (hU8T : ∀ w, I w → U8T w) {s_0 : T_api_Speech} {l_1 : List T_api_Token} {from_2 : Int} {to_3 : Int} {r : T_api_Part × Int × Int} (h : g_segment_part s_0 l_1 from_2 to_3 = some r) : AFun Tryz.prog I 29 [T_api_Speech.d s_0, .sl (l_1.map T_api_Token.d), .int .i64 from_2, .int .i64 to_3] (.tup [T_api_Part.d r.1, .int .i64 r.2.1, .int .i64 r.2.2]) := by
  have dd := dd_ED; have k := True.intro; have q := k; have rs := Tryz.results29
  unfold g_segment_part at h
  refine .en hI Tryz.func29 Tryz.ntmps29 ?_
  refine xs <| rz ?_
  refine es <| xs ?_
  obtain ⟨v6, h10, h⟩ := bs h
  refine rb_cut (fun v6 => ⟨envL [(1, .sl (l_1.map T_api_Token.d)), (2, .int .i64 from_2), (3, .int .i64 to_3), (4, .ptr 0 0), (8, .ptr 1 0), (27, .bool v6)], heapL [(0, .box none [.int .u8 s_0.Rate, .sl (s_0.Words.map T_api_Word.d), .sl (s_0.Shots.map (D.int .i64)), .int .i64 s_0.Table.Strength.a0, .int .i64 s_0.Table.Strength.a1, .int .i64 s_0.Table.Strength.a2, .int .i64 s_0.Table.Strength.a3, .int .i64 s_0.Table.Strength.a4, .int .i64 s_0.Table.Strength.a5, .int .i64 s_0.Table.Ragged, .int .i64 s_0.Table.Row, .int .i64 s_0.Table.Event, .int .i64 s_0.Table.Fast, .int .i64 s_0.Table.Gap, .int .i64 s_0.Table.Shot, .str s_0.House.Name, .int .i64 s_0.House.Reading, .int .i64 s_0.House.MinFrames, .int .i64 s_0.House.MaxFrames, .int .i64 s_0.House.MinGap, .int .i64 s_0.House.ShotBefore, .int .i64 s_0.House.ShotAfter, .int .i64 s_0.House.Rows, .int .i64 s_0.House.Cols, .str s_0.House.Forbidden, .int .i64 s_0.House.SafeTop, .int .i64 s_0.House.SafeBottom, .int .i64 s_0.House.SafeLeft, .int .i64 s_0.House.SafeRight]), (1, .box none [.int .i64 0, .int .i64 0, .nils, .int .i64 0, .int .i64 0])], 2, 103⟩) h10 ?_ ?_
  · clear h
    intro v6 h
    refine rK fun K7 RK7 hK7 gK7 => zz ?_
    rcases iK k h with ⟨k, h⟩ | ⟨k, h⟩
    · refine zz ?_
      subst hK7 gK7
      cases h
      exact en ⟨rfl, wk []⟩
    · refine zz ?_
      rcases iK k h with ⟨k, h⟩ | ⟨k, h⟩
      · refine zz ?_
        subst hK7 gK7
        cases h
        exact en ⟨rfl, wk []⟩
      · refine zz ?_
        subst hK7 gK7
        cases h
        exact en ⟨rfl, wk []⟩
  · rcases iK k h with ⟨k, h⟩ | ⟨k, h⟩
    · refine xt <| xs <| rz ?_
      refine es <| xr <| er ?_
      cases h
      exact en fr
    · refine xf <| xk <| es <| xs <| rD hI fun K19 RK19 hK19 gK19 => zz ?_
      obtain ⟨y20, q, h⟩ := bK q h
      refine zz ?_
      obtain ⟨y22, q, h⟩ := bK q h
      refine zz ?_
      refine hd <| zz ?_
      subst hK19 gK19
      refine es <| xs ?_
      obtain ⟨v26, h29, h⟩ := bs h
      refine rb_cut (fun v26 => ⟨envL [(1, .sl (l_1.map T_api_Token.d)), (2, .int .i64 from_2), (3, .int .i64 to_3), (4, .ptr 0 0), (8, .ptr 1 0), (11, .ptr 2 0), (64, .bool v26)], heapL [(0, .box none [.int .u8 s_0.Rate, .sl (s_0.Words.map T_api_Word.d), .sl (s_0.Shots.map (D.int .i64)), .int .i64 s_0.Table.Strength.a0, .int .i64 s_0.Table.Strength.a1, .int .i64 s_0.Table.Strength.a2, .int .i64 s_0.Table.Strength.a3, .int .i64 s_0.Table.Strength.a4, .int .i64 s_0.Table.Strength.a5, .int .i64 s_0.Table.Ragged, .int .i64 s_0.Table.Row, .int .i64 s_0.Table.Event, .int .i64 s_0.Table.Fast, .int .i64 s_0.Table.Gap, .int .i64 s_0.Table.Shot, .str s_0.House.Name, .int .i64 s_0.House.Reading, .int .i64 s_0.House.MinFrames, .int .i64 s_0.House.MaxFrames, .int .i64 s_0.House.MinGap, .int .i64 s_0.House.ShotBefore, .int .i64 s_0.House.ShotAfter, .int .i64 s_0.House.Rows, .int .i64 s_0.House.Cols, .str s_0.House.Forbidden, .int .i64 s_0.House.SafeTop, .int .i64 s_0.House.SafeBottom, .int .i64 s_0.House.SafeLeft, .int .i64 s_0.House.SafeRight]), (1, .box none [.int .i64 0, .int .i64 0, .nils, .int .i64 0, .int .i64 0]), (2, .box none [.int .i64 from_2, .int .i64 to_3, .nils, .int .i64 y20.Span.In, .int .i64 y22.Span.Out])], 3, 103⟩) h29 ?_ ?_
      · clear h
        intro v26 h
        refine rK fun K27 RK27 hK27 gK27 => zz ?_
        rcases iK k h with ⟨k, h⟩ | ⟨k, h⟩
        · refine zz ?_
          subst hK27 gK27
          cases h
          exact en ⟨rfl, wk [(2, some 21)]⟩
        · refine zz ?_
          subst hK27 gK27
          cases h
          exact en ⟨rfl, wk [(2, some 21)]⟩
      · rcases iK k h with ⟨k, h⟩ | ⟨k, h⟩
        · refine xt <| xs <| rz ?_
          refine es <| xr <| er ?_
          cases h
          exact en fr
        · refine xf <| xk <| es <| xs <| rD hI fun K45 RK45 hK45 gK45 => zz ?_
          obtain ⟨z46, h47, h⟩ := bind_some h
          obtain ⟨⟨h48, h49, h50, h51⟩, h52⟩ := subI_some h47
          have q := And.intro @h48 <| And.intro @h49 <| And.intro @h50 <| And.intro @h51 <| q
          try simp -implicitDefEqProofs only [vt, vm, sevalprocAttr, dd, k, q] at h52
          have q := And.intro @h52 <| q
          refine zz ?_
          obtain ⟨r53, h54, h⟩ := bs h
          refine cd (a_segment_paragraph hI h54) <| zz ?_
          obtain ⟨r55, h56, h⟩ := bs h
          refine cd (a_rowbreak_Break hI hU8T h56) <| zz ?_
          refine hd <| zz ?_
          subst hK45 gK45
          refine es <| xs <| xs <| rz ?_
          refine es ?_
          rcases iK k h with ⟨k, h⟩ | ⟨k, h⟩
          · refine xt <| xs <| rz ?_
            refine es <| xr <| er ?_
            cases h
            exact en fr
          · refine xf <| xk <| es <| xs <| rz ?_
            refine es <| xs <| rD hI fun K69 RK69 hK69 gK69 => zz ?_
            obtain ⟨r70, h71, h⟩ := bs h
            refine cd (a_segment_load hI hU8T h71) <| zz ?_
            obtain ⟨r72, h73, h⟩ := bs h
            refine cd (a_penalty_Event hI h73) <| zz ?_
            subst hK69 gK69
            refine es <| xs <| xs <| rz ?_
            refine es ?_
            rcases iK k h with ⟨k, h⟩ | ⟨k, h⟩
            · refine xt <| xs <| rz ?_
              refine es <| xr <| er ?_
              cases h
              exact en fr
            · refine xf <| xk <| es <| xs <| rP hI fun K80 hK80 => rgP_cons <| zq ?_
              refine sP.foot (.cell 2 0 5) (fun _ => FootOK.ld rfl rfl rfl (by kernel_rfl) (by decide)) fd (by first | exact .inl (by first | rfl | decide) | exact .inr (by kernel_rfl)) <| rgP_cons <| zq ?_
              refine sP.light rfl fd <| rgP_cons <| zq ?_
              refine sP.foot (.cell 13 1 1) (fun _ => FootOK.ld rfl rfl rfl (by kernel_rfl) (by decide)) fd (by first | exact .inl (by first | rfl | decide) | exact .inr (by kernel_rfl)) <| rgP_cons <| zq ?_
              refine sP.light rfl fd <| rgP_cons <| zq ?_
              refine sP.light rfl fd <| rgP_cons <| zq ?_
              refine sP.pat 1 0 5 rfl rfl rfl <| rgP_cons <| zq ?_
              refine sP.light rfl fd <| rgP_cons <| zq ?_
              refine sP.light rfl fd <| zq ?_
              refine rgP_nil fk ?_
              subst hK80
              refine es <| xr ?_
              cases h
              exact en fr
def g_segment_edges_s2 (s_0 : T_api_Speech) (r7 : (List T_api_Token)) (x15 : Int × (List (List T_segment_edge))) (x685 : Int × (List T_segment_edge)) : Option (Nx (Int × (List T_segment_edge)) ((List T_segment_edge))) :=
  (((if (decide (x685.1 ≤ (r7.length : Int))) then ((g_token_Len r7 x15.1 x685.1).bind fun r776 => (some (decide (r776 ≤ (IntKind.i64.wrap (s_0.House.Rows * (IntKind.i64.wrap (s_0.House.Cols + 1)))))))) else (some false)) : Option (Bool)).bind fun v773 => (if v773 then ((g_segment_part s_0 r7 x15.1 x685.1).bind fun r798 => (if (r798.2.2 == 0) then (if x15.1 = (x15.2.length : Int) ∧ x15.2.length < r7.length then (if (x685.2.length + 1) * 64 ≤ 140737488355328 then (if x15.1 = (x15.2.length : Int) ∧ x15.2.length < r7.length then (some (.go ((IntKind.i64.wrap (x685.1 + 1)), (x685.2 ++ [(T_segment_edge.mk r798.1 r798.2.1)])))) else none) else none) else none) else (some (.go ((IntKind.i64.wrap (x685.1 + 1)), x685.2))))) else (some (.out x685.2))))
def g_segment_edges_s1 (s_0 : T_api_Speech) (r7 : (List T_api_Token)) (x15 : Int × (List (List T_segment_edge))) : Option (Nx (Int × (List (List T_segment_edge))) ((List (List T_segment_edge)))) :=
  (if (decide (x15.1 < (r7.length : Int))) then (if x15.2.length < r7.length then ((iter (g_segment_edges_s2 s_0 r7 x15) ((IntKind.i64.wrap (x15.1 + 1)), [])).bind fun e686 => (if x15.2.length < r7.length then (some (.go ((IntKind.i64.wrap (x15.1 + 1)), (x15.2 ++ [e686])))) else none)) else none) else (if x15.2.length = r7.length then (some (.out x15.2)) else none))
def g_segment_edges (s_0 : T_api_Speech) : Option ((List (List T_segment_edge))) :=
  ((g_segment_tokens s_0).bind fun r7 => (if 0 ≤ (r7.length : Int) ∧ (r7.length : Int) ≤ 9223372036854775807 ∧ (r7.length : Int) * 24 ≤ 140737488355328 then ((iter (g_segment_edges_s1 s_0 r7) (0, ([] : List (List T_segment_edge)))).bind fun e16 => (some e16)) else none))
theorem a_segment_edges {I : World → Prop} (hI : Stab I) (hShp : ∀ w, I w → Shp w) (hU8T : ∀ w, I w → U8T w) {s_0 : T_api_Speech} {r : (List (List T_segment_edge))} (h : g_segment_edges s_0 = some r) : AFun Tryz.prog I 48 [T_api_Speech.d s_0] (.sl (r.map dl_List_T_segment_edge)) := by
  have dd := dd_ED; have k := True.intro; have q := k; have rs := Tryz.results48
  unfold g_segment_edges at h
  refine .en hI Tryz.func48 Tryz.ntmps48 ?_
  refine xs <| rz ?_
  refine es <| xs <| rK fun K6 RK6 hK6 gK6 => zz ?_
  obtain ⟨r7, h8, h⟩ := bs h
  refine cw (a_segment_tokens hI hShp h8) <| zz ?_
  subst hK6 gK6
  refine es <| xs <| rK fun K10 RK10 hK10 gK10 => zz ?_
  obtain ⟨q, h⟩ := oK q h
  refine zz ?_
  subst hK10 gK10
  refine es <| xs <| rz ?_
  refine es <| xs <| xs <| rz ?_
  refine es <| xb ?_
  obtain ⟨e16, h812, h⟩ := bs h
  refine rb_loop (fun x15 => ⟨envL [(1, .ptr 0 0), (3, .sl (r7.map T_api_Token.d)), (4, .own 1 r7.length), (5, .int .i64 (IntKind.i64.wrap (s_0.House.Rows * (IntKind.i64.wrap (s_0.House.Cols + 1))))), (25, .int .i64 (r7.length : Int)), (26, .int .i64 x15.1)], heapL [(0, .box none [.int .u8 s_0.Rate, .sl (s_0.Words.map T_api_Word.d), .sl (s_0.Shots.map (D.int .i64)), .int .i64 s_0.Table.Strength.a0, .int .i64 s_0.Table.Strength.a1, .int .i64 s_0.Table.Strength.a2, .int .i64 s_0.Table.Strength.a3, .int .i64 s_0.Table.Strength.a4, .int .i64 s_0.Table.Strength.a5, .int .i64 s_0.Table.Ragged, .int .i64 s_0.Table.Row, .int .i64 s_0.Table.Event, .int .i64 s_0.Table.Fast, .int .i64 s_0.Table.Gap, .int .i64 s_0.Table.Shot, .str s_0.House.Name, .int .i64 s_0.House.Reading, .int .i64 s_0.House.MinFrames, .int .i64 s_0.House.MaxFrames, .int .i64 s_0.House.MinGap, .int .i64 s_0.House.ShotBefore, .int .i64 s_0.House.ShotAfter, .int .i64 s_0.House.Rows, .int .i64 s_0.House.Cols, .str s_0.House.Forbidden, .int .i64 s_0.House.SafeTop, .int .i64 s_0.House.SafeBottom, .int .i64 s_0.House.SafeLeft, .int .i64 s_0.House.SafeRight]), (1, .vec 108 1 (emD dl_List_T_segment_edge x15.2 r7.length) false)], 2, 70⟩) (fun _ => .exit 0) (fun e16 => ⟨envL [(4, .own 0 e16.length)], heapL [(0, .vec 108 1 (e16.map dl_List_T_segment_edge) false)], 1, 70⟩) h812 (wk [(1, some 7)]) (by intro w; simp) ?_ ?_
  · clear h
    intro x15 y h
    unfold g_segment_edges_s1 at h
    refine xs <| rz ?_
    refine es <| xs ?_
    rcases iK k h with ⟨k, h⟩ | ⟨k, h⟩
    · refine xt <| xk <| es <| xs <| xb <| xs <| rz ?_
      refine es <| xs <| rz ?_
      refine es <| xb ?_
      obtain ⟨h9, h⟩ := ite_on h
      obtain ⟨e686, h810, h⟩ := bs h
      refine rb_loop (fun x685 => ⟨envL [(1, .ptr 0 0), (3, .sl (r7.map T_api_Token.d)), (4, .own 1 r7.length), (5, .int .i64 (IntKind.i64.wrap (s_0.House.Rows * (IntKind.i64.wrap (s_0.House.Cols + 1))))), (6, .int .i64 x15.1), (7, .int .i64 x685.1), (25, .int .i64 (r7.length : Int)), (26, .int .i64 x15.1)], heapL [(0, .box none [.int .u8 s_0.Rate, .sl (s_0.Words.map T_api_Word.d), .sl (s_0.Shots.map (D.int .i64)), .int .i64 s_0.Table.Strength.a0, .int .i64 s_0.Table.Strength.a1, .int .i64 s_0.Table.Strength.a2, .int .i64 s_0.Table.Strength.a3, .int .i64 s_0.Table.Strength.a4, .int .i64 s_0.Table.Strength.a5, .int .i64 s_0.Table.Ragged, .int .i64 s_0.Table.Row, .int .i64 s_0.Table.Event, .int .i64 s_0.Table.Fast, .int .i64 s_0.Table.Gap, .int .i64 s_0.Table.Shot, .str s_0.House.Name, .int .i64 s_0.House.Reading, .int .i64 s_0.House.MinFrames, .int .i64 s_0.House.MaxFrames, .int .i64 s_0.House.MinGap, .int .i64 s_0.House.ShotBefore, .int .i64 s_0.House.ShotAfter, .int .i64 s_0.House.Rows, .int .i64 s_0.House.Cols, .str s_0.House.Forbidden, .int .i64 s_0.House.SafeTop, .int .i64 s_0.House.SafeBottom, .int .i64 s_0.House.SafeLeft, .int .i64 s_0.House.SafeRight]), (1, .mat 108 1 ((emD dl_List_T_segment_edge x15.2 r7.length).set x15.2.length (.own 2 x685.2.length))), (2, .vec 110 6 (x685.2.map T_segment_edge.d) false)], 3, 70⟩) (fun _ => .exit 2) (fun e686 => ⟨envL [(1, .ptr 0 0), (3, .sl (r7.map T_api_Token.d)), (4, .own 1 r7.length), (5, .int .i64 (IntKind.i64.wrap (s_0.House.Rows * (IntKind.i64.wrap (s_0.House.Cols + 1))))), (25, .int .i64 (r7.length : Int)), (26, .int .i64 x15.1)], heapL [(0, .box none [.int .u8 s_0.Rate, .sl (s_0.Words.map T_api_Word.d), .sl (s_0.Shots.map (D.int .i64)), .int .i64 s_0.Table.Strength.a0, .int .i64 s_0.Table.Strength.a1, .int .i64 s_0.Table.Strength.a2, .int .i64 s_0.Table.Strength.a3, .int .i64 s_0.Table.Strength.a4, .int .i64 s_0.Table.Strength.a5, .int .i64 s_0.Table.Ragged, .int .i64 s_0.Table.Row, .int .i64 s_0.Table.Event, .int .i64 s_0.Table.Fast, .int .i64 s_0.Table.Gap, .int .i64 s_0.Table.Shot, .str s_0.House.Name, .int .i64 s_0.House.Reading, .int .i64 s_0.House.MinFrames, .int .i64 s_0.House.MaxFrames, .int .i64 s_0.House.MinGap, .int .i64 s_0.House.ShotBefore, .int .i64 s_0.House.ShotAfter, .int .i64 s_0.House.Rows, .int .i64 s_0.House.Cols, .str s_0.House.Forbidden, .int .i64 s_0.House.SafeTop, .int .i64 s_0.House.SafeBottom, .int .i64 s_0.House.SafeLeft, .int .i64 s_0.House.SafeRight]), (1, .mat 108 1 ((emD dl_List_T_segment_edge x15.2 r7.length).set x15.2.length (.own 2 e686.length))), (2, .vec 110 6 (e686.map T_segment_edge.d) false)], 3, 70⟩) h810 (((Wk.openM (id := 1) (i := x15.2.length) (e := 108) (e2 := 110) (k2 := 6) (xs := emD dl_List_T_segment_edge x15.2 r7.length) fz (emD_at h9)).trans (wk [(2, some 8)]))) (by intro w; simp) ?_ ?_
      · clear h
        intro x685 y h
        unfold g_segment_edges_s2 at h
        refine xs ?_
        obtain ⟨v773, h778, h⟩ := bs h
        refine rb_cut (fun v773 => ⟨envL [(1, .ptr 0 0), (3, .sl (r7.map T_api_Token.d)), (4, .own 1 r7.length), (5, .int .i64 (IntKind.i64.wrap (s_0.House.Rows * (IntKind.i64.wrap (s_0.House.Cols + 1))))), (6, .int .i64 x15.1), (7, .int .i64 x685.1), (25, .int .i64 (r7.length : Int)), (26, .int .i64 x15.1), (42, .bool v773)], heapL [(0, .box none [.int .u8 s_0.Rate, .sl (s_0.Words.map T_api_Word.d), .sl (s_0.Shots.map (D.int .i64)), .int .i64 s_0.Table.Strength.a0, .int .i64 s_0.Table.Strength.a1, .int .i64 s_0.Table.Strength.a2, .int .i64 s_0.Table.Strength.a3, .int .i64 s_0.Table.Strength.a4, .int .i64 s_0.Table.Strength.a5, .int .i64 s_0.Table.Ragged, .int .i64 s_0.Table.Row, .int .i64 s_0.Table.Event, .int .i64 s_0.Table.Fast, .int .i64 s_0.Table.Gap, .int .i64 s_0.Table.Shot, .str s_0.House.Name, .int .i64 s_0.House.Reading, .int .i64 s_0.House.MinFrames, .int .i64 s_0.House.MaxFrames, .int .i64 s_0.House.MinGap, .int .i64 s_0.House.ShotBefore, .int .i64 s_0.House.ShotAfter, .int .i64 s_0.House.Rows, .int .i64 s_0.House.Cols, .str s_0.House.Forbidden, .int .i64 s_0.House.SafeTop, .int .i64 s_0.House.SafeBottom, .int .i64 s_0.House.SafeLeft, .int .i64 s_0.House.SafeRight]), (1, .mat 108 1 ((emD dl_List_T_segment_edge x15.2 r7.length).set x15.2.length (.own 2 x685.2.length))), (2, .vec 110 6 (x685.2.map T_segment_edge.d) false)], 3, 70⟩) h778 ?_ ?_
        · clear h
          intro v773 h
          refine rK fun K774 RK774 hK774 gK774 => zz ?_
          rcases iK k h with ⟨k, h⟩ | ⟨k, h⟩
          · refine zz ?_
            obtain ⟨r776, h777, h⟩ := bs h
            refine cw (a_token_Len hI hU8T h777) <| zz ?_
            subst hK774 gK774
            cases h
            exact en ⟨rfl, wk []⟩
          · refine zz ?_
            subst hK774 gK774
            cases h
            exact en ⟨rfl, wk []⟩
        · rcases iK k h with ⟨k, h⟩ | ⟨k, h⟩
          · refine xt <| xk <| es <| xs <| xb <| xs <| rK fun K797 RK797 hK797 gK797 => zz ?_
            obtain ⟨r798, h799, h⟩ := bs h
            refine cw (a_segment_part hI hU8T h799) <| zz ?_
            subst hK797 gK797
            refine es <| xs <| rz ?_
            refine es ?_
            rcases iK k h with ⟨k, h⟩ | ⟨k, h⟩
            · refine xt <| rD hI fun K803 RK803 hK803 gK803 => zz ?_
              obtain ⟨h804, h⟩ := ite_on h
              have q := And.intro (em_facts (f := dl_List_T_segment_edge) h804) q
              refine zz ?_
              obtain ⟨h805, h⟩ := ite_on h
              have h806 : x685.2.length + 1 ≤ 9223372036854775807 := by omega
              try simp only [Nat.reduceLeDiff] at h806
              have q := And.intro @h806 <| And.intro @h805 <| q
              refine zz ?_
              refine hd <| zz ?_
              obtain ⟨h807, h⟩ := ite_on h
              have q := And.intro (em_facts (f := dl_List_T_segment_edge) h807) q
              refine zz ?_
              refine hd <| zz ?_
              subst hK803 gK803
              refine bn <| es <| rz ?_
              cases h
              exact en ⟨rfl, wk [(2, some 28)]⟩
            · refine xf <| xk <| bn <| es <| rz ?_
              cases h
              exact en ⟨rfl, wk []⟩
          · refine xf <| xx <| ee ?_
            cases h
            exact en ⟨rfl, wk []⟩
      · refine bh <| bn <| es <| rz ?_
        obtain ⟨h9, h⟩ := ite_on h
        cases h
        exact en ⟨rfl, ((Wk.closeE (id := 1) (j := 2) (f := dl_List_T_segment_edge) (L := x15.2) (ys := e686) fz h9 fz fs (by decide) (fun _ => rfl) rfl).trans (wk []))⟩
    · refine xf <| xx <| ee ?_
      obtain ⟨h9, h⟩ := ite_on h
      have k := And.intro h9 <| And.intro (emD_full (f := dl_List_T_segment_edge) h9) k
      cases h
      exact en ⟨rfl, wk [(0, some 1)]⟩
  · refine bh <| es <| xs <| rz ?_
    refine es <| xr ?_
    cases h
    exact en fr
def g_segment_rest_better (r_0 : T_segment_rest) (than_1 : T_segment_rest) : Option (Bool) :=
  (if (than_1.cost_ == (-1)) then (some true) else (if (decide (r_0.cost_ < than_1.cost_)) then (some true) else (if (r_0.cost_ == than_1.cost_) then (some (decide (r_0.parts_ < than_1.parts_))) else (some false))))
theorem a_segment_rest_better {I : World → Prop} (hI : Stab I) {r_0 : T_segment_rest} {than_1 : T_segment_rest} {r : Bool} (h : g_segment_rest_better r_0 than_1 = some r) : AFun Tryz.prog I 49 [T_segment_rest.d r_0, T_segment_rest.d than_1] (.bool r) := by
  have dd := dd_ED; have k := True.intro; have q := k; have rs := Tryz.results49
  unfold g_segment_rest_better at h
  refine .en hI Tryz.func49 Tryz.ntmps49 ?_
  refine xs <| rz ?_
  refine es <| xs <| rK fun K7 RK7 hK7 gK7 => zz ?_
  rcases iK k h with ⟨k, h⟩ | ⟨k, h⟩
  · refine zz ?_
    subst hK7 gK7
    refine es <| xr ?_
    cases h
    exact en fr
  · refine zz ?_
    rcases iK k h with ⟨k, h⟩ | ⟨k, h⟩
    · refine zz ?_
      subst hK7 gK7
      refine es <| xr ?_
      cases h
      exact en fr
    · refine zz ?_
      rcases iK k h with ⟨k, h⟩ | ⟨k, h⟩
      · refine zz ?_
        subst hK7 gK7
        refine es <| xr ?_
        cases h
        exact en fr
      · refine zz ?_
        subst hK7 gK7
        refine es <| xr ?_
        cases h
        exact en fr
def g_segment_Segment_s2 (x56 : Int × (List T_segment_rest) × (List Int)) (y1459 : List T_segment_edge) (x1461 : Int × (List T_segment_rest) × (List Int)) : Option (Nx (Int × (List T_segment_rest) × (List Int)) ((List T_segment_rest) × (List Int))) :=
  (if (decide (x1461.1 < (y1459.length : Int))) then ((atI y1459 x1461.1).bind fun y1675 => ((atI x1461.2.1 y1675.part_.To).bind fun y1680 => (if (y1680.cost_ == (-1)) then (some (.go ((IntKind.i64.wrap (x1461.1 + 1)), x1461.2.1, x1461.2.2))) else ((atI x1461.2.1 x56.1).bind fun y1692 => ((g_segment_rest_better (T_segment_rest.mk (IntKind.i64.wrap (y1680.cost_ + y1675.cost_)) (IntKind.i64.wrap (y1680.parts_ + 1))) y1692).bind fun r1693 => (if r1693 then ((setI x1461.2.1 x56.1 (T_segment_rest.mk (IntKind.i64.wrap (y1680.cost_ + y1675.cost_)) (IntKind.i64.wrap (y1680.parts_ + 1)))).bind fun m1697 => ((atI x1461.2.2 x56.1).bind fun y1703 => ((setI x1461.2.2 x56.1 x1461.1).bind fun m1704 => (some (.go ((IntKind.i64.wrap (x1461.1 + 1)), m1697, m1704)))))) else (some (.go ((IntKind.i64.wrap (x1461.1 + 1)), x1461.2.1, x1461.2.2))))))))) else (some (.out (x1461.2.1, x1461.2.2))))
def g_segment_Segment_s1 (r18 : (List (List T_segment_edge))) (x56 : Int × (List T_segment_rest) × (List Int)) : Option (Nx (Int × (List T_segment_rest) × (List Int)) ((List T_segment_rest) × (List Int))) :=
  (if (decide (0 ≤ x56.1)) then ((atI x56.2.1 x56.1).bind fun y1448 => ((setI x56.2.1 x56.1 (T_segment_rest.mk (-1) y1448.parts_)).bind fun m1449 => ((atI r18 x56.1).bind fun y1459 => ((iter (g_segment_Segment_s2 x56 y1459) (0, m1449, x56.2.2)).bind fun e1462 => (some (.go ((IntKind.i64.wrap (x56.1 - 1)), e1462.1, e1462.2))))))) else (some (.out (x56.2.1, x56.2.2))))
def g_segment_Segment_s3 (e57 : (List T_segment_rest) × (List Int)) (x1734 : Int × (List Int)) : Option (Nx (Int × (List Int)) ((List Int))) :=
  (if (decide (x1734.1 < ((e57.1.length : Nat) : Int))) then ((atI e57.1 x1734.1).bind fun y1803 => (if (x1734.2.length + 1) * 8 ≤ 140737488355328 then (some (.go ((IntKind.i64.wrap (x1734.1 + 1)), (x1734.2 ++ [y1803.cost_])))) else none)) else (some (.out x1734.2)))
def g_segment_Segment_s4 (r18 : (List (List T_segment_edge))) (e57 : (List T_segment_rest) × (List Int)) (x1811 : Int × (List T_api_Part)) : Option (Nx (Int × (List T_api_Part)) ((List T_api_Part))) :=
  (if (decide (x1811.1 < (r18.length : Int))) then ((atI r18 x1811.1).bind fun y1885 => ((atI e57.2 x1811.1).bind fun y1887 => ((atI y1885 y1887).bind fun y1888 => (if (x1811.2.length + 1) * 56 ≤ 140737488355328 then (some (.go (y1888.part_.To, (x1811.2 ++ [y1888.part_])))) else none)))) else (some (.out x1811.2)))
def g_segment_Segment (s_0 : T_api_Speech) : Option (T_api_Segments × Int) :=
  ((g_segment_Check s_0).bind fun r7 => (if (r7 != 0) then (some ((T_api_Segments.mk [] 0 []), r7)) else ((g_segment_edges s_0).bind fun r18 => ((mkI 16 (IntKind.i64.wrap ((r18.length : Int) + 1)) ((T_segment_rest.mk 0 0) : T_segment_rest)).bind fun m31 => ((mkI 8 (r18.length : Int) (0 : Int)).bind fun m47 => ((iter (g_segment_Segment_s1 r18) ((IntKind.i64.wrap ((r18.length : Int) - 1)), m31, m47)).bind fun e57 => ((atI e57.1 0).bind fun y1722 => (if (y1722.cost_ == (-1)) then (some ((T_api_Segments.mk [] 0 []), 11)) else ((iter (g_segment_Segment_s3 e57) (0, [])).bind fun e1735 => ((iter (g_segment_Segment_s4 r18 e57) (0, [])).bind fun e1812 => (some ((T_api_Segments.mk e1812 y1722.cost_ e1735), 0))))))))))))
theorem a_segment_Segment {I : World → Prop} (hI : Stab I) (hShp : ∀ w, I w → Shp w) (hU8T : ∀ w, I w → U8T w) {s_0 : T_api_Speech} {r : T_api_Segments × Int} (h : g_segment_Segment s_0 = some r) : AFun Tryz.prog I 15 [T_api_Speech.d s_0] (.tup [T_api_Segments.d r.1, .int .i64 r.2]) := by
  have dd := dd_ED; have k := True.intro; have q := k; have rs := Tryz.results15
  unfold g_segment_Segment at h
  refine .en hI Tryz.func15 Tryz.ntmps15 ?_
  refine xs <| rz ?_
  refine es <| xs <| xs <| rK fun K6 RK6 hK6 gK6 => zz ?_
  obtain ⟨r7, h8, h⟩ := bs h
  refine cw (a_segment_Check hI hU8T h8) <| zz ?_
  subst hK6 gK6
  refine es <| xs <| rz ?_
  refine es ?_
  rcases iK k h with ⟨k, h⟩ | ⟨k, h⟩
  · refine xt <| xs <| rz ?_
    refine es <| xr <| er ?_
    cases h
    exact en fr
  · refine xf <| xk <| es <| xs <| rK fun K17 RK17 hK17 gK17 => zz ?_
    obtain ⟨r18, h19, h⟩ := bs h
    refine cw (a_segment_edges hI hShp hU8T h19) <| zz ?_
    subst hK17 gK17
    refine es <| xs <| rz ?_
    refine es <| xs <| rK fun K30 RK30 hK30 gK30 => zz ?_
    obtain ⟨m31, h32, h⟩ := bind_some h
    obtain ⟨h33, h34, h35, h36, h37⟩ := mkI_some h32
    have h37 := h37 T_segment_rest.d
    try simp only [sevalprocAttr, List.map_nil, Int.toNat_natCast, dd] at h36 h37
    have q := And.intro @h33 <| And.intro @h34 <| And.intro @h35 <| And.intro @h36 <| And.intro @h37 <| q
    refine zz ?_
    subst hK30 gK30
    refine es <| xs <| rK fun K46 RK46 hK46 gK46 => zz ?_
    obtain ⟨m47, h48, h⟩ := bind_some h
    obtain ⟨h49, h50, h51, h52, h53⟩ := mkI_some h48
    have h53 := h53 (D.int .i64)
    have h52 := (Int.toNat_natCast _).symm.trans h52 |>.symm
    rw [h52] at h53
    have k := And.intro h52 k
    try simp only [sevalprocAttr, List.map_nil, Int.toNat_natCast, dd] at h53
    have q := And.intro @h49 <| And.intro @h50 <| And.intro @h51 <| And.intro @h52 <| And.intro @h53 <| q
    refine zz ?_
    subst hK46 gK46
    refine es <| xs <| xs <| rz ?_
    refine es <| xb ?_
    obtain ⟨e57, h1714, h⟩ := bs h
    refine rb_loop (fun x56 => ⟨envL [(2, .ptr 0 0), (5, .sl (r18.map dl_List_T_segment_edge)), (6, .int .i64 (r18.length : Int)), (7, .own 1 x56.2.1.length), (8, .own 2 x56.2.2.length), (9, .int .i64 x56.1)], heapL [(0, .box none [.nils, .int .i64 0, .nils]), (1, .vec 107 2 (x56.2.1.map T_segment_rest.d) false), (2, .vec 3 1 (x56.2.2.map (D.int .i64)) false)], 3, 134⟩) (fun _ => .exit 0) (fun e57 => ⟨envL [(2, .ptr 0 0), (5, .sl (r18.map dl_List_T_segment_edge)), (6, .int .i64 (r18.length : Int)), (7, .own 1 e57.1.length), (8, .own 2 e57.2.length)], heapL [(0, .box none [.nils, .int .i64 0, .nils]), (1, .vec 107 2 (e57.1.map T_segment_rest.d) false), (2, .vec 3 1 (e57.2.map (D.int .i64)) false)], 3, 134⟩) h1714 (wk [(0, some 1), (1, some 16), (2, some 19)]) (by intro w; simp) ?_ ?_
    · clear h
      intro x56 y h
      unfold g_segment_Segment_s1 at h
      refine xs <| xs <| rz ?_
      refine es ?_
      rcases iK k h with ⟨k, h⟩ | ⟨k, h⟩
      · refine xt <| xk <| es <| xs <| xb <| xs <| rK fun K1447 RK1447 hK1447 gK1447 => zz ?_
        obtain ⟨y1448, q, h⟩ := oN q h
        refine zz ?_
        obtain ⟨m1449, h1450, h⟩ := bind_some h
        obtain ⟨h1451, h1452, h1453, h1454⟩ := setI_some h1450
        have h1454 := h1454 T_segment_rest.d
        try simp only [sevalprocAttr, List.map_nil, dd] at h1454
        have q := And.intro @h1451 <| And.intro @h1452 <| And.intro @h1453 <| And.intro @h1454 <| q
        refine zz ?_
        subst hK1447 gK1447
        refine es <| xs <| rK fun K1458 RK1458 hK1458 gK1458 => zz ?_
        obtain ⟨y1459, q, h⟩ := bK q h
        refine zz ?_
        subst hK1458 gK1458
        refine es <| xb ?_
        obtain ⟨e1462, h1712, h⟩ := bs h
        refine rb_loop (fun x1461 => ⟨envL [(2, .ptr 0 0), (5, .sl (r18.map dl_List_T_segment_edge)), (6, .int .i64 (r18.length : Int)), (7, .own 1 x1461.2.1.length), (8, .own 2 x1461.2.2.length), (9, .int .i64 x56.1), (46, .sl (y1459.map T_segment_edge.d)), (47, .int .i64 (y1459.length : Int)), (48, .int .i64 x1461.1)], heapL [(0, .box none [.nils, .int .i64 0, .nils]), (1, .vec 107 2 (x1461.2.1.map T_segment_rest.d) false), (2, .vec 3 1 (x1461.2.2.map (D.int .i64)) false)], 3, 134⟩) (fun _ => .exit 2) (fun e1462 => ⟨envL [(2, .ptr 0 0), (5, .sl (r18.map dl_List_T_segment_edge)), (6, .int .i64 (r18.length : Int)), (7, .own 1 e1462.1.length), (8, .own 2 e1462.2.length), (9, .int .i64 x56.1)], heapL [(0, .box none [.nils, .int .i64 0, .nils]), (1, .vec 107 2 (e1462.1.map T_segment_rest.d) false), (2, .vec 3 1 (e1462.2.map (D.int .i64)) false)], 3, 134⟩) h1712 (wk []) (by intro w; simp) ?_ ?_
        · clear h
          intro x1461 y h
          unfold g_segment_Segment_s2 at h
          refine xs <| rz ?_
          refine es <| xs ?_
          rcases iK k h with ⟨k, h⟩ | ⟨k, h⟩
          · refine xt <| xk <| es <| xs <| xb <| xs <| rK fun K1674 RK1674 hK1674 gK1674 => zz ?_
            obtain ⟨y1675, q, h⟩ := bK q h
            refine zz ?_
            subst hK1674 gK1674
            refine es <| xs <| rK fun K1679 RK1679 hK1679 gK1679 => zz ?_
            obtain ⟨y1680, q, h⟩ := oN q h
            refine zz ?_
            subst hK1679 gK1679
            refine es <| xs <| xs <| rz ?_
            refine es ?_
            rcases iK k h with ⟨k, h⟩ | ⟨k, h⟩
            · refine xt <| xx <| ee <| bh <| es <| rz ?_
              cases h
              exact en ⟨rfl, wk []⟩
            · refine xf <| xk <| es <| xs <| rz ?_
              refine es <| xs <| rD hI fun K1691 RK1691 hK1691 gK1691 => zz ?_
              obtain ⟨y1692, q, h⟩ := oN q h
              refine zz ?_
              obtain ⟨r1693, h1694, h⟩ := bs h
              refine cd (a_segment_rest_better hI h1694) <| zz ?_
              subst hK1691 gK1691
              refine es ?_
              rcases iK k h with ⟨k, h⟩ | ⟨k, h⟩
              · refine xt <| rK fun K1696 RK1696 hK1696 gK1696 => zz ?_
                obtain ⟨m1697, h1698, h⟩ := bind_some h
                obtain ⟨h1699, h1700, h1701, h1702⟩ := setI_some h1698
                have h1702 := h1702 T_segment_rest.d
                try simp only [sevalprocAttr, List.map_nil, dd] at h1702
                have q := And.intro @h1699 <| And.intro @h1700 <| And.intro @h1701 <| And.intro @h1702 <| q
                refine zz ?_
                obtain ⟨y1703, q, h⟩ := oN q h
                refine zz ?_
                obtain ⟨m1704, h1705, h⟩ := bind_some h
                obtain ⟨h1706, h1707, h1708, h1709⟩ := setI_some h1705
                have h1709 := h1709 (D.int .i64)
                try simp only [sevalprocAttr, List.map_nil, dd] at h1709
                have q := And.intro @h1706 <| And.intro @h1707 <| And.intro @h1708 <| And.intro @h1709 <| q
                refine zz ?_
                subst hK1696 gK1696
                refine bn <| es <| rz ?_
                cases h
                exact en ⟨rfl, wk []⟩
              · refine xf <| xk <| bn <| es <| rz ?_
                cases h
                exact en ⟨rfl, wk []⟩
          · refine xf <| xx <| ee ?_
            cases h
            exact en ⟨rfl, wk []⟩
        · refine bh <| bn <| es <| rz ?_
          cases h
          exact en ⟨rfl, wk []⟩
      · refine xf <| xx <| ee ?_
        cases h
        exact en ⟨rfl, wk []⟩
    · refine bh <| es <| xs <| xs <| rK fun K1721 RK1721 hK1721 gK1721 => zz ?_
      obtain ⟨y1722, h1723, h⟩ := bind_some h
      obtain ⟨h1724, h1725, h1726⟩ := atI_own h1723
      try simp only [Int.reduceToNat, Int.toNat_zero, Int.toNat_one] at h1726
      have q := And.intro h1724 <| And.intro h1725 <| And.intro @h1726 q
      refine zz ?_
      subst hK1721 gK1721
      refine es ?_
      rcases iK k h with ⟨k, h⟩ | ⟨k, h⟩
      · refine xt <| xs <| rz ?_
        refine es <| xr <| er ?_
        cases h
        exact en fr
      · refine xf <| xk <| es <| xs <| rz ?_
        refine es <| xs <| xs <| rz ?_
        refine es <| xb ?_
        obtain ⟨e1735, h1808, h⟩ := bs h
        refine rb_loop (fun x1734 => ⟨envL [(2, .ptr 0 0), (5, .sl (r18.map dl_List_T_segment_edge)), (6, .int .i64 (r18.length : Int)), (8, .own 1 e57.2.length), (13, .ptr 2 0), (97, .own 3 e57.1.length), (98, .int .i64 ((e57.1.length : Nat) : Int)), (99, .int .i64 x1734.1)], heapL [(0, .box none [.nils, .int .i64 0, .nils]), (1, .vec 3 1 (e57.2.map (D.int .i64)) false), (2, .box none [.nils, .int .i64 y1722.cost_, .own 4 x1734.2.length]), (3, .vec 107 2 (e57.1.map T_segment_rest.d) false), (4, .vec 2 1 (x1734.2.map (D.int .i64)) false)], 5, 134⟩) (fun _ => .exit 4) (fun e1735 => ⟨envL [(2, .ptr 0 0), (5, .sl (r18.map dl_List_T_segment_edge)), (6, .int .i64 (r18.length : Int)), (8, .own 1 e57.2.length), (13, .ptr 2 0)], heapL [(0, .box none [.nils, .int .i64 0, .nils]), (1, .vec 3 1 (e57.2.map (D.int .i64)) false), (2, .box none [.nils, .int .i64 y1722.cost_, .own 3 e1735.length]), (3, .vec 2 1 (e1735.map (D.int .i64)) false)], 4, 134⟩) h1808 (wk [(1, some 2), (2, some 13), (3, some 1), (4, none)]) (by intro w; simp) ?_ ?_
        · clear h
          intro x1734 y h
          unfold g_segment_Segment_s3 at h
          refine xs <| rz ?_
          refine es <| xs ?_
          rcases iK k h with ⟨k, h⟩ | ⟨k, h⟩
          · refine xt <| xk <| es <| xs <| xb <| xs <| rK fun K1802 RK1802 hK1802 gK1802 => zz ?_
            obtain ⟨y1803, q, h⟩ := oN q h
            refine zz ?_
            subst hK1802 gK1802
            refine es <| rK fun K1804 RK1804 hK1804 gK1804 => zz ?_
            obtain ⟨h1805, h⟩ := ite_on h
            have h1806 : x1734.2.length + 1 ≤ 9223372036854775807 := by omega
            try simp only [Nat.reduceLeDiff] at h1806
            have q := And.intro @h1806 <| And.intro @h1805 <| q
            refine zz ?_
            subst hK1804 gK1804
            refine bn <| es <| rz ?_
            cases h
            exact en ⟨rfl, wk [(4, some 15)]⟩
          · refine xf <| xx <| ee ?_
            cases h
            exact en ⟨rfl, wk [(3, some 4)]⟩
        · refine bh <| es <| xs <| xs <| rz ?_
          refine es <| xb ?_
          obtain ⟨e1812, h1897, h⟩ := bs h
          refine rb_loop (fun x1811 => ⟨envL [(2, .ptr 0 0), (5, .sl (r18.map dl_List_T_segment_edge)), (6, .int .i64 (r18.length : Int)), (8, .own 1 e57.2.length), (13, .ptr 2 0), (16, .int .i64 x1811.1)], heapL [(0, .box none [.nils, .int .i64 0, .nils]), (1, .vec 3 1 (e57.2.map (D.int .i64)) false), (2, .box none [.own 4 x1811.2.length, .int .i64 y1722.cost_, .own 3 e1735.length]), (3, .vec 2 1 (e1735.map (D.int .i64)) false), (4, .vec 38 5 (x1811.2.map T_api_Part.d) false)], 5, 134⟩) (fun _ => .exit 6) (fun e1812 => ⟨envL [(2, .ptr 0 0), (13, .ptr 1 0)], heapL [(0, .box none [.nils, .int .i64 0, .nils]), (1, .box none [.own 2 e1812.length, .int .i64 y1722.cost_, .own 3 e1735.length]), (2, .vec 38 5 (e1812.map T_api_Part.d) false), (3, .vec 2 1 (e1735.map (D.int .i64)) false)], 4, 134⟩) h1897 (wk [(4, none)]) (by intro w; simp) ?_ ?_
          · clear h
            intro x1811 y h
            unfold g_segment_Segment_s4 at h
            refine xs <| xs <| rz ?_
            refine es ?_
            rcases iK k h with ⟨k, h⟩ | ⟨k, h⟩
            · refine xt <| xk <| es <| xb <| xs <| rD hI fun K1884 RK1884 hK1884 gK1884 => zz ?_
              obtain ⟨y1885, q, h⟩ := bK q h
              refine zz ?_
              obtain ⟨y1887, q, h⟩ := oN q h
              refine zz ?_
              obtain ⟨y1888, q, h⟩ := bK q h
              refine zz ?_
              refine hd <| zz ?_
              subst hK1884 gK1884
              refine es <| xs <| rK fun K1893 RK1893 hK1893 gK1893 => zz ?_
              obtain ⟨h1894, h⟩ := ite_on h
              have h1895 : x1811.2.length + 1 ≤ 9223372036854775807 := by omega
              try simp only [Nat.reduceLeDiff] at h1895
              have q := And.intro @h1895 <| And.intro @h1894 <| q
              refine zz ?_
              subst hK1893 gK1893
              refine es <| rz ?_
              refine bn ?_
              cases h
              exact en ⟨rfl, wk [(4, some 25)]⟩
            · refine xf <| xx <| ee ?_
              cases h
              exact en ⟨rfl, wk [(1, some 2), (2, some 4)]⟩
          · refine bh <| es <| xs <| rz ?_
            refine es <| xr ?_
            cases h
            exact en fr
def g_segment_cost_s1 (s_0 : T_api_Speech) (l_1 : List T_api_Part) (x7 : Int × Int) : Option (Nx (Int × Int) (Unit ⊕ Int)) :=
  (if (decide (x7.2 < (l_1.length : Int))) then ((atI l_1 x7.2).bind fun y117 => (((if (y117.From != x7.1) then (some true) else (if (decide (y117.To ≤ y117.From)) then (some true) else (some (decide ((s_0.Words.length : Int) < y117.To))))) : Option (Bool)).bind fun v122 => (if v122 then (some (.out (.inl ()))) else (some (.go (y117.To, (IntKind.i64.wrap (x7.2 + 1)))))))) else (some (.out (.inr x7.1))))
def g_segment_cost_s2 (s_0 : T_api_Speech) (l_1 : List T_api_Part) (r142 : (List T_api_Token)) (x150 : (List T_api_Part) × Int × Int) : Option (Nx ((List T_api_Part) × Int × Int) (Int ⊕ ((List T_api_Part) × Int))) :=
  (if (decide (x150.2.2 < (l_1.length : Int))) then ((atI l_1 x150.2.2).bind fun y335 => ((g_segment_part s_0 r142 y335.From y335.To).bind fun r341 => (if (r341.2.2 != 0) then (some (.out (.inl r341.2.2))) else (if (x150.1.length + 1) * 56 ≤ 140737488355328 then (some (.go ((x150.1 ++ [r341.1]), (IntKind.i64.wrap (x150.2.1 + r341.2.1)), (IntKind.i64.wrap (x150.2.2 + 1))))) else none)))) else (some (.out (.inr (x150.1, x150.2.1)))))
def g_segment_cost (s_0 : T_api_Speech) (l_1 : List T_api_Part) : Option ((List T_api_Part) × Int × Int) :=
  ((iter (g_segment_cost_s1 s_0 l_1) (0, 0)).bind fun e8 => (match e8 with | Sum.inl e8 => (some ([], 0, 1)) | Sum.inr (e8) => (if (e8 != (s_0.Words.length : Int)) then (some ([], 0, 1)) else ((g_segment_tokens s_0).bind fun r142 => ((iter (g_segment_cost_s2 s_0 l_1 r142) ([], 0, 0)).bind fun e151 => (match e151 with | Sum.inl e151 => (some ([], 0, e151)) | Sum.inr (e151) => (some (e151.1, e151.2, 0))))))))
theorem a_segment_cost {I : World → Prop} (hI : Stab I) (hShp : ∀ w, I w → Shp w) (hU8T : ∀ w, I w → U8T w) {s_0 : T_api_Speech} {l_1 : List T_api_Part} {r : (List T_api_Part) × Int × Int} (h : g_segment_cost s_0 l_1 = some r) : AFun Tryz.prog I 50 [T_api_Speech.d s_0, .sl (l_1.map T_api_Part.d)] (.tup [.sl (r.1.map T_api_Part.d), .int .i64 r.2.1, .int .i64 r.2.2]) := by
  have dd := dd_ED; have k := True.intro; have q := k; have rs := Tryz.results50
  unfold g_segment_cost at h
  refine .en hI Tryz.func50 Tryz.ntmps50 ?_
  refine xs <| rz ?_
  refine es <| xs <| rz ?_
  refine es <| xs <| xs <| rz ?_
  refine es <| xb ?_
  obtain ⟨e8, h132, h⟩ := bs h
  refine rb_loop (fun x7 => ⟨envL [(1, .sl (l_1.map T_api_Part.d)), (2, .ptr 0 0), (7, .int .i64 x7.1), (18, .sl (l_1.map T_api_Part.d)), (19, .int .i64 (l_1.length : Int)), (20, .int .i64 x7.2)], heapL [(0, .box none [.int .u8 s_0.Rate, .sl (s_0.Words.map T_api_Word.d), .sl (s_0.Shots.map (D.int .i64)), .int .i64 s_0.Table.Strength.a0, .int .i64 s_0.Table.Strength.a1, .int .i64 s_0.Table.Strength.a2, .int .i64 s_0.Table.Strength.a3, .int .i64 s_0.Table.Strength.a4, .int .i64 s_0.Table.Strength.a5, .int .i64 s_0.Table.Ragged, .int .i64 s_0.Table.Row, .int .i64 s_0.Table.Event, .int .i64 s_0.Table.Fast, .int .i64 s_0.Table.Gap, .int .i64 s_0.Table.Shot, .str s_0.House.Name, .int .i64 s_0.House.Reading, .int .i64 s_0.House.MinFrames, .int .i64 s_0.House.MaxFrames, .int .i64 s_0.House.MinGap, .int .i64 s_0.House.ShotBefore, .int .i64 s_0.House.ShotAfter, .int .i64 s_0.House.Rows, .int .i64 s_0.House.Cols, .str s_0.House.Forbidden, .int .i64 s_0.House.SafeTop, .int .i64 s_0.House.SafeBottom, .int .i64 s_0.House.SafeLeft, .int .i64 s_0.House.SafeRight])], 1, 83⟩) (fun w => match w with | Sum.inl _ => .ret | Sum.inr (_) => .exit 0) (fun w => match w with | Sum.inl e8 => ⟨envL [(4, .nils), (5, .int .i64 0), (6, .int .i64 1)], heapL [], 0, 83⟩ | Sum.inr (e8) => ⟨envL [(1, .sl (l_1.map T_api_Part.d)), (2, .ptr 0 0), (7, .int .i64 e8)], heapL [(0, .box none [.int .u8 s_0.Rate, .sl (s_0.Words.map T_api_Word.d), .sl (s_0.Shots.map (D.int .i64)), .int .i64 s_0.Table.Strength.a0, .int .i64 s_0.Table.Strength.a1, .int .i64 s_0.Table.Strength.a2, .int .i64 s_0.Table.Strength.a3, .int .i64 s_0.Table.Strength.a4, .int .i64 s_0.Table.Strength.a5, .int .i64 s_0.Table.Ragged, .int .i64 s_0.Table.Row, .int .i64 s_0.Table.Event, .int .i64 s_0.Table.Fast, .int .i64 s_0.Table.Gap, .int .i64 s_0.Table.Shot, .str s_0.House.Name, .int .i64 s_0.House.Reading, .int .i64 s_0.House.MinFrames, .int .i64 s_0.House.MaxFrames, .int .i64 s_0.House.MinGap, .int .i64 s_0.House.ShotBefore, .int .i64 s_0.House.ShotAfter, .int .i64 s_0.House.Rows, .int .i64 s_0.House.Cols, .str s_0.House.Forbidden, .int .i64 s_0.House.SafeTop, .int .i64 s_0.House.SafeBottom, .int .i64 s_0.House.SafeLeft, .int .i64 s_0.House.SafeRight])], 1, 83⟩) h132 (wk []) (by intro w; rcases w with w | w <;> simp) ?_ ?_
  · clear h
    intro x7 y h
    unfold g_segment_cost_s1 at h
    refine xs <| rz ?_
    refine es <| xs ?_
    rcases iK k h with ⟨k, h⟩ | ⟨k, h⟩
    · refine xt <| xk <| es <| xs <| xb <| xs <| rK fun K116 RK116 hK116 gK116 => zz ?_
      obtain ⟨y117, q, h⟩ := bK q h
      refine zz ?_
      subst hK116 gK116
      refine es <| xs ?_
      obtain ⟨v122, h126, h⟩ := bs h
      refine rb_cut (fun v122 => ⟨envL [(1, .sl (l_1.map T_api_Part.d)), (2, .ptr 0 0), (9, .ptr 1 0), (18, .sl (l_1.map T_api_Part.d)), (19, .int .i64 (l_1.length : Int)), (20, .int .i64 x7.2), (42, .bool v122)], heapL [(0, .box none [.int .u8 s_0.Rate, .sl (s_0.Words.map T_api_Word.d), .sl (s_0.Shots.map (D.int .i64)), .int .i64 s_0.Table.Strength.a0, .int .i64 s_0.Table.Strength.a1, .int .i64 s_0.Table.Strength.a2, .int .i64 s_0.Table.Strength.a3, .int .i64 s_0.Table.Strength.a4, .int .i64 s_0.Table.Strength.a5, .int .i64 s_0.Table.Ragged, .int .i64 s_0.Table.Row, .int .i64 s_0.Table.Event, .int .i64 s_0.Table.Fast, .int .i64 s_0.Table.Gap, .int .i64 s_0.Table.Shot, .str s_0.House.Name, .int .i64 s_0.House.Reading, .int .i64 s_0.House.MinFrames, .int .i64 s_0.House.MaxFrames, .int .i64 s_0.House.MinGap, .int .i64 s_0.House.ShotBefore, .int .i64 s_0.House.ShotAfter, .int .i64 s_0.House.Rows, .int .i64 s_0.House.Cols, .str s_0.House.Forbidden, .int .i64 s_0.House.SafeTop, .int .i64 s_0.House.SafeBottom, .int .i64 s_0.House.SafeLeft, .int .i64 s_0.House.SafeRight]), (1, .box none [.int .i64 y117.From, .int .i64 y117.To, .sl (y117.Breaks.map (D.int .i64)), .int .i64 y117.Span.In, .int .i64 y117.Span.Out])], 2, 83⟩) h126 ?_ ?_
      · clear h
        intro v122 h
        refine rK fun K123 RK123 hK123 gK123 => zz ?_
        rcases iK k h with ⟨k, h⟩ | ⟨k, h⟩
        · refine zz ?_
          subst hK123 gK123
          cases h
          exact en ⟨rfl, wk [(1, some 4)]⟩
        · refine zz ?_
          rcases iK k h with ⟨k, h⟩ | ⟨k, h⟩
          · refine zz ?_
            subst hK123 gK123
            cases h
            exact en ⟨rfl, wk [(1, some 4)]⟩
          · refine zz ?_
            subst hK123 gK123
            cases h
            exact en ⟨rfl, wk [(1, some 4)]⟩
      · rcases iK k h with ⟨k, h⟩ | ⟨k, h⟩
        · refine xt <| xs <| rz ?_
          refine es <| xr <| er <| br <| er ?_
          cases h
          exact en ⟨rfl, wk []⟩
        · refine xf <| xk <| es <| rz ?_
          refine bn <| es <| rz ?_
          cases h
          exact en ⟨rfl, wk []⟩
    · refine xf <| xx <| ee ?_
      cases h
      exact en ⟨rfl, wk []⟩
  · rcases e8 with e8 | e8
    · try dsimp only at h ⊢
      refine br <| er ?_
      cases h
      exact en fr
    · try dsimp only at h ⊢
      refine bh <| es <| xs <| xs <| rz ?_
      refine es ?_
      rcases iK k h with ⟨k, h⟩ | ⟨k, h⟩
      · refine xt <| xs <| rz ?_
        refine es <| xr <| er ?_
        cases h
        exact en fr
      · refine xf <| xk <| es <| xs <| rK fun K141 RK141 hK141 gK141 => zz ?_
        obtain ⟨r142, h143, h⟩ := bs h
        refine cw (a_segment_tokens hI hShp h143) <| zz ?_
        subst hK141 gK141
        refine es <| xs <| rz ?_
        refine es <| xs <| rz ?_
        refine es <| xs <| xs <| rz ?_
        refine es <| xb ?_
        obtain ⟨e151, h356, h⟩ := bs h
        refine rb_loop (fun x150 => ⟨envL [(2, .ptr 0 0), (10, .sl (r142.map T_api_Token.d)), (11, .own 1 x150.1.length), (12, .int .i64 x150.2.1), (53, .sl (l_1.map T_api_Part.d)), (54, .int .i64 (l_1.length : Int)), (55, .int .i64 x150.2.2)], heapL [(0, .box none [.int .u8 s_0.Rate, .sl (s_0.Words.map T_api_Word.d), .sl (s_0.Shots.map (D.int .i64)), .int .i64 s_0.Table.Strength.a0, .int .i64 s_0.Table.Strength.a1, .int .i64 s_0.Table.Strength.a2, .int .i64 s_0.Table.Strength.a3, .int .i64 s_0.Table.Strength.a4, .int .i64 s_0.Table.Strength.a5, .int .i64 s_0.Table.Ragged, .int .i64 s_0.Table.Row, .int .i64 s_0.Table.Event, .int .i64 s_0.Table.Fast, .int .i64 s_0.Table.Gap, .int .i64 s_0.Table.Shot, .str s_0.House.Name, .int .i64 s_0.House.Reading, .int .i64 s_0.House.MinFrames, .int .i64 s_0.House.MaxFrames, .int .i64 s_0.House.MinGap, .int .i64 s_0.House.ShotBefore, .int .i64 s_0.House.ShotAfter, .int .i64 s_0.House.Rows, .int .i64 s_0.House.Cols, .str s_0.House.Forbidden, .int .i64 s_0.House.SafeTop, .int .i64 s_0.House.SafeBottom, .int .i64 s_0.House.SafeLeft, .int .i64 s_0.House.SafeRight]), (1, .vec 38 5 (x150.1.map T_api_Part.d) false)], 2, 83⟩) (fun w => match w with | Sum.inl _ => .ret | Sum.inr (_) => .exit 2) (fun w => match w with | Sum.inl e151 => ⟨envL [(4, .nils), (5, .int .i64 0), (6, .int .i64 e151)], heapL [], 0, 83⟩ | Sum.inr (e151) => ⟨envL [(11, .own 0 e151.1.length), (12, .int .i64 e151.2)], heapL [(0, .vec 38 5 (e151.1.map T_api_Part.d) false)], 1, 83⟩) h356 (wk [(1, none)]) (by intro w; rcases w with w | w <;> simp) ?_ ?_
        · clear h
          intro x150 y h
          unfold g_segment_cost_s2 at h
          refine xs <| rz ?_
          refine es <| xs ?_
          rcases iK k h with ⟨k, h⟩ | ⟨k, h⟩
          · refine xt <| xk <| es <| xs <| xb <| xs <| rK fun K334 RK334 hK334 gK334 => zz ?_
            obtain ⟨y335, q, h⟩ := bK q h
            refine zz ?_
            subst hK334 gK334
            refine es <| xs <| rK fun K340 RK340 hK340 gK340 => zz ?_
            obtain ⟨r341, h342, h⟩ := bs h
            refine cw (a_segment_part hI hU8T h342) <| zz ?_
            subst hK340 gK340
            refine es <| xs <| xs <| rz ?_
            refine es ?_
            rcases iK k h with ⟨k, h⟩ | ⟨k, h⟩
            · refine xt <| xs <| rz ?_
              refine es <| xr <| er <| br <| er ?_
              cases h
              exact en ⟨rfl, wk []⟩
            · refine xf <| xk <| es <| xs <| rK fun K351 RK351 hK351 gK351 => zz ?_
              obtain ⟨h352, h⟩ := ite_on h
              have h353 : x150.1.length + 1 ≤ 9223372036854775807 := by omega
              try simp only [Nat.reduceLeDiff] at h353
              have q := And.intro @h353 <| And.intro @h352 <| q
              refine zz ?_
              subst hK351 gK351
              refine es <| rz ?_
              refine bn <| es <| rz ?_
              cases h
              exact en ⟨rfl, wk [(1, some 27)]⟩
          · refine xf <| xx <| ee ?_
            cases h
            exact en ⟨rfl, wk [(0, some 1)]⟩
        · rcases e151 with e151 | e151
          · try dsimp only at h ⊢
            refine br <| er ?_
            cases h
            exact en fr
          · try dsimp only at h ⊢
            refine bh <| es <| xs <| rz ?_
            refine es <| xr ?_
            cases h
            exact en fr
def g_segment_Cost (s_0 : T_api_Speech) (l_1 : List T_api_Part) : Option (Int × Int) :=
  ((g_segment_Check s_0).bind fun r7 => (if (r7 != 0) then (some (0, r7)) else ((g_segment_cost s_0 l_1).bind fun r18 => (some (r18.2.1, r18.2.2)))))
theorem a_segment_Cost {I : World → Prop} (hI : Stab I) (hShp : ∀ w, I w → Shp w) (hU8T : ∀ w, I w → U8T w) {s_0 : T_api_Speech} {l_1 : List T_api_Part} {r : Int × Int} (h : g_segment_Cost s_0 l_1 = some r) : AFun Tryz.prog I 19 [T_api_Speech.d s_0, .sl (l_1.map T_api_Part.d)] (.tup [.int .i64 r.1, .int .i64 r.2]) := by
  have dd := dd_ED; have k := True.intro; have q := k; have rs := Tryz.results19
  unfold g_segment_Cost at h
  refine .en hI Tryz.func19 Tryz.ntmps19 ?_
  refine xs <| rz ?_
  refine es <| xs <| xs <| rK fun K6 RK6 hK6 gK6 => zz ?_
  obtain ⟨r7, h8, h⟩ := bs h
  refine cw (a_segment_Check hI hU8T h8) <| zz ?_
  subst hK6 gK6
  refine es <| xs <| rz ?_
  refine es ?_
  rcases iK k h with ⟨k, h⟩ | ⟨k, h⟩
  · refine xt <| xs <| rz ?_
    refine es <| xr <| er ?_
    cases h
    exact en fr
  · refine xf <| xk <| es <| xs <| rK fun K17 RK17 hK17 gK17 => zz ?_
    obtain ⟨r18, h19, h⟩ := bs h
    refine cw (a_segment_cost hI hShp hU8T h19) <| zz ?_
    subst hK17 gK17
    refine es <| xs <| rz ?_
    refine es <| xr ?_
    cases h
    exact en fr
def g_segment_Part (s_0 : T_api_Speech) (from_1 : Int) (to_2 : Int) : Option (T_api_Part × Int × Int) :=
  ((g_segment_Check s_0).bind fun r7 => (if (r7 != 0) then (some ((T_api_Part.mk 0 0 [] (T_api_Span.mk 0 0)), 0, r7)) else ((g_segment_tokens s_0).bind fun r20 => ((g_segment_part s_0 r20 from_1 to_2).bind fun r22 => (some (r22.1, r22.2.1, r22.2.2))))))
theorem a_segment_Part {I : World → Prop} (hI : Stab I) (hShp : ∀ w, I w → Shp w) (hU8T : ∀ w, I w → U8T w) {s_0 : T_api_Speech} {from_1 : Int} {to_2 : Int} {r : T_api_Part × Int × Int} (h : g_segment_Part s_0 from_1 to_2 = some r) : AFun Tryz.prog I 10 [T_api_Speech.d s_0, .int .i64 from_1, .int .i64 to_2] (.tup [T_api_Part.d r.1, .int .i64 r.2.1, .int .i64 r.2.2]) := by
  have dd := dd_ED; have k := True.intro; have q := k; have rs := Tryz.results10
  unfold g_segment_Part at h
  refine .en hI Tryz.func10 Tryz.ntmps10 ?_
  refine xs <| rz ?_
  refine es <| xs <| xs <| rK fun K6 RK6 hK6 gK6 => zz ?_
  obtain ⟨r7, h8, h⟩ := bs h
  refine cw (a_segment_Check hI hU8T h8) <| zz ?_
  subst hK6 gK6
  refine es <| xs <| rz ?_
  refine es ?_
  rcases iK k h with ⟨k, h⟩ | ⟨k, h⟩
  · refine xt <| xs <| rz ?_
    refine es <| xr <| er ?_
    cases h
    exact en fr
  · refine xf <| xk <| es <| xs <| rD hI fun K19 RK19 hK19 gK19 => zz ?_
    obtain ⟨r20, h21, h⟩ := bs h
    refine cd (a_segment_tokens hI hShp h21) <| zz ?_
    obtain ⟨r22, h23, h⟩ := bs h
    refine cd (a_segment_part hI hU8T h23) <| zz ?_
    refine hd <| zz ?_
    subst hK19 gK19
    refine es <| xr ?_
    cases h
    exact en fr
end Go.Proofs.YtalfcmgcjdkolaaGreatDoor
namespace Go.Proofs.YtalfcmgcjdkolaaGreatDoor
open Go.RowKit
set_option maxRecDepth 100000
set_option maxHeartbeats 10000000
theorem dd_EN : (∀ x, T_arr6_Int.d x = .agg [.int .i64 x.a0, .int .i64 x.a1, .int .i64 x.a2, .int .i64 x.a3, .int .i64 x.a4, .int .i64 x.a5]) ∧ (∀ x, T_api_Penalties.d x = .agg [.int .i64 x.Strength.a0, .int .i64 x.Strength.a1, .int .i64 x.Strength.a2, .int .i64 x.Strength.a3, .int .i64 x.Strength.a4, .int .i64 x.Strength.a5, .int .i64 x.Ragged, .int .i64 x.Row, .int .i64 x.Event, .int .i64 x.Fast, .int .i64 x.Gap, .int .i64 x.Shot]) := ⟨fun _ => rfl, fun _ => rfl⟩
def g_ref35_numbers (t_0 : T_api_Penalties) : Option ((List Int)) :=
  (some ([t_0.Strength.a0, t_0.Strength.a1, t_0.Strength.a2, t_0.Strength.a3, t_0.Strength.a4, t_0.Strength.a5] ++ [t_0.Ragged, t_0.Row, t_0.Event, t_0.Fast, t_0.Gap, t_0.Shot]))
theorem a_ref35_numbers {I : World → Prop} (hI : Stab I) {t_0 : T_api_Penalties} {r : (List Int)} (h : g_ref35_numbers t_0 = some r) : AFun Tryz.prog I 86 [T_api_Penalties.d t_0] (.sl (r.map (D.int .i64))) := by
  have dd := dd_EN; have k := True.intro; have q := k; have rs := Tryz.results86
  unfold g_ref35_numbers at h
  refine .en hI Tryz.func86 Tryz.ntmps86 ?_
  refine xs <| rz ?_
  refine es <| xs <| rP hI fun K4 hK4 => rgP_cons <| zq ?_
  refine sP.foot (.ids []) (fun hN => FootOK.idsB [] (by rfl) rfl hN) fd (by first | exact .inl (by first | rfl | decide) | exact .inr (by kernel_rfl)) <| rgP_cons <| zq ?_
  refine sP.light rfl fd <| rgP_cons <| zq ?_
  refine sP.foot (.ids []) (fun hN => FootOK.idsB [] (by rfl) rfl hN) fd (by first | exact .inl (by first | rfl | decide) | exact .inr (by kernel_rfl)) <| rgP_cons <| zq ?_
  refine sP.foot (.ids [2]) (fun hN => FootOK.idsB [2] (by rfl) rfl hN) fd (by first | exact .inl (by first | rfl | decide) | exact .inr (by kernel_rfl)) <| rgP_cons <| zq ?_
  refine sP.light rfl fd <| rgP_cons <| zq ?_
  refine sP.foot (.ids []) (fun hN => FootOK.idsB [] (by rfl) rfl hN) fd (by first | exact .inl (by first | rfl | decide) | exact .inr (by kernel_rfl)) <| rgP_cons <| zq ?_
  refine sP.light rfl fd <| rgP_cons <| zq ?_
  refine sP.foot (.ids []) (fun hN => FootOK.idsB [] (by rfl) rfl hN) fd (by first | exact .inl (by first | rfl | decide) | exact .inr (by kernel_rfl)) <| rgP_cons <| zq ?_
  refine sP.light rfl fd <| rgP_cons <| zq ?_
  refine sP.foot (.ids []) (fun hN => FootOK.idsB [] (by rfl) rfl hN) fd (by first | exact .inl (by first | rfl | decide) | exact .inr (by kernel_rfl)) <| rgP_cons <| zq ?_
  refine sP.light rfl fd <| rgP_cons <| zq ?_
  refine sP.foot (.ids []) (fun hN => FootOK.idsB [] (by rfl) rfl hN) fd (by first | exact .inl (by first | rfl | decide) | exact .inr (by kernel_rfl)) <| rgP_cons <| zq ?_
  refine sP.light rfl fd <| rgP_cons <| zq ?_
  refine sP.foot (.ids []) (fun hN => FootOK.idsB [] (by rfl) rfl hN) fd (by first | exact .inl (by first | rfl | decide) | exact .inr (by kernel_rfl)) <| rgP_cons <| zq ?_
  refine sP.light rfl fd <| rgP_cons <| zq ?_
  refine sP.foot (.ids []) (fun hN => FootOK.idsB [] (by rfl) rfl hN) fd (by first | exact .inl (by first | rfl | decide) | exact .inr (by kernel_rfl)) <| rgP_cons <| zq ?_
  refine sP.foot (.ids []) (fun hN => FootOK.idsB [] (by rfl) rfl hN) fd (by first | exact .inl (by first | rfl | decide) | exact .inr (by kernel_rfl)) <| rgP_cons <| zq ?_
  refine sP.foot (.ids [5, 18]) (fun hN => FootOK.idsB [5, 18] (by rfl) rfl hN) fd (by first | exact .inl (by first | rfl | decide) | exact .inr (by kernel_rfl)) <| rgP_cons <| zq ?_
  refine sP.light rfl fd <| zq ?_
  refine rgP_nil fk ?_
  subst hK4
  refine es <| xr ?_
  cases h
  exact en fr
end Go.Proofs.YtalfcmgcjdkolaaGreatDoor
namespace Go.Proofs.YtalfcmgcjdkolaaGreatDoor
open Go.RowKit
set_option maxRecDepth 100000
set_option maxHeartbeats 10000000
theorem dd_EE : (∀ x, T_api_Span.d x = .agg [.int .i64 x.In, .int .i64 x.Out]) ∧ (∀ x, T_api_Word.d x = .agg [.str x.Text, .int .i64 x.Span.In, .int .i64 x.Span.Out]) ∧ (∀ x, T_arr6_Int.d x = .agg [.int .i64 x.a0, .int .i64 x.a1, .int .i64 x.a2, .int .i64 x.a3, .int .i64 x.a4, .int .i64 x.a5]) ∧ (∀ x, T_api_Penalties.d x = .agg [.int .i64 x.Strength.a0, .int .i64 x.Strength.a1, .int .i64 x.Strength.a2, .int .i64 x.Strength.a3, .int .i64 x.Strength.a4, .int .i64 x.Strength.a5, .int .i64 x.Ragged, .int .i64 x.Row, .int .i64 x.Event, .int .i64 x.Fast, .int .i64 x.Gap, .int .i64 x.Shot]) ∧ (∀ x, T_api_Profile.d x = .agg [.str x.Name, .int .i64 x.Reading, .int .i64 x.MinFrames, .int .i64 x.MaxFrames, .int .i64 x.MinGap, .int .i64 x.ShotBefore, .int .i64 x.ShotAfter, .int .i64 x.Rows, .int .i64 x.Cols, .str x.Forbidden, .int .i64 x.SafeTop, .int .i64 x.SafeBottom, .int .i64 x.SafeLeft, .int .i64 x.SafeRight]) ∧ (∀ x, T_api_Speech.d x = .agg [.int .u8 x.Rate, .sl (x.Words.map T_api_Word.d), .sl (x.Shots.map (D.int .i64)), .int .i64 x.Table.Strength.a0, .int .i64 x.Table.Strength.a1, .int .i64 x.Table.Strength.a2, .int .i64 x.Table.Strength.a3, .int .i64 x.Table.Strength.a4, .int .i64 x.Table.Strength.a5, .int .i64 x.Table.Ragged, .int .i64 x.Table.Row, .int .i64 x.Table.Event, .int .i64 x.Table.Fast, .int .i64 x.Table.Gap, .int .i64 x.Table.Shot, .str x.House.Name, .int .i64 x.House.Reading, .int .i64 x.House.MinFrames, .int .i64 x.House.MaxFrames, .int .i64 x.House.MinGap, .int .i64 x.House.ShotBefore, .int .i64 x.House.ShotAfter, .int .i64 x.House.Rows, .int .i64 x.House.Cols, .str x.House.Forbidden, .int .i64 x.House.SafeTop, .int .i64 x.House.SafeBottom, .int .i64 x.House.SafeLeft, .int .i64 x.House.SafeRight]) ∧ (∀ x, T_api_Token.d x = .agg [.str x.Text, .int .i64 x.Strength]) ∧ (∀ x, T_api_Paragraph.d x = .agg [.sl (x.Tokens.map T_api_Token.d), .int .i64 x.Width, .int .i64 x.Rows, .int .i64 x.Table.Strength.a0, .int .i64 x.Table.Strength.a1, .int .i64 x.Table.Strength.a2, .int .i64 x.Table.Strength.a3, .int .i64 x.Table.Strength.a4, .int .i64 x.Table.Strength.a5, .int .i64 x.Table.Ragged, .int .i64 x.Table.Row, .int .i64 x.Table.Event, .int .i64 x.Table.Fast, .int .i64 x.Table.Gap, .int .i64 x.Table.Shot]) ∧ (∀ x, T_api_Breaks.d x = .agg [.sl (x.Ends.map (D.int .i64)), .int .i64 x.Cost, .sl (x.Potentials.map (D.int .i64))]) ∧ (∀ x, T_api_Load.d x = .agg [.int .i64 x.Fast, .int .i64 x.Gap, .int .i64 x.Shots, .int .i64 x.Strength, .bool x.Last]) ∧ (∀ x, T_api_Part.d x = .agg [.int .i64 x.From, .int .i64 x.To, .sl (x.Breaks.map (D.int .i64)), .int .i64 x.Span.In, .int .i64 x.Span.Out]) := ⟨fun _ => rfl, fun _ => rfl, fun _ => rfl, fun _ => rfl, fun _ => rfl, fun _ => rfl, fun _ => rfl, fun _ => rfl, fun _ => rfl, fun _ => rfl, fun _ => rfl⟩
def g_ref02_Valid (r_0 : Int) : Option (Bool) :=
  (if (decide (1 ≤ r_0)) then (some (decide (r_0 ≤ 7))) else (some false))
theorem a_ref02_Valid {I : World → Prop} (hI : Stab I) {r_0 : Int} {r : Bool} (h : g_ref02_Valid r_0 = some r) : AFun Tryz.prog I 43 [.int .u8 r_0] (.bool r) := by
  have dd := dd_EE; have k := True.intro; have q := k; have rs := Tryz.results43
  unfold g_ref02_Valid at h
  refine .en hI Tryz.func43 Tryz.ntmps43 ?_
  refine xs <| rz ?_
  refine es <| xs <| rK fun K5 RK5 hK5 gK5 => zz ?_
  rcases iK k h with ⟨k, h⟩ | ⟨k, h⟩
  · refine zz ?_
    subst hK5 gK5
    refine es <| xr ?_
    cases h
    exact en fr
  · refine zz ?_
    subst hK5 gK5
    refine es <| xr ?_
    cases h
    exact en fr
def g_ref08_Repertoire  : Option ((List UInt8)) :=
  (some [32, 33, 34, 35, 36, 37, 38, 39, 40, 41, 42, 43, 44, 45, 46, 47, 48, 49, 50, 51, 52, 53, 54, 55, 56, 57, 58, 59, 60, 61, 62, 63, 64, 65, 66, 67, 68, 69, 70, 71, 72, 73, 74, 75, 76, 77, 78, 79, 80, 81, 82, 83, 84, 85, 86, 87, 88, 89, 90, 91, 92, 93, 94, 95, 96, 97, 98, 99, 100, 101, 102, 103, 104, 105, 106, 107, 108, 109, 110, 111, 112, 113, 114, 115, 116, 117, 118, 119, 120, 121, 122, 123, 124, 125, 126, 194, 161, 194, 162, 194, 163, 194, 164, 194, 165, 194, 166, 194, 167, 194, 169, 194, 171, 194, 174, 194, 176, 194, 183, 194, 187, 194, 189, 194, 191, 195, 128, 195, 129, 195, 130, 195, 131, 195, 132, 195, 133, 195, 134, 195, 135, 195, 136, 195, 137, 195, 138, 195, 139, 195, 140, 195, 141, 195, 142, 195, 143, 195, 145, 195, 146, 195, 147, 195, 148, 195, 149, 195, 150, 195, 152, 195, 153, 195, 154, 195, 155, 195, 156, 195, 159, 195, 160, 195, 161, 195, 162, 195, 163, 195, 164, 195, 165, 195, 166, 195, 167, 195, 168, 195, 169, 195, 170, 195, 171, 195, 172, 195, 173, 195, 174, 195, 175, 195, 177, 195, 178, 195, 179, 195, 180, 195, 181, 195, 182, 195, 184, 195, 185, 195, 186, 195, 187, 195, 188, 197, 146, 197, 147, 226, 128, 148, 226, 128, 152, 226, 128, 153, 226, 128, 156, 226, 128, 157, 226, 128, 162, 226, 128, 166, 226, 132, 162, 226, 153, 170])
theorem a_ref08_Repertoire {I : World → Prop} (hI : Stab I)  {r : (List UInt8)} (h : g_ref08_Repertoire  = some r) : AFun Tryz.prog I 159 [] (.str r) := by
  have dd := dd_EE; have k := True.intro; have q := k; have rs := Tryz.results159
  unfold g_ref08_Repertoire at h
  refine .en hI Tryz.func159 Tryz.ntmps159 ?_
  refine xs <| rz ?_
  refine es <| xs <| rz ?_
  refine es <| xr ?_
  cases h
  exact en fr
def g_ref08_Index_s1 (r_0 : Int) (r18 : (List UInt8)) (x20 : Int × Nat) : Option (Nx (Int × Nat) (Int ⊕ Unit)) :=
  (if (decide (x20.2 < r18.length)) then (if ((runeAt r18 x20.2) == r_0) then (some (.out (.inl x20.1))) else (some (.go ((IntKind.i64.wrap (x20.1 + 1)), (x20.2 + widthAt r18 x20.2))))) else (some (.out (.inr ()))))
def g_ref08_Index (r_0 : Int) : Option (Int) :=
  (((if (decide (32 ≤ r_0)) then (some (decide (r_0 ≤ 126))) else (some false)) : Option (Bool)).bind fun v5 => (if v5 then (some (IntKind.i64.wrap (IntKind.i32.wrap (r_0 - 32)))) else ((g_ref08_Repertoire).bind fun r18 => ((iter (g_ref08_Index_s1 r_0 r18) (0, 0)).bind fun e21 => (match e21 with | Sum.inl e21 => (some e21) | Sum.inr (e21) => (some (-1)))))))
theorem a_ref08_Index {I : World → Prop} (hI : Stab I) {r_0 : Int} {r : Int} (h : g_ref08_Index r_0 = some r) : AFun Tryz.prog I 128 [.int .i32 r_0] (.int .i64 r) := by
  have dd := dd_EE; have k := True.intro; have q := k; have rs := Tryz.results128
  unfold g_ref08_Index at h
  refine .en hI Tryz.func128 Tryz.ntmps128 ?_
  refine xs <| rz ?_
  refine es <| xs ?_
  obtain ⟨v5, h8, h⟩ := bs h
  refine rb_cut (fun v5 => ⟨envL [(0, .int .i32 r_0), (11, .bool v5)], heapL [], 0, 26⟩) h8 ?_ ?_
  · clear h
    intro v5 h
    refine rK fun K6 RK6 hK6 gK6 => zz ?_
    rcases iK k h with ⟨k, h⟩ | ⟨k, h⟩
    · refine zz ?_
      subst hK6 gK6
      cases h
      exact en ⟨rfl, wk []⟩
    · refine zz ?_
      subst hK6 gK6
      cases h
      exact en ⟨rfl, wk []⟩
  · rcases iK k h with ⟨k, h⟩ | ⟨k, h⟩
    · refine xt <| xs <| rz ?_
      refine es <| xr <| er ?_
      cases h
      exact en fr
    · refine xf <| xk <| es <| xs <| rz ?_
      refine es <| xs <| xs <| rK fun K17 RK17 hK17 gK17 => zz ?_
      obtain ⟨r18, h19, h⟩ := bs h
      refine cw (a_ref08_Repertoire hI h19) <| zz ?_
      subst hK17 gK17
      refine es <| xb ?_
      obtain ⟨e21, h46, h⟩ := bs h
      refine rb_loop (fun x20 => ⟨envL [(0, .int .i32 r_0), (3, .int .i64 x20.1), (16, .ptr 0 0)], heapL [(0, .iter r18 x20.2)], 1, 26⟩) (fun w => match w with | Sum.inl _ => .ret | Sum.inr (_) => .exit 0) (fun w => match w with | Sum.inl e21 => ⟨envL [(2, .int .i64 e21)], heapL [], 0, 26⟩ | Sum.inr (e21) => ⟨envL [], heapL [], 0, 26⟩) h46 (wk [(0, some 2)]) (by intro w; rcases w with w | w <;> simp) ?_ ?_
      · clear h
        intro x20 y h
        unfold g_ref08_Index_s1 at h
        refine xs <| rK fun K36 RK36 hK36 gK36 => zz ?_
        rcases iK k h with ⟨k, h⟩ | ⟨k, h⟩
        · have k := And.intro (of_decide_eq_true k.1) k.2
          refine zz ?_
          subst hK36 gK36
          refine es <| xs <| xt <| xk <| es <| xb <| xs <| rz ?_
          refine es <| xs <| xs <| rz ?_
          refine es ?_
          rcases iK k h with ⟨k, h⟩ | ⟨k, h⟩
          · refine xt <| xs <| rz ?_
            refine es <| xr <| er <| br ?_
            cases h
            exact en ⟨rfl, wk []⟩
          · refine xf <| xk <| es <| rz ?_
            refine bn ?_
            cases h
            exact en ⟨rfl, wk []⟩
        · have k := And.intro (of_decide_eq_false k.1) k.2
          refine zz ?_
          subst hK36 gK36
          refine es <| xs <| xf <| xx <| ee ?_
          cases h
          exact en ⟨rfl, wk []⟩
      · rcases e21 with e21 | e21
        · try dsimp only at h ⊢
          refine br <| er ?_
          cases h
          exact en fr
        · try dsimp only at h ⊢
          refine bh <| es <| xs <| rz ?_
          refine es <| xr ?_
          cases h
          exact en fr
def g_ref08_Valid_s1 (s_0 : List UInt8) (x5 : Nat) : Option (Nx (Nat) (Unit ⊕ Unit)) :=
  (if (decide (x5 < s_0.length)) then ((g_ref08_Index (runeAt s_0 x5)).bind fun r32 => (if (decide (r32 < 0)) then (some (.out (.inl ()))) else (some (.go (x5 + widthAt s_0 x5))))) else (some (.out (.inr ()))))
def g_ref08_Valid (s_0 : List UInt8) : Option (Bool) :=
  ((iter (g_ref08_Valid_s1 s_0) 0).bind fun e6 => (match e6 with | Sum.inl e6 => (some false) | Sum.inr (e6) => (some true)))
theorem a_ref08_Valid {I : World → Prop} (hI : Stab I) {s_0 : List UInt8} {r : Bool} (h : g_ref08_Valid s_0 = some r) : AFun Tryz.prog I 75 [.str s_0] (.bool r) := by
  have dd := dd_EE; have k := True.intro; have q := k; have rs := Tryz.results75
  unfold g_ref08_Valid at h
  refine .en hI Tryz.func75 Tryz.ntmps75 ?_
  refine xs <| rz ?_
  refine es <| xs <| xs <| rz ?_
  refine es <| xb ?_
  obtain ⟨e6, h37, h⟩ := bs h
  refine rb_loop (fun x5 => ⟨envL [(6, .ptr 0 0)], heapL [(0, .iter s_0 x5)], 1, 13⟩) (fun w => match w with | Sum.inl _ => .ret | Sum.inr (_) => .exit 0) (fun w => match w with | Sum.inl e6 => ⟨envL [(2, .bool false)], heapL [], 0, 13⟩ | Sum.inr (e6) => ⟨envL [], heapL [], 0, 13⟩) h37 (wk [(0, some 2)]) (by intro w; rcases w with w | w <;> simp) ?_ ?_
  · clear h
    intro x5 y h
    unfold g_ref08_Valid_s1 at h
    refine xs <| rK fun K24 RK24 hK24 gK24 => zz ?_
    rcases iK k h with ⟨k, h⟩ | ⟨k, h⟩
    · have k := And.intro (of_decide_eq_true k.1) k.2
      refine zz ?_
      subst hK24 gK24
      refine es <| xs <| xt <| xk <| es <| xb <| xs <| rz ?_
      refine es <| xs <| rK fun K31 RK31 hK31 gK31 => zz ?_
      obtain ⟨r32, h33, h⟩ := bs h
      refine cw (a_ref08_Index hI h33) <| zz ?_
      subst hK31 gK31
      refine es ?_
      rcases iK k h with ⟨k, h⟩ | ⟨k, h⟩
      · refine xt <| xs <| rz ?_
        refine es <| xr <| br ?_
        cases h
        exact en ⟨rfl, wk []⟩
      · refine xf <| xk <| bn ?_
        cases h
        exact en ⟨rfl, wk []⟩
    · have k := And.intro (of_decide_eq_false k.1) k.2
      refine zz ?_
      subst hK24 gK24
      refine es <| xs <| xf <| xx <| ee ?_
      cases h
      exact en ⟨rfl, wk []⟩
  · rcases e6 with e6 | e6
    · try dsimp only at h ⊢
      refine br <| er ?_
      cases h
      exact en fr
    · try dsimp only at h ⊢
      refine bh <| es <| xs <| rz ?_
      refine es <| xr ?_
      cases h
      exact en fr
def g_ref38_word_s1 (w_0 : T_api_Word) (x10 : Int) : Option (Nx (Int) (Unit ⊕ Unit)) :=
  (if (decide (x10 < (w_0.Text.length : Int))) then ((atI w_0.Text x10).bind fun b72 => (if ((b72.toNat : Int) == 32) then (some (.out (.inl ()))) else (some (.go (IntKind.i64.wrap (x10 + 1)))))) else (some (.out (.inr ()))))
def g_ref38_word (w_0 : T_api_Word) (ahead_1 : Int) : Option (Int) :=
  (if (w_0.Text == ([] : List UInt8)) then (some 4) else ((iter (g_ref38_word_s1 w_0) 0).bind fun e11 => (match e11 with | Sum.inl e11 => (some 4) | Sum.inr (e11) => ((g_ref08_Valid w_0.Text).bind fun r108 => (if r108 then (((if (decide (w_0.Span.In < 0)) then (some true) else (if (decide (w_0.Span.Out ≤ w_0.Span.In)) then (some true) else (some (decide (5184000 < w_0.Span.Out))))) : Option (Bool)).bind fun v114 => (if v114 then (some 2) else (if (decide (w_0.Span.In < ahead_1)) then (some 8) else (some 0)))) else (some 10))))))
theorem a_ref38_word {I : World → Prop} (hI : Stab I) {w_0 : T_api_Word} {ahead_1 : Int} {r : Int} (h : g_ref38_word w_0 ahead_1 = some r) : AFun Tryz.prog I 44 [T_api_Word.d w_0, .int .i64 ahead_1] (.int .i64 r) := by
  have dd := dd_EE; have k := True.intro; have q := k; have rs := Tryz.results44
  unfold g_ref38_word at h
  refine .en hI Tryz.func44 Tryz.ntmps44 ?_
  refine xs <| rz ?_
  refine es <| xs <| xs <| rz ?_
  refine es ?_
  rcases iK k h with ⟨k, h⟩ | ⟨k, h⟩
  · refine xt <| xs <| rz ?_
    refine es <| xr <| er ?_
    cases h
    exact en fr
  · refine xf <| xk <| es <| xs <| xs <| rz ?_
    refine es <| xb ?_
    obtain ⟨e11, h78, h⟩ := bs h
    refine rb_loop (fun x10 => ⟨envL [(1, .int .i64 ahead_1), (2, .ptr 0 0), (5, .int .i64 x10)], heapL [(0, .box none [.str w_0.Text, .int .i64 w_0.Span.In, .int .i64 w_0.Span.Out])], 1, 52⟩) (fun w => match w with | Sum.inl _ => .ret | Sum.inr (_) => .exit 0) (fun w => match w with | Sum.inl e11 => ⟨envL [(4, .int .i64 4)], heapL [], 0, 52⟩ | Sum.inr (e11) => ⟨envL [(1, .int .i64 ahead_1), (2, .ptr 0 0)], heapL [(0, .box none [.str w_0.Text, .int .i64 w_0.Span.In, .int .i64 w_0.Span.Out])], 1, 52⟩) h78 (wk []) (by intro w; rcases w with w | w <;> simp) ?_ ?_
    · clear h
      intro x10 y h
      unfold g_ref38_word_s1 at h
      refine xs <| xs <| rz ?_
      refine es ?_
      rcases iK k h with ⟨k, h⟩ | ⟨k, h⟩
      · refine xt <| xk <| es <| xs <| xb <| xs <| rK fun K71 RK71 hK71 gK71 => zz ?_
        obtain ⟨b72, q, h⟩ := bK q h
        refine zz ?_
        subst hK71 gK71
        refine es ?_
        rcases iK k h with ⟨k, h⟩ | ⟨k, h⟩
        · refine xt <| xs <| rz ?_
          refine es <| xr <| br <| er ?_
          cases h
          exact en ⟨rfl, wk []⟩
        · refine xf <| xk <| bn <| es <| rz ?_
          cases h
          exact en ⟨rfl, wk []⟩
      · refine xf <| xx <| ee ?_
        cases h
        exact en ⟨rfl, wk []⟩
    · rcases e11 with e11 | e11
      · try dsimp only at h ⊢
        refine br <| er ?_
        cases h
        exact en fr
      · try dsimp only at h ⊢
        refine bh <| es <| xs <| xb <| xs <| rK fun K107 RK107 hK107 gK107 => zz ?_
        obtain ⟨r108, h109, h⟩ := bs h
        refine cw (a_ref08_Valid hI h109) <| zz ?_
        subst hK107 gK107
        refine es ?_
        rcases iK k h with ⟨k, h⟩ | ⟨k, h⟩
        · refine xf ?_
          obtain ⟨v114, h118, h⟩ := bs h
          refine rb_cut (fun v114 => ⟨envL [(1, .int .i64 ahead_1), (2, .ptr 0 0), (26, .bool v114)], heapL [(0, .box none [.str w_0.Text, .int .i64 w_0.Span.In, .int .i64 w_0.Span.Out])], 1, 52⟩) h118 ?_ ?_
          · clear h
            intro v114 h
            refine rK fun K115 RK115 hK115 gK115 => zz ?_
            rcases iK k h with ⟨k, h⟩ | ⟨k, h⟩
            · refine zz ?_
              subst hK115 gK115
              cases h
              exact en ⟨rfl, wk []⟩
            · refine zz ?_
              rcases iK k h with ⟨k, h⟩ | ⟨k, h⟩
              · refine zz ?_
                subst hK115 gK115
                cases h
                exact en ⟨rfl, wk []⟩
              · refine zz ?_
                subst hK115 gK115
                cases h
                exact en ⟨rfl, wk []⟩
          · rcases iK k h with ⟨k, h⟩ | ⟨k, h⟩
            · refine xt <| xs <| rz ?_
              refine es <| xr <| br <| er ?_
              cases h
              exact en fr
            · refine xf <| xs <| rz ?_
              refine es ?_
              rcases iK k h with ⟨k, h⟩ | ⟨k, h⟩
              · refine xt <| xs <| rz ?_
                refine es <| xr <| br <| er ?_
                cases h
                exact en fr
              · refine xf <| xk <| bn <| es <| xs <| rz ?_
                refine es <| xr ?_
                cases h
                exact en fr
        · refine xt <| xs <| rz ?_
          refine es <| xr <| br <| er ?_
          cases h
          exact en fr
def g_ref37_Check_s1 (l_0 : List Int) (x10 : Int) : Option (Nx (Int) (Int ⊕ Unit)) :=
  (if (decide (x10 < (l_0.length : Int))) then ((atI l_0 x10).bind fun y104 => (((if (decide (y104 < 1)) then (some true) else (some (decide (5184000 < y104)))) : Option (Bool)).bind fun v108 => (if v108 then (some (.out (.inl 2))) else (if (decide (0 < x10)) then ((atI l_0 (IntKind.i64.wrap (x10 - 1))).bind fun y121 => (if (decide (y104 ≤ y121)) then (some (.out (.inl 8))) else (some (.go (IntKind.i64.wrap (x10 + 1)))))) else (some (.go (IntKind.i64.wrap (x10 + 1)))))))) else (some (.out (.inr ()))))
def g_ref37_Check (l_0 : List Int) : Option (Int) :=
  (if (decide (400 < (l_0.length : Int))) then (some 9) else ((iter (g_ref37_Check_s1 l_0) 0).bind fun e11 => (match e11 with | Sum.inl e11 => (some e11) | Sum.inr (e11) => (some 0))))
theorem a_ref37_Check {I : World → Prop} (hI : Stab I) {l_0 : List Int} {r : Int} (h : g_ref37_Check l_0 = some r) : AFun Tryz.prog I 45 [.sl (l_0.map (D.int .i64))] (.int .i64 r) := by
  have dd := dd_EE; have k := True.intro; have q := k; have rs := Tryz.results45
  unfold g_ref37_Check at h
  refine .en hI Tryz.func45 Tryz.ntmps45 ?_
  refine xs <| rz ?_
  refine es <| xs <| xs <| rz ?_
  refine es ?_
  rcases iK k h with ⟨k, h⟩ | ⟨k, h⟩
  · refine xt <| xs <| rz ?_
    refine es <| xr <| er ?_
    cases h
    exact en fr
  · refine xf <| xk <| es <| xs <| xs <| rz ?_
    refine es <| xb ?_
    obtain ⟨e11, h128, h⟩ := bs h
    refine rb_loop (fun x10 => ⟨envL [(0, .sl (l_0.map (D.int .i64))), (8, .sl (l_0.map (D.int .i64))), (9, .int .i64 (l_0.length : Int)), (10, .int .i64 x10)], heapL [], 0, 33⟩) (fun w => match w with | Sum.inl _ => .ret | Sum.inr (_) => .exit 0) (fun w => match w with | Sum.inl e11 => ⟨envL [(2, .int .i64 e11)], heapL [], 0, 33⟩ | Sum.inr (e11) => ⟨envL [], heapL [], 0, 33⟩) h128 (wk []) (by intro w; rcases w with w | w <;> simp) ?_ ?_
    · clear h
      intro x10 y h
      unfold g_ref37_Check_s1 at h
      refine xs <| rz ?_
      refine es <| xs ?_
      rcases iK k h with ⟨k, h⟩ | ⟨k, h⟩
      · refine xt <| xk <| es <| xs <| xb <| xs <| rK fun K103 RK103 hK103 gK103 => zz ?_
        obtain ⟨y104, q, h⟩ := bK q h
        refine zz ?_
        subst hK103 gK103
        refine es <| xs ?_
        obtain ⟨v108, h111, h⟩ := bs h
        refine rb_cut (fun v108 => ⟨envL [(0, .sl (l_0.map (D.int .i64))), (3, .int .i64 x10), (4, .int .i64 y104), (8, .sl (l_0.map (D.int .i64))), (9, .int .i64 (l_0.length : Int)), (10, .int .i64 x10), (20, .bool v108)], heapL [], 0, 33⟩) h111 ?_ ?_
        · clear h
          intro v108 h
          refine rK fun K109 RK109 hK109 gK109 => zz ?_
          rcases iK k h with ⟨k, h⟩ | ⟨k, h⟩
          · refine zz ?_
            subst hK109 gK109
            cases h
            exact en ⟨rfl, wk []⟩
          · refine zz ?_
            subst hK109 gK109
            cases h
            exact en ⟨rfl, wk []⟩
        · rcases iK k h with ⟨k, h⟩ | ⟨k, h⟩
          · refine xt <| xs <| rz ?_
            refine es <| xr <| er <| br <| er ?_
            cases h
            exact en ⟨rfl, wk []⟩
          · refine xf <| xk <| es <| xs <| rK fun K119 RK119 hK119 gK119 => zz ?_
            rcases iK k h with ⟨k, h⟩ | ⟨k, h⟩
            · refine zz ?_
              obtain ⟨y121, q, h⟩ := bK q h
              refine zz ?_
              subst hK119 gK119
              refine es ?_
              rcases iK k h with ⟨k, h⟩ | ⟨k, h⟩
              · refine xt <| xs <| rz ?_
                refine es <| xr <| br <| er ?_
                cases h
                exact en ⟨rfl, wk []⟩
              · refine xf <| xk <| bn <| es <| rz ?_
                cases h
                exact en ⟨rfl, wk []⟩
            · refine zz ?_
              subst hK119 gK119
              refine es <| xf <| xk <| bn <| es <| rz ?_
              cases h
              exact en ⟨rfl, wk []⟩
      · refine xf <| xx <| ee ?_
        cases h
        exact en ⟨rfl, wk []⟩
    · rcases e11 with e11 | e11
      · try dsimp only at h ⊢
        refine br <| er ?_
        cases h
        exact en fr
      · try dsimp only at h ⊢
        refine bh <| es <| xs <| rz ?_
        refine es <| xr ?_
        cases h
        exact en fr
def g_ref35_Check_s1 (r7 : (List Int)) (x9 : Int) : Option (Nx (Int) (Unit ⊕ Unit)) :=
  (if (decide (x9 < (r7.length : Int))) then ((atI r7 x9).bind fun y69 => (if (decide (y69 < 0)) then (some (.out (.inl ()))) else (if (decide (1000000 < y69)) then (some (.out (.inl ()))) else (some (.go (IntKind.i64.wrap (x9 + 1))))))) else (some (.out (.inr ()))))
def g_ref35_Check_s2 (t_0 : T_api_Penalties) (x84 : Int) : Option (Nx (Int) (Unit ⊕ Unit)) :=
  (if (decide (x84 < 6)) then (((if x84 == 0 then (if (IntKind.i64.wrap (x84 - 1)) == 0 then none else (if (IntKind.i64.wrap (x84 - 1)) == 1 then none else (if (IntKind.i64.wrap (x84 - 1)) == 2 then none else (if (IntKind.i64.wrap (x84 - 1)) == 3 then none else (if (IntKind.i64.wrap (x84 - 1)) == 4 then none else (if (IntKind.i64.wrap (x84 - 1)) == 5 then none else none)))))) else (if x84 == 1 then (if (IntKind.i64.wrap (x84 - 1)) == 0 then (if (decide (t_0.Strength.a0 < t_0.Strength.a1)) then (some (.out ())) else (some (.go ()))) else (if (IntKind.i64.wrap (x84 - 1)) == 1 then none else (if (IntKind.i64.wrap (x84 - 1)) == 2 then none else (if (IntKind.i64.wrap (x84 - 1)) == 3 then none else (if (IntKind.i64.wrap (x84 - 1)) == 4 then none else (if (IntKind.i64.wrap (x84 - 1)) == 5 then none else none)))))) else (if x84 == 2 then (if (IntKind.i64.wrap (x84 - 1)) == 0 then none else (if (IntKind.i64.wrap (x84 - 1)) == 1 then (if (decide (t_0.Strength.a1 < t_0.Strength.a2)) then (some (.out ())) else (some (.go ()))) else (if (IntKind.i64.wrap (x84 - 1)) == 2 then none else (if (IntKind.i64.wrap (x84 - 1)) == 3 then none else (if (IntKind.i64.wrap (x84 - 1)) == 4 then none else (if (IntKind.i64.wrap (x84 - 1)) == 5 then none else none)))))) else (if x84 == 3 then (if (IntKind.i64.wrap (x84 - 1)) == 0 then none else (if (IntKind.i64.wrap (x84 - 1)) == 1 then none else (if (IntKind.i64.wrap (x84 - 1)) == 2 then (if (decide (t_0.Strength.a2 < t_0.Strength.a3)) then (some (.out ())) else (some (.go ()))) else (if (IntKind.i64.wrap (x84 - 1)) == 3 then none else (if (IntKind.i64.wrap (x84 - 1)) == 4 then none else (if (IntKind.i64.wrap (x84 - 1)) == 5 then none else none)))))) else (if x84 == 4 then (if (IntKind.i64.wrap (x84 - 1)) == 0 then none else (if (IntKind.i64.wrap (x84 - 1)) == 1 then none else (if (IntKind.i64.wrap (x84 - 1)) == 2 then none else (if (IntKind.i64.wrap (x84 - 1)) == 3 then (if (decide (t_0.Strength.a3 < t_0.Strength.a4)) then (some (.out ())) else (some (.go ()))) else (if (IntKind.i64.wrap (x84 - 1)) == 4 then none else (if (IntKind.i64.wrap (x84 - 1)) == 5 then none else none)))))) else (if x84 == 5 then (if (IntKind.i64.wrap (x84 - 1)) == 0 then none else (if (IntKind.i64.wrap (x84 - 1)) == 1 then none else (if (IntKind.i64.wrap (x84 - 1)) == 2 then none else (if (IntKind.i64.wrap (x84 - 1)) == 3 then none else (if (IntKind.i64.wrap (x84 - 1)) == 4 then (if (decide (t_0.Strength.a4 < t_0.Strength.a5)) then (some (.out ())) else (some (.go ()))) else (if (IntKind.i64.wrap (x84 - 1)) == 5 then none else none)))))) else none)))))) : Option (Nx (Unit) (Unit))).bind fun w503 => match w503 with | .go v400 => (some (.go (IntKind.i64.wrap (x84 + 1)))) | .out e504 => (some (.out (.inl ())))) else (some (.out (.inr ()))))
def g_ref35_Check (t_0 : T_api_Penalties) : Option (Int) :=
  ((g_ref35_numbers t_0).bind fun r7 => ((iter (g_ref35_Check_s1 r7) 0).bind fun e10 => (match e10 with | Sum.inl e10 => (some 2) | Sum.inr (e10) => ((iter (g_ref35_Check_s2 t_0) 1).bind fun e85 => (match e85 with | Sum.inl e85 => (some 8) | Sum.inr (e85) => (some 0))))))
theorem a_ref35_Check {I : World → Prop} (hI : Stab I) {t_0 : T_api_Penalties} {r : Int} (h : g_ref35_Check t_0 = some r) : AFun Tryz.prog I 46 [T_api_Penalties.d t_0] (.int .i64 r) := by
  have dd := dd_EE; have k := True.intro; have q := k; have rs := Tryz.results46
  unfold g_ref35_Check at h
  refine .en hI Tryz.func46 Tryz.ntmps46 ?_
  refine xs <| rz ?_
  refine es <| xs <| xs <| rK fun K6 RK6 hK6 gK6 => zz ?_
  obtain ⟨r7, h8, h⟩ := bs h
  refine cw (a_ref35_numbers hI h8) <| zz ?_
  subst hK6 gK6
  refine es <| xb ?_
  obtain ⟨e10, h81, h⟩ := bs h
  refine rb_loop (fun x9 => ⟨envL [(1, .iptr [.int .i64 t_0.Strength.a0, .int .i64 t_0.Strength.a1, .int .i64 t_0.Strength.a2, .int .i64 t_0.Strength.a3, .int .i64 t_0.Strength.a4, .int .i64 t_0.Strength.a5, .int .i64 t_0.Ragged, .int .i64 t_0.Row, .int .i64 t_0.Event, .int .i64 t_0.Fast, .int .i64 t_0.Gap, .int .i64 t_0.Shot]), (7, .sl (r7.map (D.int .i64))), (8, .int .i64 (r7.length : Int)), (9, .int .i64 x9)], heapL [], 0, 34⟩) (fun w => match w with | Sum.inl _ => .ret | Sum.inr (_) => .exit 0) (fun w => match w with | Sum.inl e10 => ⟨envL [(2, .int .i64 2)], heapL [], 0, 34⟩ | Sum.inr (e10) => ⟨envL [(1, .iptr [.int .i64 t_0.Strength.a0, .int .i64 t_0.Strength.a1, .int .i64 t_0.Strength.a2, .int .i64 t_0.Strength.a3, .int .i64 t_0.Strength.a4, .int .i64 t_0.Strength.a5, .int .i64 t_0.Ragged, .int .i64 t_0.Row, .int .i64 t_0.Event, .int .i64 t_0.Fast, .int .i64 t_0.Gap, .int .i64 t_0.Shot])], heapL [], 0, 34⟩) h81 (wk []) (by intro w; rcases w with w | w <;> simp) ?_ ?_
  · clear h
    intro x9 y h
    unfold g_ref35_Check_s1 at h
    refine xs <| rz ?_
    refine es <| xs ?_
    rcases iK k h with ⟨k, h⟩ | ⟨k, h⟩
    · refine xt <| xk <| es <| xs <| xb <| xs <| rK fun K68 RK68 hK68 gK68 => zz ?_
      obtain ⟨y69, q, h⟩ := bK q h
      refine zz ?_
      subst hK68 gK68
      refine es <| xs <| rK fun K73 RK73 hK73 gK73 => zz ?_
      rcases iK k h with ⟨k, h⟩ | ⟨k, h⟩
      · refine zz ?_
        subst hK73 gK73
        refine es <| xt <| xs <| rz ?_
        refine es <| xr <| br <| er ?_
        cases h
        exact en ⟨rfl, wk []⟩
      · refine zz ?_
        subst hK73 gK73
        refine es ?_
        rcases iK k h with ⟨k, h⟩ | ⟨k, h⟩
        · refine xt <| xs <| rz ?_
          refine es <| xr <| br <| er ?_
          cases h
          exact en ⟨rfl, wk []⟩
        · refine xf <| xk <| bn <| es <| rz ?_
          cases h
          exact en ⟨rfl, wk []⟩
    · refine xf <| xx <| ee ?_
      cases h
      exact en ⟨rfl, wk []⟩
  · rcases e10 with e10 | e10
    · try dsimp only at h ⊢
      refine br <| er ?_
      cases h
      exact en fr
    · try dsimp only at h ⊢
      refine bh <| es <| xs <| xs <| rz ?_
      refine es <| xb ?_
      obtain ⟨e85, h506, h⟩ := bs h
      refine rb_loop (fun x84 => ⟨envL [(1, .iptr [.int .i64 t_0.Strength.a0, .int .i64 t_0.Strength.a1, .int .i64 t_0.Strength.a2, .int .i64 t_0.Strength.a3, .int .i64 t_0.Strength.a4, .int .i64 t_0.Strength.a5, .int .i64 t_0.Ragged, .int .i64 t_0.Row, .int .i64 t_0.Event, .int .i64 t_0.Fast, .int .i64 t_0.Gap, .int .i64 t_0.Shot]), (5, .int .i64 x84)], heapL [], 0, 34⟩) (fun w => match w with | Sum.inl _ => .ret | Sum.inr (_) => .exit 2) (fun w => match w with | Sum.inl e85 => ⟨envL [(2, .int .i64 8)], heapL [], 0, 34⟩ | Sum.inr (e85) => ⟨envL [], heapL [], 0, 34⟩) h506 (wk []) (by intro w; rcases w with w | w <;> simp) ?_ ?_
      · clear h
        intro x84 y h
        unfold g_ref35_Check_s2 at h
        refine xs <| xs <| rz ?_
        refine es ?_
        rcases iK k h with ⟨k, h⟩ | ⟨k, h⟩
        · refine xt <| xk <| es ?_
          obtain ⟨w503, h502, h⟩ := bs h
          refine rb_seg (fun v400 => ⟨envL [(1, .iptr [.int .i64 t_0.Strength.a0, .int .i64 t_0.Strength.a1, .int .i64 t_0.Strength.a2, .int .i64 t_0.Strength.a3, .int .i64 t_0.Strength.a4, .int .i64 t_0.Strength.a5, .int .i64 t_0.Ragged, .int .i64 t_0.Row, .int .i64 t_0.Event, .int .i64 t_0.Fast, .int .i64 t_0.Gap, .int .i64 t_0.Shot]), (5, .int .i64 x84)], heapL [], 0, 34⟩) (fun _ => .ret) (fun e504 => ⟨envL [(2, .int .i64 8)], heapL [], 0, 34⟩) h502 (by intro w; simp) ?_ ?_ ?_
          · clear h
            intro w503 h
            refine xb <| xs <| rD hI fun K444 RK444 hK444 gK444 => zz ?_
            rcases ite_or h with ⟨k445, h⟩ | ⟨_, h⟩
            · have k := And.intro (eq_of_beq k445) k
              refine zz ?_
              rcases ite_or h with ⟨k446, h⟩ | ⟨_, h⟩
              · have k := And.intro (eq_of_beq k446) k
                cases h
              · rcases ite_or h with ⟨k447, h⟩ | ⟨_, h⟩
                · have k := And.intro (eq_of_beq k447) k
                  cases h
                · rcases ite_or h with ⟨k448, h⟩ | ⟨_, h⟩
                  · have k := And.intro (eq_of_beq k448) k
                    cases h
                  · rcases ite_or h with ⟨k449, h⟩ | ⟨_, h⟩
                    · have k := And.intro (eq_of_beq k449) k
                      cases h
                    · rcases ite_or h with ⟨k450, h⟩ | ⟨_, h⟩
                      · have k := And.intro (eq_of_beq k450) k
                        cases h
                      · rcases ite_or h with ⟨k451, h⟩ | ⟨_, h⟩
                        · have k := And.intro (eq_of_beq k451) k
                          cases h
                        · cases h
            · rcases ite_or h with ⟨k452, h⟩ | ⟨_, h⟩
              · have k := And.intro (eq_of_beq k452) k
                refine zz ?_
                rcases ite_or h with ⟨k453, h⟩ | ⟨_, h⟩
                · have k := And.intro (eq_of_beq k453) k
                  have k := And.intro (show IntKind.i64.wrap 0 = 0 from by decide) k
                  refine zz ?_
                  subst hK444 gK444
                  refine es ?_
                  rcases iK k h with ⟨k, h⟩ | ⟨k, h⟩
                  · refine xt <| xs <| rz ?_
                    refine es <| xr <| br ?_
                    cases h
                    exact en ⟨rfl, wk []⟩
                  · refine xf <| xk <| bn ?_
                    cases h
                    exact en ⟨rfl, wk []⟩
                · rcases ite_or h with ⟨k457, h⟩ | ⟨_, h⟩
                  · have k := And.intro (eq_of_beq k457) k
                    cases h
                  · rcases ite_or h with ⟨k458, h⟩ | ⟨_, h⟩
                    · have k := And.intro (eq_of_beq k458) k
                      cases h
                    · rcases ite_or h with ⟨k459, h⟩ | ⟨_, h⟩
                      · have k := And.intro (eq_of_beq k459) k
                        cases h
                      · rcases ite_or h with ⟨k460, h⟩ | ⟨_, h⟩
                        · have k := And.intro (eq_of_beq k460) k
                          cases h
                        · rcases ite_or h with ⟨k461, h⟩ | ⟨_, h⟩
                          · have k := And.intro (eq_of_beq k461) k
                            cases h
                          · cases h
              · rcases ite_or h with ⟨k462, h⟩ | ⟨_, h⟩
                · have k := And.intro (eq_of_beq k462) k
                  refine zz ?_
                  rcases ite_or h with ⟨k463, h⟩ | ⟨_, h⟩
                  · have k := And.intro (eq_of_beq k463) k
                    cases h
                  · rcases ite_or h with ⟨k464, h⟩ | ⟨_, h⟩
                    · have k := And.intro (eq_of_beq k464) k
                      have k := And.intro (show IntKind.i64.wrap 1 = 1 from by decide) k
                      refine zz ?_
                      subst hK444 gK444
                      refine es ?_
                      rcases iK k h with ⟨k, h⟩ | ⟨k, h⟩
                      · refine xt <| xs <| rz ?_
                        refine es <| xr <| br ?_
                        cases h
                        exact en ⟨rfl, wk []⟩
                      · refine xf <| xk <| bn ?_
                        cases h
                        exact en ⟨rfl, wk []⟩
                    · rcases ite_or h with ⟨k468, h⟩ | ⟨_, h⟩
                      · have k := And.intro (eq_of_beq k468) k
                        cases h
                      · rcases ite_or h with ⟨k469, h⟩ | ⟨_, h⟩
                        · have k := And.intro (eq_of_beq k469) k
                          cases h
                        · rcases ite_or h with ⟨k470, h⟩ | ⟨_, h⟩
                          · have k := And.intro (eq_of_beq k470) k
                            cases h
                          · rcases ite_or h with ⟨k471, h⟩ | ⟨_, h⟩
                            · have k := And.intro (eq_of_beq k471) k
                              cases h
                            · cases h
                · rcases ite_or h with ⟨k472, h⟩ | ⟨_, h⟩
                  · have k := And.intro (eq_of_beq k472) k
                    refine zz ?_
                    rcases ite_or h with ⟨k473, h⟩ | ⟨_, h⟩
                    · have k := And.intro (eq_of_beq k473) k
                      cases h
                    · rcases ite_or h with ⟨k474, h⟩ | ⟨_, h⟩
                      · have k := And.intro (eq_of_beq k474) k
                        cases h
                      · rcases ite_or h with ⟨k475, h⟩ | ⟨_, h⟩
                        · have k := And.intro (eq_of_beq k475) k
                          have k := And.intro (show IntKind.i64.wrap 2 = 2 from by decide) k
                          refine zz ?_
                          subst hK444 gK444
                          refine es ?_
                          rcases iK k h with ⟨k, h⟩ | ⟨k, h⟩
                          · refine xt <| xs <| rz ?_
                            refine es <| xr <| br ?_
                            cases h
                            exact en ⟨rfl, wk []⟩
                          · refine xf <| xk <| bn ?_
                            cases h
                            exact en ⟨rfl, wk []⟩
                        · rcases ite_or h with ⟨k479, h⟩ | ⟨_, h⟩
                          · have k := And.intro (eq_of_beq k479) k
                            cases h
                          · rcases ite_or h with ⟨k480, h⟩ | ⟨_, h⟩
                            · have k := And.intro (eq_of_beq k480) k
                              cases h
                            · rcases ite_or h with ⟨k481, h⟩ | ⟨_, h⟩
                              · have k := And.intro (eq_of_beq k481) k
                                cases h
                              · cases h
                  · rcases ite_or h with ⟨k482, h⟩ | ⟨_, h⟩
                    · have k := And.intro (eq_of_beq k482) k
                      refine zz ?_
                      rcases ite_or h with ⟨k483, h⟩ | ⟨_, h⟩
                      · have k := And.intro (eq_of_beq k483) k
                        cases h
                      · rcases ite_or h with ⟨k484, h⟩ | ⟨_, h⟩
                        · have k := And.intro (eq_of_beq k484) k
                          cases h
                        · rcases ite_or h with ⟨k485, h⟩ | ⟨_, h⟩
                          · have k := And.intro (eq_of_beq k485) k
                            cases h
                          · rcases ite_or h with ⟨k486, h⟩ | ⟨_, h⟩
                            · have k := And.intro (eq_of_beq k486) k
                              have k := And.intro (show IntKind.i64.wrap 3 = 3 from by decide) k
                              refine zz ?_
                              subst hK444 gK444
                              refine es ?_
                              rcases iK k h with ⟨k, h⟩ | ⟨k, h⟩
                              · refine xt <| xs <| rz ?_
                                refine es <| xr <| br ?_
                                cases h
                                exact en ⟨rfl, wk []⟩
                              · refine xf <| xk <| bn ?_
                                cases h
                                exact en ⟨rfl, wk []⟩
                            · rcases ite_or h with ⟨k490, h⟩ | ⟨_, h⟩
                              · have k := And.intro (eq_of_beq k490) k
                                cases h
                              · rcases ite_or h with ⟨k491, h⟩ | ⟨_, h⟩
                                · have k := And.intro (eq_of_beq k491) k
                                  cases h
                                · cases h
                    · rcases ite_or h with ⟨k492, h⟩ | ⟨_, h⟩
                      · have k := And.intro (eq_of_beq k492) k
                        refine zz ?_
                        rcases ite_or h with ⟨k493, h⟩ | ⟨_, h⟩
                        · have k := And.intro (eq_of_beq k493) k
                          cases h
                        · rcases ite_or h with ⟨k494, h⟩ | ⟨_, h⟩
                          · have k := And.intro (eq_of_beq k494) k
                            cases h
                          · rcases ite_or h with ⟨k495, h⟩ | ⟨_, h⟩
                            · have k := And.intro (eq_of_beq k495) k
                              cases h
                            · rcases ite_or h with ⟨k496, h⟩ | ⟨_, h⟩
                              · have k := And.intro (eq_of_beq k496) k
                                cases h
                              · rcases ite_or h with ⟨k497, h⟩ | ⟨_, h⟩
                                · have k := And.intro (eq_of_beq k497) k
                                  have k := And.intro (show IntKind.i64.wrap 4 = 4 from by decide) k
                                  refine zz ?_
                                  subst hK444 gK444
                                  refine es ?_
                                  rcases iK k h with ⟨k, h⟩ | ⟨k, h⟩
                                  · refine xt <| xs <| rz ?_
                                    refine es <| xr <| br ?_
                                    cases h
                                    exact en ⟨rfl, wk []⟩
                                  · refine xf <| xk <| bn ?_
                                    cases h
                                    exact en ⟨rfl, wk []⟩
                                · rcases ite_or h with ⟨k501, h⟩ | ⟨_, h⟩
                                  · have k := And.intro (eq_of_beq k501) k
                                    cases h
                                  · cases h
                      · cases h
          · rintro v400 rfl
            dsimp only at h
            refine rz ?_
            cases h
            exact en ⟨rfl, wk []⟩
          · rintro e504 rfl
            dsimp only at h
            cases h
            exact en ⟨rfl, wk []⟩
        · refine xf <| xx <| ee ?_
          cases h
          exact en ⟨rfl, wk []⟩
      · rcases e85 with e85 | e85
        · try dsimp only at h ⊢
          refine br <| er ?_
          cases h
          exact en fr
        · try dsimp only at h ⊢
          refine bh <| es <| xs <| rz ?_
          refine es <| xr ?_
          cases h
          exact en fr
def g_ref07_digit (c_0 : Int) : Option (Bool) :=
  (if (decide (48 ≤ c_0)) then (some (decide (c_0 ≤ 57))) else (some false))
theorem a_ref07_digit {I : World → Prop} (hI : Stab I) {c_0 : Int} {r : Bool} (h : g_ref07_digit c_0 = some r) : AFun Tryz.prog I 132 [.int .u8 c_0] (.bool r) := by
  have dd := dd_EE; have k := True.intro; have q := k; have rs := Tryz.results132
  unfold g_ref07_digit at h
  refine .en hI Tryz.func132 Tryz.ntmps132 ?_
  refine xs <| rz ?_
  refine es <| xs <| rK fun K5 RK5 hK5 gK5 => zz ?_
  rcases iK k h with ⟨k, h⟩ | ⟨k, h⟩
  · refine zz ?_
    subst hK5 gK5
    refine es <| xr ?_
    cases h
    exact en fr
  · refine zz ?_
    subst hK5 gK5
    refine es <| xr ?_
    cases h
    exact en fr
def g_ref07_Name_s1 (s_0 : List UInt8) (x14 : Int) : Option (Nx (Int) (Unit ⊕ Unit)) :=
  (if (decide (x14 < (s_0.length : Int))) then ((((((atI s_0 x14).bind fun b133 => (if (decide (65 ≤ (b133.toNat : Int))) then (some (decide ((b133.toNat : Int) ≤ 90))) else (some false))) : Option (Bool)).bind fun v131 => (if v131 then (some (.go ())) else (if (x14 == 0) then (some (.out ())) else ((atI s_0 x14).bind fun b151 => ((g_ref07_digit (b151.toNat : Int)).bind fun r153 => (if r153 then (some (.go ())) else (if ((b151.toNat : Int) != 95) then (if ((b151.toNat : Int) != 45) then (some (.out ())) else (some (.go ()))) else (some (.go ()))))))))) : Option (Nx (Unit) (Unit))).bind fun w161 => match w161 with | .go v126 => (some (.go (IntKind.i64.wrap (x14 + 1)))) | .out e162 => (some (.out (.inl ())))) else (some (.out (.inr ()))))
def g_ref07_Name (s_0 : List UInt8) : Option (Bool) :=
  (((if (decide ((s_0.length : Int) < 1)) then (some true) else (some (decide (16 < (s_0.length : Int))))) : Option (Bool)).bind fun v5 => (if v5 then (some false) else ((iter (g_ref07_Name_s1 s_0) 0).bind fun e15 => (match e15 with | Sum.inl e15 => (some false) | Sum.inr (e15) => (some true)))))
theorem a_ref07_Name {I : World → Prop} (hI : Stab I) {s_0 : List UInt8} {r : Bool} (h : g_ref07_Name s_0 = some r) : AFun Tryz.prog I 87 [.str s_0] (.bool r) := by
  have dd := dd_EE; have k := True.intro; have q := k; have rs := Tryz.results87
  unfold g_ref07_Name at h
  refine .en hI Tryz.func87 Tryz.ntmps87 ?_
  refine xs <| rz ?_
  refine es <| xs ?_
  obtain ⟨v5, h8, h⟩ := bs h
  refine rb_cut (fun v5 => ⟨envL [(0, .str s_0), (12, .bool v5)], heapL [], 0, 54⟩) h8 ?_ ?_
  · clear h
    intro v5 h
    refine rK fun K6 RK6 hK6 gK6 => zz ?_
    rcases iK k h with ⟨k, h⟩ | ⟨k, h⟩
    · refine zz ?_
      subst hK6 gK6
      cases h
      exact en ⟨rfl, wk []⟩
    · refine zz ?_
      subst hK6 gK6
      cases h
      exact en ⟨rfl, wk []⟩
  · rcases iK k h with ⟨k, h⟩ | ⟨k, h⟩
    · refine xt <| xs <| rz ?_
      refine es <| xr <| er ?_
      cases h
      exact en fr
    · refine xf <| xk <| es <| xs <| xs <| rz ?_
      refine es <| xb ?_
      obtain ⟨e15, h164, h⟩ := bs h
      refine rb_loop (fun x14 => ⟨envL [(0, .str s_0), (3, .int .i64 x14)], heapL [], 0, 54⟩) (fun w => match w with | Sum.inl _ => .ret | Sum.inr (_) => .exit 0) (fun w => match w with | Sum.inl e15 => ⟨envL [(2, .bool false)], heapL [], 0, 54⟩ | Sum.inr (e15) => ⟨envL [], heapL [], 0, 54⟩) h164 (wk []) (by intro w; rcases w with w | w <;> simp) ?_ ?_
      · clear h
        intro x14 y h
        unfold g_ref07_Name_s1 at h
        refine xs <| xs <| rz ?_
        refine es ?_
        rcases iK k h with ⟨k, h⟩ | ⟨k, h⟩
        · refine xt <| xk <| es ?_
          obtain ⟨w161, h160, h⟩ := bs h
          refine rb_seg (fun v126 => ⟨envL [(0, .str s_0), (3, .int .i64 x14)], heapL [], 0, 54⟩) (fun _ => .ret) (fun e162 => ⟨envL [(2, .bool false)], heapL [], 0, 54⟩) h160 (by intro w; simp) ?_ ?_ ?_
          · clear h
            intro w161 h
            refine xb ?_
            obtain ⟨v131, h136, h⟩ := bs h
            refine rb_cut (fun v131 => ⟨envL [(0, .str s_0), (3, .int .i64 x14), (4, .bool v131)], heapL [], 0, 54⟩) h136 ?_ ?_
            · clear h
              intro v131 h
              refine rK fun K132 RK132 hK132 gK132 => zz ?_
              obtain ⟨b133, q, h⟩ := bK q h
              refine zz ?_
              rcases iK k h with ⟨k, h⟩ | ⟨k, h⟩
              · refine zz ?_
                subst hK132 gK132
                cases h
                exact en ⟨rfl, wk []⟩
              · refine zz ?_
                subst hK132 gK132
                cases h
                exact en ⟨rfl, wk []⟩
            · refine xs <| rK fun K146 RK146 hK146 gK146 => zz ?_
              rcases iK k h with ⟨k, h⟩ | ⟨k, h⟩
              · refine zz ?_
                subst hK146 gK146
                refine es <| xf <| xk <| bn ?_
                cases h
                exact en ⟨rfl, wk []⟩
              · refine zz ?_
                rcases iK k h with ⟨k, h⟩ | ⟨k, h⟩
                · refine zz ?_
                  subst hK146 gK146
                  refine es <| xt <| xs <| rz ?_
                  refine es <| xr <| br ?_
                  cases h
                  exact en ⟨rfl, wk []⟩
                · refine zz ?_
                  obtain ⟨b151, q, h⟩ := bK q h
                  refine zz ?_
                  obtain ⟨r153, h154, h⟩ := bs h
                  refine cw (a_ref07_digit hI h154) <| zz ?_
                  rcases iK k h with ⟨k, h⟩ | ⟨k, h⟩
                  · refine zz ?_
                    subst hK146 gK146
                    refine es <| xf <| xk <| bn ?_
                    cases h
                    exact en ⟨rfl, wk []⟩
                  · refine zz ?_
                    rcases iK k h with ⟨k, h⟩ | ⟨k, h⟩
                    · refine zz ?_
                      subst hK146 gK146
                      refine es ?_
                      rcases iK k h with ⟨k, h⟩ | ⟨k, h⟩
                      · refine xt <| xs <| rz ?_
                        refine es <| xr <| br ?_
                        cases h
                        exact en ⟨rfl, wk []⟩
                      · refine xf <| xk <| bn ?_
                        cases h
                        exact en ⟨rfl, wk []⟩
                    · refine zz ?_
                      subst hK146 gK146
                      refine es <| xf <| xk <| bn ?_
                      cases h
                      exact en ⟨rfl, wk []⟩
          · rintro v126 rfl
            dsimp only at h
            refine rz ?_
            cases h
            exact en ⟨rfl, wk []⟩
          · rintro e162 rfl
            dsimp only at h
            cases h
            exact en ⟨rfl, wk []⟩
        · refine xf <| xx <| ee ?_
          cases h
          exact en ⟨rfl, wk []⟩
      · rcases e15 with e15 | e15
        · try dsimp only at h ⊢
          refine br <| er ?_
          cases h
          exact en fr
        · try dsimp only at h ⊢
          refine bh <| es <| xs <| rz ?_
          refine es <| xr ?_
          cases h
          exact en fr
def g_ref39_within (n_0 : Int) (lo_1 : Int) (hi_2 : Int) : Option (Bool) :=
  (if (decide (lo_1 ≤ n_0)) then (some (decide (n_0 ≤ hi_2))) else (some false))
theorem a_ref39_within {I : World → Prop} (hI : Stab I) {n_0 : Int} {lo_1 : Int} {hi_2 : Int} {r : Bool} (h : g_ref39_within n_0 lo_1 hi_2 = some r) : AFun Tryz.prog I 88 [.int .i64 n_0, .int .i64 lo_1, .int .i64 hi_2] (.bool r) := by
  have dd := dd_EE; have k := True.intro; have q := k; have rs := Tryz.results88
  unfold g_ref39_within at h
  refine .en hI Tryz.func88 Tryz.ntmps88 ?_
  refine xs <| rz ?_
  refine es <| xs <| rK fun K5 RK5 hK5 gK5 => zz ?_
  rcases iK k h with ⟨k, h⟩ | ⟨k, h⟩
  · refine zz ?_
    subst hK5 gK5
    refine es <| xr ?_
    cases h
    exact en fr
  · refine zz ?_
    subst hK5 gK5
    refine es <| xr ?_
    cases h
    exact en fr
def g_ref39_inside (n_0 : Int) (lo_1 : Int) (hi_2 : Int) : Option (Bool) :=
  (if (decide (lo_1 ≤ n_0)) then (some (decide (n_0 ≤ hi_2))) else (some false))
theorem a_ref39_inside {I : World → Prop} (hI : Stab I) {n_0 : Int} {lo_1 : Int} {hi_2 : Int} {r : Bool} (h : g_ref39_inside n_0 lo_1 hi_2 = some r) : AFun Tryz.prog I 89 [.int .i64 n_0, .int .i64 lo_1, .int .i64 hi_2] (.bool r) := by
  have dd := dd_EE; have k := True.intro; have q := k; have rs := Tryz.results89
  unfold g_ref39_inside at h
  refine .en hI Tryz.func89 Tryz.ntmps89 ?_
  refine xs <| rz ?_
  refine es <| xs <| rK fun K5 RK5 hK5 gK5 => zz ?_
  rcases iK k h with ⟨k, h⟩ | ⟨k, h⟩
  · refine zz ?_
    subst hK5 gK5
    refine es <| xr ?_
    cases h
    exact en fr
  · refine zz ?_
    subst hK5 gK5
    refine es <| xr ?_
    cases h
    exact en fr
def g_ref08_runes_s1 (s_0 : List UInt8) (x7 : (List Int) × Nat) : Option (Nx ((List Int) × Nat) ((List Int))) :=
  (if (decide (x7.2 < s_0.length)) then (if (x7.1.length + 1) * 4 ≤ 140737488355328 then (some (.go ((x7.1 ++ [(runeAt s_0 x7.2)]), (x7.2 + widthAt s_0 x7.2)))) else none) else (some (.out x7.1)))
def g_ref08_runes (s_0 : List UInt8) : Option ((List Int)) :=
  ((iter (g_ref08_runes_s1 s_0) ([], 0)).bind fun e8 => (some e8))
theorem a_ref08_runes {I : World → Prop} (hI : Stab I) {s_0 : List UInt8} {r : (List Int)} (h : g_ref08_runes s_0 = some r) : AFun Tryz.prog I 76 [.str s_0] (.sl (r.map (D.int .i32))) := by
  have dd := dd_EE; have k := True.intro; have q := k; have rs := Tryz.results76
  unfold g_ref08_runes at h
  refine .en hI Tryz.func76 Tryz.ntmps76 ?_
  refine xs <| rz ?_
  refine es <| xs <| rz ?_
  refine es <| xs <| xs <| rz ?_
  refine es <| xb ?_
  obtain ⟨e8, h34, h⟩ := bs h
  refine rb_loop (fun x7 => ⟨envL [(3, .own 1 x7.1.length), (7, .ptr 0 0)], heapL [(0, .iter s_0 x7.2), (1, .vec 21 1 (x7.1.map (D.int .i32)) false)], 2, 16⟩) (fun _ => .exit 0) (fun e8 => ⟨envL [(3, .own 0 e8.length)], heapL [(0, .vec 21 1 (e8.map (D.int .i32)) false)], 1, 16⟩) h34 (wk [(0, some 3), (1, none)]) (by intro w; simp) ?_ ?_
  · clear h
    intro x7 y h
    unfold g_ref08_runes_s1 at h
    refine xs <| rK fun K27 RK27 hK27 gK27 => zz ?_
    rcases iK k h with ⟨k, h⟩ | ⟨k, h⟩
    · have k := And.intro (of_decide_eq_true k.1) k.2
      refine zz ?_
      subst hK27 gK27
      refine es <| xs <| xt <| xk <| es <| xb <| xs <| rz ?_
      refine es <| rK fun K31 RK31 hK31 gK31 => zz ?_
      obtain ⟨h32, h⟩ := ite_on h
      have h33 : x7.1.length + 1 ≤ 9223372036854775807 := by omega
      try simp only [Nat.reduceLeDiff] at h33
      have q := And.intro @h33 <| And.intro @h32 <| q
      refine zz ?_
      subst hK31 gK31
      refine bn ?_
      cases h
      exact en ⟨rfl, wk [(1, some 9)]⟩
    · have k := And.intro (of_decide_eq_false k.1) k.2
      refine zz ?_
      subst hK27 gK27
      refine es <| xs <| xf <| xx <| ee ?_
      cases h
      exact en ⟨rfl, wk [(0, some 1)]⟩
  · refine bh <| es <| xs <| rz ?_
    refine es <| xr ?_
    cases h
    exact en fr
def g_ref08_Chars (s_0 : List UInt8) : Option ((List Int)) :=
  ((g_ref08_Valid s_0).bind fun r7 => (if r7 then ((g_ref08_runes s_0).bind fun r14 => (some r14)) else (some [])))
theorem a_ref08_Chars {I : World → Prop} (hI : Stab I) {s_0 : List UInt8} {r : (List Int)} (h : g_ref08_Chars s_0 = some r) : AFun Tryz.prog I 90 [.str s_0] (.sl (r.map (D.int .i32))) := by
  have dd := dd_EE; have k := True.intro; have q := k; have rs := Tryz.results90
  unfold g_ref08_Chars at h
  refine .en hI Tryz.func90 Tryz.ntmps90 ?_
  refine xs <| rz ?_
  refine es <| xs <| xs <| rK fun K6 RK6 hK6 gK6 => zz ?_
  obtain ⟨r7, h8, h⟩ := bs h
  refine cw (a_ref08_Valid hI h8) <| zz ?_
  subst hK6 gK6
  refine es ?_
  rcases iK k h with ⟨k, h⟩ | ⟨k, h⟩
  · refine xf <| xk <| es <| xs <| rK fun K13 RK13 hK13 gK13 => zz ?_
    obtain ⟨r14, h15, h⟩ := bs h
    refine cw (a_ref08_runes hI h15) <| zz ?_
    subst hK13 gK13
    refine es <| xr ?_
    cases h
    exact en fr
  · refine xt <| xs <| rz ?_
    refine es <| xr <| er ?_
    cases h
    exact en fr
def g_ref39_Check_s1 (r112 : (List Int)) (x116 : Int) : Option (Nx (Int) (Unit ⊕ Unit)) :=
  (if (decide (x116 < (r112.length : Int))) then ((atI r112 x116).bind fun y170 => ((atI r112 (IntKind.i64.wrap (x116 - 1))).bind fun y172 => (if (decide (y170 ≤ y172)) then (some (.out (.inl ()))) else (some (.go (IntKind.i64.wrap (x116 + 1))))))) else (some (.out (.inr ()))))
def g_ref39_Check (p_0 : T_api_Profile) : Option (Int) :=
  ((g_ref07_Name p_0.Name).bind fun r7 => (if r7 then ((((g_ref39_within p_0.Reading 1 10000).bind fun r30 => (if r30 then ((g_ref39_within p_0.MinFrames 1 5184000).bind fun r33 => (if r33 then ((g_ref39_within p_0.MaxFrames 1 5184000).bind fun r36 => (if r36 then ((g_ref39_within p_0.MinGap 0 1000).bind fun r39 => (if r39 then ((g_ref39_within p_0.ShotBefore 0 1000).bind fun r42 => (if r42 then ((g_ref39_within p_0.ShotAfter 0 1000).bind fun r45 => (some (!r45))) else (some true))) else (some true))) else (some true))) else (some true))) else (some true))) : Option (Bool)).bind fun v28 => (if v28 then (some 2) else ((((g_ref39_inside p_0.Rows 1 4).bind fun r73 => (if r73 then ((g_ref39_inside p_0.Cols 1 32).bind fun r76 => (if r76 then ((g_ref39_inside p_0.SafeTop 0 31).bind fun r79 => (if r79 then ((g_ref39_inside p_0.SafeBottom 0 31).bind fun r82 => (if r82 then ((g_ref39_inside p_0.SafeLeft 0 31).bind fun r85 => (if r85 then ((g_ref39_inside p_0.SafeRight 0 31).bind fun r88 => (if r88 then (if (decide (14 < (IntKind.i64.wrap (p_0.SafeTop + p_0.SafeBottom)))) then (some true) else (some (decide (31 < (IntKind.i64.wrap (p_0.SafeLeft + p_0.SafeRight)))))) else (some true))) else (some true))) else (some true))) else (some true))) else (some true))) else (some true))) : Option (Bool)).bind fun v71 => (if v71 then (some 2) else (if (decide (p_0.MaxFrames < p_0.MinFrames)) then (some 8) else ((g_ref08_Valid p_0.Forbidden).bind fun r105 => (if r105 then ((g_ref08_Chars p_0.Forbidden).bind fun r112 => ((iter (g_ref39_Check_s1 r112) 1).bind fun e117 => (match e117 with | Sum.inl e117 => (some 8) | Sum.inr (e117) => (some 0)))) else (some 10)))))))) else (some 5)))
theorem a_ref39_Check {I : World → Prop} (hI : Stab I) {p_0 : T_api_Profile} {r : Int} (h : g_ref39_Check p_0 = some r) : AFun Tryz.prog I 47 [T_api_Profile.d p_0] (.int .i64 r) := by
  have dd := dd_EE; have k := True.intro; have q := k; have rs := Tryz.results47
  unfold g_ref39_Check at h
  refine .en hI Tryz.func47 Tryz.ntmps47 ?_
  refine xs <| rz ?_
  refine es <| xs <| xs <| rK fun K6 RK6 hK6 gK6 => zz ?_
  obtain ⟨r7, h8, h⟩ := bs h
  refine cw (a_ref07_Name hI h8) <| zz ?_
  subst hK6 gK6
  refine es ?_
  rcases iK k h with ⟨k, h⟩ | ⟨k, h⟩
  · refine xf <| xk <| es <| xs ?_
    obtain ⟨v28, h47, h⟩ := bs h
    refine rb_cut (fun v28 => ⟨envL [(1, .ptr 0 0), (42, .bool v28)], heapL [(0, .box none [.str p_0.Name, .int .i64 p_0.Reading, .int .i64 p_0.MinFrames, .int .i64 p_0.MaxFrames, .int .i64 p_0.MinGap, .int .i64 p_0.ShotBefore, .int .i64 p_0.ShotAfter, .int .i64 p_0.Rows, .int .i64 p_0.Cols, .str p_0.Forbidden, .int .i64 p_0.SafeTop, .int .i64 p_0.SafeBottom, .int .i64 p_0.SafeLeft, .int .i64 p_0.SafeRight])], 1, 121⟩) h47 ?_ ?_
    · clear h
      intro v28 h
      refine rK fun K29 RK29 hK29 gK29 => zz ?_
      obtain ⟨r30, h31, h⟩ := bs h
      refine cw (a_ref39_within hI h31) <| zz ?_
      rcases iK k h with ⟨k, h⟩ | ⟨k, h⟩
      · refine zz ?_
        obtain ⟨r33, h34, h⟩ := bs h
        refine cw (a_ref39_within hI h34) <| zz ?_
        rcases iK k h with ⟨k, h⟩ | ⟨k, h⟩
        · refine zz ?_
          obtain ⟨r36, h37, h⟩ := bs h
          refine cw (a_ref39_within hI h37) <| zz ?_
          rcases iK k h with ⟨k, h⟩ | ⟨k, h⟩
          · refine zz ?_
            obtain ⟨r39, h40, h⟩ := bs h
            refine cw (a_ref39_within hI h40) <| zz ?_
            rcases iK k h with ⟨k, h⟩ | ⟨k, h⟩
            · refine zz ?_
              obtain ⟨r42, h43, h⟩ := bs h
              refine cw (a_ref39_within hI h43) <| zz ?_
              rcases iK k h with ⟨k, h⟩ | ⟨k, h⟩
              · refine zz ?_
                obtain ⟨r45, h46, h⟩ := bs h
                refine cw (a_ref39_within hI h46) <| zz ?_
                subst hK29 gK29
                cases h
                exact en ⟨rfl, wk []⟩
              · refine zz ?_
                subst hK29 gK29
                cases h
                exact en ⟨rfl, wk []⟩
            · refine zz ?_
              subst hK29 gK29
              cases h
              exact en ⟨rfl, wk []⟩
          · refine zz ?_
            subst hK29 gK29
            cases h
            exact en ⟨rfl, wk []⟩
        · refine zz ?_
          subst hK29 gK29
          cases h
          exact en ⟨rfl, wk []⟩
      · refine zz ?_
        subst hK29 gK29
        cases h
        exact en ⟨rfl, wk []⟩
    · rcases iK k h with ⟨k, h⟩ | ⟨k, h⟩
      · refine xt <| xs <| rz ?_
        refine es <| xr <| er ?_
        cases h
        exact en fr
      · refine xf <| xk <| es <| xs ?_
        obtain ⟨v71, h92, h⟩ := bs h
        refine rb_cut (fun v71 => ⟨envL [(1, .ptr 0 0), (92, .bool v71)], heapL [(0, .box none [.str p_0.Name, .int .i64 p_0.Reading, .int .i64 p_0.MinFrames, .int .i64 p_0.MaxFrames, .int .i64 p_0.MinGap, .int .i64 p_0.ShotBefore, .int .i64 p_0.ShotAfter, .int .i64 p_0.Rows, .int .i64 p_0.Cols, .str p_0.Forbidden, .int .i64 p_0.SafeTop, .int .i64 p_0.SafeBottom, .int .i64 p_0.SafeLeft, .int .i64 p_0.SafeRight])], 1, 121⟩) h92 ?_ ?_
        · clear h
          intro v71 h
          refine rK fun K72 RK72 hK72 gK72 => zz ?_
          obtain ⟨r73, h74, h⟩ := bs h
          refine cw (a_ref39_inside hI h74) <| zz ?_
          rcases iK k h with ⟨k, h⟩ | ⟨k, h⟩
          · refine zz ?_
            obtain ⟨r76, h77, h⟩ := bs h
            refine cw (a_ref39_inside hI h77) <| zz ?_
            rcases iK k h with ⟨k, h⟩ | ⟨k, h⟩
            · refine zz ?_
              obtain ⟨r79, h80, h⟩ := bs h
              refine cw (a_ref39_inside hI h80) <| zz ?_
              rcases iK k h with ⟨k, h⟩ | ⟨k, h⟩
              · refine zz ?_
                obtain ⟨r82, h83, h⟩ := bs h
                refine cw (a_ref39_inside hI h83) <| zz ?_
                rcases iK k h with ⟨k, h⟩ | ⟨k, h⟩
                · refine zz ?_
                  obtain ⟨r85, h86, h⟩ := bs h
                  refine cw (a_ref39_inside hI h86) <| zz ?_
                  rcases iK k h with ⟨k, h⟩ | ⟨k, h⟩
                  · refine zz ?_
                    obtain ⟨r88, h89, h⟩ := bs h
                    refine cw (a_ref39_inside hI h89) <| zz ?_
                    rcases iK k h with ⟨k, h⟩ | ⟨k, h⟩
                    · refine zz ?_
                      rcases iK k h with ⟨k, h⟩ | ⟨k, h⟩
                      · refine zz ?_
                        subst hK72 gK72
                        cases h
                        exact en ⟨rfl, wk []⟩
                      · refine zz ?_
                        subst hK72 gK72
                        cases h
                        exact en ⟨rfl, wk []⟩
                    · refine zz ?_
                      subst hK72 gK72
                      cases h
                      exact en ⟨rfl, wk []⟩
                  · refine zz ?_
                    subst hK72 gK72
                    cases h
                    exact en ⟨rfl, wk []⟩
                · refine zz ?_
                  subst hK72 gK72
                  cases h
                  exact en ⟨rfl, wk []⟩
              · refine zz ?_
                subst hK72 gK72
                cases h
                exact en ⟨rfl, wk []⟩
            · refine zz ?_
              subst hK72 gK72
              cases h
              exact en ⟨rfl, wk []⟩
          · refine zz ?_
            subst hK72 gK72
            cases h
            exact en ⟨rfl, wk []⟩
        · rcases iK k h with ⟨k, h⟩ | ⟨k, h⟩
          · refine xt <| xs <| rz ?_
            refine es <| xr <| er ?_
            cases h
            exact en fr
          · refine xf <| xk <| es <| xs <| xs <| rz ?_
            refine es ?_
            rcases iK k h with ⟨k, h⟩ | ⟨k, h⟩
            · refine xt <| xs <| rz ?_
              refine es <| xr <| er ?_
              cases h
              exact en fr
            · refine xf <| xk <| es <| xs <| xs <| rK fun K104 RK104 hK104 gK104 => zz ?_
              obtain ⟨r105, h106, h⟩ := bs h
              refine cw (a_ref08_Valid hI h106) <| zz ?_
              subst hK104 gK104
              refine es ?_
              rcases iK k h with ⟨k, h⟩ | ⟨k, h⟩
              · refine xf <| xk <| es <| xs <| rK fun K111 RK111 hK111 gK111 => zz ?_
                obtain ⟨r112, h113, h⟩ := bs h
                refine cw (a_ref08_Chars hI h113) <| zz ?_
                subst hK111 gK111
                refine es <| xs <| xs <| rz ?_
                refine es <| xb ?_
                obtain ⟨e117, h178, h⟩ := bs h
                refine rb_loop (fun x116 => ⟨envL [(3, .sl (r112.map (D.int .i32))), (4, .int .i64 x116)], heapL [], 0, 121⟩) (fun w => match w with | Sum.inl _ => .ret | Sum.inr (_) => .exit 0) (fun w => match w with | Sum.inl e117 => ⟨envL [(2, .int .i64 8)], heapL [], 0, 121⟩ | Sum.inr (e117) => ⟨envL [], heapL [], 0, 121⟩) h178 (wk []) (by intro w; rcases w with w | w <;> simp) ?_ ?_
                · clear h
                  intro x116 y h
                  unfold g_ref39_Check_s1 at h
                  refine xs <| xs <| rz ?_
                  refine es ?_
                  rcases iK k h with ⟨k, h⟩ | ⟨k, h⟩
                  · refine xt <| xk <| es <| xs <| xb <| xs <| rD hI fun K169 RK169 hK169 gK169 => zz ?_
                    obtain ⟨y170, q, h⟩ := bK q h
                    refine zz ?_
                    obtain ⟨y172, q, h⟩ := bK q h
                    refine zz ?_
                    subst hK169 gK169
                    refine es ?_
                    rcases iK k h with ⟨k, h⟩ | ⟨k, h⟩
                    · refine xt <| xs <| rz ?_
                      refine es <| xr <| br <| er ?_
                      cases h
                      exact en ⟨rfl, wk []⟩
                    · refine xf <| xk <| bn <| es <| rz ?_
                      cases h
                      exact en ⟨rfl, wk []⟩
                  · refine xf <| xx <| ee ?_
                    cases h
                    exact en ⟨rfl, wk []⟩
                · rcases e117 with e117 | e117
                  · try dsimp only at h ⊢
                    refine br <| er ?_
                    cases h
                    exact en fr
                  · try dsimp only at h ⊢
                    refine bh <| es <| xs <| rz ?_
                    refine es <| xr ?_
                    cases h
                    exact en fr
              · refine xt <| xs <| rz ?_
                refine es <| xr <| er ?_
                cases h
                exact en fr
  · refine xt <| xs <| rz ?_
    refine es <| xr <| er ?_
    cases h
    exact en fr
def g_ref38_Check_s1 (s_0 : T_api_Speech) (x43 : Int × Int) : Option (Nx (Int × Int) (Int ⊕ Unit)) :=
  (if (decide (x43.2 < (s_0.Words.length : Int))) then ((atI s_0.Words x43.2).bind fun y153 => ((g_ref38_word y153 x43.1).bind fun r159 => (if (r159 != 0) then (some (.out (.inl r159))) else (some (.go (y153.Span.Out, (IntKind.i64.wrap (x43.2 + 1)))))))) else (some (.out (.inr ()))))
def g_ref38_Check (s_0 : T_api_Speech) : Option (Int) :=
  ((g_ref02_Valid s_0.Rate).bind fun r26 => (if r26 then (if (decide (200 < (s_0.Words.length : Int))) then (some 9) else (if ((s_0.Words.length : Int) == 0) then (some 6) else ((iter (g_ref38_Check_s1 s_0) (0, 0)).bind fun e44 => (match e44 with | Sum.inl e44 => (some e44) | Sum.inr (e44) => ((g_ref37_Check s_0.Shots).bind fun r173 => (if (r173 != 0) then (some r173) else ((g_ref35_Check s_0.Table).bind fun r184 => (if (r184 != 0) then (some r184) else ((g_ref39_Check s_0.House).bind fun r195 => (some r195)))))))))) else (some 13)))
theorem a_ref38_Check {I : World → Prop} (hI : Stab I) {s_0 : T_api_Speech} {r : Int} (h : g_ref38_Check s_0 = some r) : AFun Tryz.prog I 14 [T_api_Speech.d s_0] (.int .i64 r) := by
  have dd := dd_EE; have k := True.intro; have q := k; have rs := Tryz.results14
  unfold g_ref38_Check at h
  refine .en hI Tryz.func14 Tryz.ntmps14 ?_
  refine xs <| rz ?_
  refine es <| xs <| xb <| xs <| rK fun K25 RK25 hK25 gK25 => zz ?_
  obtain ⟨r26, h27, h⟩ := bs h
  refine cw (a_ref02_Valid hI h27) <| zz ?_
  subst hK25 gK25
  refine es ?_
  rcases iK k h with ⟨k, h⟩ | ⟨k, h⟩
  · refine xf <| xs <| rz ?_
    refine es ?_
    rcases iK k h with ⟨k, h⟩ | ⟨k, h⟩
    · refine xt <| xs <| rz ?_
      refine es <| xr <| br <| er ?_
      cases h
      exact en fr
    · refine xf <| xs <| rz ?_
      refine es ?_
      rcases iK k h with ⟨k, h⟩ | ⟨k, h⟩
      · refine xt <| xs <| rz ?_
        refine es <| xr <| br <| er ?_
        cases h
        exact en fr
      · refine xf <| xk <| bn <| es <| xs <| rz ?_
        refine es <| xs <| xs <| rz ?_
        refine es <| xb ?_
        obtain ⟨e44, h168, h⟩ := bs h
        refine rb_loop (fun x43 => ⟨envL [(1, .ptr 0 0), (3, .int .i64 x43.1), (25, .sl (s_0.Words.map T_api_Word.d)), (26, .int .i64 (s_0.Words.length : Int)), (27, .int .i64 x43.2)], heapL [(0, .box none [.int .u8 s_0.Rate, .sl (s_0.Words.map T_api_Word.d), .sl (s_0.Shots.map (D.int .i64)), .int .i64 s_0.Table.Strength.a0, .int .i64 s_0.Table.Strength.a1, .int .i64 s_0.Table.Strength.a2, .int .i64 s_0.Table.Strength.a3, .int .i64 s_0.Table.Strength.a4, .int .i64 s_0.Table.Strength.a5, .int .i64 s_0.Table.Ragged, .int .i64 s_0.Table.Row, .int .i64 s_0.Table.Event, .int .i64 s_0.Table.Fast, .int .i64 s_0.Table.Gap, .int .i64 s_0.Table.Shot, .str s_0.House.Name, .int .i64 s_0.House.Reading, .int .i64 s_0.House.MinFrames, .int .i64 s_0.House.MaxFrames, .int .i64 s_0.House.MinGap, .int .i64 s_0.House.ShotBefore, .int .i64 s_0.House.ShotAfter, .int .i64 s_0.House.Rows, .int .i64 s_0.House.Cols, .str s_0.House.Forbidden, .int .i64 s_0.House.SafeTop, .int .i64 s_0.House.SafeBottom, .int .i64 s_0.House.SafeLeft, .int .i64 s_0.House.SafeRight])], 1, 56⟩) (fun w => match w with | Sum.inl _ => .ret | Sum.inr (_) => .exit 1) (fun w => match w with | Sum.inl e44 => ⟨envL [(2, .int .i64 e44)], heapL [], 0, 56⟩ | Sum.inr (e44) => ⟨envL [(1, .ptr 0 0)], heapL [(0, .box none [.int .u8 s_0.Rate, .sl (s_0.Words.map T_api_Word.d), .sl (s_0.Shots.map (D.int .i64)), .int .i64 s_0.Table.Strength.a0, .int .i64 s_0.Table.Strength.a1, .int .i64 s_0.Table.Strength.a2, .int .i64 s_0.Table.Strength.a3, .int .i64 s_0.Table.Strength.a4, .int .i64 s_0.Table.Strength.a5, .int .i64 s_0.Table.Ragged, .int .i64 s_0.Table.Row, .int .i64 s_0.Table.Event, .int .i64 s_0.Table.Fast, .int .i64 s_0.Table.Gap, .int .i64 s_0.Table.Shot, .str s_0.House.Name, .int .i64 s_0.House.Reading, .int .i64 s_0.House.MinFrames, .int .i64 s_0.House.MaxFrames, .int .i64 s_0.House.MinGap, .int .i64 s_0.House.ShotBefore, .int .i64 s_0.House.ShotAfter, .int .i64 s_0.House.Rows, .int .i64 s_0.House.Cols, .str s_0.House.Forbidden, .int .i64 s_0.House.SafeTop, .int .i64 s_0.House.SafeBottom, .int .i64 s_0.House.SafeLeft, .int .i64 s_0.House.SafeRight])], 1, 56⟩) h168 (wk []) (by intro w; rcases w with w | w <;> simp) ?_ ?_
        · clear h
          intro x43 y h
          unfold g_ref38_Check_s1 at h
          refine xs <| rz ?_
          refine es <| xs ?_
          rcases iK k h with ⟨k, h⟩ | ⟨k, h⟩
          · refine xt <| xk <| es <| xs <| xb <| xs <| rK fun K152 RK152 hK152 gK152 => zz ?_
            obtain ⟨y153, q, h⟩ := bK q h
            refine zz ?_
            subst hK152 gK152
            refine es <| xs <| xs <| rK fun K158 RK158 hK158 gK158 => zz ?_
            obtain ⟨r159, h160, h⟩ := bs h
            refine cw (a_ref38_word hI h160) <| zz ?_
            subst hK158 gK158
            refine es <| xs <| rz ?_
            refine es ?_
            rcases iK k h with ⟨k, h⟩ | ⟨k, h⟩
            · refine xt <| xs <| rz ?_
              refine es <| xr <| er <| br <| er ?_
              cases h
              exact en ⟨rfl, wk []⟩
            · refine xf <| xk <| es <| rz ?_
              refine bn <| es <| rz ?_
              cases h
              exact en ⟨rfl, wk []⟩
          · refine xf <| xx <| ee ?_
            cases h
            exact en ⟨rfl, wk []⟩
        · rcases e44 with e44 | e44
          · try dsimp only at h ⊢
            refine br <| er ?_
            cases h
            exact en fr
          · try dsimp only at h ⊢
            refine bh <| es <| xs <| xs <| rK fun K172 RK172 hK172 gK172 => zz ?_
            obtain ⟨r173, h174, h⟩ := bs h
            refine cw (a_ref37_Check hI h174) <| zz ?_
            subst hK172 gK172
            refine es <| xs <| rz ?_
            refine es ?_
            rcases iK k h with ⟨k, h⟩ | ⟨k, h⟩
            · refine xt <| xs <| rz ?_
              refine es <| xr <| er ?_
              cases h
              exact en fr
            · refine xf <| xk <| es <| xs <| xs <| rK fun K183 RK183 hK183 gK183 => zz ?_
              obtain ⟨r184, h185, h⟩ := bs h
              refine cw (a_ref35_Check hI h185) <| zz ?_
              subst hK183 gK183
              refine es <| xs <| rz ?_
              refine es ?_
              rcases iK k h with ⟨k, h⟩ | ⟨k, h⟩
              · refine xt <| xs <| rz ?_
                refine es <| xr <| er ?_
                cases h
                exact en fr
              · refine xf <| xk <| es <| xs <| rK fun K194 RK194 hK194 gK194 => zz ?_
                obtain ⟨r195, h196, h⟩ := bs h
                refine cw (a_ref39_Check hI h196) <| zz ?_
                subst hK194 gK194
                refine es <| xr ?_
                cases h
                exact en fr
  · refine xt <| xs <| rz ?_
    refine es <| xr <| br <| er ?_
    cases h
    exact en fr
def g_ref34_Words_s1 (s_0 : List UInt8) (x9 : Int × Int × (List (List UInt8))) : Option (Nx (Int × Int × (List (List UInt8))) ((List (List UInt8)))) :=
  (if (decide (x9.2.1 ≤ (s_0.length : Int))) then (((if (x9.2.1 == (s_0.length : Int)) then (some true) else ((atI s_0 x9.2.1).bind fun b112 => (if ((b112.toNat : Int) == 32) then (some true) else (some ((b112.toNat : Int) == 10))))) : Option (Bool)).bind fun v109 => (if v109 then (if (decide (x9.1 < x9.2.1)) then ((subI s_0 x9.1 x9.2.1).bind fun z121 => (if (x9.2.2.length + 1) * 16 ≤ 140737488355328 then (some (.go ((IntKind.i64.wrap (x9.2.1 + 1)), (IntKind.i64.wrap (x9.2.1 + 1)), (x9.2.2 ++ [z121])))) else none)) else (some (.go ((IntKind.i64.wrap (x9.2.1 + 1)), (IntKind.i64.wrap (x9.2.1 + 1)), x9.2.2)))) else (some (.go (x9.1, (IntKind.i64.wrap (x9.2.1 + 1)), x9.2.2))))) else (some (.out x9.2.2)))
def g_ref34_Words (s_0 : List UInt8) : Option ((List (List UInt8))) :=
  ((iter (g_ref34_Words_s1 s_0) (0, 0, [])).bind fun e10 => (some e10))
theorem a_ref34_Words {I : World → Prop} (hI : Stab I) {s_0 : List UInt8} {r : (List (List UInt8))} (h : g_ref34_Words s_0 = some r) : AFun Tryz.prog I 158 [.str s_0] (.sl (r.map D.str)) := by
  have dd := dd_EE; have k := True.intro; have q := k; have rs := Tryz.results158
  unfold g_ref34_Words at h
  refine .en hI Tryz.func158 Tryz.ntmps158 ?_
  refine xs <| rz ?_
  refine es <| xs <| rz ?_
  refine es <| xs <| rz ?_
  refine es <| xs <| xs <| rz ?_
  refine es <| xb ?_
  obtain ⟨e10, h135, h⟩ := bs h
  refine rb_loop (fun x9 => ⟨envL [(0, .str s_0), (3, .own 0 x9.2.2.length), (4, .int .i64 x9.1), (5, .int .i64 x9.2.1)], heapL [(0, .vec 9 1 (x9.2.2.map D.str) false)], 1, 42⟩) (fun _ => .exit 0) (fun e10 => ⟨envL [(3, .own 0 e10.length)], heapL [(0, .vec 9 1 (e10.map D.str) false)], 1, 42⟩) h135 (wk [(0, some 1)]) (by intro w; simp) ?_ ?_
  · clear h
    intro x9 y h
    unfold g_ref34_Words_s1 at h
    refine xs <| xs <| rz ?_
    refine es ?_
    rcases iK k h with ⟨k, h⟩ | ⟨k, h⟩
    · refine xt <| xk <| es <| xs <| xb ?_
      obtain ⟨v109, h115, h⟩ := bs h
      refine rb_cut (fun v109 => ⟨envL [(0, .str s_0), (3, .own 0 x9.2.2.length), (4, .int .i64 x9.1), (5, .int .i64 x9.2.1), (28, .bool v109)], heapL [(0, .vec 9 1 (x9.2.2.map D.str) false)], 1, 42⟩) h115 ?_ ?_
      · clear h
        intro v109 h
        refine rK fun K110 RK110 hK110 gK110 => zz ?_
        rcases iK k h with ⟨k, h⟩ | ⟨k, h⟩
        · refine zz ?_
          subst hK110 gK110
          cases h
          exact en ⟨rfl, wk []⟩
        · refine zz ?_
          obtain ⟨b112, q, h⟩ := bK q h
          refine zz ?_
          rcases iK k h with ⟨k, h⟩ | ⟨k, h⟩
          · refine zz ?_
            subst hK110 gK110
            cases h
            exact en ⟨rfl, wk []⟩
          · refine zz ?_
            subst hK110 gK110
            cases h
            exact en ⟨rfl, wk []⟩
      · rcases iK k h with ⟨k, h⟩ | ⟨k, h⟩
        · refine xt <| xs <| xs <| rz ?_
          refine es ?_
          rcases iK k h with ⟨k, h⟩ | ⟨k, h⟩
          · refine xt <| rK fun K120 RK120 hK120 gK120 => zz ?_
            obtain ⟨z121, h122, h⟩ := bind_some h
            obtain ⟨⟨h123, h124, h125, h126⟩, h127⟩ := subI_some h122
            have q := And.intro @h123 <| And.intro @h124 <| And.intro @h125 <| And.intro @h126 <| q
            try simp -implicitDefEqProofs only [vt, vm, sevalprocAttr, dd, k, q] at h127
            have q := And.intro @h127 <| q
            refine zz ?_
            obtain ⟨h128, h⟩ := ite_on h
            have h129 : x9.2.2.length + 1 ≤ 9223372036854775807 := by omega
            try simp only [Nat.reduceLeDiff] at h129
            have q := And.intro @h129 <| And.intro @h128 <| q
            refine zz ?_
            subst hK120 gK120
            refine es <| rz ?_
            refine bn <| es <| rz ?_
            cases h
            exact en ⟨rfl, wk [(0, some 10)]⟩
          · refine xf <| xk <| es <| rz ?_
            refine bn <| es <| rz ?_
            cases h
            exact en ⟨rfl, wk []⟩
        · refine xf <| xk <| bn <| es <| rz ?_
          cases h
          exact en ⟨rfl, wk []⟩
    · refine xf <| xx <| ee ?_
      cases h
      exact en ⟨rfl, wk []⟩
  · refine bh <| es <| xs <| rz ?_
    refine es <| xr ?_
    cases h
    exact en fr
def g_ref34_among_s1 (word_1 : List UInt8) (r7 : (List (List UInt8))) (x9 : Int) : Option (Nx (Int) (Unit ⊕ Unit)) :=
  (if (decide (x9 < (r7.length : Int))) then ((atI r7 x9).bind fun y57 => (if (y57 == word_1) then (some (.out (.inl ()))) else (some (.go (IntKind.i64.wrap (x9 + 1)))))) else (some (.out (.inr ()))))
def g_ref34_among (list_0 : List UInt8) (word_1 : List UInt8) : Option (Bool) :=
  ((g_ref34_Words list_0).bind fun r7 => ((iter (g_ref34_among_s1 word_1 r7) 0).bind fun e10 => (match e10 with | Sum.inl e10 => (some true) | Sum.inr (e10) => (some false))))
theorem a_ref34_among {I : World → Prop} (hI : Stab I) {list_0 : List UInt8} {word_1 : List UInt8} {r : Bool} (h : g_ref34_among list_0 word_1 = some r) : AFun Tryz.prog I 122 [.str list_0, .str word_1] (.bool r) := by
  have dd := dd_EE; have k := True.intro; have q := k; have rs := Tryz.results122
  unfold g_ref34_among at h
  refine .en hI Tryz.func122 Tryz.ntmps122 ?_
  refine xs <| rz ?_
  refine es <| xs <| xs <| rK fun K6 RK6 hK6 gK6 => zz ?_
  obtain ⟨r7, h8, h⟩ := bs h
  refine cw (a_ref34_Words hI h8) <| zz ?_
  subst hK6 gK6
  refine es <| xb ?_
  obtain ⟨e10, h65, h⟩ := bs h
  refine rb_loop (fun x9 => ⟨envL [(1, .str word_1), (8, .sl (r7.map D.str)), (9, .int .i64 (r7.length : Int)), (10, .int .i64 x9)], heapL [], 0, 18⟩) (fun w => match w with | Sum.inl _ => .ret | Sum.inr (_) => .exit 0) (fun w => match w with | Sum.inl e10 => ⟨envL [(4, .bool true)], heapL [], 0, 18⟩ | Sum.inr (e10) => ⟨envL [], heapL [], 0, 18⟩) h65 (wk []) (by intro w; rcases w with w | w <;> simp) ?_ ?_
  · clear h
    intro x9 y h
    unfold g_ref34_among_s1 at h
    refine xs <| rz ?_
    refine es <| xs ?_
    rcases iK k h with ⟨k, h⟩ | ⟨k, h⟩
    · refine xt <| xk <| es <| xs <| xb <| xs <| rK fun K56 RK56 hK56 gK56 => zz ?_
      obtain ⟨y57, q, h⟩ := bK q h
      refine zz ?_
      subst hK56 gK56
      refine es <| xs <| rz ?_
      refine es ?_
      rcases iK k h with ⟨k, h⟩ | ⟨k, h⟩
      · refine xt <| xs <| rz ?_
        refine es <| xr <| br <| er ?_
        cases h
        exact en ⟨rfl, wk []⟩
      · refine xf <| xk <| bn <| es <| rz ?_
        cases h
        exact en ⟨rfl, wk []⟩
    · refine xf <| xx <| ee ?_
      cases h
      exact en ⟨rfl, wk []⟩
  · rcases e10 with e10 | e10
    · try dsimp only at h ⊢
      refine br <| er ?_
      cases h
      exact en fr
    · try dsimp only at h ⊢
      refine bh <| es <| xs <| rz ?_
      refine es <| xr ?_
      cases h
      exact en fr
def g_ref34_Strength_s1  (x54 : (List UInt8)) : Option (Nx ((List UInt8)) ((List UInt8))) :=
  (((if (decide (0 < (x54.length : Int))) then ((atI x54 (IntKind.i64.wrap ((x54.length : Int) - 1))).bind fun b89 => (if ((b89.toNat : Int) == 34) then (some true) else (if ((b89.toNat : Int) == 39) then (some true) else (if ((b89.toNat : Int) == 41) then (some true) else (some ((b89.toNat : Int) == 93)))))) else (some false)) : Option (Bool)).bind fun v86 => (if v86 then ((subH x54 (IntKind.i64.wrap ((x54.length : Int) - 1))).bind fun z97 => (some (.go z97))) else (some (.out x54))))
def g_ref34_Strength (word_0 : List UInt8) (next_1 : List UInt8) : Option (Int) :=
  ((iter (g_ref34_Strength_s1) word_0).bind fun e55 => (if (decide (0 < (e55.length : Int))) then ((atI e55 (IntKind.i64.wrap ((e55.length : Int) - 1))).bind fun b109 => (((if ((b109.toNat : Int) == 46) then (some true) else (if ((b109.toNat : Int) == 33) then (some true) else (some ((b109.toNat : Int) == 63)))) : Option (Bool)).bind fun v167 => (if v167 then (some 5) else (((if ((b109.toNat : Int) == 58) then (some true) else (if ((b109.toNat : Int) == 59) then (some true) else (some (word_0 == ([45] : List UInt8))))) : Option (Bool)).bind fun v178 => (if v178 then (some 4) else (if ((b109.toNat : Int) == 44) then (some 3) else ((g_ref34_small word_0).bind fun r197 => ((g_ref34_among [97, 32, 97, 110, 32, 116, 104, 101, 32, 111, 102, 32, 116, 111, 32, 105, 110, 32, 111, 110, 32, 97, 116, 32, 98, 121, 32, 102, 111, 114, 32, 102, 114, 111, 109, 32, 119, 105, 116, 104, 32, 109, 121, 32, 121, 111, 117, 114, 32, 104, 105, 115, 32, 104, 101, 114, 32, 105, 116, 115, 32, 111, 117, 114, 32, 116, 104, 101, 105, 114, 32, 110, 111] r197).bind fun r199 => (if r199 then (some 0) else ((g_ref34_small next_1).bind fun r210 => ((g_ref34_among [97, 110, 100, 32, 98, 117, 116, 32, 111, 114, 32, 98, 101, 99, 97, 117, 115, 101, 32, 116, 104, 97, 116, 32, 119, 104, 105, 99, 104, 32, 119, 104, 111, 32, 119, 104, 101, 110, 32, 105, 102, 32, 119, 104, 105, 108, 101, 32, 115, 111, 32, 97, 115] r210).bind fun r212 => (if r212 then (some 2) else (some 1))))))))))))) else (if (word_0 == ([45] : List UInt8)) then (some 4) else ((g_ref34_small word_0).bind fun r269 => ((g_ref34_among [97, 32, 97, 110, 32, 116, 104, 101, 32, 111, 102, 32, 116, 111, 32, 105, 110, 32, 111, 110, 32, 97, 116, 32, 98, 121, 32, 102, 111, 114, 32, 102, 114, 111, 109, 32, 119, 105, 116, 104, 32, 109, 121, 32, 121, 111, 117, 114, 32, 104, 105, 115, 32, 104, 101, 114, 32, 105, 116, 115, 32, 111, 117, 114, 32, 116, 104, 101, 105, 114, 32, 110, 111] r269).bind fun r271 => (if r271 then (some 0) else ((g_ref34_small next_1).bind fun r282 => ((g_ref34_among [97, 110, 100, 32, 98, 117, 116, 32, 111, 114, 32, 98, 101, 99, 97, 117, 115, 101, 32, 116, 104, 97, 116, 32, 119, 104, 105, 99, 104, 32, 119, 104, 111, 32, 119, 104, 101, 110, 32, 105, 102, 32, 119, 104, 105, 108, 101, 32, 115, 111, 32, 97, 115] r282).bind fun r284 => (if r284 then (some 2) else (some 1))))))))))
theorem a_ref34_Strength {I : World → Prop} (hI : Stab I) {word_0 : List UInt8} {next_1 : List UInt8} {r : Int} (h : g_ref34_Strength word_0 next_1 = some r) : AFun Tryz.prog I 70 [.str word_0, .str next_1] (.int .i64 r) := by
  have dd := dd_EE; have k := True.intro; have q := k; have rs := Tryz.results70
  unfold g_ref34_Strength at h
  refine .en hI Tryz.func70 Tryz.ntmps70 ?_
  refine xs <| rz ?_
  refine es <| xs <| rz ?_
  refine es <| xs <| xb ?_
  obtain ⟨e55, h102, h⟩ := bs h
  refine rb_loop (fun x54 => ⟨envL [(0, .str word_0), (1, .str next_1), (5, .str x54)], heapL [], 0, 89⟩) (fun _ => .exit 0) (fun e55 => ⟨envL [(0, .str word_0), (1, .str next_1), (5, .str e55)], heapL [], 0, 89⟩) h102 (wk []) (by intro w; simp) ?_ ?_
  · clear h
    intro x54 y h
    unfold g_ref34_Strength_s1 at h
    refine xs ?_
    obtain ⟨v86, h94, h⟩ := bs h
    refine rb_cut (fun v86 => ⟨envL [(0, .str word_0), (1, .str next_1), (5, .str x54), (42, .bool v86)], heapL [], 0, 89⟩) h94 ?_ ?_
    · clear h
      intro v86 h
      refine rK fun K87 RK87 hK87 gK87 => zz ?_
      rcases iK k h with ⟨k, h⟩ | ⟨k, h⟩
      · refine zz ?_
        obtain ⟨b89, q, h⟩ := bK q h
        refine zz ?_
        rcases iK k h with ⟨k, h⟩ | ⟨k, h⟩
        · refine zz ?_
          subst hK87 gK87
          cases h
          exact en ⟨rfl, wk []⟩
        · refine zz ?_
          rcases iK k h with ⟨k, h⟩ | ⟨k, h⟩
          · refine zz ?_
            subst hK87 gK87
            cases h
            exact en ⟨rfl, wk []⟩
          · refine zz ?_
            rcases iK k h with ⟨k, h⟩ | ⟨k, h⟩
            · refine zz ?_
              subst hK87 gK87
              cases h
              exact en ⟨rfl, wk []⟩
            · refine zz ?_
              subst hK87 gK87
              cases h
              exact en ⟨rfl, wk []⟩
      · refine zz ?_
        subst hK87 gK87
        cases h
        exact en ⟨rfl, wk []⟩
    · rcases iK k h with ⟨k, h⟩ | ⟨k, h⟩
      · refine xt <| xk <| es <| xb <| rK fun K96 RK96 hK96 gK96 => zz ?_
        obtain ⟨z97, h98, h⟩ := bind_some h
        obtain ⟨⟨h99, h100⟩, h101⟩ := subH_some h98
        have q := And.intro @h99 <| And.intro @h100 <| q
        try simp -implicitDefEqProofs only [vt, vm, sevalprocAttr, dd, k, q] at h101
        have q := And.intro @h101 <| q
        refine zz ?_
        subst hK96 gK96
        refine bn ?_
        cases h
        exact en ⟨rfl, wk []⟩
      · refine xf <| xx <| ee ?_
        cases h
        exact en ⟨rfl, wk []⟩
  · refine bh <| es <| xs <| rz ?_
    refine es <| xs <| xs <| rz ?_
    refine es ?_
    rcases iK k h with ⟨k, h⟩ | ⟨k, h⟩
    · refine xt <| rK fun K108 RK108 hK108 gK108 => zz ?_
      obtain ⟨b109, q, h⟩ := bK q h
      refine zz ?_
      subst hK108 gK108
      refine es <| xs <| xb ?_
      obtain ⟨v167, h171, h⟩ := bs h
      refine rb_cut (fun v167 => ⟨envL [(0, .str word_0), (1, .str next_1), (6, .int .u8 (b109.toNat : Int)), (56, .bool v167)], heapL [], 0, 89⟩) h171 ?_ ?_
      · clear h
        intro v167 h
        refine rK fun K168 RK168 hK168 gK168 => zz ?_
        rcases iK k h with ⟨k, h⟩ | ⟨k, h⟩
        · refine zz ?_
          subst hK168 gK168
          cases h
          exact en ⟨rfl, wk []⟩
        · refine zz ?_
          rcases iK k h with ⟨k, h⟩ | ⟨k, h⟩
          · refine zz ?_
            subst hK168 gK168
            cases h
            exact en ⟨rfl, wk []⟩
          · refine zz ?_
            subst hK168 gK168
            cases h
            exact en ⟨rfl, wk []⟩
      · rcases iK k h with ⟨k, h⟩ | ⟨k, h⟩
        · refine xt <| xs <| rz ?_
          refine es <| xr <| br <| er ?_
          cases h
          exact en fr
        · refine xf ?_
          obtain ⟨v178, h182, h⟩ := bs h
          refine rb_cut (fun v178 => ⟨envL [(0, .str word_0), (1, .str next_1), (6, .int .u8 (b109.toNat : Int)), (67, .bool v178)], heapL [], 0, 89⟩) h182 ?_ ?_
          · clear h
            intro v178 h
            refine rK fun K179 RK179 hK179 gK179 => zz ?_
            rcases iK k h with ⟨k, h⟩ | ⟨k, h⟩
            · refine zz ?_
              subst hK179 gK179
              cases h
              exact en ⟨rfl, wk []⟩
            · refine zz ?_
              rcases iK k h with ⟨k, h⟩ | ⟨k, h⟩
              · refine zz ?_
                subst hK179 gK179
                cases h
                exact en ⟨rfl, wk []⟩
              · refine zz ?_
                subst hK179 gK179
                cases h
                exact en ⟨rfl, wk []⟩
          · rcases iK k h with ⟨k, h⟩ | ⟨k, h⟩
            · refine xt <| xs <| rz ?_
              refine es <| xr <| br <| er ?_
              cases h
              exact en fr
            · refine xf <| xs <| rz ?_
              refine es ?_
              rcases iK k h with ⟨k, h⟩ | ⟨k, h⟩
              · refine xt <| xs <| rz ?_
                refine es <| xr <| br <| er ?_
                cases h
                exact en fr
              · refine xf <| xs <| rK fun K196 RK196 hK196 gK196 => zz ?_
                obtain ⟨r197, h198, h⟩ := bs h
                refine cw (a_ref34_small I hI word_0 h198) <| zz ?_
                obtain ⟨r199, h200, h⟩ := bs h
                refine cw (a_ref34_among hI h200) <| zz ?_
                subst hK196 gK196
                refine es ?_
                rcases iK k h with ⟨k, h⟩ | ⟨k, h⟩
                · refine xt <| xs <| rz ?_
                  refine es <| xr <| br <| er ?_
                  cases h
                  exact en fr
                · refine xf <| xs <| rK fun K209 RK209 hK209 gK209 => zz ?_
                  obtain ⟨r210, h211, h⟩ := bs h
                  refine cw (a_ref34_small I hI next_1 h211) <| zz ?_
                  obtain ⟨r212, h213, h⟩ := bs h
                  refine cw (a_ref34_among hI h213) <| zz ?_
                  subst hK209 gK209
                  refine es ?_
                  rcases iK k h with ⟨k, h⟩ | ⟨k, h⟩
                  · refine xt <| xs <| rz ?_
                    refine es <| xr <| br <| er ?_
                    cases h
                    exact en fr
                  · refine xf <| xk <| bn <| es <| xs <| rz ?_
                    refine es <| xr ?_
                    cases h
                    exact en fr
    · refine xf <| xk <| es <| xs <| xb <| xs <| rz ?_
      refine es <| xf <| xs <| rz ?_
      refine es ?_
      rcases iK k h with ⟨k, h⟩ | ⟨k, h⟩
      · refine xt <| xs <| rz ?_
        refine es <| xr <| br <| er ?_
        cases h
        exact en fr
      · refine xf <| xs <| rz ?_
        refine es <| xf <| xs <| rK fun K268 RK268 hK268 gK268 => zz ?_
        obtain ⟨r269, h270, h⟩ := bs h
        refine cw (a_ref34_small I hI word_0 h270) <| zz ?_
        obtain ⟨r271, h272, h⟩ := bs h
        refine cw (a_ref34_among hI h272) <| zz ?_
        subst hK268 gK268
        refine es ?_
        rcases iK k h with ⟨k, h⟩ | ⟨k, h⟩
        · refine xt <| xs <| rz ?_
          refine es <| xr <| br <| er ?_
          cases h
          exact en fr
        · refine xf <| xs <| rK fun K281 RK281 hK281 gK281 => zz ?_
          obtain ⟨r282, h283, h⟩ := bs h
          refine cw (a_ref34_small I hI next_1 h283) <| zz ?_
          obtain ⟨r284, h285, h⟩ := bs h
          refine cw (a_ref34_among hI h285) <| zz ?_
          subst hK281 gK281
          refine es ?_
          rcases iK k h with ⟨k, h⟩ | ⟨k, h⟩
          · refine xt <| xs <| rz ?_
            refine es <| xr <| br <| er ?_
            cases h
            exact en fr
          · refine xf <| xk <| bn <| es <| xs <| rz ?_
            refine es <| xr ?_
            cases h
            exact en fr
def g_ref38_paragraph_s1 (s_0 : T_api_Speech) (to_2 : Int) (x7 : Int × (List T_api_Token)) : Option (Nx (Int × (List T_api_Token)) ((List T_api_Token))) :=
  (if (decide (x7.1 < to_2)) then (if (decide ((IntKind.i64.wrap (x7.1 + 1)) < (s_0.Words.length : Int))) then ((atI s_0.Words x7.1).bind fun y161 => ((atI s_0.Words (IntKind.i64.wrap (x7.1 + 1))).bind fun y163 => ((g_ref34_Strength y161.Text y163.Text).bind fun r165 => (if (x7.2.length + 1) * 24 ≤ 140737488355328 then (some (.go ((IntKind.i64.wrap (x7.1 + 1)), (x7.2 ++ [(T_api_Token.mk y161.Text r165)])))) else none)))) else ((atI s_0.Words x7.1).bind fun y172 => (if (x7.2.length + 1) * 24 ≤ 140737488355328 then (some (.go ((IntKind.i64.wrap (x7.1 + 1)), (x7.2 ++ [(T_api_Token.mk y172.Text 5)])))) else none))) else (some (.out x7.2)))
def g_ref38_paragraph (s_0 : T_api_Speech) (from_1 : Int) (to_2 : Int) : Option (T_api_Paragraph) :=
  ((iter (g_ref38_paragraph_s1 s_0 to_2) (from_1, [])).bind fun e8 => (some (T_api_Paragraph.mk e8 s_0.House.Cols s_0.House.Rows s_0.Table)))
theorem a_ref38_paragraph {I : World → Prop} (hI : Stab I) {s_0 : T_api_Speech} {from_1 : Int} {to_2 : Int} {r : T_api_Paragraph} (h : g_ref38_paragraph s_0 from_1 to_2 = some r) : AFun Tryz.prog I 31 [T_api_Speech.d s_0, .int .i64 from_1, .int .i64 to_2] (T_api_Paragraph.d r) := by
  have dd := dd_EE; have k := True.intro; have q := k; have rs := Tryz.results31
  unfold g_ref38_paragraph at h
  refine .en hI Tryz.func31 Tryz.ntmps31 ?_
  refine xs <| rz ?_
  refine es <| xs <| rz ?_
  refine es <| xs <| xs <| rz ?_
  refine es <| xb ?_
  obtain ⟨e8, h177, h⟩ := bs h
  refine rb_loop (fun x7 => ⟨envL [(2, .int .i64 to_2), (3, .ptr 0 0), (6, .ptr 1 0), (7, .ptr 2 0), (8, .int .i64 x7.1)], heapL [(0, .box none [.int .u8 s_0.Rate, .sl (s_0.Words.map T_api_Word.d), .sl (s_0.Shots.map (D.int .i64)), .int .i64 s_0.Table.Strength.a0, .int .i64 s_0.Table.Strength.a1, .int .i64 s_0.Table.Strength.a2, .int .i64 s_0.Table.Strength.a3, .int .i64 s_0.Table.Strength.a4, .int .i64 s_0.Table.Strength.a5, .int .i64 s_0.Table.Ragged, .int .i64 s_0.Table.Row, .int .i64 s_0.Table.Event, .int .i64 s_0.Table.Fast, .int .i64 s_0.Table.Gap, .int .i64 s_0.Table.Shot, .str s_0.House.Name, .int .i64 s_0.House.Reading, .int .i64 s_0.House.MinFrames, .int .i64 s_0.House.MaxFrames, .int .i64 s_0.House.MinGap, .int .i64 s_0.House.ShotBefore, .int .i64 s_0.House.ShotAfter, .int .i64 s_0.House.Rows, .int .i64 s_0.House.Cols, .str s_0.House.Forbidden, .int .i64 s_0.House.SafeTop, .int .i64 s_0.House.SafeBottom, .int .i64 s_0.House.SafeLeft, .int .i64 s_0.House.SafeRight]), (1, .box none [.nils, .int .i64 0, .int .i64 0, .int .i64 0, .int .i64 0, .int .i64 0, .int .i64 0, .int .i64 0, .int .i64 0, .int .i64 0, .int .i64 0, .int .i64 0, .int .i64 0, .int .i64 0, .int .i64 0]), (2, .box none [.own 3 x7.2.length, .int .i64 s_0.House.Cols, .int .i64 s_0.House.Rows, .int .i64 s_0.Table.Strength.a0, .int .i64 s_0.Table.Strength.a1, .int .i64 s_0.Table.Strength.a2, .int .i64 s_0.Table.Strength.a3, .int .i64 s_0.Table.Strength.a4, .int .i64 s_0.Table.Strength.a5, .int .i64 s_0.Table.Ragged, .int .i64 s_0.Table.Row, .int .i64 s_0.Table.Event, .int .i64 s_0.Table.Fast, .int .i64 s_0.Table.Gap, .int .i64 s_0.Table.Shot]), (3, .vec 90 2 (x7.2.map T_api_Token.d) false)], 4, 59⟩) (fun _ => .exit 0) (fun e8 => ⟨envL [(6, .ptr 0 0), (7, .ptr 1 0)], heapL [(0, .box none [.nils, .int .i64 0, .int .i64 0, .int .i64 0, .int .i64 0, .int .i64 0, .int .i64 0, .int .i64 0, .int .i64 0, .int .i64 0, .int .i64 0, .int .i64 0, .int .i64 0, .int .i64 0, .int .i64 0]), (1, .box none [.own 2 e8.length, .int .i64 s_0.House.Cols, .int .i64 s_0.House.Rows, .int .i64 s_0.Table.Strength.a0, .int .i64 s_0.Table.Strength.a1, .int .i64 s_0.Table.Strength.a2, .int .i64 s_0.Table.Strength.a3, .int .i64 s_0.Table.Strength.a4, .int .i64 s_0.Table.Strength.a5, .int .i64 s_0.Table.Ragged, .int .i64 s_0.Table.Row, .int .i64 s_0.Table.Event, .int .i64 s_0.Table.Fast, .int .i64 s_0.Table.Gap, .int .i64 s_0.Table.Shot]), (2, .vec 90 2 (e8.map T_api_Token.d) false)], 3, 59⟩) h177 (wk [(2, some 11), (3, none)]) (by intro w; simp) ?_ ?_
  · clear h
    intro x7 y h
    unfold g_ref38_paragraph_s1 at h
    refine xs <| xs <| rz ?_
    refine es ?_
    rcases iK k h with ⟨k, h⟩ | ⟨k, h⟩
    · refine xt <| xk <| es <| xs <| xb <| xs <| rz ?_
      refine es <| xs <| xs <| rz ?_
      refine es ?_
      rcases iK k h with ⟨k, h⟩ | ⟨k, h⟩
      · refine xt <| rD hI fun K160 RK160 hK160 gK160 => zz ?_
        obtain ⟨y161, q, h⟩ := bK q h
        refine zz ?_
        obtain ⟨y163, q, h⟩ := bK q h
        refine zz ?_
        obtain ⟨r165, h166, h⟩ := bs h
        refine cd (a_ref34_Strength hI h166) <| zz ?_
        subst hK160 gK160
        refine es <| rD hI fun K167 RK167 hK167 gK167 => zz ?_
        obtain ⟨h168, h⟩ := ite_on h
        have h169 : x7.2.length + 1 ≤ 9223372036854775807 := by omega
        try simp only [Nat.reduceLeDiff] at h169
        have q := And.intro @h169 <| And.intro @h168 <| q
        refine zz ?_
        refine hd <| zz ?_
        refine hd <| zz ?_
        subst hK167 gK167
        refine bn <| es <| rz ?_
        cases h
        exact en ⟨rfl, wk [(3, some 40)]⟩
      · refine xf <| xk <| es <| rD hI fun K171 RK171 hK171 gK171 => zz ?_
        obtain ⟨y172, q, h⟩ := bK q h
        refine zz ?_
        obtain ⟨h174, h⟩ := ite_on h
        have h175 : x7.2.length + 1 ≤ 9223372036854775807 := by omega
        try simp only [Nat.reduceLeDiff] at h175
        have q := And.intro @h175 <| And.intro @h174 <| q
        refine zz ?_
        refine hd <| zz ?_
        refine hd <| zz ?_
        subst hK171 gK171
        refine bn <| es <| rz ?_
        cases h
        exact en ⟨rfl, wk [(3, some 25)]⟩
    · refine xf <| xx <| ee ?_
      cases h
      exact en ⟨rfl, wk [(0, some 1), (1, some 2), (2, some 3)]⟩
  · refine bh <| es <| xs <| rz ?_
    refine es <| xr ?_
    cases h
    exact en fr
def g_ref34_Check_s2 (y325 : T_api_Token) (x334 : Int) : Option (Nx (Int) (Unit ⊕ Unit)) :=
  (if (decide (x334 < (y325.Text.length : Int))) then ((atI y325.Text x334).bind fun b396 => (if ((b396.toNat : Int) == 32) then (some (.out (.inl ()))) else (some (.go (IntKind.i64.wrap (x334 + 1)))))) else (some (.out (.inr ()))))
def g_ref34_Check_s1 (l_0 : List T_api_Token) (x10 : Int) : Option (Nx (Int) (Int ⊕ Unit)) :=
  (if (decide (x10 < (l_0.length : Int))) then ((atI l_0 x10).bind fun y325 => (if (y325.Text == ([] : List UInt8)) then (some (.out (.inl 4))) else ((iter (g_ref34_Check_s2 y325) 0).bind fun e335 => (match e335 with | Sum.inl e335 => (some (.out (.inl 4))) | Sum.inr (e335) => ((g_ref08_Valid y325.Text).bind fun r407 => (if r407 then (if (decide (y325.Strength < 0)) then (some (.out (.inl 2))) else (if (decide (5 < y325.Strength)) then (some (.out (.inl 2))) else (some (.go (IntKind.i64.wrap (x10 + 1)))))) else (some (.out (.inl 10))))))))) else (some (.out (.inr ()))))
def g_ref34_Check (l_0 : List T_api_Token) : Option (Int) :=
  (if (decide (200 < (l_0.length : Int))) then (some 9) else ((iter (g_ref34_Check_s1 l_0) 0).bind fun e11 => (match e11 with | Sum.inl e11 => (some e11) | Sum.inr (e11) => (some 0))))
theorem a_ref34_Check {I : World → Prop} (hI : Stab I) {l_0 : List T_api_Token} {r : Int} (h : g_ref34_Check l_0 = some r) : AFun Tryz.prog I 124 [.sl (l_0.map T_api_Token.d)] (.int .i64 r) := by
  have dd := dd_EE; have k := True.intro; have q := k; have rs := Tryz.results124
  unfold g_ref34_Check at h
  refine .en hI Tryz.func124 Tryz.ntmps124 ?_
  refine xs <| rz ?_
  refine es <| xs <| xs <| rz ?_
  refine es ?_
  rcases iK k h with ⟨k, h⟩ | ⟨k, h⟩
  · refine xt <| xs <| rz ?_
    refine es <| xr <| er ?_
    cases h
    exact en fr
  · refine xf <| xk <| es <| xs <| xs <| rz ?_
    refine es <| xb ?_
    obtain ⟨e11, h422, h⟩ := bs h
    refine rb_loop (fun x10 => ⟨envL [(9, .sl (l_0.map T_api_Token.d)), (10, .int .i64 (l_0.length : Int)), (11, .int .i64 x10)], heapL [], 0, 43⟩) (fun w => match w with | Sum.inl _ => .ret | Sum.inr (_) => .exit 0) (fun w => match w with | Sum.inl e11 => ⟨envL [(2, .int .i64 e11)], heapL [], 0, 43⟩ | Sum.inr (e11) => ⟨envL [], heapL [], 0, 43⟩) h422 (wk []) (by intro w; rcases w with w | w <;> simp) ?_ ?_
    · clear h
      intro x10 y h
      unfold g_ref34_Check_s1 at h
      refine xs <| rz ?_
      refine es <| xs ?_
      rcases iK k h with ⟨k, h⟩ | ⟨k, h⟩
      · refine xt <| xk <| es <| xs <| xb <| xs <| rK fun K324 RK324 hK324 gK324 => zz ?_
        obtain ⟨y325, q, h⟩ := bK q h
        refine zz ?_
        subst hK324 gK324
        refine es <| xs <| xs <| rz ?_
        refine es ?_
        rcases iK k h with ⟨k, h⟩ | ⟨k, h⟩
        · refine xt <| xs <| rz ?_
          refine es <| xr <| er <| br <| er ?_
          cases h
          exact en ⟨rfl, wk []⟩
        · refine xf <| xk <| es <| xs <| xs <| rz ?_
          refine es <| xb ?_
          obtain ⟨e335, h402, h⟩ := bs h
          refine rb_loop (fun x334 => ⟨envL [(4, .ptr 0 0), (5, .int .i64 x334), (9, .sl (l_0.map T_api_Token.d)), (10, .int .i64 (l_0.length : Int)), (11, .int .i64 x10)], heapL [(0, .box none [.str y325.Text, .int .i64 y325.Strength])], 1, 43⟩) (fun w => match w with | Sum.inl _ => .ret | Sum.inr (_) => .exit 2) (fun w => match w with | Sum.inl e335 => ⟨envL [(2, .int .i64 4)], heapL [], 0, 43⟩ | Sum.inr (e335) => ⟨envL [(4, .ptr 0 0), (9, .sl (l_0.map T_api_Token.d)), (10, .int .i64 (l_0.length : Int)), (11, .int .i64 x10)], heapL [(0, .box none [.str y325.Text, .int .i64 y325.Strength])], 1, 43⟩) h402 (wk [(0, some 3)]) (by intro w; rcases w with w | w <;> simp) ?_ ?_
          · clear h
            intro x334 y h
            unfold g_ref34_Check_s2 at h
            refine xs <| xs <| rz ?_
            refine es ?_
            rcases iK k h with ⟨k, h⟩ | ⟨k, h⟩
            · refine xt <| xk <| es <| xs <| xb <| xs <| rK fun K395 RK395 hK395 gK395 => zz ?_
              obtain ⟨b396, q, h⟩ := bK q h
              refine zz ?_
              subst hK395 gK395
              refine es ?_
              rcases iK k h with ⟨k, h⟩ | ⟨k, h⟩
              · refine xt <| xs <| rz ?_
                refine es <| xr <| br <| er ?_
                cases h
                exact en ⟨rfl, wk []⟩
              · refine xf <| xk <| bn <| es <| rz ?_
                cases h
                exact en ⟨rfl, wk []⟩
            · refine xf <| xx <| ee ?_
              cases h
              exact en ⟨rfl, wk []⟩
          · rcases e335 with e335 | e335
            · try dsimp only at h ⊢
              refine br <| er <| br <| er ?_
              cases h
              exact en ⟨rfl, wk []⟩
            · try dsimp only at h ⊢
              refine bh <| es <| xs <| xs <| rK fun K406 RK406 hK406 gK406 => zz ?_
              obtain ⟨r407, h408, h⟩ := bs h
              refine cw (a_ref08_Valid hI h408) <| zz ?_
              subst hK406 gK406
              refine es ?_
              rcases iK k h with ⟨k, h⟩ | ⟨k, h⟩
              · refine xf <| xk <| es <| xs <| rK fun K412 RK412 hK412 gK412 => zz ?_
                rcases iK k h with ⟨k, h⟩ | ⟨k, h⟩
                · refine zz ?_
                  subst hK412 gK412
                  refine es <| xt <| xs <| rz ?_
                  refine es <| xr <| br <| er ?_
                  cases h
                  exact en ⟨rfl, wk []⟩
                · refine zz ?_
                  subst hK412 gK412
                  refine es ?_
                  rcases iK k h with ⟨k, h⟩ | ⟨k, h⟩
                  · refine xt <| xs <| rz ?_
                    refine es <| xr <| br <| er ?_
                    cases h
                    exact en ⟨rfl, wk []⟩
                  · refine xf <| xk <| bn <| es <| rz ?_
                    cases h
                    exact en ⟨rfl, wk []⟩
              · refine xt <| xs <| rz ?_
                refine es <| xr <| er <| br <| er ?_
                cases h
                exact en ⟨rfl, wk []⟩
      · refine xf <| xx <| ee ?_
        cases h
        exact en ⟨rfl, wk []⟩
    · rcases e11 with e11 | e11
      · try dsimp only at h ⊢
        refine br <| er ?_
        cases h
        exact en fr
      · try dsimp only at h ⊢
        refine bh <| es <| xs <| rz ?_
        refine es <| xr ?_
        cases h
        exact en fr
def g_ref36_Check (p_0 : T_api_Paragraph) : Option (Int) :=
  ((g_ref34_Check p_0.Tokens).bind fun r7 => (if (r7 != 0) then (some r7) else (if ((p_0.Tokens.length : Int) == 0) then (some 6) else (((if (decide (p_0.Width < 1)) then (some true) else (if (decide (32 < p_0.Width)) then (some true) else (if (decide (p_0.Rows < 1)) then (some true) else (some (decide (4 < p_0.Rows)))))) : Option (Bool)).bind fun v45 => (if v45 then (some 2) else ((g_ref35_Check p_0.Table).bind fun r58 => (some r58)))))))
theorem a_ref36_Check {I : World → Prop} (hI : Stab I) {p_0 : T_api_Paragraph} {r : Int} (h : g_ref36_Check p_0 = some r) : AFun Tryz.prog I 71 [T_api_Paragraph.d p_0] (.int .i64 r) := by
  have dd := dd_EE; have k := True.intro; have q := k; have rs := Tryz.results71
  unfold g_ref36_Check at h
  refine .en hI Tryz.func71 Tryz.ntmps71 ?_
  refine xs <| rz ?_
  refine es <| xs <| xs <| rK fun K6 RK6 hK6 gK6 => zz ?_
  obtain ⟨r7, h8, h⟩ := bs h
  refine cw (a_ref34_Check hI h8) <| zz ?_
  subst hK6 gK6
  refine es <| xs <| rz ?_
  refine es ?_
  rcases iK k h with ⟨k, h⟩ | ⟨k, h⟩
  · refine xt <| xs <| rz ?_
    refine es <| xr <| er ?_
    cases h
    exact en fr
  · refine xf <| xk <| es <| xs <| xb <| xs <| rz ?_
    refine es ?_
    rcases iK k h with ⟨k, h⟩ | ⟨k, h⟩
    · refine xt <| xs <| rz ?_
      refine es <| xr <| br <| er ?_
      cases h
      exact en fr
    · refine xf ?_
      obtain ⟨v45, h50, h⟩ := bs h
      refine rb_cut (fun v45 => ⟨envL [(1, .ptr 0 0), (15, .bool v45)], heapL [(0, .box none [.sl (p_0.Tokens.map T_api_Token.d), .int .i64 p_0.Width, .int .i64 p_0.Rows, .int .i64 p_0.Table.Strength.a0, .int .i64 p_0.Table.Strength.a1, .int .i64 p_0.Table.Strength.a2, .int .i64 p_0.Table.Strength.a3, .int .i64 p_0.Table.Strength.a4, .int .i64 p_0.Table.Strength.a5, .int .i64 p_0.Table.Ragged, .int .i64 p_0.Table.Row, .int .i64 p_0.Table.Event, .int .i64 p_0.Table.Fast, .int .i64 p_0.Table.Gap, .int .i64 p_0.Table.Shot])], 1, 37⟩) h50 ?_ ?_
      · clear h
        intro v45 h
        refine rK fun K46 RK46 hK46 gK46 => zz ?_
        rcases iK k h with ⟨k, h⟩ | ⟨k, h⟩
        · refine zz ?_
          subst hK46 gK46
          cases h
          exact en ⟨rfl, wk []⟩
        · refine zz ?_
          rcases iK k h with ⟨k, h⟩ | ⟨k, h⟩
          · refine zz ?_
            subst hK46 gK46
            cases h
            exact en ⟨rfl, wk []⟩
          · refine zz ?_
            rcases iK k h with ⟨k, h⟩ | ⟨k, h⟩
            · refine zz ?_
              subst hK46 gK46
              cases h
              exact en ⟨rfl, wk []⟩
            · refine zz ?_
              subst hK46 gK46
              cases h
              exact en ⟨rfl, wk []⟩
      · rcases iK k h with ⟨k, h⟩ | ⟨k, h⟩
        · refine xt <| xs <| rz ?_
          refine es <| xr <| br <| er ?_
          cases h
          exact en fr
        · refine xf <| xk <| bn <| es <| xs <| rK fun K57 RK57 hK57 gK57 => zz ?_
          obtain ⟨r58, h59, h⟩ := bs h
          refine cw (a_ref35_Check hI h59) <| zz ?_
          subst hK57 gK57
          refine es <| xr ?_
          cases h
          exact en fr
def g_ref08_Len (s_0 : List UInt8) : Option (Int) :=
  ((g_ref08_Valid s_0).bind fun r7 => (if r7 then ((g_ref08_runes s_0).bind fun r14 => (some (r14.length : Int))) else (some (-1))))
theorem a_ref08_Len {I : World → Prop} (hI : Stab I) {s_0 : List UInt8} {r : Int} (h : g_ref08_Len s_0 = some r) : AFun Tryz.prog I 33 [.str s_0] (.int .i64 r) := by
  have dd := dd_EE; have k := True.intro; have q := k; have rs := Tryz.results33
  unfold g_ref08_Len at h
  refine .en hI Tryz.func33 Tryz.ntmps33 ?_
  refine xs <| rz ?_
  refine es <| xs <| xs <| rK fun K6 RK6 hK6 gK6 => zz ?_
  obtain ⟨r7, h8, h⟩ := bs h
  refine cw (a_ref08_Valid hI h8) <| zz ?_
  subst hK6 gK6
  refine es ?_
  rcases iK k h with ⟨k, h⟩ | ⟨k, h⟩
  · refine xf <| xk <| es <| xs <| rK fun K13 RK13 hK13 gK13 => zz ?_
    obtain ⟨r14, h15, h⟩ := bs h
    refine cw (a_ref08_runes hI h15) <| zz ?_
    subst hK13 gK13
    refine es <| xr ?_
    cases h
    exact en fr
  · refine xt <| xs <| rz ?_
    refine es <| xr <| er ?_
    cases h
    exact en fr
def g_ref34_Len_s1 (l_0 : List T_api_Token) (from_1 : Int) (to_2 : Int) (x18 : Int × Int) : Option (Nx (Int × Int) (Int)) :=
  (if (decide (x18.2 < to_2)) then (if (decide (from_1 < x18.2)) then ((atI l_0 x18.2).bind fun y75 => ((g_ref08_Len y75.Text).bind fun r77 => (some (.go ((IntKind.i64.wrap ((IntKind.i64.wrap (x18.1 + 1)) + r77)), (IntKind.i64.wrap (x18.2 + 1))))))) else ((atI l_0 x18.2).bind fun y81 => ((g_ref08_Len y81.Text).bind fun r83 => (some (.go ((IntKind.i64.wrap (x18.1 + r83)), (IntKind.i64.wrap (x18.2 + 1)))))))) else (some (.out x18.1)))
def g_ref34_Len (l_0 : List T_api_Token) (from_1 : Int) (to_2 : Int) : Option (Int) :=
  (((if (decide (from_1 < 0)) then (some true) else (if (decide (to_2 < from_1)) then (some true) else (some (decide ((l_0.length : Int) < to_2))))) : Option (Bool)).bind fun v6 => (if v6 then (some 0) else ((iter (g_ref34_Len_s1 l_0 from_1 to_2) (0, from_1)).bind fun e19 => (some e19))))
theorem a_ref34_Len {I : World → Prop} (hI : Stab I) {l_0 : List T_api_Token} {from_1 : Int} {to_2 : Int} {r : Int} (h : g_ref34_Len l_0 from_1 to_2 = some r) : AFun Tryz.prog I 125 [.sl (l_0.map T_api_Token.d), .int .i64 from_1, .int .i64 to_2] (.int .i64 r) := by
  have dd := dd_EE; have k := True.intro; have q := k; have rs := Tryz.results125
  unfold g_ref34_Len at h
  refine .en hI Tryz.func125 Tryz.ntmps125 ?_
  refine xs <| rz ?_
  refine es <| xs ?_
  obtain ⟨v6, h10, h⟩ := bs h
  refine rb_cut (fun v6 => ⟨envL [(0, .sl (l_0.map T_api_Token.d)), (1, .int .i64 from_1), (2, .int .i64 to_2), (21, .bool v6)], heapL [], 0, 42⟩) h10 ?_ ?_
  · clear h
    intro v6 h
    refine rK fun K7 RK7 hK7 gK7 => zz ?_
    rcases iK k h with ⟨k, h⟩ | ⟨k, h⟩
    · refine zz ?_
      subst hK7 gK7
      cases h
      exact en ⟨rfl, wk []⟩
    · refine zz ?_
      rcases iK k h with ⟨k, h⟩ | ⟨k, h⟩
      · refine zz ?_
        subst hK7 gK7
        cases h
        exact en ⟨rfl, wk []⟩
      · refine zz ?_
        subst hK7 gK7
        cases h
        exact en ⟨rfl, wk []⟩
  · rcases iK k h with ⟨k, h⟩ | ⟨k, h⟩
    · refine xt <| xs <| rz ?_
      refine es <| xr <| er ?_
      cases h
      exact en fr
    · refine xf <| xk <| es <| xs <| rz ?_
      refine es <| xs <| xs <| rz ?_
      refine es <| xb ?_
      obtain ⟨e19, h86, h⟩ := bs h
      refine rb_loop (fun x18 => ⟨envL [(0, .sl (l_0.map T_api_Token.d)), (1, .int .i64 from_1), (2, .int .i64 to_2), (7, .int .i64 x18.1), (8, .int .i64 x18.2)], heapL [], 0, 42⟩) (fun _ => .exit 0) (fun e19 => ⟨envL [(7, .int .i64 e19)], heapL [], 0, 42⟩) h86 (wk []) (by intro w; simp) ?_ ?_
      · clear h
        intro x18 y h
        unfold g_ref34_Len_s1 at h
        refine xs <| xs <| rz ?_
        refine es ?_
        rcases iK k h with ⟨k, h⟩ | ⟨k, h⟩
        · refine xt <| xk <| es <| xs <| xb <| xs <| xs <| rz ?_
          refine es ?_
          rcases iK k h with ⟨k, h⟩ | ⟨k, h⟩
          · refine xt <| rz ?_
            refine es <| rK fun K74 RK74 hK74 gK74 => zz ?_
            obtain ⟨y75, q, h⟩ := bK q h
            refine zz ?_
            obtain ⟨r77, h78, h⟩ := bs h
            refine cw (a_ref08_Len hI h78) <| zz ?_
            subst hK74 gK74
            refine bn <| es <| rz ?_
            cases h
            exact en ⟨rfl, wk []⟩
          · refine xf <| xk <| es <| rK fun K80 RK80 hK80 gK80 => zz ?_
            obtain ⟨y81, q, h⟩ := bK q h
            refine zz ?_
            obtain ⟨r83, h84, h⟩ := bs h
            refine cw (a_ref08_Len hI h84) <| zz ?_
            subst hK80 gK80
            refine bn <| es <| rz ?_
            cases h
            exact en ⟨rfl, wk []⟩
        · refine xf <| xx <| ee ?_
          cases h
          exact en ⟨rfl, wk []⟩
      · refine bh <| es <| xs <| rz ?_
        refine es <| xr ?_
        cases h
        exact en fr
def g_ref36_Fits (p_0 : T_api_Paragraph) (i_1 : Int) (j_2 : Int) : Option (Bool) :=
  ((g_ref34_Len p_0.Tokens i_1 j_2).bind fun r7 => (some (decide (r7 ≤ p_0.Width))))
theorem a_ref36_Fits {I : World → Prop} (hI : Stab I) {p_0 : T_api_Paragraph} {i_1 : Int} {j_2 : Int} {r : Bool} (h : g_ref36_Fits p_0 i_1 j_2 = some r) : AFun Tryz.prog I 73 [T_api_Paragraph.d p_0, .int .i64 i_1, .int .i64 j_2] (.bool r) := by
  have dd := dd_EE; have k := True.intro; have q := k; have rs := Tryz.results73
  unfold g_ref36_Fits at h
  refine .en hI Tryz.func73 Tryz.ntmps73 ?_
  refine xs <| rz ?_
  refine es <| xs <| rD hI fun K6 RK6 hK6 gK6 => zz ?_
  obtain ⟨r7, h8, h⟩ := bs h
  refine cd (a_ref34_Len hI h8) <| zz ?_
  subst hK6 gK6
  refine es <| xr ?_
  cases h
  exact en fr
def g_ref35_within (n_0 : Int) (lo_1 : Int) (hi_2 : Int) : Option (Bool) :=
  (if (decide (lo_1 ≤ n_0)) then (some (decide (n_0 ≤ hi_2))) else (some false))
theorem a_ref35_within {I : World → Prop} (hI : Stab I) {n_0 : Int} {lo_1 : Int} {hi_2 : Int} {r : Bool} (h : g_ref35_within n_0 lo_1 hi_2 = some r) : AFun Tryz.prog I 79 [.int .i64 n_0, .int .i64 lo_1, .int .i64 hi_2] (.bool r) := by
  have dd := dd_EE; have k := True.intro; have q := k; have rs := Tryz.results79
  unfold g_ref35_within at h
  refine .en hI Tryz.func79 Tryz.ntmps79 ?_
  refine xs <| rz ?_
  refine es <| xs <| rK fun K5 RK5 hK5 gK5 => zz ?_
  rcases iK k h with ⟨k, h⟩ | ⟨k, h⟩
  · refine zz ?_
    subst hK5 gK5
    refine es <| xr ?_
    cases h
    exact en fr
  · refine zz ?_
    subst hK5 gK5
    refine es <| xr ?_
    cases h
    exact en fr
def g_ref35_Aim (total_0 : Int) (width_1 : Int) : Option (Int × Int) :=
  ((((g_ref35_within total_0 1 10000).bind fun r11 => (if r11 then ((g_ref35_within width_1 1 32).bind fun r14 => (some (!r14))) else (some true))) : Option (Bool)).bind fun v9 => (if v9 then (some (0, 2)) else (if ¬ width_1 = 0 then (if ¬ (IntKind.i64.wrap (Int.tdiv (IntKind.i64.wrap ((IntKind.i64.wrap (total_0 + width_1)) - 1)) width_1)) = 0 then (some ((IntKind.i64.wrap (Int.tdiv (IntKind.i64.wrap ((IntKind.i64.wrap (total_0 + (IntKind.i64.wrap (Int.tdiv (IntKind.i64.wrap ((IntKind.i64.wrap (total_0 + width_1)) - 1)) width_1)))) - 1)) (IntKind.i64.wrap (Int.tdiv (IntKind.i64.wrap ((IntKind.i64.wrap (total_0 + width_1)) - 1)) width_1)))), 0)) else none) else none)))
theorem a_ref35_Aim {I : World → Prop} (hI : Stab I) {total_0 : Int} {width_1 : Int} {r : Int × Int} (h : g_ref35_Aim total_0 width_1 = some r) : AFun Tryz.prog I 126 [.int .i64 total_0, .int .i64 width_1] (.tup [.int .i64 r.1, .int .i64 r.2]) := by
  have dd := dd_EE; have k := True.intro; have q := k; have rs := Tryz.results126
  unfold g_ref35_Aim at h
  refine .en hI Tryz.func126 Tryz.ntmps126 ?_
  refine xs <| rz ?_
  refine es <| xs ?_
  obtain ⟨v9, h16, h⟩ := bs h
  refine rb_cut (fun v9 => ⟨envL [(0, .int .i64 total_0), (1, .int .i64 width_1), (14, .bool v9)], heapL [], 0, 27⟩) h16 ?_ ?_
  · clear h
    intro v9 h
    refine rK fun K10 RK10 hK10 gK10 => zz ?_
    obtain ⟨r11, h12, h⟩ := bs h
    refine cw (a_ref35_within hI h12) <| zz ?_
    rcases iK k h with ⟨k, h⟩ | ⟨k, h⟩
    · refine zz ?_
      obtain ⟨r14, h15, h⟩ := bs h
      refine cw (a_ref35_within hI h15) <| zz ?_
      subst hK10 gK10
      cases h
      exact en ⟨rfl, wk []⟩
    · refine zz ?_
      subst hK10 gK10
      cases h
      exact en ⟨rfl, wk []⟩
  · rcases iK k h with ⟨k, h⟩ | ⟨k, h⟩
    · refine xt <| xs <| rz ?_
      refine es <| xr <| er ?_
      cases h
      exact en fr
    · refine xf <| xk <| es <| xs <| rK fun K21 RK21 hK21 gK21 => zz ?_
      obtain ⟨q, h⟩ := oK q h
      refine zz ?_
      subst hK21 gK21
      refine es <| xs <| rK fun K23 RK23 hK23 gK23 => zz ?_
      obtain ⟨q, h⟩ := oK q h
      refine zz ?_
      subst hK23 gK23
      refine es <| xr ?_
      cases h
      exact en fr
def g_ref35_Row (t_0 : T_api_Penalties) (aim_1 : Int) (length_2 : Int) (strength_3 : Int) : Option (Int × Int) :=
  ((g_ref35_Check t_0).bind fun r7 => (if (r7 != 0) then (some (0, r7)) else ((((g_ref35_within aim_1 1 32).bind fun r25 => (if r25 then ((g_ref35_within length_2 1 32).bind fun r28 => (if r28 then ((g_ref35_within strength_3 (-1) 5).bind fun r31 => (some (!r31))) else (some true))) else (some true))) : Option (Bool)).bind fun v23 => (if v23 then (some (0, 2)) else (if (decide ((IntKind.i64.wrap (aim_1 - length_2)) < 0)) then (if (decide (0 ≤ strength_3)) then (if strength_3 == 0 then (some ((IntKind.i64.wrap ((IntKind.i64.wrap (t_0.Row + (IntKind.i64.wrap (t_0.Ragged * (IntKind.i64.wrap (0 - (IntKind.i64.wrap (aim_1 - length_2)))))))) + t_0.Strength.a0)), 0)) else (if strength_3 == 1 then (some ((IntKind.i64.wrap ((IntKind.i64.wrap (t_0.Row + (IntKind.i64.wrap (t_0.Ragged * (IntKind.i64.wrap (0 - (IntKind.i64.wrap (aim_1 - length_2)))))))) + t_0.Strength.a1)), 0)) else (if strength_3 == 2 then (some ((IntKind.i64.wrap ((IntKind.i64.wrap (t_0.Row + (IntKind.i64.wrap (t_0.Ragged * (IntKind.i64.wrap (0 - (IntKind.i64.wrap (aim_1 - length_2)))))))) + t_0.Strength.a2)), 0)) else (if strength_3 == 3 then (some ((IntKind.i64.wrap ((IntKind.i64.wrap (t_0.Row + (IntKind.i64.wrap (t_0.Ragged * (IntKind.i64.wrap (0 - (IntKind.i64.wrap (aim_1 - length_2)))))))) + t_0.Strength.a3)), 0)) else (if strength_3 == 4 then (some ((IntKind.i64.wrap ((IntKind.i64.wrap (t_0.Row + (IntKind.i64.wrap (t_0.Ragged * (IntKind.i64.wrap (0 - (IntKind.i64.wrap (aim_1 - length_2)))))))) + t_0.Strength.a4)), 0)) else (if strength_3 == 5 then (some ((IntKind.i64.wrap ((IntKind.i64.wrap (t_0.Row + (IntKind.i64.wrap (t_0.Ragged * (IntKind.i64.wrap (0 - (IntKind.i64.wrap (aim_1 - length_2)))))))) + t_0.Strength.a5)), 0)) else none)))))) else (some ((IntKind.i64.wrap (t_0.Row + (IntKind.i64.wrap (t_0.Ragged * (IntKind.i64.wrap (0 - (IntKind.i64.wrap (aim_1 - length_2)))))))), 0))) else (if (decide (0 ≤ strength_3)) then (if strength_3 == 0 then (some ((IntKind.i64.wrap ((IntKind.i64.wrap (t_0.Row + (IntKind.i64.wrap (t_0.Ragged * (IntKind.i64.wrap (aim_1 - length_2)))))) + t_0.Strength.a0)), 0)) else (if strength_3 == 1 then (some ((IntKind.i64.wrap ((IntKind.i64.wrap (t_0.Row + (IntKind.i64.wrap (t_0.Ragged * (IntKind.i64.wrap (aim_1 - length_2)))))) + t_0.Strength.a1)), 0)) else (if strength_3 == 2 then (some ((IntKind.i64.wrap ((IntKind.i64.wrap (t_0.Row + (IntKind.i64.wrap (t_0.Ragged * (IntKind.i64.wrap (aim_1 - length_2)))))) + t_0.Strength.a2)), 0)) else (if strength_3 == 3 then (some ((IntKind.i64.wrap ((IntKind.i64.wrap (t_0.Row + (IntKind.i64.wrap (t_0.Ragged * (IntKind.i64.wrap (aim_1 - length_2)))))) + t_0.Strength.a3)), 0)) else (if strength_3 == 4 then (some ((IntKind.i64.wrap ((IntKind.i64.wrap (t_0.Row + (IntKind.i64.wrap (t_0.Ragged * (IntKind.i64.wrap (aim_1 - length_2)))))) + t_0.Strength.a4)), 0)) else (if strength_3 == 5 then (some ((IntKind.i64.wrap ((IntKind.i64.wrap (t_0.Row + (IntKind.i64.wrap (t_0.Ragged * (IntKind.i64.wrap (aim_1 - length_2)))))) + t_0.Strength.a5)), 0)) else none)))))) else (some ((IntKind.i64.wrap (t_0.Row + (IntKind.i64.wrap (t_0.Ragged * (IntKind.i64.wrap (aim_1 - length_2)))))), 0))))))))
theorem a_ref35_Row {I : World → Prop} (hI : Stab I) {t_0 : T_api_Penalties} {aim_1 : Int} {length_2 : Int} {strength_3 : Int} {r : Int × Int} (h : g_ref35_Row t_0 aim_1 length_2 strength_3 = some r) : AFun Tryz.prog I 127 [T_api_Penalties.d t_0, .int .i64 aim_1, .int .i64 length_2, .int .i64 strength_3] (.tup [.int .i64 r.1, .int .i64 r.2]) := by
  have dd := dd_EE; have k := True.intro; have q := k; have rs := Tryz.results127
  unfold g_ref35_Row at h
  refine .en hI Tryz.func127 Tryz.ntmps127 ?_
  refine xs <| rz ?_
  refine es <| xs <| xs <| rK fun K6 RK6 hK6 gK6 => zz ?_
  obtain ⟨r7, h8, h⟩ := bs h
  refine cw (a_ref35_Check hI h8) <| zz ?_
  subst hK6 gK6
  refine es <| xs <| rz ?_
  refine es ?_
  rcases iK k h with ⟨k, h⟩ | ⟨k, h⟩
  · refine xt <| xs <| rz ?_
    refine es <| xr <| er ?_
    cases h
    exact en fr
  · refine xf <| xk <| es <| xs ?_
    obtain ⟨v23, h33, h⟩ := bs h
    refine rb_cut (fun v23 => ⟨envL [(1, .int .i64 aim_1), (2, .int .i64 length_2), (3, .int .i64 strength_3), (4, .iptr [.int .i64 t_0.Strength.a0, .int .i64 t_0.Strength.a1, .int .i64 t_0.Strength.a2, .int .i64 t_0.Strength.a3, .int .i64 t_0.Strength.a4, .int .i64 t_0.Strength.a5, .int .i64 t_0.Ragged, .int .i64 t_0.Row, .int .i64 t_0.Event, .int .i64 t_0.Fast, .int .i64 t_0.Gap, .int .i64 t_0.Shot]), (30, .bool v23)], heapL [], 0, 54⟩) h33 ?_ ?_
    · clear h
      intro v23 h
      refine rK fun K24 RK24 hK24 gK24 => zz ?_
      obtain ⟨r25, h26, h⟩ := bs h
      refine cw (a_ref35_within hI h26) <| zz ?_
      rcases iK k h with ⟨k, h⟩ | ⟨k, h⟩
      · refine zz ?_
        obtain ⟨r28, h29, h⟩ := bs h
        refine cw (a_ref35_within hI h29) <| zz ?_
        rcases iK k h with ⟨k, h⟩ | ⟨k, h⟩
        · refine zz ?_
          obtain ⟨r31, h32, h⟩ := bs h
          refine cw (a_ref35_within hI h32) <| zz ?_
          subst hK24 gK24
          cases h
          exact en ⟨rfl, wk []⟩
        · refine zz ?_
          subst hK24 gK24
          cases h
          exact en ⟨rfl, wk []⟩
      · refine zz ?_
        subst hK24 gK24
        cases h
        exact en ⟨rfl, wk []⟩
    · rcases iK k h with ⟨k, h⟩ | ⟨k, h⟩
      · refine xt <| xs <| rz ?_
        refine es <| xr <| er ?_
        cases h
        exact en fr
      · refine xf <| xk <| es <| xs <| rz ?_
        refine es <| xs <| xs <| rz ?_
        refine es ?_
        rcases iK k h with ⟨k, h⟩ | ⟨k, h⟩
        · refine xt <| rz ?_
          refine es <| xs <| rz ?_
          refine es <| xs <| xs <| rz ?_
          refine es ?_
          rcases iK k h with ⟨k, h⟩ | ⟨k, h⟩
          · refine xt <| rK fun K48 RK48 hK48 gK48 => zz ?_
            rcases ite_or h with ⟨k49, h⟩ | ⟨_, h⟩
            · have k := And.intro (eq_of_beq k49) k
              refine zz ?_
              subst hK48 gK48
              refine es <| xs <| rz ?_
              refine es <| xr ?_
              cases h
              exact en fr
            · rcases ite_or h with ⟨k52, h⟩ | ⟨_, h⟩
              · have k := And.intro (eq_of_beq k52) k
                refine zz ?_
                subst hK48 gK48
                refine es <| xs <| rz ?_
                refine es <| xr ?_
                cases h
                exact en fr
              · rcases ite_or h with ⟨k55, h⟩ | ⟨_, h⟩
                · have k := And.intro (eq_of_beq k55) k
                  refine zz ?_
                  subst hK48 gK48
                  refine es <| xs <| rz ?_
                  refine es <| xr ?_
                  cases h
                  exact en fr
                · rcases ite_or h with ⟨k58, h⟩ | ⟨_, h⟩
                  · have k := And.intro (eq_of_beq k58) k
                    refine zz ?_
                    subst hK48 gK48
                    refine es <| xs <| rz ?_
                    refine es <| xr ?_
                    cases h
                    exact en fr
                  · rcases ite_or h with ⟨k61, h⟩ | ⟨_, h⟩
                    · have k := And.intro (eq_of_beq k61) k
                      refine zz ?_
                      subst hK48 gK48
                      refine es <| xs <| rz ?_
                      refine es <| xr ?_
                      cases h
                      exact en fr
                    · rcases ite_or h with ⟨k64, h⟩ | ⟨_, h⟩
                      · have k := And.intro (eq_of_beq k64) k
                        refine zz ?_
                        subst hK48 gK48
                        refine es <| xs <| rz ?_
                        refine es <| xr ?_
                        cases h
                        exact en fr
                      · cases h
          · refine xf <| xk <| es <| xs <| rz ?_
            refine es <| xr ?_
            cases h
            exact en fr
        · refine xf <| xk <| es <| xs <| rz ?_
          refine es <| xs <| xs <| rz ?_
          refine es ?_
          rcases iK k h with ⟨k, h⟩ | ⟨k, h⟩
          · refine xt <| rK fun K74 RK74 hK74 gK74 => zz ?_
            rcases ite_or h with ⟨k75, h⟩ | ⟨_, h⟩
            · have k := And.intro (eq_of_beq k75) k
              refine zz ?_
              subst hK74 gK74
              refine es <| xs <| rz ?_
              refine es <| xr ?_
              cases h
              exact en fr
            · rcases ite_or h with ⟨k78, h⟩ | ⟨_, h⟩
              · have k := And.intro (eq_of_beq k78) k
                refine zz ?_
                subst hK74 gK74
                refine es <| xs <| rz ?_
                refine es <| xr ?_
                cases h
                exact en fr
              · rcases ite_or h with ⟨k81, h⟩ | ⟨_, h⟩
                · have k := And.intro (eq_of_beq k81) k
                  refine zz ?_
                  subst hK74 gK74
                  refine es <| xs <| rz ?_
                  refine es <| xr ?_
                  cases h
                  exact en fr
                · rcases ite_or h with ⟨k84, h⟩ | ⟨_, h⟩
                  · have k := And.intro (eq_of_beq k84) k
                    refine zz ?_
                    subst hK74 gK74
                    refine es <| xs <| rz ?_
                    refine es <| xr ?_
                    cases h
                    exact en fr
                  · rcases ite_or h with ⟨k87, h⟩ | ⟨_, h⟩
                    · have k := And.intro (eq_of_beq k87) k
                      refine zz ?_
                      subst hK74 gK74
                      refine es <| xs <| rz ?_
                      refine es <| xr ?_
                      cases h
                      exact en fr
                    · rcases ite_or h with ⟨k90, h⟩ | ⟨_, h⟩
                      · have k := And.intro (eq_of_beq k90) k
                        refine zz ?_
                        subst hK74 gK74
                        refine es <| xs <| rz ?_
                        refine es <| xr ?_
                        cases h
                        exact en fr
                      · cases h
          · refine xf <| xk <| es <| xs <| rz ?_
            refine es <| xr ?_
            cases h
            exact en fr
def g_ref36_row (p_0 : T_api_Paragraph) (i_1 : Int) (j_2 : Int) : Option (Int) :=
  ((g_ref34_Len p_0.Tokens 0 (p_0.Tokens.length : Int)).bind fun r9 => ((g_ref35_Aim r9 p_0.Width).bind fun r11 => (if (decide (j_2 < (p_0.Tokens.length : Int))) then ((atI p_0.Tokens (IntKind.i64.wrap (j_2 - 1))).bind fun y19 => ((g_ref34_Len p_0.Tokens i_1 j_2).bind fun r27 => ((g_ref35_Row p_0.Table r11.1 r27 y19.Strength).bind fun r29 => (some r29.1)))) else ((g_ref34_Len p_0.Tokens i_1 j_2).bind fun r39 => ((g_ref35_Row p_0.Table r11.1 r39 (-1)).bind fun r41 => (some r41.1))))))
theorem a_ref36_row {I : World → Prop} (hI : Stab I) {p_0 : T_api_Paragraph} {i_1 : Int} {j_2 : Int} {r : Int} (h : g_ref36_row p_0 i_1 j_2 = some r) : AFun Tryz.prog I 74 [T_api_Paragraph.d p_0, .int .i64 i_1, .int .i64 j_2] (.int .i64 r) := by
  have dd := dd_EE; have k := True.intro; have q := k; have rs := Tryz.results74
  unfold g_ref36_row at h
  refine .en hI Tryz.func74 Tryz.ntmps74 ?_
  refine xs <| rz ?_
  refine es <| xs <| rD hI fun K8 RK8 hK8 gK8 => zz ?_
  obtain ⟨r9, h10, h⟩ := bs h
  refine cd (a_ref34_Len hI h10) <| zz ?_
  obtain ⟨r11, h12, h⟩ := bs h
  refine cd (a_ref35_Aim hI h12) <| zz ?_
  subst hK8 gK8
  refine es <| xs <| rz ?_
  refine es <| xs <| xs <| rz ?_
  refine es ?_
  rcases iK k h with ⟨k, h⟩ | ⟨k, h⟩
  · refine xt <| rK fun K18 RK18 hK18 gK18 => zz ?_
    obtain ⟨y19, q, h⟩ := bK q h
    refine zz ?_
    subst hK18 gK18
    refine es <| xs <| rD hI fun K26 RK26 hK26 gK26 => zz ?_
    obtain ⟨r27, h28, h⟩ := bs h
    refine cd (a_ref34_Len hI h28) <| zz ?_
    obtain ⟨r29, h30, h⟩ := bs h
    refine cd (a_ref35_Row hI h30) <| zz ?_
    subst hK26 gK26
    refine es <| xs <| rz ?_
    refine es <| xr ?_
    cases h
    exact en fr
  · refine xf <| xk <| es <| xs <| rD hI fun K38 RK38 hK38 gK38 => zz ?_
    obtain ⟨r39, h40, h⟩ := bs h
    refine cd (a_ref34_Len hI h40) <| zz ?_
    obtain ⟨r41, h42, h⟩ := bs h
    refine cd (a_ref35_Row hI h42) <| zz ?_
    subst hK38 gK38
    refine es <| xs <| rz ?_
    refine es <| xr ?_
    cases h
    exact en fr
def g_ref36_potentials_s3 (p_0 : T_api_Paragraph) (x23 : Int × (List Int)) (x5613 : Int × (List Int)) (x6545 : Int × Int) : Option (Nx (Int × Int) (Int)) :=
  (((if (decide (x6545.2 ≤ (p_0.Tokens.length : Int))) then (if (decide (x23.1 < p_0.Rows)) then ((g_ref36_Fits p_0 x5613.1 x6545.2).bind fun r6668 => (some r6668)) else (some false)) else (some false)) : Option (Bool)).bind fun v6664 => (if v6664 then ((((atI x5613.2 (IntKind.i64.wrap ((IntKind.i64.wrap ((IntKind.i64.wrap (x23.1 + 1)) * (IntKind.i64.wrap ((p_0.Tokens.length : Int) + 1)))) + x6545.2))).bind fun y6696 => (if (decide (y6696 < 0)) then (some x6545.1) else ((g_ref36_row p_0 x5613.1 x6545.2).bind fun r6704 => (if (decide (x6545.1 < 0)) then (some (IntKind.i64.wrap (r6704 + y6696))) else (if (decide ((IntKind.i64.wrap (r6704 + y6696)) < x6545.1)) then (some (IntKind.i64.wrap (r6704 + y6696))) else (some x6545.1)))))) : Option (Int)).bind fun v6692 => (some (.go (v6692, (IntKind.i64.wrap (x6545.2 + 1)))))) else (some (.out x6545.1))))
def g_ref36_potentials_s2 (p_0 : T_api_Paragraph) (x23 : Int × (List Int)) (x5613 : Int × (List Int)) : Option (Nx (Int × (List Int)) ((List Int))) :=
  (if (decide (0 ≤ x5613.1)) then ((iter (g_ref36_potentials_s3 p_0 x23 x5613) (-1, (IntKind.i64.wrap (x5613.1 + 1)))).bind fun e6546 => ((atI x5613.2 (IntKind.i64.wrap ((IntKind.i64.wrap (x23.1 * (IntKind.i64.wrap ((p_0.Tokens.length : Int) + 1)))) + x5613.1))).bind fun y6717 => ((setI x5613.2 (IntKind.i64.wrap ((IntKind.i64.wrap (x23.1 * (IntKind.i64.wrap ((p_0.Tokens.length : Int) + 1)))) + x5613.1)) e6546).bind fun m6718 => (some (.go ((IntKind.i64.wrap (x5613.1 - 1)), m6718)))))) else (some (.out x5613.2)))
def g_ref36_potentials_s1 (p_0 : T_api_Paragraph) (x23 : Int × (List Int)) : Option (Nx (Int × (List Int)) ((List Int))) :=
  (if (decide (0 ≤ x23.1)) then ((iter (g_ref36_potentials_s2 p_0 x23) ((IntKind.i64.wrap ((p_0.Tokens.length : Int) - 1)), x23.2)).bind fun e5614 => (some (.go ((IntKind.i64.wrap (x23.1 - 1)), e5614)))) else (some (.out x23.2)))
def g_ref36_potentials (p_0 : T_api_Paragraph) : Option ((List Int)) :=
  ((mkI 8 (IntKind.i64.wrap ((IntKind.i64.wrap (p_0.Rows + 1)) * (IntKind.i64.wrap ((p_0.Tokens.length : Int) + 1)))) (0 : Int)).bind fun m14 => ((iter (g_ref36_potentials_s1 p_0) (p_0.Rows, m14)).bind fun e24 => (some e24)))
theorem a_ref36_potentials {I : World → Prop} (hI : Stab I) {p_0 : T_api_Paragraph} {r : (List Int)} (h : g_ref36_potentials p_0 = some r) : AFun Tryz.prog I 72 [T_api_Paragraph.d p_0] (.sl (r.map (D.int .i64))) := by
  have dd := dd_EE; have k := True.intro; have q := k; have rs := Tryz.results72
  unfold g_ref36_potentials at h
  refine .en hI Tryz.func72 Tryz.ntmps72 ?_
  refine xs <| rz ?_
  refine es <| xs <| rz ?_
  refine es <| xs <| rK fun K13 RK13 hK13 gK13 => zz ?_
  obtain ⟨m14, h15, h⟩ := bind_some h
  obtain ⟨h16, h17, h18, h19, h20⟩ := mkI_some h15
  have h20 := h20 (D.int .i64)
  try simp only [sevalprocAttr, List.map_nil, Int.toNat_natCast, dd] at h19 h20
  have q := And.intro @h16 <| And.intro @h17 <| And.intro @h18 <| And.intro @h19 <| And.intro @h20 <| q
  refine zz ?_
  subst hK13 gK13
  refine es <| xs <| xs <| rz ?_
  refine es <| xb ?_
  obtain ⟨e24, h6727, h⟩ := bs h
  refine rb_loop (fun x23 => ⟨envL [(1, .ptr 0 0), (3, .int .i64 (p_0.Tokens.length : Int)), (4, .own 1 x23.2.length), (5, .int .i64 x23.1)], heapL [(0, .box none [.sl (p_0.Tokens.map T_api_Token.d), .int .i64 p_0.Width, .int .i64 p_0.Rows, .int .i64 p_0.Table.Strength.a0, .int .i64 p_0.Table.Strength.a1, .int .i64 p_0.Table.Strength.a2, .int .i64 p_0.Table.Strength.a3, .int .i64 p_0.Table.Strength.a4, .int .i64 p_0.Table.Strength.a5, .int .i64 p_0.Table.Ragged, .int .i64 p_0.Table.Row, .int .i64 p_0.Table.Event, .int .i64 p_0.Table.Fast, .int .i64 p_0.Table.Gap, .int .i64 p_0.Table.Shot]), (1, .vec 2 1 (x23.2.map (D.int .i64)) false)], 2, 88⟩) (fun _ => .exit 0) (fun e24 => ⟨envL [(4, .own 0 e24.length)], heapL [(0, .vec 2 1 (e24.map (D.int .i64)) false)], 1, 88⟩) h6727 (wk [(1, some 12)]) (by intro w; simp) ?_ ?_
  · clear h
    intro x23 y h
    unfold g_ref36_potentials_s1 at h
    refine xs <| xs <| rz ?_
    refine es ?_
    rcases iK k h with ⟨k, h⟩ | ⟨k, h⟩
    · refine xt <| xk <| es <| xs <| xb <| xs <| rz ?_
      refine es <| xb ?_
      obtain ⟨e5614, h6725, h⟩ := bs h
      refine rb_loop (fun x5613 => ⟨envL [(1, .ptr 0 0), (3, .int .i64 (p_0.Tokens.length : Int)), (4, .own 1 x5613.2.length), (5, .int .i64 x23.1), (6, .int .i64 x5613.1)], heapL [(0, .box none [.sl (p_0.Tokens.map T_api_Token.d), .int .i64 p_0.Width, .int .i64 p_0.Rows, .int .i64 p_0.Table.Strength.a0, .int .i64 p_0.Table.Strength.a1, .int .i64 p_0.Table.Strength.a2, .int .i64 p_0.Table.Strength.a3, .int .i64 p_0.Table.Strength.a4, .int .i64 p_0.Table.Strength.a5, .int .i64 p_0.Table.Ragged, .int .i64 p_0.Table.Row, .int .i64 p_0.Table.Event, .int .i64 p_0.Table.Fast, .int .i64 p_0.Table.Gap, .int .i64 p_0.Table.Shot]), (1, .vec 2 1 (x5613.2.map (D.int .i64)) false)], 2, 88⟩) (fun _ => .exit 2) (fun e5614 => ⟨envL [(1, .ptr 0 0), (3, .int .i64 (p_0.Tokens.length : Int)), (4, .own 1 e5614.length), (5, .int .i64 x23.1)], heapL [(0, .box none [.sl (p_0.Tokens.map T_api_Token.d), .int .i64 p_0.Width, .int .i64 p_0.Rows, .int .i64 p_0.Table.Strength.a0, .int .i64 p_0.Table.Strength.a1, .int .i64 p_0.Table.Strength.a2, .int .i64 p_0.Table.Strength.a3, .int .i64 p_0.Table.Strength.a4, .int .i64 p_0.Table.Strength.a5, .int .i64 p_0.Table.Ragged, .int .i64 p_0.Table.Row, .int .i64 p_0.Table.Event, .int .i64 p_0.Table.Fast, .int .i64 p_0.Table.Gap, .int .i64 p_0.Table.Shot]), (1, .vec 2 1 (e5614.map (D.int .i64)) false)], 2, 88⟩) h6725 (wk []) (by intro w; simp) ?_ ?_
      · clear h
        intro x5613 y h
        unfold g_ref36_potentials_s2 at h
        refine xs <| xs <| rz ?_
        refine es ?_
        rcases iK k h with ⟨k, h⟩ | ⟨k, h⟩
        · refine xt <| xk <| es <| xs <| xb <| xs <| rz ?_
          refine es <| xs <| xs <| rz ?_
          refine es <| xb ?_
          obtain ⟨e6546, h6715, h⟩ := bs h
          refine rb_loop (fun x6545 => ⟨envL [(1, .ptr 0 0), (3, .int .i64 (p_0.Tokens.length : Int)), (4, .own 1 x5613.2.length), (5, .int .i64 x23.1), (6, .int .i64 x5613.1), (7, .int .i64 x6545.1), (8, .int .i64 x6545.2)], heapL [(0, .box none [.sl (p_0.Tokens.map T_api_Token.d), .int .i64 p_0.Width, .int .i64 p_0.Rows, .int .i64 p_0.Table.Strength.a0, .int .i64 p_0.Table.Strength.a1, .int .i64 p_0.Table.Strength.a2, .int .i64 p_0.Table.Strength.a3, .int .i64 p_0.Table.Strength.a4, .int .i64 p_0.Table.Strength.a5, .int .i64 p_0.Table.Ragged, .int .i64 p_0.Table.Row, .int .i64 p_0.Table.Event, .int .i64 p_0.Table.Fast, .int .i64 p_0.Table.Gap, .int .i64 p_0.Table.Shot]), (1, .vec 2 1 (x5613.2.map (D.int .i64)) false)], 2, 88⟩) (fun _ => .exit 4) (fun e6546 => ⟨envL [(1, .ptr 0 0), (3, .int .i64 (p_0.Tokens.length : Int)), (4, .own 1 x5613.2.length), (5, .int .i64 x23.1), (6, .int .i64 x5613.1), (7, .int .i64 e6546)], heapL [(0, .box none [.sl (p_0.Tokens.map T_api_Token.d), .int .i64 p_0.Width, .int .i64 p_0.Rows, .int .i64 p_0.Table.Strength.a0, .int .i64 p_0.Table.Strength.a1, .int .i64 p_0.Table.Strength.a2, .int .i64 p_0.Table.Strength.a3, .int .i64 p_0.Table.Strength.a4, .int .i64 p_0.Table.Strength.a5, .int .i64 p_0.Table.Ragged, .int .i64 p_0.Table.Row, .int .i64 p_0.Table.Event, .int .i64 p_0.Table.Fast, .int .i64 p_0.Table.Gap, .int .i64 p_0.Table.Shot]), (1, .vec 2 1 (x5613.2.map (D.int .i64)) false)], 2, 88⟩) h6715 (wk []) (by intro w; simp) ?_ ?_
          · clear h
            intro x6545 y h
            unfold g_ref36_potentials_s3 at h
            refine xs ?_
            obtain ⟨v6664, h6670, h⟩ := bs h
            refine rb_cut (fun v6664 => ⟨envL [(1, .ptr 0 0), (3, .int .i64 (p_0.Tokens.length : Int)), (4, .own 1 x5613.2.length), (5, .int .i64 x23.1), (6, .int .i64 x5613.1), (7, .int .i64 x6545.1), (8, .int .i64 x6545.2), (49, .bool v6664)], heapL [(0, .box none [.sl (p_0.Tokens.map T_api_Token.d), .int .i64 p_0.Width, .int .i64 p_0.Rows, .int .i64 p_0.Table.Strength.a0, .int .i64 p_0.Table.Strength.a1, .int .i64 p_0.Table.Strength.a2, .int .i64 p_0.Table.Strength.a3, .int .i64 p_0.Table.Strength.a4, .int .i64 p_0.Table.Strength.a5, .int .i64 p_0.Table.Ragged, .int .i64 p_0.Table.Row, .int .i64 p_0.Table.Event, .int .i64 p_0.Table.Fast, .int .i64 p_0.Table.Gap, .int .i64 p_0.Table.Shot]), (1, .vec 2 1 (x5613.2.map (D.int .i64)) false)], 2, 88⟩) h6670 ?_ ?_
            · clear h
              intro v6664 h
              refine rK fun K6665 RK6665 hK6665 gK6665 => zz ?_
              rcases iK k h with ⟨k, h⟩ | ⟨k, h⟩
              · refine zz ?_
                rcases iK k h with ⟨k, h⟩ | ⟨k, h⟩
                · refine zz ?_
                  obtain ⟨r6668, h6669, h⟩ := bs h
                  refine cw (a_ref36_Fits hI h6669) <| zz ?_
                  subst hK6665 gK6665
                  cases h
                  exact en ⟨rfl, wk []⟩
                · refine zz ?_
                  subst hK6665 gK6665
                  cases h
                  exact en ⟨rfl, wk []⟩
              · refine zz ?_
                subst hK6665 gK6665
                cases h
                exact en ⟨rfl, wk []⟩
            · rcases iK k h with ⟨k, h⟩ | ⟨k, h⟩
              · refine xt <| xk <| es ?_
                obtain ⟨v6692, h6713, h⟩ := bs h
                refine rb_cut (fun v6692 => ⟨envL [(1, .ptr 0 0), (3, .int .i64 (p_0.Tokens.length : Int)), (4, .own 1 x5613.2.length), (5, .int .i64 x23.1), (6, .int .i64 x5613.1), (7, .int .i64 v6692), (8, .int .i64 x6545.2)], heapL [(0, .box none [.sl (p_0.Tokens.map T_api_Token.d), .int .i64 p_0.Width, .int .i64 p_0.Rows, .int .i64 p_0.Table.Strength.a0, .int .i64 p_0.Table.Strength.a1, .int .i64 p_0.Table.Strength.a2, .int .i64 p_0.Table.Strength.a3, .int .i64 p_0.Table.Strength.a4, .int .i64 p_0.Table.Strength.a5, .int .i64 p_0.Table.Ragged, .int .i64 p_0.Table.Row, .int .i64 p_0.Table.Event, .int .i64 p_0.Table.Fast, .int .i64 p_0.Table.Gap, .int .i64 p_0.Table.Shot]), (1, .vec 2 1 (x5613.2.map (D.int .i64)) false)], 2, 88⟩) h6713 ?_ ?_
                · clear h
                  intro v6692 h
                  refine xb <| xs <| rK fun K6695 RK6695 hK6695 gK6695 => zz ?_
                  obtain ⟨y6696, q, h⟩ := oN q h
                  refine zz ?_
                  subst hK6695 gK6695
                  refine es <| xs <| xs <| rz ?_
                  refine es ?_
                  rcases iK k h with ⟨k, h⟩ | ⟨k, h⟩
                  · refine xt <| xx <| ee <| bh ?_
                    cases h
                    exact en ⟨rfl, wk []⟩
                  · refine xf <| xk <| es <| xs <| rK fun K6703 RK6703 hK6703 gK6703 => zz ?_
                    obtain ⟨r6704, h6705, h⟩ := bs h
                    refine cw (a_ref36_row hI h6705) <| zz ?_
                    subst hK6703 gK6703
                    refine es <| xs <| rK fun K6708 RK6708 hK6708 gK6708 => zz ?_
                    rcases iK k h with ⟨k, h⟩ | ⟨k, h⟩
                    · refine zz ?_
                      subst hK6708 gK6708
                      refine es <| xt <| rz ?_
                      refine bn ?_
                      cases h
                      exact en ⟨rfl, wk []⟩
                    · refine zz ?_
                      subst hK6708 gK6708
                      refine es ?_
                      rcases iK k h with ⟨k, h⟩ | ⟨k, h⟩
                      · refine xt <| rz ?_
                        refine bn ?_
                        cases h
                        exact en ⟨rfl, wk []⟩
                      · refine xf <| xk <| bn ?_
                        cases h
                        exact en ⟨rfl, wk []⟩
                · refine rz ?_
                  cases h
                  exact en ⟨rfl, wk []⟩
              · refine xf <| xx <| ee ?_
                cases h
                exact en ⟨rfl, wk []⟩
          · refine bh <| es <| rK fun K6716 RK6716 hK6716 gK6716 => zz ?_
            obtain ⟨y6717, q, h⟩ := oN q h
            refine zz ?_
            obtain ⟨m6718, h6719, h⟩ := bind_some h
            obtain ⟨h6720, h6721, h6722, h6723⟩ := setI_some h6719
            have h6723 := h6723 (D.int .i64)
            try simp only [sevalprocAttr, List.map_nil, dd] at h6723
            have q := And.intro @h6720 <| And.intro @h6721 <| And.intro @h6722 <| And.intro @h6723 <| q
            refine zz ?_
            subst hK6716 gK6716
            refine bn <| es <| rz ?_
            cases h
            exact en ⟨rfl, wk []⟩
        · refine xf <| xx <| ee ?_
          cases h
          exact en ⟨rfl, wk []⟩
      · refine bh <| bn <| es <| rz ?_
        cases h
        exact en ⟨rfl, wk []⟩
    · refine xf <| xx <| ee ?_
      cases h
      exact en ⟨rfl, wk [(0, some 1)]⟩
  · refine bh <| es <| xs <| rz ?_
    refine es <| xr ?_
    cases h
    exact en fr
def g_ref36_Break_s1 (p_0 : T_api_Paragraph) (y26 : Int) (x84 : Int) : Option (Nx (Int) (Int)) :=
  ((g_ref36_potentials (T_api_Paragraph.mk p_0.Tokens p_0.Width x84 p_0.Table)).bind fun r128 => ((atI r128 0).bind fun y130 => (if (y130 == y26) then (some (.out x84)) else (some (.go (IntKind.i64.wrap (x84 + 1)))))))
def g_ref36_Break_s3 (p_0 : T_api_Paragraph) (r143 : (List Int)) (x151 : Int × Int × (List Int)) (x1711 : Int) : Option (Nx (Int) ((List Int) × Int)) :=
  (if (decide (x1711 ≤ (p_0.Tokens.length : Int))) then ((atI r143 (IntKind.i64.wrap ((IntKind.i64.wrap ((IntKind.i64.wrap (x151.2.1 + 1)) * (IntKind.i64.wrap ((p_0.Tokens.length : Int) + 1)))) + x1711))).bind fun y1903 => ((((g_ref36_Fits p_0 x151.1 x1711).bind fun r1916 => (if r1916 then (if (decide (0 ≤ y1903)) then ((g_ref36_row p_0 x151.1 x1711).bind fun r1920 => ((atI r143 (IntKind.i64.wrap ((IntKind.i64.wrap (x151.2.1 * (IntKind.i64.wrap ((p_0.Tokens.length : Int) + 1)))) + x151.1))).bind fun y1922 => (some ((IntKind.i64.wrap (r1920 + y1903)) == y1922)))) else (some false)) else (some false))) : Option (Bool)).bind fun v1914 => (if v1914 then (if (x151.2.2.length + 1) * 8 ≤ 140737488355328 then (some (.out ((x151.2.2 ++ [x1711]), x1711))) else none) else (some (.go (IntKind.i64.wrap (x1711 + 1))))))) else (some (.out (x151.2.2, x151.1))))
def g_ref36_Break_s2 (p_0 : T_api_Paragraph) (r143 : (List Int)) (x151 : Int × Int × (List Int)) : Option (Nx (Int × Int × (List Int)) ((List Int))) :=
  (if (decide (x151.1 < (p_0.Tokens.length : Int))) then ((iter (g_ref36_Break_s3 p_0 r143 x151) (IntKind.i64.wrap (x151.1 + 1))).bind fun e1712 => (some (.go (e1712.2, (IntKind.i64.wrap (x151.2.1 + 1)), e1712.1)))) else (some (.out x151.2.2)))
def g_ref36_Break (p_0 : T_api_Paragraph) : Option (T_api_Breaks × Int) :=
  ((g_ref36_Check p_0).bind fun r7 => (if (r7 != 0) then (some ((T_api_Breaks.mk [] 0 []), r7)) else ((g_ref36_potentials p_0).bind fun r20 => ((atI r20 0).bind fun y26 => (if (decide (y26 < 0)) then (some ((T_api_Breaks.mk [] 0 []), 11)) else ((iter (g_ref36_Break_s1 p_0 y26) 1).bind fun e85 => ((g_ref36_potentials (T_api_Paragraph.mk p_0.Tokens p_0.Width e85 p_0.Table)).bind fun r143 => ((iter (g_ref36_Break_s2 p_0 r143) (0, 0, [])).bind fun e152 => (some ((T_api_Breaks.mk e152 y26 r20), 0))))))))))
theorem a_ref36_Break {I : World → Prop} (hI : Stab I) {p_0 : T_api_Paragraph} {r : T_api_Breaks × Int} (h : g_ref36_Break p_0 = some r) : AFun Tryz.prog I 32 [T_api_Paragraph.d p_0] (.tup [T_api_Breaks.d r.1, .int .i64 r.2]) := by
  have dd := dd_EE; have k := True.intro; have q := k; have rs := Tryz.results32
  unfold g_ref36_Break at h
  refine .en hI Tryz.func32 Tryz.ntmps32 ?_
  refine xs <| rz ?_
  refine es <| xs <| xs <| rK fun K6 RK6 hK6 gK6 => zz ?_
  obtain ⟨r7, h8, h⟩ := bs h
  refine cw (a_ref36_Check hI h8) <| zz ?_
  subst hK6 gK6
  refine es <| xs <| rz ?_
  refine es ?_
  rcases iK k h with ⟨k, h⟩ | ⟨k, h⟩
  · refine xt <| xs <| rz ?_
    refine es <| xr <| er ?_
    cases h
    exact en fr
  · refine xf <| xk <| es <| xs <| rz ?_
    refine es <| xs <| rK fun K19 RK19 hK19 gK19 => zz ?_
    obtain ⟨r20, h21, h⟩ := bs h
    refine cw (a_ref36_potentials hI h21) <| zz ?_
    subst hK19 gK19
    refine es <| xs <| xs <| rK fun K25 RK25 hK25 gK25 => zz ?_
    obtain ⟨y26, q, h⟩ := bK q h
    refine zz ?_
    subst hK25 gK25
    refine es ?_
    rcases iK k h with ⟨k, h⟩ | ⟨k, h⟩
    · refine xt <| xs <| rz ?_
      refine es <| xr <| er ?_
      cases h
      exact en fr
    · refine xf <| xk <| es <| xs <| rz ?_
      refine es <| xs <| xb ?_
      obtain ⟨e85, h134, h⟩ := bs h
      refine rb_loop (fun x84 => ⟨envL [(1, .ptr 0 0), (2, .ptr 1 0), (5, .int .i64 (p_0.Tokens.length : Int)), (6, .sl (r20.map (D.int .i64))), (7, .int .i64 x84)], heapL [(0, .box none [.sl (p_0.Tokens.map T_api_Token.d), .int .i64 p_0.Width, .int .i64 p_0.Rows, .int .i64 p_0.Table.Strength.a0, .int .i64 p_0.Table.Strength.a1, .int .i64 p_0.Table.Strength.a2, .int .i64 p_0.Table.Strength.a3, .int .i64 p_0.Table.Strength.a4, .int .i64 p_0.Table.Strength.a5, .int .i64 p_0.Table.Ragged, .int .i64 p_0.Table.Row, .int .i64 p_0.Table.Event, .int .i64 p_0.Table.Fast, .int .i64 p_0.Table.Gap, .int .i64 p_0.Table.Shot]), (1, .box none [.nils, .int .i64 0, .nils])], 2, 111⟩) (fun _ => .exit 0) (fun e85 => ⟨envL [(1, .ptr 0 0), (2, .ptr 1 0), (5, .int .i64 (p_0.Tokens.length : Int)), (6, .sl (r20.map (D.int .i64))), (7, .int .i64 e85)], heapL [(0, .box none [.sl (p_0.Tokens.map T_api_Token.d), .int .i64 p_0.Width, .int .i64 p_0.Rows, .int .i64 p_0.Table.Strength.a0, .int .i64 p_0.Table.Strength.a1, .int .i64 p_0.Table.Strength.a2, .int .i64 p_0.Table.Strength.a3, .int .i64 p_0.Table.Strength.a4, .int .i64 p_0.Table.Strength.a5, .int .i64 p_0.Table.Ragged, .int .i64 p_0.Table.Row, .int .i64 p_0.Table.Event, .int .i64 p_0.Table.Fast, .int .i64 p_0.Table.Gap, .int .i64 p_0.Table.Shot]), (1, .box none [.nils, .int .i64 0, .nils])], 2, 111⟩) h134 (wk []) (by intro w; simp) ?_ ?_
      · clear h
        intro x84 y h
        unfold g_ref36_Break_s1 at h
        refine xb <| xs <| rz ?_
        refine es <| xs <| rz ?_
        refine es <| xs <| xs <| rD hI fun K127 RK127 hK127 gK127 => zz ?_
        obtain ⟨r128, h129, h⟩ := bs h
        refine cd (a_ref36_potentials hI h129) <| zz ?_
        obtain ⟨y130, q, h⟩ := bK q h
        refine zz ?_
        subst hK127 gK127
        refine es ?_
        rcases iK k h with ⟨k, h⟩ | ⟨k, h⟩
        · refine xt <| xx <| ee <| bm ?_
          cases h
          exact en ⟨rfl, wk []⟩
        · refine xf <| xk <| es <| rz ?_
          refine bn ?_
          cases h
          exact en ⟨rfl, wk []⟩
      · refine bh <| es <| xs <| rz ?_
        refine es <| xs <| rz ?_
        refine es <| xs <| rK fun K142 RK142 hK142 gK142 => zz ?_
        obtain ⟨r143, h144, h⟩ := bs h
        refine cw (a_ref36_potentials hI h144) <| zz ?_
        subst hK142 gK142
        refine es <| xs <| rz ?_
        refine es <| xs <| rz ?_
        refine es <| xs <| xs <| rz ?_
        refine es <| xb ?_
        obtain ⟨e152, h1937, h⟩ := bs h
        refine rb_loop (fun x151 => ⟨envL [(1, .ptr 0 0), (2, .ptr 1 0), (5, .int .i64 (p_0.Tokens.length : Int)), (10, .sl (r143.map (D.int .i64))), (11, .ptr 2 0), (12, .int .i64 x151.1), (13, .int .i64 x151.2.1)], heapL [(0, .box none [.sl (p_0.Tokens.map T_api_Token.d), .int .i64 p_0.Width, .int .i64 p_0.Rows, .int .i64 p_0.Table.Strength.a0, .int .i64 p_0.Table.Strength.a1, .int .i64 p_0.Table.Strength.a2, .int .i64 p_0.Table.Strength.a3, .int .i64 p_0.Table.Strength.a4, .int .i64 p_0.Table.Strength.a5, .int .i64 p_0.Table.Ragged, .int .i64 p_0.Table.Row, .int .i64 p_0.Table.Event, .int .i64 p_0.Table.Fast, .int .i64 p_0.Table.Gap, .int .i64 p_0.Table.Shot]), (1, .box none [.nils, .int .i64 0, .nils]), (2, .box none [.own 3 x151.2.2.length, .int .i64 y26, .sl (r20.map (D.int .i64))]), (3, .vec 3 1 (x151.2.2.map (D.int .i64)) false)], 4, 111⟩) (fun _ => .exit 2) (fun e152 => ⟨envL [(2, .ptr 0 0), (11, .ptr 1 0)], heapL [(0, .box none [.nils, .int .i64 0, .nils]), (1, .box none [.own 2 e152.length, .int .i64 y26, .sl (r20.map (D.int .i64))]), (2, .vec 3 1 (e152.map (D.int .i64)) false)], 3, 111⟩) h1937 (wk [(2, some 16), (3, none)]) (by intro w; simp) ?_ ?_
        · clear h
          intro x151 y h
          unfold g_ref36_Break_s2 at h
          refine xs <| xs <| rz ?_
          refine es ?_
          rcases iK k h with ⟨k, h⟩ | ⟨k, h⟩
          · refine xt <| xk <| es <| xs <| xb <| xs <| rz ?_
            refine es <| xb ?_
            obtain ⟨e1712, h1935, h⟩ := bs h
            refine rb_loop (fun x1711 => ⟨envL [(1, .ptr 0 0), (2, .ptr 1 0), (5, .int .i64 (p_0.Tokens.length : Int)), (10, .sl (r143.map (D.int .i64))), (11, .ptr 2 0), (12, .int .i64 x151.1), (13, .int .i64 x151.2.1), (14, .int .i64 x1711)], heapL [(0, .box none [.sl (p_0.Tokens.map T_api_Token.d), .int .i64 p_0.Width, .int .i64 p_0.Rows, .int .i64 p_0.Table.Strength.a0, .int .i64 p_0.Table.Strength.a1, .int .i64 p_0.Table.Strength.a2, .int .i64 p_0.Table.Strength.a3, .int .i64 p_0.Table.Strength.a4, .int .i64 p_0.Table.Strength.a5, .int .i64 p_0.Table.Ragged, .int .i64 p_0.Table.Row, .int .i64 p_0.Table.Event, .int .i64 p_0.Table.Fast, .int .i64 p_0.Table.Gap, .int .i64 p_0.Table.Shot]), (1, .box none [.nils, .int .i64 0, .nils]), (2, .box none [.own 3 x151.2.2.length, .int .i64 y26, .sl (r20.map (D.int .i64))]), (3, .vec 3 1 (x151.2.2.map (D.int .i64)) false)], 4, 111⟩) (fun _ => .exit 4) (fun e1712 => ⟨envL [(1, .ptr 0 0), (2, .ptr 1 0), (5, .int .i64 (p_0.Tokens.length : Int)), (10, .sl (r143.map (D.int .i64))), (11, .ptr 2 0), (12, .int .i64 e1712.2), (13, .int .i64 x151.2.1)], heapL [(0, .box none [.sl (p_0.Tokens.map T_api_Token.d), .int .i64 p_0.Width, .int .i64 p_0.Rows, .int .i64 p_0.Table.Strength.a0, .int .i64 p_0.Table.Strength.a1, .int .i64 p_0.Table.Strength.a2, .int .i64 p_0.Table.Strength.a3, .int .i64 p_0.Table.Strength.a4, .int .i64 p_0.Table.Strength.a5, .int .i64 p_0.Table.Ragged, .int .i64 p_0.Table.Row, .int .i64 p_0.Table.Event, .int .i64 p_0.Table.Fast, .int .i64 p_0.Table.Gap, .int .i64 p_0.Table.Shot]), (1, .box none [.nils, .int .i64 0, .nils]), (2, .box none [.own 3 e1712.1.length, .int .i64 y26, .sl (r20.map (D.int .i64))]), (3, .vec 3 1 (e1712.1.map (D.int .i64)) false)], 4, 111⟩) h1935 (wk []) (by intro w; simp) ?_ ?_
            · clear h
              intro x1711 y h
              unfold g_ref36_Break_s3 at h
              refine xs <| xs <| rz ?_
              refine es ?_
              rcases iK k h with ⟨k, h⟩ | ⟨k, h⟩
              · refine xt <| xk <| es <| xs <| xb <| xs <| rK fun K1902 RK1902 hK1902 gK1902 => zz ?_
                obtain ⟨y1903, q, h⟩ := bK q h
                refine zz ?_
                subst hK1902 gK1902
                refine es ?_
                obtain ⟨v1914, h1924, h⟩ := bs h
                refine rb_cut (fun v1914 => ⟨envL [(1, .ptr 0 0), (2, .ptr 1 0), (5, .int .i64 (p_0.Tokens.length : Int)), (10, .sl (r143.map (D.int .i64))), (11, .ptr 2 0), (12, .int .i64 x151.1), (13, .int .i64 x151.2.1), (14, .int .i64 x1711), (102, .bool v1914)], heapL [(0, .box none [.sl (p_0.Tokens.map T_api_Token.d), .int .i64 p_0.Width, .int .i64 p_0.Rows, .int .i64 p_0.Table.Strength.a0, .int .i64 p_0.Table.Strength.a1, .int .i64 p_0.Table.Strength.a2, .int .i64 p_0.Table.Strength.a3, .int .i64 p_0.Table.Strength.a4, .int .i64 p_0.Table.Strength.a5, .int .i64 p_0.Table.Ragged, .int .i64 p_0.Table.Row, .int .i64 p_0.Table.Event, .int .i64 p_0.Table.Fast, .int .i64 p_0.Table.Gap, .int .i64 p_0.Table.Shot]), (1, .box none [.nils, .int .i64 0, .nils]), (2, .box none [.own 3 x151.2.2.length, .int .i64 y26, .sl (r20.map (D.int .i64))]), (3, .vec 3 1 (x151.2.2.map (D.int .i64)) false)], 4, 111⟩) h1924 ?_ ?_
                · clear h
                  intro v1914 h
                  refine rD hI fun K1915 RK1915 hK1915 gK1915 => zz ?_
                  obtain ⟨r1916, h1917, h⟩ := bs h
                  refine cd (a_ref36_Fits hI h1917) <| zz ?_
                  rcases iK k h with ⟨k, h⟩ | ⟨k, h⟩
                  · refine zz ?_
                    rcases iK k h with ⟨k, h⟩ | ⟨k, h⟩
                    · refine zz ?_
                      obtain ⟨r1920, h1921, h⟩ := bs h
                      refine cd (a_ref36_row hI h1921) <| zz ?_
                      obtain ⟨y1922, q, h⟩ := bK q h
                      refine zz ?_
                      subst hK1915 gK1915
                      cases h
                      exact en ⟨rfl, wk []⟩
                    · refine zz ?_
                      subst hK1915 gK1915
                      cases h
                      exact en ⟨rfl, wk []⟩
                  · refine zz ?_
                    subst hK1915 gK1915
                    cases h
                    exact en ⟨rfl, wk []⟩
                · rcases iK k h with ⟨k, h⟩ | ⟨k, h⟩
                  · refine xt <| xs <| rK fun K1929 RK1929 hK1929 gK1929 => zz ?_
                    obtain ⟨h1930, h⟩ := ite_on h
                    have h1931 : x151.2.2.length + 1 ≤ 9223372036854775807 := by omega
                    try simp only [Nat.reduceLeDiff] at h1931
                    have q := And.intro @h1931 <| And.intro @h1930 <| q
                    refine zz ?_
                    subst hK1929 gK1929
                    refine es <| xs <| rz ?_
                    refine es <| xx <| bm <| ee ?_
                    cases h
                    exact en ⟨rfl, wk [(3, some 8)]⟩
                  · refine xf <| xk <| bn <| es <| rz ?_
                    cases h
                    exact en ⟨rfl, wk []⟩
              · refine xf <| xx <| ee ?_
                cases h
                exact en ⟨rfl, wk []⟩
            · refine bh <| bn <| es <| rz ?_
              cases h
              exact en ⟨rfl, wk []⟩
          · refine xf <| xx <| ee ?_
            cases h
            exact en ⟨rfl, wk [(0, some 1), (1, some 2), (2, some 3)]⟩
        · refine bh <| es <| xs <| rz ?_
          refine es <| xr ?_
          cases h
          exact en fr
def g_ref40_within (n_0 : Int) (lo_1 : Int) (hi_2 : Int) : Option (Bool) :=
  (if (decide (lo_1 ≤ n_0)) then (some (decide (n_0 ≤ hi_2))) else (some false))
theorem a_ref40_within {I : World → Prop} (hI : Stab I) {n_0 : Int} {lo_1 : Int} {hi_2 : Int} {r : Bool} (h : g_ref40_within n_0 lo_1 hi_2 = some r) : AFun Tryz.prog I 77 [.int .i64 n_0, .int .i64 lo_1, .int .i64 hi_2] (.bool r) := by
  have dd := dd_EE; have k := True.intro; have q := k; have rs := Tryz.results77
  unfold g_ref40_within at h
  refine .en hI Tryz.func77 Tryz.ntmps77 ?_
  refine xs <| rz ?_
  refine es <| xs <| rK fun K5 RK5 hK5 gK5 => zz ?_
  rcases iK k h with ⟨k, h⟩ | ⟨k, h⟩
  · refine zz ?_
    subst hK5 gK5
    refine es <| xr ?_
    cases h
    exact en fr
  · refine zz ?_
    subst hK5 gK5
    refine es <| xr ?_
    cases h
    exact en fr
def g_ref02_Ticks (r_0 : Int) : Option (Int) :=
  ((g_ref02_Valid r_0).bind fun r7 => (if r7 then ((atI [5005, 5000, 4800, 4004, 4000, 2400, 2002] (IntKind.u8.wrap (r_0 - 1))).bind fun y17 => (some y17)) else (some 0)))
theorem a_ref02_Ticks {I : World → Prop} (hI : Stab I) {r_0 : Int} {r : Int} (h : g_ref02_Ticks r_0 = some r) : AFun Tryz.prog I 78 [.int .u8 r_0] (.int .i64 r) := by
  have dd := dd_EE; have k := True.intro; have q := k; have rs := Tryz.results78
  unfold g_ref02_Ticks at h
  refine .en hI Tryz.func78 Tryz.ntmps78 ?_
  refine xs <| rz ?_
  refine es <| xs <| xs <| rK fun K6 RK6 hK6 gK6 => zz ?_
  obtain ⟨r7, h8, h⟩ := bs h
  refine cw (a_ref02_Valid hI h8) <| zz ?_
  subst hK6 gK6
  refine es ?_
  rcases iK k h with ⟨k, h⟩ | ⟨k, h⟩
  · refine xf <| xk <| es <| xs <| rK fun K16 RK16 hK16 gK16 => zz ?_
    obtain ⟨y17, h18, h⟩ := bind_some h
    obtain ⟨h19, h20, h21⟩ := atI_own h18
    have h21 := h21 (D.int .i64)
    simp only [List.map_cons, List.map_nil, dd] at h21
    have h20 : (IntKind.u8.wrap (r_0 - 1)) < 7 := by simpa using h20
    have q := And.intro h19 <| And.intro h20 <| And.intro @h21 q
    refine zz ?_
    subst hK16 gK16
    refine es <| xr ?_
    cases h
    exact en fr
  · refine xt <| xs <| rz ?_
    refine es <| xr <| er ?_
    cases h
    exact en fr
def g_ref40_Needed (rate_0 : Int) (chars_1 : Int) (limit_2 : Int) : Option (Int × Int) :=
  ((g_ref02_Valid rate_0).bind fun r7 => (if r7 then ((((g_ref40_within chars_1 0 10000).bind fun r18 => (if r18 then ((g_ref40_within limit_2 1 10000).bind fun r21 => (some (!r21))) else (some true))) : Option (Bool)).bind fun v16 => (if v16 then (some (0, 2)) else ((g_ref02_Ticks rate_0).bind fun r31 => (if ¬ (IntKind.i64.wrap (limit_2 * r31)) = 0 then (some ((IntKind.i64.wrap (Int.tdiv (IntKind.i64.wrap ((IntKind.i64.wrap ((IntKind.i64.wrap ((IntKind.i64.wrap (chars_1 * 100)) * 120000)) + (IntKind.i64.wrap (limit_2 * r31)))) - 1)) (IntKind.i64.wrap (limit_2 * r31)))), 0)) else none)))) else (some (0, 3))))
theorem a_ref40_Needed {I : World → Prop} (hI : Stab I) {rate_0 : Int} {chars_1 : Int} {limit_2 : Int} {r : Int × Int} (h : g_ref40_Needed rate_0 chars_1 limit_2 = some r) : AFun Tryz.prog I 34 [.int .u8 rate_0, .int .i64 chars_1, .int .i64 limit_2] (.tup [.int .i64 r.1, .int .i64 r.2]) := by
  have dd := dd_EE; have k := True.intro; have q := k; have rs := Tryz.results34
  unfold g_ref40_Needed at h
  refine .en hI Tryz.func34 Tryz.ntmps34 ?_
  refine xs <| rz ?_
  refine es <| xs <| xs <| rK fun K6 RK6 hK6 gK6 => zz ?_
  obtain ⟨r7, h8, h⟩ := bs h
  refine cw (a_ref02_Valid hI h8) <| zz ?_
  subst hK6 gK6
  refine es ?_
  rcases iK k h with ⟨k, h⟩ | ⟨k, h⟩
  · refine xf <| xk <| es <| xs ?_
    obtain ⟨v16, h23, h⟩ := bs h
    refine rb_cut (fun v16 => ⟨envL [(0, .int .u8 rate_0), (1, .int .i64 chars_1), (2, .int .i64 limit_2), (19, .bool v16)], heapL [], 0, 32⟩) h23 ?_ ?_
    · clear h
      intro v16 h
      refine rK fun K17 RK17 hK17 gK17 => zz ?_
      obtain ⟨r18, h19, h⟩ := bs h
      refine cw (a_ref40_within hI h19) <| zz ?_
      rcases iK k h with ⟨k, h⟩ | ⟨k, h⟩
      · refine zz ?_
        obtain ⟨r21, h22, h⟩ := bs h
        refine cw (a_ref40_within hI h22) <| zz ?_
        subst hK17 gK17
        cases h
        exact en ⟨rfl, wk []⟩
      · refine zz ?_
        subst hK17 gK17
        cases h
        exact en ⟨rfl, wk []⟩
    · rcases iK k h with ⟨k, h⟩ | ⟨k, h⟩
      · refine xt <| xs <| rz ?_
        refine es <| xr <| er ?_
        cases h
        exact en fr
      · refine xf <| xk <| es <| xs <| rK fun K30 RK30 hK30 gK30 => zz ?_
        obtain ⟨r31, h32, h⟩ := bs h
        refine cw (a_ref02_Ticks hI h32) <| zz ?_
        subst hK30 gK30
        refine es <| xs <| rK fun K34 RK34 hK34 gK34 => zz ?_
        obtain ⟨q, h⟩ := oK q h
        refine zz ?_
        subst hK34 gK34
        refine es <| xr ?_
        cases h
        exact en fr
  · refine xt <| xs <| rz ?_
    refine es <| xr <| er ?_
    cases h
    exact en fr
def g_ref37_Inside_s1 (l_0 : List Int) (s_1 : T_api_Span) (x16 : (List Int) × Int) : Option (Nx ((List Int) × Int) ((List Int))) :=
  (if (decide (x16.2 < (l_0.length : Int))) then ((atI l_0 x16.2).bind fun y143 => (((if (decide (s_1.In < y143)) then (some (decide (y143 < s_1.Out))) else (some false)) : Option (Bool)).bind fun v147 => (if v147 then (if (x16.1.length + 1) * 8 ≤ 140737488355328 then (some (.go ((x16.1 ++ [y143]), (IntKind.i64.wrap (x16.2 + 1))))) else none) else (some (.go (x16.1, (IntKind.i64.wrap (x16.2 + 1)))))))) else (some (.out x16.1)))
def g_ref37_Inside (l_0 : List Int) (s_1 : T_api_Span) : Option ((List Int)) :=
  ((g_ref37_Check l_0).bind fun r9 => (if (r9 != 0) then (some []) else ((iter (g_ref37_Inside_s1 l_0 s_1) ([], 0)).bind fun e17 => (some e17))))
theorem a_ref37_Inside {I : World → Prop} (hI : Stab I) {l_0 : List Int} {s_1 : T_api_Span} {r : (List Int)} (h : g_ref37_Inside l_0 s_1 = some r) : AFun Tryz.prog I 35 [.sl (l_0.map (D.int .i64)), T_api_Span.d s_1] (.sl (r.map (D.int .i64))) := by
  have dd := dd_EE; have k := True.intro; have q := k; have rs := Tryz.results35
  unfold g_ref37_Inside at h
  refine .en hI Tryz.func35 Tryz.ntmps35 ?_
  refine xs <| rz ?_
  refine es <| xs <| rz ?_
  refine es <| xs <| xs <| rK fun K8 RK8 hK8 gK8 => zz ?_
  obtain ⟨r9, h10, h⟩ := bs h
  refine cw (a_ref37_Check hI h10) <| zz ?_
  subst hK8 gK8
  refine es ?_
  rcases iK k h with ⟨k, h⟩ | ⟨k, h⟩
  · refine xt <| xs <| rz ?_
    refine es <| xr <| er ?_
    cases h
    exact en fr
  · refine xf <| xk <| es <| xs <| xs <| rz ?_
    refine es <| xb ?_
    obtain ⟨e17, h157, h⟩ := bs h
    refine rb_loop (fun x16 => ⟨envL [(3, .ptr 0 0), (5, .own 1 x16.1.length), (11, .sl (l_0.map (D.int .i64))), (12, .int .i64 (l_0.length : Int)), (13, .int .i64 x16.2)], heapL [(0, .box none [.int .i64 s_1.In, .int .i64 s_1.Out]), (1, .vec 2 1 (x16.1.map (D.int .i64)) false)], 2, 33⟩) (fun _ => .exit 0) (fun e17 => ⟨envL [(5, .own 0 e17.length)], heapL [(0, .vec 2 1 (e17.map (D.int .i64)) false)], 1, 33⟩) h157 (wk [(1, none)]) (by intro w; simp) ?_ ?_
    · clear h
      intro x16 y h
      unfold g_ref37_Inside_s1 at h
      refine xs <| rz ?_
      refine es <| xs ?_
      rcases iK k h with ⟨k, h⟩ | ⟨k, h⟩
      · refine xt <| xk <| es <| xs <| xb <| xs <| rK fun K142 RK142 hK142 gK142 => zz ?_
        obtain ⟨y143, q, h⟩ := bK q h
        refine zz ?_
        subst hK142 gK142
        refine es ?_
        obtain ⟨v147, h150, h⟩ := bs h
        refine rb_cut (fun v147 => ⟨envL [(3, .ptr 0 0), (5, .own 1 x16.1.length), (7, .int .i64 y143), (11, .sl (l_0.map (D.int .i64))), (12, .int .i64 (l_0.length : Int)), (13, .int .i64 x16.2), (26, .bool v147)], heapL [(0, .box none [.int .i64 s_1.In, .int .i64 s_1.Out]), (1, .vec 2 1 (x16.1.map (D.int .i64)) false)], 2, 33⟩) h150 ?_ ?_
        · clear h
          intro v147 h
          refine rK fun K148 RK148 hK148 gK148 => zz ?_
          rcases iK k h with ⟨k, h⟩ | ⟨k, h⟩
          · refine zz ?_
            subst hK148 gK148
            cases h
            exact en ⟨rfl, wk []⟩
          · refine zz ?_
            subst hK148 gK148
            cases h
            exact en ⟨rfl, wk []⟩
        · rcases iK k h with ⟨k, h⟩ | ⟨k, h⟩
          · refine xt <| rK fun K152 RK152 hK152 gK152 => zz ?_
            obtain ⟨h153, h⟩ := ite_on h
            have h154 : x16.1.length + 1 ≤ 9223372036854775807 := by omega
            try simp only [Nat.reduceLeDiff] at h154
            have q := And.intro @h154 <| And.intro @h153 <| q
            refine zz ?_
            subst hK152 gK152
            refine bn <| es <| rz ?_
            cases h
            exact en ⟨rfl, wk [(1, some 5)]⟩
          · refine xf <| xk <| bn <| es <| rz ?_
            cases h
            exact en ⟨rfl, wk []⟩
      · refine xf <| xx <| ee ?_
        cases h
        exact en ⟨rfl, wk [(0, some 1)]⟩
    · refine bh <| es <| xs <| rz ?_
      refine es <| xr ?_
      cases h
      exact en fr
def g_ref35_Event (t_0 : T_api_Penalties) (l_1 : T_api_Load) : Option (Int × Int) :=
  ((g_ref35_Check t_0).bind fun r7 => (if (r7 != 0) then (some (0, r7)) else (((if (decide (l_1.Fast < 0)) then (some true) else (if (decide (5184000 < l_1.Fast)) then (some true) else (if (decide (l_1.Gap < 0)) then (some true) else (if (decide (5184000 < l_1.Gap)) then (some true) else (if (decide (l_1.Shots < 0)) then (some true) else (if (decide (400 < l_1.Shots)) then (some true) else ((g_ref35_within l_1.Strength 0 5).bind fun r31 => (some (!r31))))))))) : Option (Bool)).bind fun v23 => (if v23 then (some (0, 2)) else (if l_1.Last then (some ((IntKind.i64.wrap ((IntKind.i64.wrap ((IntKind.i64.wrap (t_0.Event + (IntKind.i64.wrap (t_0.Fast * l_1.Fast)))) + (IntKind.i64.wrap (t_0.Gap * l_1.Gap)))) + (IntKind.i64.wrap (t_0.Shot * l_1.Shots)))), 0)) else (if l_1.Strength == 0 then (some ((IntKind.i64.wrap ((IntKind.i64.wrap ((IntKind.i64.wrap ((IntKind.i64.wrap (t_0.Event + (IntKind.i64.wrap (t_0.Fast * l_1.Fast)))) + (IntKind.i64.wrap (t_0.Gap * l_1.Gap)))) + (IntKind.i64.wrap (t_0.Shot * l_1.Shots)))) + t_0.Strength.a0)), 0)) else (if l_1.Strength == 1 then (some ((IntKind.i64.wrap ((IntKind.i64.wrap ((IntKind.i64.wrap ((IntKind.i64.wrap (t_0.Event + (IntKind.i64.wrap (t_0.Fast * l_1.Fast)))) + (IntKind.i64.wrap (t_0.Gap * l_1.Gap)))) + (IntKind.i64.wrap (t_0.Shot * l_1.Shots)))) + t_0.Strength.a1)), 0)) else (if l_1.Strength == 2 then (some ((IntKind.i64.wrap ((IntKind.i64.wrap ((IntKind.i64.wrap ((IntKind.i64.wrap (t_0.Event + (IntKind.i64.wrap (t_0.Fast * l_1.Fast)))) + (IntKind.i64.wrap (t_0.Gap * l_1.Gap)))) + (IntKind.i64.wrap (t_0.Shot * l_1.Shots)))) + t_0.Strength.a2)), 0)) else (if l_1.Strength == 3 then (some ((IntKind.i64.wrap ((IntKind.i64.wrap ((IntKind.i64.wrap ((IntKind.i64.wrap (t_0.Event + (IntKind.i64.wrap (t_0.Fast * l_1.Fast)))) + (IntKind.i64.wrap (t_0.Gap * l_1.Gap)))) + (IntKind.i64.wrap (t_0.Shot * l_1.Shots)))) + t_0.Strength.a3)), 0)) else (if l_1.Strength == 4 then (some ((IntKind.i64.wrap ((IntKind.i64.wrap ((IntKind.i64.wrap ((IntKind.i64.wrap (t_0.Event + (IntKind.i64.wrap (t_0.Fast * l_1.Fast)))) + (IntKind.i64.wrap (t_0.Gap * l_1.Gap)))) + (IntKind.i64.wrap (t_0.Shot * l_1.Shots)))) + t_0.Strength.a4)), 0)) else (if l_1.Strength == 5 then (some ((IntKind.i64.wrap ((IntKind.i64.wrap ((IntKind.i64.wrap ((IntKind.i64.wrap (t_0.Event + (IntKind.i64.wrap (t_0.Fast * l_1.Fast)))) + (IntKind.i64.wrap (t_0.Gap * l_1.Gap)))) + (IntKind.i64.wrap (t_0.Shot * l_1.Shots)))) + t_0.Strength.a5)), 0)) else none)))))))))))
theorem a_ref35_Event {I : World → Prop} (hI : Stab I) {t_0 : T_api_Penalties} {l_1 : T_api_Load} {r : Int × Int} (h : g_ref35_Event t_0 l_1 = some r) : AFun Tryz.prog I 36 [T_api_Penalties.d t_0, T_api_Load.d l_1] (.tup [.int .i64 r.1, .int .i64 r.2]) := by
  have dd := dd_EE; have k := True.intro; have q := k; have rs := Tryz.results36
  unfold g_ref35_Event at h
  refine .en hI Tryz.func36 Tryz.ntmps36 ?_
  refine xs <| rz ?_
  refine es <| xs <| xs <| rK fun K6 RK6 hK6 gK6 => zz ?_
  obtain ⟨r7, h8, h⟩ := bs h
  refine cw (a_ref35_Check hI h8) <| zz ?_
  subst hK6 gK6
  refine es <| xs <| rz ?_
  refine es ?_
  rcases iK k h with ⟨k, h⟩ | ⟨k, h⟩
  · refine xt <| xs <| rz ?_
    refine es <| xr <| er ?_
    cases h
    exact en fr
  · refine xf <| xk <| es <| xs ?_
    obtain ⟨v23, h33, h⟩ := bs h
    refine rb_cut (fun v23 => ⟨envL [(2, .iptr [.int .i64 t_0.Strength.a0, .int .i64 t_0.Strength.a1, .int .i64 t_0.Strength.a2, .int .i64 t_0.Strength.a3, .int .i64 t_0.Strength.a4, .int .i64 t_0.Strength.a5, .int .i64 t_0.Ragged, .int .i64 t_0.Row, .int .i64 t_0.Event, .int .i64 t_0.Fast, .int .i64 t_0.Gap, .int .i64 t_0.Shot]), (3, .ptr 0 0), (46, .bool v23)], heapL [(0, .box none [.int .i64 l_1.Fast, .int .i64 l_1.Gap, .int .i64 l_1.Shots, .int .i64 l_1.Strength, .bool l_1.Last])], 1, 78⟩) h33 ?_ ?_
    · clear h
      intro v23 h
      refine rK fun K24 RK24 hK24 gK24 => zz ?_
      rcases iK k h with ⟨k, h⟩ | ⟨k, h⟩
      · refine zz ?_
        subst hK24 gK24
        cases h
        exact en ⟨rfl, wk [(0, some 1)]⟩
      · refine zz ?_
        rcases iK k h with ⟨k, h⟩ | ⟨k, h⟩
        · refine zz ?_
          subst hK24 gK24
          cases h
          exact en ⟨rfl, wk [(0, some 1)]⟩
        · refine zz ?_
          rcases iK k h with ⟨k, h⟩ | ⟨k, h⟩
          · refine zz ?_
            subst hK24 gK24
            cases h
            exact en ⟨rfl, wk [(0, some 1)]⟩
          · refine zz ?_
            rcases iK k h with ⟨k, h⟩ | ⟨k, h⟩
            · refine zz ?_
              subst hK24 gK24
              cases h
              exact en ⟨rfl, wk [(0, some 1)]⟩
            · refine zz ?_
              rcases iK k h with ⟨k, h⟩ | ⟨k, h⟩
              · refine zz ?_
                subst hK24 gK24
                cases h
                exact en ⟨rfl, wk [(0, some 1)]⟩
              · refine zz ?_
                rcases iK k h with ⟨k, h⟩ | ⟨k, h⟩
                · refine zz ?_
                  subst hK24 gK24
                  cases h
                  exact en ⟨rfl, wk [(0, some 1)]⟩
                · refine zz ?_
                  obtain ⟨r31, h32, h⟩ := bs h
                  refine cw (a_ref35_within hI h32) <| zz ?_
                  subst hK24 gK24
                  cases h
                  exact en ⟨rfl, wk [(0, some 1)]⟩
    · rcases iK k h with ⟨k, h⟩ | ⟨k, h⟩
      · refine xt <| xs <| rz ?_
        refine es <| xr <| er ?_
        cases h
        exact en fr
      · refine xf <| xk <| es <| xs <| rz ?_
        refine es <| xs <| xs <| rz ?_
        refine es ?_
        rcases iK k h with ⟨k, h⟩ | ⟨k, h⟩
        · refine xf <| xk <| es <| xs <| rz ?_
          refine es <| xr ?_
          cases h
          exact en fr
        · refine xt <| rK fun K44 RK44 hK44 gK44 => zz ?_
          rcases ite_or h with ⟨k45, h⟩ | ⟨_, h⟩
          · have k := And.intro (eq_of_beq k45) k
            refine zz ?_
            subst hK44 gK44
            refine es <| xs <| rz ?_
            refine es <| xr ?_
            cases h
            exact en fr
          · rcases ite_or h with ⟨k48, h⟩ | ⟨_, h⟩
            · have k := And.intro (eq_of_beq k48) k
              refine zz ?_
              subst hK44 gK44
              refine es <| xs <| rz ?_
              refine es <| xr ?_
              cases h
              exact en fr
            · rcases ite_or h with ⟨k51, h⟩ | ⟨_, h⟩
              · have k := And.intro (eq_of_beq k51) k
                refine zz ?_
                subst hK44 gK44
                refine es <| xs <| rz ?_
                refine es <| xr ?_
                cases h
                exact en fr
              · rcases ite_or h with ⟨k54, h⟩ | ⟨_, h⟩
                · have k := And.intro (eq_of_beq k54) k
                  refine zz ?_
                  subst hK44 gK44
                  refine es <| xs <| rz ?_
                  refine es <| xr ?_
                  cases h
                  exact en fr
                · rcases ite_or h with ⟨k57, h⟩ | ⟨_, h⟩
                  · have k := And.intro (eq_of_beq k57) k
                    refine zz ?_
                    subst hK44 gK44
                    refine es <| xs <| rz ?_
                    refine es <| xr ?_
                    cases h
                    exact en fr
                  · rcases ite_or h with ⟨k60, h⟩ | ⟨_, h⟩
                    · have k := And.intro (eq_of_beq k60) k
                      refine zz ?_
                      subst hK44 gK44
                      refine es <| xs <| rz ?_
                      refine es <| xr ?_
                      cases h
                      exact en fr
                    · cases h
def g_ref38_Part_s1 (r50 : T_api_Paragraph) (x69 : Int × Int) : Option (Nx (Int × Int) (Int)) :=
  (if (decide (x69.2 < (r50.Tokens.length : Int))) then ((atI r50.Tokens x69.2).bind fun y134 => ((g_ref08_Len y134.Text).bind fun r137 => (some (.go ((IntKind.i64.wrap (x69.1 + r137)), (IntKind.i64.wrap (x69.2 + 1))))))) else (some (.out x69.1)))
def g_ref38_Part (s_0 : T_api_Speech) (from_1 : Int) (to_2 : Int) : Option (T_api_Part × Int × Int) :=
  ((g_ref38_Check s_0).bind fun r7 => (if (r7 != 0) then (some ((T_api_Part.mk 0 0 [] (T_api_Span.mk 0 0)), 0, r7)) else (((if (decide (from_1 < 0)) then (some true) else (if (decide (to_2 ≤ from_1)) then (some true) else (some (decide ((s_0.Words.length : Int) < to_2))))) : Option (Bool)).bind fun v17 => (if v17 then (some ((T_api_Part.mk 0 0 [] (T_api_Span.mk 0 0)), 0, 1)) else ((atI s_0.Words from_1).bind fun y31 => ((atI s_0.Words (IntKind.i64.wrap (to_2 - 1))).bind fun y33 => (((if (decide (1 < (IntKind.i64.wrap (to_2 - from_1)))) then (some (decide (s_0.House.MaxFrames < (IntKind.i64.wrap (y33.Span.Out - y31.Span.In))))) else (some false)) : Option (Bool)).bind fun v39 => (if v39 then (some ((T_api_Part.mk 0 0 [] (T_api_Span.mk 0 0)), 0, 2)) else ((g_ref38_paragraph s_0 from_1 to_2).bind fun r50 => ((g_ref36_Break r50).bind fun r56 => (if (r56.2 != 0) then (some ((T_api_Part.mk 0 0 [] (T_api_Span.mk 0 0)), 0, r56.2)) else ((iter (g_ref38_Part_s1 r50) (0, 0)).bind fun e70 => ((g_ref40_Needed s_0.Rate e70 s_0.House.Reading).bind fun r145 => ((g_ref37_Inside s_0.Shots (T_api_Span.mk y31.Span.In y33.Span.Out)).bind fun r153 => ((atI r50.Tokens (IntKind.i64.wrap ((IntKind.i64.wrap (to_2 - from_1)) - 1))).bind fun y155 => (if (to_2 == (s_0.Words.length : Int)) then ((g_ref35_Event s_0.Table (T_api_Load.mk (if 0 > (IntKind.i64.wrap (r145.1 - (IntKind.i64.wrap (y33.Span.Out - y31.Span.In)))) then 0 else (IntKind.i64.wrap (r145.1 - (IntKind.i64.wrap (y33.Span.Out - y31.Span.In))))) 0 (r153.length : Int) y155.Strength (to_2 == (s_0.Words.length : Int)))).bind fun r164 => (some ((T_api_Part.mk from_1 to_2 r56.1.Ends (T_api_Span.mk y31.Span.In y33.Span.Out)), (IntKind.i64.wrap (r56.1.Cost + r164.1)), 0))) else ((atI s_0.Words to_2).bind fun y169 => ((g_ref35_Event s_0.Table (T_api_Load.mk (if 0 > (IntKind.i64.wrap (r145.1 - (IntKind.i64.wrap (y33.Span.Out - y31.Span.In)))) then 0 else (IntKind.i64.wrap (r145.1 - (IntKind.i64.wrap (y33.Span.Out - y31.Span.In))))) (if 0 > (IntKind.i64.wrap (s_0.House.MinGap - (IntKind.i64.wrap (y169.Span.In - y33.Span.Out)))) then 0 else (IntKind.i64.wrap (s_0.House.MinGap - (IntKind.i64.wrap (y169.Span.In - y33.Span.Out))))) (r153.length : Int) y155.Strength (to_2 == (s_0.Words.length : Int)))).bind fun r175 => (some ((T_api_Part.mk from_1 to_2 r56.1.Ends (T_api_Span.mk y31.Span.In y33.Span.Out)), (IntKind.i64.wrap (r56.1.Cost + r175.1)), 0))))))))))))))))))))
theorem a_ref38_Part {I : World → Prop} (hI : Stab I) {s_0 : T_api_Speech} {from_1 : Int} {to_2 : Int} {r : T_api_Part × Int × Int} (h : g_ref38_Part s_0 from_1 to_2 = some r) : AFun Tryz.prog I 11 [T_api_Speech.d s_0, .int .i64 from_1, .int .i64 to_2] (.tup [T_api_Part.d r.1, .int .i64 r.2.1, .int .i64 r.2.2]) := by
  have dd := dd_EE; have k := True.intro; have q := k; have rs := Tryz.results11
  unfold g_ref38_Part at h
  refine .en hI Tryz.func11 Tryz.ntmps11 ?_
  refine xs <| rz ?_
  refine es <| xs <| xs <| rK fun K6 RK6 hK6 gK6 => zz ?_
  obtain ⟨r7, h8, h⟩ := bs h
  refine cw (a_ref38_Check hI h8) <| zz ?_
  subst hK6 gK6
  refine es <| xs <| rz ?_
  refine es ?_
  rcases iK k h with ⟨k, h⟩ | ⟨k, h⟩
  · refine xt <| xs <| rz ?_
    refine es <| xr <| er ?_
    cases h
    exact en fr
  · refine xf <| xk <| es <| xs ?_
    obtain ⟨v17, h21, h⟩ := bs h
    refine rb_cut (fun v17 => ⟨envL [(1, .int .i64 from_1), (2, .int .i64 to_2), (3, .ptr 0 0), (6, .ptr 1 0), (42, .bool v17)], heapL [(0, .box none [.int .u8 s_0.Rate, .sl (s_0.Words.map T_api_Word.d), .sl (s_0.Shots.map (D.int .i64)), .int .i64 s_0.Table.Strength.a0, .int .i64 s_0.Table.Strength.a1, .int .i64 s_0.Table.Strength.a2, .int .i64 s_0.Table.Strength.a3, .int .i64 s_0.Table.Strength.a4, .int .i64 s_0.Table.Strength.a5, .int .i64 s_0.Table.Ragged, .int .i64 s_0.Table.Row, .int .i64 s_0.Table.Event, .int .i64 s_0.Table.Fast, .int .i64 s_0.Table.Gap, .int .i64 s_0.Table.Shot, .str s_0.House.Name, .int .i64 s_0.House.Reading, .int .i64 s_0.House.MinFrames, .int .i64 s_0.House.MaxFrames, .int .i64 s_0.House.MinGap, .int .i64 s_0.House.ShotBefore, .int .i64 s_0.House.ShotAfter, .int .i64 s_0.House.Rows, .int .i64 s_0.House.Cols, .str s_0.House.Forbidden, .int .i64 s_0.House.SafeTop, .int .i64 s_0.House.SafeBottom, .int .i64 s_0.House.SafeLeft, .int .i64 s_0.House.SafeRight]), (1, .box none [.int .i64 0, .int .i64 0, .nils, .int .i64 0, .int .i64 0])], 2, 178⟩) h21 ?_ ?_
    · clear h
      intro v17 h
      refine rK fun K18 RK18 hK18 gK18 => zz ?_
      rcases iK k h with ⟨k, h⟩ | ⟨k, h⟩
      · refine zz ?_
        subst hK18 gK18
        cases h
        exact en ⟨rfl, wk []⟩
      · refine zz ?_
        rcases iK k h with ⟨k, h⟩ | ⟨k, h⟩
        · refine zz ?_
          subst hK18 gK18
          cases h
          exact en ⟨rfl, wk []⟩
        · refine zz ?_
          subst hK18 gK18
          cases h
          exact en ⟨rfl, wk []⟩
    · rcases iK k h with ⟨k, h⟩ | ⟨k, h⟩
      · refine xt <| xs <| rz ?_
        refine es <| xr <| er ?_
        cases h
        exact en fr
      · refine xf <| xk <| es <| xs <| rD hI fun K30 RK30 hK30 gK30 => zz ?_
        obtain ⟨y31, q, h⟩ := bK q h
        refine zz ?_
        obtain ⟨y33, q, h⟩ := bK q h
        refine zz ?_
        refine hd <| zz ?_
        subst hK30 gK30
        refine es <| xs <| rz ?_
        refine es <| xs ?_
        obtain ⟨v39, h42, h⟩ := bs h
        refine rb_cut (fun v39 => ⟨envL [(1, .int .i64 from_1), (2, .int .i64 to_2), (3, .ptr 0 0), (6, .ptr 1 0), (10, .ptr 2 0), (11, .int .i64 (IntKind.i64.wrap (y33.Span.Out - y31.Span.In))), (80, .bool v39)], heapL [(0, .box none [.int .u8 s_0.Rate, .sl (s_0.Words.map T_api_Word.d), .sl (s_0.Shots.map (D.int .i64)), .int .i64 s_0.Table.Strength.a0, .int .i64 s_0.Table.Strength.a1, .int .i64 s_0.Table.Strength.a2, .int .i64 s_0.Table.Strength.a3, .int .i64 s_0.Table.Strength.a4, .int .i64 s_0.Table.Strength.a5, .int .i64 s_0.Table.Ragged, .int .i64 s_0.Table.Row, .int .i64 s_0.Table.Event, .int .i64 s_0.Table.Fast, .int .i64 s_0.Table.Gap, .int .i64 s_0.Table.Shot, .str s_0.House.Name, .int .i64 s_0.House.Reading, .int .i64 s_0.House.MinFrames, .int .i64 s_0.House.MaxFrames, .int .i64 s_0.House.MinGap, .int .i64 s_0.House.ShotBefore, .int .i64 s_0.House.ShotAfter, .int .i64 s_0.House.Rows, .int .i64 s_0.House.Cols, .str s_0.House.Forbidden, .int .i64 s_0.House.SafeTop, .int .i64 s_0.House.SafeBottom, .int .i64 s_0.House.SafeLeft, .int .i64 s_0.House.SafeRight]), (1, .box none [.int .i64 0, .int .i64 0, .nils, .int .i64 0, .int .i64 0]), (2, .box none [.int .i64 from_1, .int .i64 to_2, .nils, .int .i64 y31.Span.In, .int .i64 y33.Span.Out])], 3, 178⟩) h42 ?_ ?_
        · clear h
          intro v39 h
          refine rK fun K40 RK40 hK40 gK40 => zz ?_
          rcases iK k h with ⟨k, h⟩ | ⟨k, h⟩
          · refine zz ?_
            subst hK40 gK40
            cases h
            exact en ⟨rfl, wk [(2, some 21)]⟩
          · refine zz ?_
            subst hK40 gK40
            cases h
            exact en ⟨rfl, wk [(2, some 21)]⟩
        · rcases iK k h with ⟨k, h⟩ | ⟨k, h⟩
          · refine xt <| xs <| rz ?_
            refine es <| xr <| er ?_
            cases h
            exact en fr
          · refine xf <| xk <| es <| xs <| rK fun K49 RK49 hK49 gK49 => zz ?_
            obtain ⟨r50, h51, h⟩ := bs h
            refine cw (a_ref38_paragraph hI h51) <| zz ?_
            subst hK49 gK49
            refine es <| xs <| rK fun K55 RK55 hK55 gK55 => zz ?_
            obtain ⟨r56, h57, h⟩ := bs h
            refine cw (a_ref36_Break hI h57) <| zz ?_
            subst hK55 gK55
            refine es <| xs <| xs <| rz ?_
            refine es ?_
            rcases iK k h with ⟨k, h⟩ | ⟨k, h⟩
            · refine xt <| xs <| rz ?_
              refine es <| xr <| er ?_
              cases h
              exact en fr
            · refine xf <| xk <| es <| xs <| rz ?_
              refine es <| xs <| rz ?_
              refine es <| xs <| xs <| rz ?_
              refine es <| xb ?_
              obtain ⟨e70, h140, h⟩ := bs h
              refine rb_loop (fun x69 => ⟨envL [(1, .int .i64 from_1), (2, .int .i64 to_2), (3, .ptr 0 0), (6, .ptr 1 0), (10, .ptr 2 0), (11, .int .i64 (IntKind.i64.wrap (y33.Span.Out - y31.Span.In))), (12, .ptr 3 0), (13, .ptr 4 0), (15, .int .i64 x69.1), (99, .sl (r50.Tokens.map T_api_Token.d)), (100, .int .i64 (r50.Tokens.length : Int)), (101, .int .i64 x69.2)], heapL [(0, .box none [.int .u8 s_0.Rate, .sl (s_0.Words.map T_api_Word.d), .sl (s_0.Shots.map (D.int .i64)), .int .i64 s_0.Table.Strength.a0, .int .i64 s_0.Table.Strength.a1, .int .i64 s_0.Table.Strength.a2, .int .i64 s_0.Table.Strength.a3, .int .i64 s_0.Table.Strength.a4, .int .i64 s_0.Table.Strength.a5, .int .i64 s_0.Table.Ragged, .int .i64 s_0.Table.Row, .int .i64 s_0.Table.Event, .int .i64 s_0.Table.Fast, .int .i64 s_0.Table.Gap, .int .i64 s_0.Table.Shot, .str s_0.House.Name, .int .i64 s_0.House.Reading, .int .i64 s_0.House.MinFrames, .int .i64 s_0.House.MaxFrames, .int .i64 s_0.House.MinGap, .int .i64 s_0.House.ShotBefore, .int .i64 s_0.House.ShotAfter, .int .i64 s_0.House.Rows, .int .i64 s_0.House.Cols, .str s_0.House.Forbidden, .int .i64 s_0.House.SafeTop, .int .i64 s_0.House.SafeBottom, .int .i64 s_0.House.SafeLeft, .int .i64 s_0.House.SafeRight]), (1, .box none [.int .i64 0, .int .i64 0, .nils, .int .i64 0, .int .i64 0]), (2, .box none [.int .i64 from_1, .int .i64 to_2, .sl (r56.1.Ends.map (D.int .i64)), .int .i64 y31.Span.In, .int .i64 y33.Span.Out]), (3, .box none [.sl (r50.Tokens.map T_api_Token.d), .int .i64 r50.Width, .int .i64 r50.Rows, .int .i64 r50.Table.Strength.a0, .int .i64 r50.Table.Strength.a1, .int .i64 r50.Table.Strength.a2, .int .i64 r50.Table.Strength.a3, .int .i64 r50.Table.Strength.a4, .int .i64 r50.Table.Strength.a5, .int .i64 r50.Table.Ragged, .int .i64 r50.Table.Row, .int .i64 r50.Table.Event, .int .i64 r50.Table.Fast, .int .i64 r50.Table.Gap, .int .i64 r50.Table.Shot]), (4, .box none [.sl (r56.1.Ends.map (D.int .i64)), .int .i64 r56.1.Cost, .sl (r56.1.Potentials.map (D.int .i64))])], 5, 178⟩) (fun _ => .exit 0) (fun e70 => ⟨envL [(1, .int .i64 from_1), (2, .int .i64 to_2), (3, .ptr 0 0), (6, .ptr 1 0), (10, .ptr 2 0), (11, .int .i64 (IntKind.i64.wrap (y33.Span.Out - y31.Span.In))), (12, .ptr 3 0), (13, .ptr 4 0), (15, .int .i64 e70)], heapL [(0, .box none [.int .u8 s_0.Rate, .sl (s_0.Words.map T_api_Word.d), .sl (s_0.Shots.map (D.int .i64)), .int .i64 s_0.Table.Strength.a0, .int .i64 s_0.Table.Strength.a1, .int .i64 s_0.Table.Strength.a2, .int .i64 s_0.Table.Strength.a3, .int .i64 s_0.Table.Strength.a4, .int .i64 s_0.Table.Strength.a5, .int .i64 s_0.Table.Ragged, .int .i64 s_0.Table.Row, .int .i64 s_0.Table.Event, .int .i64 s_0.Table.Fast, .int .i64 s_0.Table.Gap, .int .i64 s_0.Table.Shot, .str s_0.House.Name, .int .i64 s_0.House.Reading, .int .i64 s_0.House.MinFrames, .int .i64 s_0.House.MaxFrames, .int .i64 s_0.House.MinGap, .int .i64 s_0.House.ShotBefore, .int .i64 s_0.House.ShotAfter, .int .i64 s_0.House.Rows, .int .i64 s_0.House.Cols, .str s_0.House.Forbidden, .int .i64 s_0.House.SafeTop, .int .i64 s_0.House.SafeBottom, .int .i64 s_0.House.SafeLeft, .int .i64 s_0.House.SafeRight]), (1, .box none [.int .i64 0, .int .i64 0, .nils, .int .i64 0, .int .i64 0]), (2, .box none [.int .i64 from_1, .int .i64 to_2, .sl (r56.1.Ends.map (D.int .i64)), .int .i64 y31.Span.In, .int .i64 y33.Span.Out]), (3, .box none [.sl (r50.Tokens.map T_api_Token.d), .int .i64 r50.Width, .int .i64 r50.Rows, .int .i64 r50.Table.Strength.a0, .int .i64 r50.Table.Strength.a1, .int .i64 r50.Table.Strength.a2, .int .i64 r50.Table.Strength.a3, .int .i64 r50.Table.Strength.a4, .int .i64 r50.Table.Strength.a5, .int .i64 r50.Table.Ragged, .int .i64 r50.Table.Row, .int .i64 r50.Table.Event, .int .i64 r50.Table.Fast, .int .i64 r50.Table.Gap, .int .i64 r50.Table.Shot]), (4, .box none [.sl (r56.1.Ends.map (D.int .i64)), .int .i64 r56.1.Cost, .sl (r56.1.Potentials.map (D.int .i64))])], 5, 178⟩) h140 (wk [(3, some 7), (4, some 14)]) (by intro w; simp) ?_ ?_
              · clear h
                intro x69 y h
                unfold g_ref38_Part_s1 at h
                refine xs <| rz ?_
                refine es <| xs ?_
                rcases iK k h with ⟨k, h⟩ | ⟨k, h⟩
                · refine xt <| xk <| es <| xs <| xb <| xs <| rK fun K133 RK133 hK133 gK133 => zz ?_
                  obtain ⟨y134, q, h⟩ := bK q h
                  refine zz ?_
                  subst hK133 gK133
                  refine es <| rK fun K136 RK136 hK136 gK136 => zz ?_
                  obtain ⟨r137, h138, h⟩ := bs h
                  refine cw (a_ref08_Len hI h138) <| zz ?_
                  subst hK136 gK136
                  refine bn <| es <| rz ?_
                  cases h
                  exact en ⟨rfl, wk []⟩
                · refine xf <| xx <| ee ?_
                  cases h
                  exact en ⟨rfl, wk []⟩
              · refine bh <| es <| xs <| rK fun K144 RK144 hK144 gK144 => zz ?_
                obtain ⟨r145, h146, h⟩ := bs h
                refine cw (a_ref40_Needed hI h146) <| zz ?_
                subst hK144 gK144
                refine es <| xs <| rD hI fun K152 RK152 hK152 gK152 => zz ?_
                obtain ⟨r153, h154, h⟩ := bs h
                refine cd (a_ref37_Inside hI h154) <| zz ?_
                obtain ⟨y155, q, h⟩ := bK q h
                refine zz ?_
                refine hd <| zz ?_
                subst hK152 gK152
                refine es <| xs <| xs <| rz ?_
                refine es ?_
                rcases iK k h with ⟨k, h⟩ | ⟨k, h⟩
                · refine xf <| xk <| es <| xs <| rK fun K163 RK163 hK163 gK163 => zz ?_
                  obtain ⟨r164, h165, h⟩ := bs h
                  refine cw (a_ref35_Event hI h165) <| zz ?_
                  subst hK163 gK163
                  refine es <| xs <| rP hI fun K167 hK167 => rgP_cons <| zq ?_
                  refine sP.foot (.cell 2 0 5) (fun _ => FootOK.ld rfl rfl rfl (by kernel_rfl) (by decide)) fd (by first | exact .inl (by first | rfl | decide) | exact .inr (by kernel_rfl)) <| rgP_cons <| zq ?_
                  refine sP.light rfl fd <| rgP_cons <| zq ?_
                  refine sP.foot (.cell 4 1 1) (fun _ => FootOK.ld rfl rfl rfl (by kernel_rfl) (by decide)) fd (by first | exact .inl (by first | rfl | decide) | exact .inr (by kernel_rfl)) <| rgP_cons <| zq ?_
                  refine sP.light rfl fd <| rgP_cons <| zq ?_
                  refine sP.light rfl fd <| rgP_cons <| zq ?_
                  refine sP.pat 1 0 5 rfl rfl rfl <| rgP_cons <| zq ?_
                  refine sP.light rfl fd <| rgP_cons <| zq ?_
                  refine sP.light rfl fd <| zq ?_
                  refine rgP_nil fk ?_
                  subst hK167
                  refine es <| xr ?_
                  cases h
                  exact en fr
                · refine xt <| rD hI fun K168 RK168 hK168 gK168 => zz ?_
                  obtain ⟨y169, q, h⟩ := bK q h
                  refine zz ?_
                  refine hd <| zz ?_
                  subst hK168 gK168
                  refine es <| xs <| rK fun K174 RK174 hK174 gK174 => zz ?_
                  obtain ⟨r175, h176, h⟩ := bs h
                  refine cw (a_ref35_Event hI h176) <| zz ?_
                  subst hK174 gK174
                  refine es <| xs <| rP hI fun K178 hK178 => rgP_cons <| zq ?_
                  refine sP.foot (.cell 2 0 5) (fun _ => FootOK.ld rfl rfl rfl (by kernel_rfl) (by decide)) fd (by first | exact .inl (by first | rfl | decide) | exact .inr (by kernel_rfl)) <| rgP_cons <| zq ?_
                  refine sP.light rfl fd <| rgP_cons <| zq ?_
                  refine sP.foot (.cell 4 1 1) (fun _ => FootOK.ld rfl rfl rfl (by kernel_rfl) (by decide)) fd (by first | exact .inl (by first | rfl | decide) | exact .inr (by kernel_rfl)) <| rgP_cons <| zq ?_
                  refine sP.light rfl fd <| rgP_cons <| zq ?_
                  refine sP.light rfl fd <| rgP_cons <| zq ?_
                  refine sP.pat 1 0 5 rfl rfl rfl <| rgP_cons <| zq ?_
                  refine sP.light rfl fd <| rgP_cons <| zq ?_
                  refine sP.light rfl fd <| zq ?_
                  refine rgP_nil fk ?_
                  subst hK178
                  refine es <| xr ?_
                  cases h
                  exact en fr
end Go.Proofs.YtalfcmgcjdkolaaGreatDoor
namespace Go.Proofs.YtalfcmgcjdkolaaGreatDoor
open Go.RowKit
set_option maxRecDepth 100000
set_option maxHeartbeats 10000000
structure T_captionerref38_rest where
  cost_ : Int
  parts_ : Int
  deriving DecidableEq
def T_captionerref38_rest.d (x : T_captionerref38_rest) : D := .agg [.int .i64 x.cost_, .int .i64 x.parts_]
end Go.Proofs.YtalfcmgcjdkolaaGreatDoor
namespace Go.Proofs.YtalfcmgcjdkolaaGreatDoor
open Go.RowKit
set_option maxRecDepth 100000
set_option maxHeartbeats 10000000
theorem dd_EF : (∀ x, T_api_Profile.d x = .agg [.str x.Name, .int .i64 x.Reading, .int .i64 x.MinFrames, .int .i64 x.MaxFrames, .int .i64 x.MinGap, .int .i64 x.ShotBefore, .int .i64 x.ShotAfter, .int .i64 x.Rows, .int .i64 x.Cols, .str x.Forbidden, .int .i64 x.SafeTop, .int .i64 x.SafeBottom, .int .i64 x.SafeLeft, .int .i64 x.SafeRight]) ∧ (∀ x, T_api_Span.d x = .agg [.int .i64 x.In, .int .i64 x.Out]) ∧ (∀ x, T_api_Word.d x = .agg [.str x.Text, .int .i64 x.Span.In, .int .i64 x.Span.Out]) ∧ (∀ x, T_arr6_Int.d x = .agg [.int .i64 x.a0, .int .i64 x.a1, .int .i64 x.a2, .int .i64 x.a3, .int .i64 x.a4, .int .i64 x.a5]) ∧ (∀ x, T_api_Penalties.d x = .agg [.int .i64 x.Strength.a0, .int .i64 x.Strength.a1, .int .i64 x.Strength.a2, .int .i64 x.Strength.a3, .int .i64 x.Strength.a4, .int .i64 x.Strength.a5, .int .i64 x.Ragged, .int .i64 x.Row, .int .i64 x.Event, .int .i64 x.Fast, .int .i64 x.Gap, .int .i64 x.Shot]) ∧ (∀ x, T_api_Speech.d x = .agg [.int .u8 x.Rate, .sl (x.Words.map T_api_Word.d), .sl (x.Shots.map (D.int .i64)), .int .i64 x.Table.Strength.a0, .int .i64 x.Table.Strength.a1, .int .i64 x.Table.Strength.a2, .int .i64 x.Table.Strength.a3, .int .i64 x.Table.Strength.a4, .int .i64 x.Table.Strength.a5, .int .i64 x.Table.Ragged, .int .i64 x.Table.Row, .int .i64 x.Table.Event, .int .i64 x.Table.Fast, .int .i64 x.Table.Gap, .int .i64 x.Table.Shot, .str x.House.Name, .int .i64 x.House.Reading, .int .i64 x.House.MinFrames, .int .i64 x.House.MaxFrames, .int .i64 x.House.MinGap, .int .i64 x.House.ShotBefore, .int .i64 x.House.ShotAfter, .int .i64 x.House.Rows, .int .i64 x.House.Cols, .str x.House.Forbidden, .int .i64 x.House.SafeTop, .int .i64 x.House.SafeBottom, .int .i64 x.House.SafeLeft, .int .i64 x.House.SafeRight]) ∧ (∀ x, T_api_Part.d x = .agg [.int .i64 x.From, .int .i64 x.To, .sl (x.Breaks.map (D.int .i64)), .int .i64 x.Span.In, .int .i64 x.Span.Out]) ∧ (∀ x, T_api_Segments.d x = .agg [.sl (x.Parts.map T_api_Part.d), .int .i64 x.Cost, .sl (x.Potentials.map (D.int .i64))]) := ⟨fun _ => rfl, fun _ => rfl, fun _ => rfl, fun _ => rfl, fun _ => rfl, fun _ => rfl, fun _ => rfl, fun _ => rfl⟩
def g_slices_Equal_int64_int64_s1 (s1_0 : List Int) (s2_1 : List Int) (x10 : Int) : Option (Nx (Int) (Unit ⊕ Unit)) :=
  (if (decide (x10 < (s1_0.length : Int))) then ((atI s1_0 x10).bind fun y74 => ((atI s2_1 x10).bind fun y76 => (if (y74 != y76) then (some (.out (.inl ()))) else (some (.go (IntKind.i64.wrap (x10 + 1))))))) else (some (.out (.inr ()))))
def g_slices_Equal_int64_int64 (s1_0 : List Int) (s2_1 : List Int) : Option (Bool) :=
  (if ((s1_0.length : Int) != (s2_1.length : Int)) then (some false) else ((iter (g_slices_Equal_int64_int64_s1 s1_0 s2_1) 0).bind fun e11 => (match e11 with | Sum.inl e11 => (some false) | Sum.inr (e11) => (some true))))
theorem a_slices_Equal_int64_int64 {I : World → Prop} (hI : Stab I) {s1_0 : List Int} {s2_1 : List Int} {r : Bool} (h : g_slices_Equal_int64_int64 s1_0 s2_1 = some r) : AFun Tryz.prog I 18 [.sl (s1_0.map (D.int .i64)), .sl (s2_1.map (D.int .i64))] (.bool r) := by
  have dd := dd_EF; have k := True.intro; have q := k; have rs := Tryz.results18
  unfold g_slices_Equal_int64_int64 at h
  refine .en hI Tryz.func18 Tryz.ntmps18 ?_
  refine xs <| rz ?_
  refine es <| xs <| xs <| rz ?_
  refine es ?_
  rcases iK k h with ⟨k, h⟩ | ⟨k, h⟩
  · refine xt <| xs <| rz ?_
    refine es <| xr <| er ?_
    cases h
    exact en fr
  · refine xf <| xk <| es <| xs <| xs <| rz ?_
    refine es <| xb ?_
    obtain ⟨e11, h82, h⟩ := bs h
    refine rb_loop (fun x10 => ⟨envL [(0, .sl (s1_0.map (D.int .i64))), (1, .sl (s2_1.map (D.int .i64))), (12, .int .i64 (s1_0.length : Int)), (13, .int .i64 x10)], heapL [], 0, 26⟩) (fun w => match w with | Sum.inl _ => .ret | Sum.inr (_) => .exit 0) (fun w => match w with | Sum.inl e11 => ⟨envL [(4, .bool false)], heapL [], 0, 26⟩ | Sum.inr (e11) => ⟨envL [], heapL [], 0, 26⟩) h82 (wk []) (by intro w; rcases w with w | w <;> simp) ?_ ?_
    · clear h
      intro x10 y h
      unfold g_slices_Equal_int64_int64_s1 at h
      refine xs <| rz ?_
      refine es <| xs ?_
      rcases iK k h with ⟨k, h⟩ | ⟨k, h⟩
      · refine xt <| xk <| es <| xs <| xb <| xs <| rz ?_
        refine es <| xs <| rD hI fun K73 RK73 hK73 gK73 => zz ?_
        obtain ⟨y74, q, h⟩ := bK q h
        refine zz ?_
        obtain ⟨y76, q, h⟩ := bK q h
        refine zz ?_
        subst hK73 gK73
        refine es ?_
        rcases iK k h with ⟨k, h⟩ | ⟨k, h⟩
        · refine xt <| xs <| rz ?_
          refine es <| xr <| br <| er ?_
          cases h
          exact en ⟨rfl, wk []⟩
        · refine xf <| xk <| bn <| es <| rz ?_
          cases h
          exact en ⟨rfl, wk []⟩
      · refine xf <| xx <| ee ?_
        cases h
        exact en ⟨rfl, wk []⟩
    · rcases e11 with e11 | e11
      · try dsimp only at h ⊢
        refine br <| er ?_
        cases h
        exact en fr
      · try dsimp only at h ⊢
        refine bh <| es <| xs <| rz ?_
        refine es <| xr ?_
        cases h
        exact en fr
def g_slices_Equal_int_int_s1 (s1_0 : List Int) (s2_1 : List Int) (x10 : Int) : Option (Nx (Int) (Unit ⊕ Unit)) :=
  (if (decide (x10 < (s1_0.length : Int))) then ((atI s1_0 x10).bind fun y74 => ((atI s2_1 x10).bind fun y76 => (if (y74 != y76) then (some (.out (.inl ()))) else (some (.go (IntKind.i64.wrap (x10 + 1))))))) else (some (.out (.inr ()))))
def g_slices_Equal_int_int (s1_0 : List Int) (s2_1 : List Int) : Option (Bool) :=
  (if ((s1_0.length : Int) != (s2_1.length : Int)) then (some false) else ((iter (g_slices_Equal_int_int_s1 s1_0 s2_1) 0).bind fun e11 => (match e11 with | Sum.inl e11 => (some false) | Sum.inr (e11) => (some true))))
theorem a_slices_Equal_int_int {I : World → Prop} (hI : Stab I) {s1_0 : List Int} {s2_1 : List Int} {r : Bool} (h : g_slices_Equal_int_int s1_0 s2_1 = some r) : AFun Tryz.prog I 37 [.sl (s1_0.map (D.int .i64)), .sl (s2_1.map (D.int .i64))] (.bool r) := by
  have dd := dd_EF; have k := True.intro; have q := k; have rs := Tryz.results37
  unfold g_slices_Equal_int_int at h
  refine .en hI Tryz.func37 Tryz.ntmps37 ?_
  refine xs <| rz ?_
  refine es <| xs <| xs <| rz ?_
  refine es ?_
  rcases iK k h with ⟨k, h⟩ | ⟨k, h⟩
  · refine xt <| xs <| rz ?_
    refine es <| xr <| er ?_
    cases h
    exact en fr
  · refine xf <| xk <| es <| xs <| xs <| rz ?_
    refine es <| xb ?_
    obtain ⟨e11, h82, h⟩ := bs h
    refine rb_loop (fun x10 => ⟨envL [(0, .sl (s1_0.map (D.int .i64))), (1, .sl (s2_1.map (D.int .i64))), (12, .int .i64 (s1_0.length : Int)), (13, .int .i64 x10)], heapL [], 0, 26⟩) (fun w => match w with | Sum.inl _ => .ret | Sum.inr (_) => .exit 0) (fun w => match w with | Sum.inl e11 => ⟨envL [(4, .bool false)], heapL [], 0, 26⟩ | Sum.inr (e11) => ⟨envL [], heapL [], 0, 26⟩) h82 (wk []) (by intro w; rcases w with w | w <;> simp) ?_ ?_
    · clear h
      intro x10 y h
      unfold g_slices_Equal_int_int_s1 at h
      refine xs <| rz ?_
      refine es <| xs ?_
      rcases iK k h with ⟨k, h⟩ | ⟨k, h⟩
      · refine xt <| xk <| es <| xs <| xb <| xs <| rz ?_
        refine es <| xs <| rD hI fun K73 RK73 hK73 gK73 => zz ?_
        obtain ⟨y74, q, h⟩ := bK q h
        refine zz ?_
        obtain ⟨y76, q, h⟩ := bK q h
        refine zz ?_
        subst hK73 gK73
        refine es ?_
        rcases iK k h with ⟨k, h⟩ | ⟨k, h⟩
        · refine xt <| xs <| rz ?_
          refine es <| xr <| br <| er ?_
          cases h
          exact en ⟨rfl, wk []⟩
        · refine xf <| xk <| bn <| es <| rz ?_
          cases h
          exact en ⟨rfl, wk []⟩
      · refine xf <| xx <| ee ?_
        cases h
        exact en ⟨rfl, wk []⟩
    · rcases e11 with e11 | e11
      · try dsimp only at h ⊢
        refine br <| er ?_
        cases h
        exact en fr
      · try dsimp only at h ⊢
        refine bh <| es <| xs <| rz ?_
        refine es <| xr ?_
        cases h
        exact en fr
def g_law38_awake  : Option (Bool) :=
  ((g_profile_Standard 3).bind fun r7 => ((g_penalty_Standard).bind fun r13 => ((g_segment_Segment (T_api_Speech.mk 3 [(T_api_Word.mk [71, 111, 33] (T_api_Span.mk 0 25)), (T_api_Word.mk [78, 111, 119] (T_api_Span.mk 25 50))] [] r13 r7.1)).bind fun r19 => ((g_segment_Cost (T_api_Speech.mk 3 [(T_api_Word.mk [71, 111, 33] (T_api_Span.mk 0 25)), (T_api_Word.mk [78, 111, 119] (T_api_Span.mk 25 50))] [] r13 r7.1) [(T_api_Part.mk 0 1 [] (T_api_Span.mk 0 0)), (T_api_Part.mk 1 2 [] (T_api_Span.mk 0 0))]).bind fun r25 => (if (r7.2 == 0) then (if (r19.2 == 0) then (if (r25.2 == 0) then (if (r19.1.Cost == 550) then (if (r25.1 == 1300) then (if ((r19.1.Parts.length : Int) == 1) then ((g_slices_Equal_int64_int64 r19.1.Potentials [550, 550, 0]).bind fun r43 => (some r43)) else (some false)) else (some false)) else (some false)) else (some false)) else (some false)) else (some false))))))
theorem a_law38_awake {I : World → Prop} (hI : Stab I) (hShp : ∀ w, I w → Shp w) (hU8T : ∀ w, I w → U8T w)  {r : Bool} (h : g_law38_awake  = some r) : AFun Tryz.prog I 8 [] (.bool r) := by
  have dd := dd_EF; have k := True.intro; have q := k; have rs := Tryz.results8
  unfold g_law38_awake at h
  refine .en hI Tryz.func8 Tryz.ntmps8 ?_
  refine xs <| rz ?_
  refine es <| xs <| rK fun K6 RK6 hK6 gK6 => zz ?_
  obtain ⟨r7, h8, h⟩ := bs h
  refine cw (a_profile_Standard hI h8) <| zz ?_
  subst hK6 gK6
  refine es <| xs <| rD hI fun K12 RK12 hK12 gK12 => zz ?_
  obtain ⟨r13, h14, h⟩ := bs h
  refine cd (a_penalty_Standard hI h14) <| zz ?_
  refine hd <| zz ?_
  subst hK12 gK12
  refine es <| xs <| rK fun K18 RK18 hK18 gK18 => zz ?_
  obtain ⟨r19, h20, h⟩ := bs h
  refine cw (a_segment_Segment hI hShp hU8T h20) <| zz ?_
  subst hK18 gK18
  refine es <| xs <| rK fun K24 RK24 hK24 gK24 => zz ?_
  obtain ⟨r25, h26, h⟩ := bs h
  refine cw (a_segment_Cost hI hShp hU8T h26) <| zz ?_
  subst hK24 gK24
  refine es <| xs <| rK fun K36 RK36 hK36 gK36 => zz ?_
  rcases iK k h with ⟨k, h⟩ | ⟨k, h⟩
  · refine zz ?_
    rcases iK k h with ⟨k, h⟩ | ⟨k, h⟩
    · refine zz ?_
      rcases iK k h with ⟨k, h⟩ | ⟨k, h⟩
      · refine zz ?_
        rcases iK k h with ⟨k, h⟩ | ⟨k, h⟩
        · refine zz ?_
          rcases iK k h with ⟨k, h⟩ | ⟨k, h⟩
          · refine zz ?_
            rcases iK k h with ⟨k, h⟩ | ⟨k, h⟩
            · refine zz ?_
              obtain ⟨r43, h44, h⟩ := bs h
              refine cw (a_slices_Equal_int64_int64 hI h44) <| zz ?_
              subst hK36 gK36
              refine es <| xr ?_
              cases h
              exact en fr
            · refine zz ?_
              subst hK36 gK36
              refine es <| xr ?_
              cases h
              exact en fr
          · refine zz ?_
            subst hK36 gK36
            refine es <| xr ?_
            cases h
            exact en fr
        · refine zz ?_
          subst hK36 gK36
          refine es <| xr ?_
          cases h
          exact en fr
      · refine zz ?_
        subst hK36 gK36
        refine es <| xr ?_
        cases h
        exact en fr
    · refine zz ?_
      subst hK36 gK36
      refine es <| xr ?_
      cases h
      exact en fr
  · refine zz ?_
    subst hK36 gK36
    refine es <| xr ?_
    cases h
    exact en fr
def g_law38_few (s_0 : T_api_Speech) : Option (T_api_Speech) :=
  ((subH s_0.Words (if 8 < (s_0.Words.length : Int) then 8 else (s_0.Words.length : Int))).bind fun z15 => ((subH s_0.Shots (if 6 < (s_0.Shots.length : Int) then 6 else (s_0.Shots.length : Int))).bind fun z20 => (some (T_api_Speech.mk s_0.Rate z15 z20 s_0.Table s_0.House))))
theorem a_law38_few {I : World → Prop} (hI : Stab I) {s_0 : T_api_Speech} {r : T_api_Speech} (h : g_law38_few s_0 = some r) : AFun Tryz.prog I 9 [T_api_Speech.d s_0] (T_api_Speech.d r) := by
  have dd := dd_EF; have k := True.intro; have q := k; have rs := Tryz.results9
  unfold g_law38_few at h
  refine .en hI Tryz.func9 Tryz.ntmps9 ?_
  refine xs <| rz ?_
  refine es <| xs <| rP hI fun K14 hK14 => rgP_cons <| zq ?_
  refine sP.light rfl fd <| rgP_cons <| zq ?_
  refine sP.foot (.cell 0 1 1) (fun _ => FootOK.ld rfl rfl rfl (by kernel_rfl) (by decide)) fd (by first | exact .inl (by first | rfl | decide) | exact .inr (by kernel_rfl)) <| rgP_cons <| zq ?_
  refine sP.light rfl fd <| rgP_cons <| zq ?_
  refine sP.foot (.cell 0 1 1) (fun _ => FootOK.ld rfl rfl rfl (by kernel_rfl) (by decide)) fd (by first | exact .inl (by first | rfl | decide) | exact .inr (by kernel_rfl)) <| rgP_cons <| zq ?_
  refine sP.light rfl fd <| rgP_cons <| zq ?_
  refine sP.light rfl fd <| rgP_cons <| zq ?_
  obtain ⟨z15, h16, h⟩ := bind_some h
  obtain ⟨⟨h17, h18⟩, h19⟩ := subH_some h16
  have q := And.intro @h17 <| And.intro @h18 <| q
  try simp -implicitDefEqProofs only [vt, vm, sevalprocAttr, dd, k, q] at h19
  have q := And.intro @h19 <| q
  refine zq ?_
  refine sP.foot (.ids []) (fun hN => FootOK.idsB [] (by rfl) rfl hN) fd (by first | exact .inl (by first | rfl | decide) | exact .inr (by kernel_rfl)) <| rgP_cons <| zq ?_
  refine sP.light rfl fd <| rgP_cons <| zq ?_
  refine sP.foot (.cell 0 2 1) (fun _ => FootOK.ld rfl rfl rfl (by kernel_rfl) (by decide)) fd (by first | exact .inl (by first | rfl | decide) | exact .inr (by kernel_rfl)) <| rgP_cons <| zq ?_
  refine sP.light rfl fd <| rgP_cons <| zq ?_
  refine sP.foot (.cell 0 2 1) (fun _ => FootOK.ld rfl rfl rfl (by kernel_rfl) (by decide)) fd (by first | exact .inl (by first | rfl | decide) | exact .inr (by kernel_rfl)) <| rgP_cons <| zq ?_
  refine sP.light rfl fd <| rgP_cons <| zq ?_
  refine sP.light rfl fd <| rgP_cons <| zq ?_
  obtain ⟨z20, h21, h⟩ := bind_some h
  obtain ⟨⟨h22, h23⟩, h24⟩ := subH_some h21
  have q := And.intro @h22 <| And.intro @h23 <| q
  try simp -implicitDefEqProofs only [vt, vm, sevalprocAttr, dd, k, q] at h24
  have q := And.intro @h24 <| q
  refine zq ?_
  refine sP.foot (.ids []) (fun hN => FootOK.idsB [] (by rfl) rfl hN) fd (by first | exact .inl (by first | rfl | decide) | exact .inr (by kernel_rfl)) <| rgP_cons <| zq ?_
  refine sP.light rfl fd <| rgP_cons <| zq ?_
  refine sP.pat 0 1 1 rfl rfl rfl <| rgP_cons <| zq ?_
  refine sP.light rfl fd <| rgP_cons <| zq ?_
  refine sP.pat 0 2 1 rfl rfl rfl <| zq ?_
  refine rgP_nil fk ?_
  subst hK14
  refine es <| xs <| rz ?_
  refine es <| xr ?_
  cases h
  exact en fr
def g_law38_same (a_0 : T_api_Part) (b_1 : T_api_Part) : Option (Bool) :=
  (if (a_0.From == b_1.From) then (if (a_0.To == b_1.To) then (if ((a_0.Span.In == b_1.Span.In) && (a_0.Span.Out == b_1.Span.Out)) then ((g_slices_Equal_int_int a_0.Breaks b_1.Breaks).bind fun r13 => (some r13)) else (some false)) else (some false)) else (some false))
theorem a_law38_same {I : World → Prop} (hI : Stab I) {a_0 : T_api_Part} {b_1 : T_api_Part} {r : Bool} (h : g_law38_same a_0 b_1 = some r) : AFun Tryz.prog I 12 [T_api_Part.d a_0, T_api_Part.d b_1] (.bool r) := by
  have dd := dd_EF; have k := True.intro; have q := k; have rs := Tryz.results12
  unfold g_law38_same at h
  refine .en hI Tryz.func12 Tryz.ntmps12 ?_
  refine xs <| rz ?_
  refine es <| xs <| rK fun K9 RK9 hK9 gK9 => zz ?_
  rcases iK k h with ⟨k, h⟩ | ⟨k, h⟩
  · refine zz ?_
    rcases iK k h with ⟨k, h⟩ | ⟨k, h⟩
    · refine zz ?_
      rcases iK k h with ⟨k, h⟩ | ⟨k, h⟩
      · refine zz ?_
        obtain ⟨r13, h14, h⟩ := bs h
        refine cw (a_slices_Equal_int_int hI h14) <| zz ?_
        subst hK9 gK9
        refine es <| xr ?_
        cases h
        exact en fr
      · refine zz ?_
        subst hK9 gK9
        refine es <| xr ?_
        cases h
        exact en fr
    · refine zz ?_
      subst hK9 gK9
      refine es <| xr ?_
      cases h
      exact en fr
  · refine zz ?_
    subst hK9 gK9
    refine es <| xr ?_
    cases h
    exact en fr
def g_law38_SegmentParts (s_0 : T_api_Speech) (from_1 : Int) (to_2 : Int) : Option (Bool) :=
  ((g_law38_awake).bind fun r7 => (if r7 then ((g_law38_few s_0).bind fun r14 => ((g_segment_Part r14 from_1 to_2).bind fun r20 => ((g_ref38_Part r14 from_1 to_2).bind fun r26 => ((g_law38_same r20.1 r26.1).bind fun r39 => (if r39 then (if (r20.2.1 == r26.2.1) then (if (r20.2.2 == r26.2.2) then ((g_segment_Check r14).bind fun r44 => ((g_ref38_Check r14).bind fun r46 => (some (r44 == r46)))) else (some false)) else (some false)) else (some false)))))) else (some false)))
theorem a_law38_SegmentParts {I : World → Prop} (hI : Stab I) (hShp : ∀ w, I w → Shp w) (hU8T : ∀ w, I w → U8T w) {s_0 : T_api_Speech} {from_1 : Int} {to_2 : Int} {r : Bool} (h : g_law38_SegmentParts s_0 from_1 to_2 = some r) : AFun Tryz.prog I 3 [T_api_Speech.d s_0, .int .i64 from_1, .int .i64 to_2] (.bool r) := by
  have dd := dd_EF; have k := True.intro; have q := k; have rs := Tryz.results3
  unfold g_law38_SegmentParts at h
  refine .en hI Tryz.func3 Tryz.ntmps3 ?_
  refine xs <| rz ?_
  refine es <| xs <| xs <| rK fun K6 RK6 hK6 gK6 => zz ?_
  obtain ⟨r7, h8, h⟩ := bs h
  refine cw (a_law38_awake hI hShp hU8T h8) <| zz ?_
  subst hK6 gK6
  refine es ?_
  rcases iK k h with ⟨k, h⟩ | ⟨k, h⟩
  · refine xf <| xk <| es <| xs <| rK fun K13 RK13 hK13 gK13 => zz ?_
    obtain ⟨r14, h15, h⟩ := bs h
    refine cw (a_law38_few hI h15) <| zz ?_
    subst hK13 gK13
    refine es <| xs <| rK fun K19 RK19 hK19 gK19 => zz ?_
    obtain ⟨r20, h21, h⟩ := bs h
    refine cw (a_segment_Part hI hShp hU8T h21) <| zz ?_
    subst hK19 gK19
    refine es <| xs <| rK fun K25 RK25 hK25 gK25 => zz ?_
    obtain ⟨r26, h27, h⟩ := bs h
    refine cw (a_ref38_Part hI h27) <| zz ?_
    subst hK25 gK25
    refine es <| xs <| rD hI fun K38 RK38 hK38 gK38 => zz ?_
    obtain ⟨r39, h40, h⟩ := bs h
    refine cd (a_law38_same hI h40) <| zz ?_
    rcases iK k h with ⟨k, h⟩ | ⟨k, h⟩
    · refine zz ?_
      rcases iK k h with ⟨k, h⟩ | ⟨k, h⟩
      · refine zz ?_
        rcases iK k h with ⟨k, h⟩ | ⟨k, h⟩
        · refine zz ?_
          obtain ⟨r44, h45, h⟩ := bs h
          refine cd (a_segment_Check hI hU8T h45) <| zz ?_
          obtain ⟨r46, h47, h⟩ := bs h
          refine cd (a_ref38_Check hI h47) <| zz ?_
          subst hK38 gK38
          refine es <| xr ?_
          cases h
          exact en fr
        · refine zz ?_
          subst hK38 gK38
          refine es <| xr ?_
          cases h
          exact en fr
      · refine zz ?_
        subst hK38 gK38
        refine es <| xr ?_
        cases h
        exact en fr
    · refine zz ?_
      subst hK38 gK38
      refine es <| xr ?_
      cases h
      exact en fr
  · refine xt <| xs <| rz ?_
    refine es <| xr <| er ?_
    cases h
    exact en fr
end Go.Proofs.YtalfcmgcjdkolaaGreatDoor

