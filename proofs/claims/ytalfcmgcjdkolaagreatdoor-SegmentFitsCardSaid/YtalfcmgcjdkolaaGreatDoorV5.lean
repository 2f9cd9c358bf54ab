/- Texts of one proof, put together (EE, EG, EF, EH, EI, Bld2, GB, GJ, EJ, EM, SG, S19). No condition but those that each theorem states. -/
import Derived.Test.YtalfcmgcjdkolaaGreatDoorV4
import Derived.Test.YtalfcmgcjdkolaaGreatDoorProg
import Derived.Lib.Builder
import Derived.Lib.AppendStr
import Derived.Lib.ValidLaws
import Derived.Lib.SlTrimSet
import Derived.Lib.Bytealg
set_option linter.unusedSimpArgs false
set_option linter.unusedVariables false
namespace Go.Proofs.YtalfcmgcjdkolaaGreatDoor
open Go.RowKit
set_option maxRecDepth 100000
set_option maxHeartbeats 10000000
def g_ref02_Valid (r_0 : Int) : Option (Bool) :=
 (if (decide (1 ≤ r_0)) then (some (decide (r_0 ≤ 7))) else (some false))
def g_ref08_Repertoire  : Option ((List UInt8)) :=
 (some [32, 33, 34, 35, 36, 37, 38, 39, 40, 41, 42, 43, 44, 45, 46, 47, 48, 49, 50, 51, 52, 53, 54, 55, 56, 57, 58, 59, 60, 61, 62, 63, 64, 65, 66, 67, 68, 69, 70, 71, 72, 73, 74, 75, 76, 77, 78, 79, 80, 81, 82, 83, 84, 85, 86, 87, 88, 89, 90, 91, 92, 93, 94, 95, 96, 97, 98, 99, 100, 101, 102, 103, 104, 105, 106, 107, 108, 109, 110, 111, 112, 113, 114, 115, 116, 117, 118, 119, 120, 121, 122, 123, 124, 125, 126, 194, 161, 194, 162, 194, 163, 194, 164, 194, 165, 194, 166, 194, 167, 194, 169, 194, 171, 194, 174, 194, 176, 194, 183, 194, 187, 194, 189, 194, 191, 195, 128, 195, 129, 195, 130, 195, 131, 195, 132, 195, 133, 195, 134, 195, 135, 195, 136, 195, 137, 195, 138, 195, 139, 195, 140, 195, 141, 195, 142, 195, 143, 195, 145, 195, 146, 195, 147, 195, 148, 195, 149, 195, 150, 195, 152, 195, 153, 195, 154, 195, 155, 195, 156, 195, 159, 195, 160, 195, 161, 195, 162, 195, 163, 195, 164, 195, 165, 195, 166, 195, 167, 195, 168, 195, 169, 195, 170, 195, 171, 195, 172, 195, 173, 195, 174, 195, 175, 195, 177, 195, 178, 195, 179, 195, 180, 195, 181, 195, 182, 195, 184, 195, 185, 195, 186, 195, 187, 195, 188, 197, 146, 197, 147, 226, 128, 148, 226, 128, 152, 226, 128, 153, 226, 128, 156, 226, 128, 157, 226, 128, 162, 226, 128, 166, 226, 132, 162, 226, 153, 170])
def g_ref08_Index_s1 (r_0 : Int) (r18 : (List UInt8)) (x20 : Int × Nat) : Option (Nx (Int × Nat) (Int ⊕ Unit)) :=
 (if (decide (x20.2 < r18.length)) then (if ((runeAt r18 x20.2) == r_0) then (some (.out (.inl x20.1))) else (some (.go ((IntKind.i64.wrap (x20.1 + 1)), (x20.2 + widthAt r18 x20.2))))) else (some (.out (.inr ()))))
def g_ref08_Index (r_0 : Int) : Option (Int) :=
 (((if (decide (32 ≤ r_0)) then (some (decide (r_0 ≤ 126))) else (some false)) : Option (Bool)).bind fun v5 => (if v5 then (some (IntKind.i64.wrap (IntKind.i32.wrap (r_0 - 32)))) else ((g_ref08_Repertoire).bind fun r18 => ((iter (g_ref08_Index_s1 r_0 r18) (0, 0)).bind fun e21 => (match e21 with | Sum.inl e21 => (some e21) | Sum.inr (e21) => (some (-1)))))))
def g_ref34_Words_s1 (s_0 : List UInt8) (x9 : Int × Int × (List (List UInt8))) : Option (Nx (Int × Int × (List (List UInt8))) ((List (List UInt8)))) :=
 (if (decide (x9.2.1 ≤ (s_0.length : Int))) then (((if (x9.2.1 == (s_0.length : Int)) then (some true) else ((atI s_0 x9.2.1).bind fun b112 => (if ((b112.toNat : Int) == 32) then (some true) else (some ((b112.toNat : Int) == 10))))) : Option (Bool)).bind fun v109 => (if v109 then (if (decide (x9.1 < x9.2.1)) then ((subI s_0 x9.1 x9.2.1).bind fun z121 => (if (x9.2.2.length + 1) * 16 ≤ 140737488355328 then (some (.go ((IntKind.i64.wrap (x9.2.1 + 1)), (IntKind.i64.wrap (x9.2.1 + 1)), (x9.2.2 ++ [z121])))) else none)) else (some (.go ((IntKind.i64.wrap (x9.2.1 + 1)), (IntKind.i64.wrap (x9.2.1 + 1)), x9.2.2)))) else (some (.go (x9.1, (IntKind.i64.wrap (x9.2.1 + 1)), x9.2.2))))) else (some (.out x9.2.2)))
def g_ref34_Words (s_0 : List UInt8) : Option ((List (List UInt8))) :=
 ((iter (g_ref34_Words_s1 s_0) (0, 0, [])).bind fun e10 => (some e10))
def g_ref34_among_s1 (word_1 : List UInt8) (r7 : (List (List UInt8))) (x9 : Int) : Option (Nx (Int) (Unit ⊕ Unit)) :=
 (if (decide (x9 < (r7.length : Int))) then ((atI r7 x9).bind fun y57 => (if (y57 == word_1) then (some (.out (.inl ()))) else (some (.go (IntKind.i64.wrap (x9 + 1)))))) else (some (.out (.inr ()))))
def g_ref34_among (list_0 : List UInt8) (word_1 : List UInt8) : Option (Bool) :=
 ((g_ref34_Words list_0).bind fun r7 => ((iter (g_ref34_among_s1 word_1 r7) 0).bind fun e10 => (match e10 with | Sum.inl e10 => (some true) | Sum.inr (e10) => (some false))))
def g_ref34_Sg_s1  (x54 : (List UInt8)) : Option (Nx ((List UInt8)) ((List UInt8))) :=
 (((if (decide (0 < (x54.length : Int))) then ((atI x54 (IntKind.i64.wrap ((x54.length : Int) - 1))).bind fun b89 => (if ((b89.toNat : Int) == 34) then (some true) else (if ((b89.toNat : Int) == 39) then (some true) else (if ((b89.toNat : Int) == 41) then (some true) else (some ((b89.toNat : Int) == 93)))))) else (some false)) : Option (Bool)).bind fun v86 => (if v86 then ((subH x54 (IntKind.i64.wrap ((x54.length : Int) - 1))).bind fun z97 => (some (.go z97))) else (some (.out x54))))
def g_ref34_Sg (word_0 : List UInt8) (next_1 : List UInt8) : Option (Int) :=
 ((iter (g_ref34_Sg_s1) word_0).bind fun e55 => (if (decide (0 < (e55.length : Int))) then ((atI e55 (IntKind.i64.wrap ((e55.length : Int) - 1))).bind fun b109 => (((if ((b109.toNat : Int) == 46) then (some true) else (if ((b109.toNat : Int) == 33) then (some true) else (some ((b109.toNat : Int) == 63)))) : Option (Bool)).bind fun v167 => (if v167 then (some 5) else (((if ((b109.toNat : Int) == 58) then (some true) else (if ((b109.toNat : Int) == 59) then (some true) else (some (word_0 == ([45] : List UInt8))))) : Option (Bool)).bind fun v178 => (if v178 then (some 4) else (if ((b109.toNat : Int) == 44) then (some 3) else ((g_ref34_small word_0).bind fun r197 => ((g_ref34_among [97, 32, 97, 110, 32, 116, 104, 101, 32, 111, 102, 32, 116, 111, 32, 105, 110, 32, 111, 110, 32, 97, 116, 32, 98, 121, 32, 102, 111, 114, 32, 102, 114, 111, 109, 32, 119, 105, 116, 104, 32, 109, 121, 32, 121, 111, 117, 114, 32, 104, 105, 115, 32, 104, 101, 114, 32, 105, 116, 115, 32, 111, 117, 114, 32, 116, 104, 101, 105, 114, 32, 110, 111] r197).bind fun r199 => (if r199 then (some 0) else ((g_ref34_small next_1).bind fun r210 => ((g_ref34_among [97, 110, 100, 32, 98, 117, 116, 32, 111, 114, 32, 98, 101, 99, 97, 117, 115, 101, 32, 116, 104, 97, 116, 32, 119, 104, 105, 99, 104, 32, 119, 104, 111, 32, 119, 104, 101, 110, 32, 105, 102, 32, 119, 104, 105, 108, 101, 32, 115, 111, 32, 97, 115] r210).bind fun r212 => (if r212 then (some 2) else (some 1))))))))))))) else (if (word_0 == ([45] : List UInt8)) then (some 4) else ((g_ref34_small word_0).bind fun r269 => ((g_ref34_among [97, 32, 97, 110, 32, 116, 104, 101, 32, 111, 102, 32, 116, 111, 32, 105, 110, 32, 111, 110, 32, 97, 116, 32, 98, 121, 32, 102, 111, 114, 32, 102, 114, 111, 109, 32, 119, 105, 116, 104, 32, 109, 121, 32, 121, 111, 117, 114, 32, 104, 105, 115, 32, 104, 101, 114, 32, 105, 116, 115, 32, 111, 117, 114, 32, 116, 104, 101, 105, 114, 32, 110, 111] r269).bind fun r271 => (if r271 then (some 0) else ((g_ref34_small next_1).bind fun r282 => ((g_ref34_among [97, 110, 100, 32, 98, 117, 116, 32, 111, 114, 32, 98, 101, 99, 97, 117, 115, 101, 32, 116, 104, 97, 116, 32, 119, 104, 105, 99, 104, 32, 119, 104, 111, 32, 119, 104, 101, 110, 32, 105, 102, 32, 119, 104, 105, 108, 101, 32, 115, 111, 32, 97, 115] r282).bind fun r284 => (if r284 then (some 2) else (some 1))))))))))
def g_ref40_within (n_0 : Int) (lo_1 : Int) (hi_2 : Int) : Option (Bool) :=
 (if (decide (lo_1 ≤ n_0)) then (some (decide (n_0 ≤ hi_2))) else (some false))
def g_ref02_Ticks (r_0 : Int) : Option (Int) :=
 ((g_ref02_Valid r_0).bind fun r7 => (if r7 then ((atI [5005, 5000, 4800, 4004, 4000, 2400, 2002] (IntKind.u8.wrap (r_0 - 1))).bind fun y17 => (some y17)) else (some 0)))
def g_ref40_Needed (rate_0 : Int) (chars_1 : Int) (limit_2 : Int) : Option (Int × Int) :=
 ((g_ref02_Valid rate_0).bind fun r7 => (if r7 then ((((g_ref40_within chars_1 0 10000).bind fun r18 => (if r18 then ((g_ref40_within limit_2 1 10000).bind fun r21 => (some (!r21))) else (some true))) : Option (Bool)).bind fun v16 => (if v16 then (some (0, 2)) else ((g_ref02_Ticks rate_0).bind fun r31 => (if ¬ (IntKind.i64.wrap (limit_2 * r31)) = 0 then (some ((IntKind.i64.wrap (Int.tdiv (IntKind.i64.wrap ((IntKind.i64.wrap ((IntKind.i64.wrap ((IntKind.i64.wrap (chars_1 * 100)) * 120000)) + (IntKind.i64.wrap (limit_2 * r31)))) - 1)) (IntKind.i64.wrap (limit_2 * r31)))), 0)) else none)))) else (some (0, 3))))
end Go.Proofs.YtalfcmgcjdkolaaGreatDoor
namespace Go.Proofs.YtalfcmgcjdkolaaGreatDoor
open Go.RowKit
set_option maxRecDepth 100000
set_option maxHeartbeats 10000000
structure T_R38_rest where
 cost_ : Int
 parts_ : Int
 deriving DecidableEq
def T_R38_rest.d (x : T_R38_rest) : D := .agg [.int .i64 x.cost_, .int .i64 x.parts_]
end Go.Proofs.YtalfcmgcjdkolaaGreatDoor
namespace Go.Proofs.YtalfcmgcjdkolaaGreatDoor
open Go.RowKit
set_option maxRecDepth 100000
set_option maxHeartbeats 10000000
theorem dd_EF : (∀ x, A_Profile.d x = .agg [.str x.Name, .int .i64 x.Reading, .int .i64 x.MinFrames, .int .i64 x.MxF, .int .i64 x.MinGap, .int .i64 x.ShB, .int .i64 x.ShA, .int .i64 x.Rows, .int .i64 x.Cols, .str x.Fbd, .int .i64 x.SfT, .int .i64 x.SfB, .int .i64 x.SfL, .int .i64 x.SfR]) ∧ (∀ x, A_Span.d x = .agg [.int .i64 x.In, .int .i64 x.Out]) ∧ (∀ x, A_Word.d x = .agg [.str x.Text, .int .i64 x.Span.In, .int .i64 x.Span.Out]) ∧ (∀ x, T_arr6_Int.d x = .agg [.int .i64 x.a0, .int .i64 x.a1, .int .i64 x.a2, .int .i64 x.a3, .int .i64 x.a4, .int .i64 x.a5]) ∧ (∀ x, A_Penalties.d x = .agg [.int .i64 x.Sg.a0, .int .i64 x.Sg.a1, .int .i64 x.Sg.a2, .int .i64 x.Sg.a3, .int .i64 x.Sg.a4, .int .i64 x.Sg.a5, .int .i64 x.Rgd, .int .i64 x.Row, .int .i64 x.Event, .int .i64 x.Fast, .int .i64 x.Gap, .int .i64 x.Shot]) ∧ (∀ x, A_Speech.d x = .agg [.int .u8 x.Rate, .sl (x.Words.map A_Word.d), .sl (x.Shots.map (D.int .i64)), .int .i64 x.Table.Sg.a0, .int .i64 x.Table.Sg.a1, .int .i64 x.Table.Sg.a2, .int .i64 x.Table.Sg.a3, .int .i64 x.Table.Sg.a4, .int .i64 x.Table.Sg.a5, .int .i64 x.Table.Rgd, .int .i64 x.Table.Row, .int .i64 x.Table.Event, .int .i64 x.Table.Fast, .int .i64 x.Table.Gap, .int .i64 x.Table.Shot, .str x.House.Name, .int .i64 x.House.Reading, .int .i64 x.House.MinFrames, .int .i64 x.House.MxF, .int .i64 x.House.MinGap, .int .i64 x.House.ShB, .int .i64 x.House.ShA, .int .i64 x.House.Rows, .int .i64 x.House.Cols, .str x.House.Fbd, .int .i64 x.House.SfT, .int .i64 x.House.SfB, .int .i64 x.House.SfL, .int .i64 x.House.SfR]) ∧ (∀ x, A_Part.d x = .agg [.int .i64 x.From, .int .i64 x.To, .sl (x.Breaks.map (D.int .i64)), .int .i64 x.Span.In, .int .i64 x.Span.Out]) ∧ (∀ x, A_Segments.d x = .agg [.sl (x.Parts.map A_Part.d), .int .i64 x.Cost, .sl (x.Potentials.map (D.int .i64))]) := ⟨fun _ => rfl, fun _ => rfl, fun _ => rfl, fun _ => rfl, fun _ => rfl, fun _ => rfl, fun _ => rfl, fun _ => rfl⟩
def g_slices_Equal_int64_int64_s1 (s1_0 : List Int) (s2_1 : List Int) (x10 : Int) : Option (Nx (Int) (Unit ⊕ Unit)) :=
 (if (decide (x10 < (s1_0.length : Int))) then ((atI s1_0 x10).bind fun y74 => ((atI s2_1 x10).bind fun y76 => (if (y74 != y76) then (some (.out (.inl ()))) else (some (.go (IntKind.i64.wrap (x10 + 1))))))) else (some (.out (.inr ()))))
def g_slices_Equal_int64_int64 (s1_0 : List Int) (s2_1 : List Int) : Option (Bool) :=
 (if ((s1_0.length : Int) != (s2_1.length : Int)) then (some false) else ((iter (g_slices_Equal_int64_int64_s1 s1_0 s2_1) 0).bind fun e11 => (match e11 with | Sum.inl e11 => (some false) | Sum.inr (e11) => (some true))))
theorem a_slices_Equal_int64_int64 {I : World → Prop} (hI : Stab I) {s1_0 : List Int} {s2_1 : List Int} {r : Bool} (h : g_slices_Equal_int64_int64 s1_0 s2_1 = some r) : AFun Tryz.prog I 18 [.sl (s1_0.map (D.int .i64)), .sl (s2_1.map (D.int .i64))] (.bool r) := by
 have dd := dd_EF; have k := True.intro; have q := k; have rs := Tryz.results18
 unfold g_slices_Equal_int64_int64 at h
 refine .en hI Tryz.func18 Tryz.ntmps18 ?_
 refine xs <| rz ?_
 refine es <| xs <| xs <| rz ?_
 refine es ?_
 rcases iK k h with ⟨k, h⟩ | ⟨k, h⟩
 ·refine xt <| xs <| rz ?_
  refine es <| xr <| er ?_
  cases h
  exact en fr
 ·refine xf <| xk <| es <| xs <| xs <| rz ?_
  refine es <| xb ?_
  obtain ⟨e11, h82, h⟩ := bs h
  refine rb_loop (fun x10 => ⟨envL [(0, .sl (s1_0.map (D.int .i64))), (1, .sl (s2_1.map (D.int .i64))), (12, .int .i64 (s1_0.length : Int)), (13, .int .i64 x10)], heapL [], 0, 26⟩) (fun w => match w with | Sum.inl _ => .ret | Sum.inr (_) => .exit 0) (fun w => match w with | Sum.inl e11 => ⟨envL [(4, .bool false)], heapL [], 0, 26⟩ | Sum.inr (e11) => ⟨envL [], heapL [], 0, 26⟩) h82 (wk []) (by intro w; rcases w with w | w <;> simp) ?_ ?_
  ·clear h
   intro x10 y h
   unfold g_slices_Equal_int64_int64_s1 at h
   refine xs <| rz ?_
   refine es <| xs ?_
   rcases iK k h with ⟨k, h⟩ | ⟨k, h⟩
   ·refine xt <| xk <| es <| xs <| xb <| xs <| rz ?_
    refine es <| xs <| rD hI fun K73 RK73 hK73 gK73 => zz ?_
    obtain ⟨y74, q, h⟩ := bK q h
    refine zz ?_
    obtain ⟨y76, q, h⟩ := bK q h
    refine zz ?_
    subst hK73 gK73
    refine es ?_
    rcases iK k h with ⟨k, h⟩ | ⟨k, h⟩
    ·refine xt <| xs <| rz ?_
     refine es <| xr <| br <| er ?_
     cases h
     exact en ⟨rfl, wk []⟩
    ·refine xf <| xk <| bn <| es <| rz ?_
     cases h
     exact en ⟨rfl, wk []⟩
   ·refine xf <| xx <| ee ?_
    cases h
    exact en ⟨rfl, wk []⟩
  ·rcases e11 with e11 | e11
   ·try dsimp only at h ⊢
    refine br <| er ?_
    cases h
    exact en fr
   ·try dsimp only at h ⊢
    refine bh <| es <| xs <| rz ?_
    refine es <| xr ?_
    cases h
    exact en fr
def g_law38_awake  : Option (Bool) :=
 ((g_profile_Standard 3).bind fun r7 => ((g_penalty_Standard).bind fun r13 => ((g_segment_Segment (A_Speech.mk 3 [(A_Word.mk [71, 111, 33] (A_Span.mk 0 25)), (A_Word.mk [78, 111, 119] (A_Span.mk 25 50))] [] r13 r7.1)).bind fun r19 => ((g_segment_Cost (A_Speech.mk 3 [(A_Word.mk [71, 111, 33] (A_Span.mk 0 25)), (A_Word.mk [78, 111, 119] (A_Span.mk 25 50))] [] r13 r7.1) [(A_Part.mk 0 1 [] (A_Span.mk 0 0)), (A_Part.mk 1 2 [] (A_Span.mk 0 0))]).bind fun r25 => (if (r7.2 == 0) then (if (r19.2 == 0) then (if (r25.2 == 0) then (if (r19.1.Cost == 550) then (if (r25.1 == 1300) then (if ((r19.1.Parts.length : Int) == 1) then ((g_slices_Equal_int64_int64 r19.1.Potentials [550, 550, 0]).bind fun r43 => (some r43)) else (some false)) else (some false)) else (some false)) else (some false)) else (some false)) else (some false))))))
theorem a_law38_awake {I : World → Prop} (hI : Stab I) (hShp : ∀ w, I w → Shp w) (hU8T : ∀ w, I w → U8T w)  {r : Bool} (h : g_law38_awake  = some r) : AFun Tryz.prog I 8 [] (.bool r) := by
 have dd := dd_EF; have k := True.intro; have q := k; have rs := Tryz.results8
 unfold g_law38_awake at h
 refine .en hI Tryz.func8 Tryz.ntmps8 ?_
 refine xs <| rz ?_
 refine es <| xs <| rK fun K6 RK6 hK6 gK6 => zz ?_
 obtain ⟨r7, h8, h⟩ := bs h
 refine cw (a_profile_Standard hI h8) <| zz ?_
 subst hK6 gK6
 refine es <| xs <| rD hI fun K12 RK12 hK12 gK12 => zz ?_
 obtain ⟨r13, h14, h⟩ := bs h
 refine cd (a_penalty_Standard hI h14) <| zz ?_
 refine hd <| zz ?_
 subst hK12 gK12
 refine es <| xs <| rK fun K18 RK18 hK18 gK18 => zz ?_
 obtain ⟨r19, h20, h⟩ := bs h
 refine cw (a_segment_Segment hI hShp hU8T h20) <| zz ?_
 subst hK18 gK18
 refine es <| xs <| rK fun K24 RK24 hK24 gK24 => zz ?_
 obtain ⟨r25, h26, h⟩ := bs h
 refine cw (a_segment_Cost hI hShp hU8T h26) <| zz ?_
 subst hK24 gK24
 refine es <| xs <| rK fun K36 RK36 hK36 gK36 => zz ?_
 rcases iK k h with ⟨k, h⟩ | ⟨k, h⟩
 ·refine zz ?_
  rcases iK k h with ⟨k, h⟩ | ⟨k, h⟩
  ·refine zz ?_
   rcases iK k h with ⟨k, h⟩ | ⟨k, h⟩
   ·refine zz ?_
    rcases iK k h with ⟨k, h⟩ | ⟨k, h⟩
    ·refine zz ?_
     rcases iK k h with ⟨k, h⟩ | ⟨k, h⟩
     ·refine zz ?_
      rcases iK k h with ⟨k, h⟩ | ⟨k, h⟩
      ·refine zz ?_
       obtain ⟨r43, h44, h⟩ := bs h
       refine cw (a_slices_Equal_int64_int64 hI h44) <| zz ?_
       subst hK36 gK36
       refine es <| xr ?_
       cases h
       exact en fr
      ·refine zz ?_
       subst hK36 gK36
       refine es <| xr ?_
       cases h
       exact en fr
     ·refine zz ?_
      subst hK36 gK36
      refine es <| xr ?_
      cases h
      exact en fr
    ·refine zz ?_
     subst hK36 gK36
     refine es <| xr ?_
     cases h
     exact en fr
   ·refine zz ?_
    subst hK36 gK36
    refine es <| xr ?_
    cases h
    exact en fr
  ·refine zz ?_
   subst hK36 gK36
   refine es <| xr ?_
   cases h
   exact en fr
 ·refine zz ?_
  subst hK36 gK36
  refine es <| xr ?_
  cases h
  exact en fr
def g_law38_few (s_0 : A_Speech) : Option (A_Speech) :=
 ((subH s_0.Words (if 8 < (s_0.Words.length : Int) then 8 else (s_0.Words.length : Int))).bind fun z15 => ((subH s_0.Shots (if 6 < (s_0.Shots.length : Int) then 6 else (s_0.Shots.length : Int))).bind fun z20 => (some (A_Speech.mk s_0.Rate z15 z20 s_0.Table s_0.House))))
theorem a_law38_few {I : World → Prop} (hI : Stab I) {s_0 : A_Speech} {r : A_Speech} (h : g_law38_few s_0 = some r) : AFun Tryz.prog I 9 [A_Speech.d s_0] (A_Speech.d r) := by
 have dd := dd_EF; have k := True.intro; have q := k; have rs := Tryz.results9
 unfold g_law38_few at h
 refine .en hI Tryz.func9 Tryz.ntmps9 ?_
 refine xs <| rz ?_
 refine es <| xs <| rP hI fun K14 hK14 => rgP_cons <| zq ?_
 refine sP.light rfl fd <| rgP_cons <| zq ?_
 refine sP.foot (.cell 0 1 1) (fun _ => FootOK.ld rfl rfl rfl (by kernel_rfl) (by decide)) fd (by first | exact .inl (by first | rfl | decide) | exact .inr (by kernel_rfl)) <| rgP_cons <| zq ?_
 refine sP.light rfl fd <| rgP_cons <| zq ?_
 refine sP.foot (.cell 0 1 1) (fun _ => FootOK.ld rfl rfl rfl (by kernel_rfl) (by decide)) fd (by first | exact .inl (by first | rfl | decide) | exact .inr (by kernel_rfl)) <| rgP_cons <| zq ?_
 refine sP.light rfl fd <| rgP_cons <| zq ?_
 refine sP.light rfl fd <| rgP_cons <| zq ?_
 obtain ⟨z15, h16, h⟩ := bind_some h
 obtain ⟨⟨h17, h18⟩, h19⟩ := subH_some h16
 have q := And.intro @h17 <| And.intro @h18 <| q
 try simp -implicitDefEqProofs only [vt, vm, sevalprocAttr, dd, k, q] at h19
 have q := And.intro @h19 <| q
 refine zq ?_
 refine sP.foot (.ids []) (fun hN => FootOK.idsB [] (by rfl) rfl hN) fd (by first | exact .inl (by first | rfl | decide) | exact .inr (by kernel_rfl)) <| rgP_cons <| zq ?_
 refine sP.light rfl fd <| rgP_cons <| zq ?_
 refine sP.foot (.cell 0 2 1) (fun _ => FootOK.ld rfl rfl rfl (by kernel_rfl) (by decide)) fd (by first | exact .inl (by first | rfl | decide) | exact .inr (by kernel_rfl)) <| rgP_cons <| zq ?_
 refine sP.light rfl fd <| rgP_cons <| zq ?_
 refine sP.foot (.cell 0 2 1) (fun _ => FootOK.ld rfl rfl rfl (by kernel_rfl) (by decide)) fd (by first | exact .inl (by first | rfl | decide) | exact .inr (by kernel_rfl)) <| rgP_cons <| zq ?_
 refine sP.light rfl fd <| rgP_cons <| zq ?_
 refine sP.light rfl fd <| rgP_cons <| zq ?_
 obtain ⟨z20, h21, h⟩ := bind_some h
 obtain ⟨⟨h22, h23⟩, h24⟩ := subH_some h21
 have q := And.intro @h22 <| And.intro @h23 <| q
 try simp -implicitDefEqProofs only [vt, vm, sevalprocAttr, dd, k, q] at h24
 have q := And.intro @h24 <| q
 refine zq ?_
 refine sP.foot (.ids []) (fun hN => FootOK.idsB [] (by rfl) rfl hN) fd (by first | exact .inl (by first | rfl | decide) | exact .inr (by kernel_rfl)) <| rgP_cons <| zq ?_
 refine sP.light rfl fd <| rgP_cons <| zq ?_
 refine sP.pat 0 1 1 rfl rfl rfl <| rgP_cons <| zq ?_
 refine sP.light rfl fd <| rgP_cons <| zq ?_
 refine sP.pat 0 2 1 rfl rfl rfl <| zq ?_
 refine rgP_nil fk ?_
 subst hK14
 refine es <| xs <| rz ?_
 refine es <| xr ?_
 cases h
 exact en fr
end Go.Proofs.YtalfcmgcjdkolaaGreatDoor


namespace Go.Proofs.YtalfcmgcjdkolaaGreatDoor
open Go.RowKit
theorem bSize : (Tryz.prog.info? 132).map (·.size) = some 2 := by kernel_rfl
theorem bLies : liesAt Tryz.prog Tryz.prog.depth 132 (2 / Tryz.prog.cellsOf 132) 0 132 1 = true := by kernel_rfl
theorem byte_info : (Tryz.prog.info? 5).map (fun i => (i.zero, i.size, i.bytes)) = some (some (.int .u8 0), 1, 1) := by kernel_rfl
set_option maxHeartbeats 1000000 in
set_option maxRecDepth 100000 in
theorem copyCheck_used (b : Nat) (w : World) (h0 : w.cell? ⟨b, 0, none⟩ = some (.pointer (some ⟨b, 0, none⟩))) :
    Calls Tryz.prog 99 #[.pointer (some ⟨b, 0, none⟩)] w fun e w' => e = .returned (.tuple #[]) ∧ w = w' := by
  obtain ⟨j, hj, _⟩ := Option.map_eq_some_iff.1 bSize
  go_enter Tryz.func99, Tryz.ntmps99
  go_wp2
  rw [Lib.run_neq_ptr_same w _ Tryz.underlying129 hj]
  go_wp2
  go_end0
  exact ⟨rfl, rfl⟩
set_option maxHeartbeats 1000000 in
set_option maxRecDepth 100000 in
theorem copyCheck_fresh (b : Nat) (w : World) (h0 : w.cell? ⟨b, 0, none⟩ = some (.pointer none)) (hsh : w.shape? b = some (132, 2)) (hfz : w.frozen? ⟨b, 0, none⟩ = false) :
    Calls Tryz.prog 99 #[.pointer (some ⟨b, 0, none⟩)] w fun e w' => e = .returned (.tuple #[]) ∧ w.setCell ⟨b, 0, none⟩ (.pointer (some ⟨b, 0, none⟩)) = w' := by
  obtain ⟨j, hj, hjs⟩ := Option.map_eq_some_iff.1 bSize
  go_enter Tryz.func99, Tryz.ntmps99
  go_wp2
  rw [Lib.run_to_unsafe w ⟨b, 0, none⟩ Tryz.underlying129 Tryz.underlying208 hj (by rw [hjs]; decide) hsh (Nat.zero_lt_succ 1)]
  simp only [Result.andThen]
  rw [Oper.upon_value]
  go_wp2
  rw [run_callFunc_extern Tryz.func135 (by kernel_rfl) (by kernel_rfl) (by kernel_rfl) (e := Extern.AbiNoEscape.same) (by kernel_rfl)]
  rw [Lib.run_noEscape]
  simp only [Result.andThen]
  rw [Oper.upon_value]
  go_wp2
  rw [Lib.run_from_unsafe w ⟨b, 0, none⟩ Tryz.underlying208 Tryz.underlying129 hj hsh bLies]
  simp only [Result.andThen]
  rw [Oper.upon_value]
  go_wp2
  go_end0
  exact ⟨rfl, rfl⟩
section
variable {P : Program} {w : World}
theorem append_str_where (t u ty e : TypeId) (i : TypeInfo) (ht : P.underlying t = some (.slice e)) (hu : P.underlying u = some .string) (hi : P.info? e = some i) (hz : i.zero = some (.int .u8 0)) (hsize : i.size = 1) (hby : i.bytes = 1)
    (v : Value) (n : Nat) (xs : List Value) (hown : w.ownsRow 0 e 1 v n xs) (s : ByteArray) (h63 : n + s.size ≤ maxLen) (hbytes : n + s.size ≤ 140737488355328) {v' : Value} {w' : World} (h : (Builtin.append_ #[t, u] ty #[v, .string s]).run P w = .ok v' w') :
    (∀ g, v'.ownBlock = some g → w.heap.size ≤ g) ∨ v'.ownBlock = v.ownBlock := by
  have hsmall : n + s.size ≤ 9223372036854775807 := by simp only [maxLen] at h63; omega
  have hxl : xs.length = n := by simpa using hown.1
  rcases hown.2 with ⟨rfl, rfl⟩ | ⟨g, cap, cur, rfl, hbg, hg, hnc, hcm, hcs, htake⟩
  · by_cases hm : s.size = 0
    · have hf := Lib.run_firstCells_string (P := P) (w := w) 1 s
      rw [hm] at hf
      have hr : (Builtin.append_ #[t, u] ty #[.slice none 0 0, .string s]).run P w = .ok (.slice none 0 0) w := by
        simp [Builtin.append_, run_underlying ht, run_underlying hu, sizeOf, typeInfo, hi, hsize, Builtin.lenOf, hm, hf]
      rw [hr] at h
      injection h with h1 h2
      subst h1
      exact .inr rfl
    · rw [run_append_nil_string (P := P) w t u ty e i (.int .u8 0) ht hu hi hz s (by omega) (by omega) (by rw [hby]; omega)] at h
      injection h with h1 h2
      subst h1
      exact .inl fun g hg => by simp [Value.ownBlock] at hg; omega
  · by_cases hroom : n + s.size ≤ cap
    · have hcs' : cur.size = cap := by simpa using hcs
      rw [Lib.run_append_room_string (P := P) w t u ty e i ht hu hi hsize g n cap cur hg s hroom (by omega)] at h
      injection h with h1 h2
      subst h1
      exact .inr rfl
    · have holds : ∀ j u, xs[j]? = some u → w.cell? ((⟨g, 0, none⟩ : Addr).add j) = some u := hown.cells (g := g) rfl
      rw [Lib.run_append_grow_string (P := P) w t u ty e i (.int .u8 0) ht hu hi hz ⟨g, 0, none⟩ n cap xs (by rw [hsize]; simpa using hxl) holds s (by omega) (by omega) (by rw [hby]; exact growslice_fits (by omega) (by omega))] at h
      injection h with h1 h2
      subst h1
      exact .inl fun g hg => by simp [Value.ownBlock] at hg; omega
theorem wpList_append_str2 {ops : Array Oper} {rest : List Oper} {o : Oper} {a : Act} {Q : Exit → Act → World → Prop} (hgd : o.guard = none) (sl x : Operand) (t u : TypeId)
    (ho : o.op = .call { callee := .builtin .append, args := #[sl, x], argTypes := #[t, u] }) (e : TypeId) (i : TypeInfo) (ht : P.underlying t = some (.slice e)) (hu : P.underlying u = some .string) (hi : P.info? e = some i) (hz : i.zero = some (.int .u8 0))
    (hsize : i.size = 1) (hby : i.bytes = 1) (v : Value) (n : Nat) (xs : List Value) (hs : a.eval sl = v) (hown : w.ownsRow 0 e 1 v n xs) (s : ByteArray) (hx : a.eval x = .string s) (h63 : n + s.size ≤ maxLen) (hbytes : n + s.size ≤ 140737488355328)
    (h : ∀ v' w', w'.ownsRow 0 e 1 v' (n + s.size) (xs ++ Lib.strCells s) → w.grownBy w' v.ownBlock → ((∀ g, v'.ownBlock = some g → w.heap.size ≤ g) ∨ v'.ownBlock = v.ownBlock) → wpList P ops Q rest (a.put o.dst v') w') : wpList P ops Q (o :: rest) a w := by
  refine wpList_plain hgd fun K hK => ?_
  obtain ⟨v', w', hr, h2, h3, _⟩ := Lib.run_append_own_string (P := P) w 0 t u o.type e i ht hu hi hz hsize hby v n xs hown s h63 hbytes (Nat.zero_le _)
  have hw := append_str_where (P := P) t u o.type e i ht hu hi hz hsize hby v n xs hown s h63 hbytes hr
  unfold Oper.wp execOp
  simp only [ho, resolve, invoke, builtin, Sem.run_bind, Sem.run_pure, Result.andThen_ok, List.map_toArray, List.map_cons, List.map_nil, hs, hx, hr]
  exact hK _ _ (h v' w' h2 h3 hw)
end
def BldAt (b : Nat) (v : Value) (w : World) : Prop := ∃ p, (p = .pointer none ∨ p = .pointer (some ⟨b, 0, none⟩)) ∧ w.heap[b]? = some (.cells #[p, v] 132 (0, 0))
theorem copyCheck_bld (b : Nat) (v : Value) (w : World) (h : BldAt b v w) : Calls Tryz.prog 99 #[.pointer (some ⟨b, 0, none⟩)] w fun e w' => e = .returned (.tuple #[]) ∧
    w'.heap[b]? = some (.cells #[.pointer (some ⟨b, 0, none⟩), v] 132 (0, 0)) ∧ w'.heap.size = w.heap.size ∧ w'.os = w.os ∧ w'.tape = w.tape ∧ w'.output = w.output ∧ ∀ k, k ≠ b → w'.heap[k]? = w.heap[k]? := by
  obtain ⟨p, hp, hb⟩ := h
  rcases hp with rfl | rfl
  · refine (copyCheck_fresh b w (by rw [Lib.cell_of_heap hb]; rfl) (by simp [World.shape?, hb]) (Lib.frozen_of_heap hb 0)).mono ?_
    rintro e w' ⟨rfl, rfl⟩
    exact ⟨rfl, by simp [World.setCell, Array.getElem?_modify, hb], by simp [World.setCell], rfl, rfl, rfl, fun k hk => Below.heap_setCell w ⟨b, 0, none⟩ _ k hk⟩
  · refine (copyCheck_used b w (by rw [Lib.cell_of_heap hb]; rfl)).mono ?_
    rintro e w' ⟨rfl, rfl⟩
    exact ⟨rfl, hb, rfl, rfl, rfl, rfl, fun _ _ => rfl⟩
set_option maxHeartbeats 2000000 in
set_option maxRecDepth 100000 in
theorem writeStr (b : Nat) (v : Value) (bs : List Value) (s : ByteArray) (w : World) (h : BldAt b v w) (hown : w.ownsRow 0 5 1 v bs.length bs) (hne : v.ownBlock ≠ some b) (hlen : bs.length + s.size ≤ 140737488355328) :
    Calls Tryz.prog 58 #[.pointer (some ⟨b, 0, none⟩), .string s] w fun e w' => e = .returned (.tuple #[.int .i64 s.size, .nilIface]) ∧
      ∃ v', w'.heap[b]? = some (.cells #[.pointer (some ⟨b, 0, none⟩), v'] 132 (0, 0)) ∧ w'.ownsRow 0 5 1 v' (bs.length + s.size) (bs ++ Lib.strCells s) ∧ v'.ownBlock ≠ some b ∧
        ((∀ g, v'.ownBlock = some g → w.heap.size ≤ g) ∨ v'.ownBlock = v.ownBlock) ∧ BelM (fun k => w.heap.size ≤ k ∨ k = b ∨ v.ownBlock = some k) w w' := by
  obtain ⟨i0, hi, hz0, hz1, hz2⟩ := info_parts byte_info
  have hltb : b < w.heap.size := by obtain ⟨p, _, hb⟩ := h; exact (Array.getElem?_eq_some_iff.1 hb).1
  go_enter Tryz.func58, Tryz.ntmps58
  go_wp2_with (go_at_call 99; refine (copyCheck_bld b v _ h).mono ?_)
  rintro e w1 ⟨rfl, hbk, hsz, hos, htp, hou, ho1⟩
  have HO1 := Lib.hid ho1
  have HS := Lib.hid hsz
  have HX := Lib.hid (And.intro hos (And.intro htp hou))
  clear ho1 hsz hos htp hou
  have hown1 : w1.ownsRow 0 5 1 v bs.length bs := by
    refine ⟨hown.1, ?_⟩
    rcases hown.2 with h0 | ⟨g, cap, cur, h1, h2, h3, h4⟩
    · exact .inl h0
    · exact .inr ⟨g, cap, cur, h1, h2, (HO1.out g (fun e => hne (by rw [h1, e]; rfl))).trans h3, h4⟩
  have c0 : w1.cell? ⟨b, 0, none⟩ = some (.pointer (some ⟨b, 0, none⟩)) := by rw [Lib.cell_of_heap hbk]; rfl
  have c1 : w1.cell? ⟨b, 1, none⟩ = some v := by rw [Lib.cell_of_heap hbk]; rfl
  go_wp2_with (at_builtin; refine wpList_append_str2 rfl _ _ 130 9 rfl 5 i0 Tryz.underlying130 Tryz.underlying9 hi hz0 hz1 hz2 _ _ _ rfl hown1 s rfl ?c3 ?c4 ?_)
  case c3 => unfold maxLen; omega
  case c4 => omega
  intro v' w2 hown' hgrow hwh
  have hlt : b < w1.heap.size := by rw [HS.out]; exact hltb
  have hb2 : w2.heap[b]? = some (.cells #[.pointer (some ⟨b, 0, none⟩), v] 132 (0, 0)) := by
    rw [hgrow.block b hlt (fun e => hne e.symm)]
    exact hbk
  have d0 : w2.cell? ⟨b, 0, none⟩ = some (.pointer (some ⟨b, 0, none⟩)) := by rw [Lib.cell_of_heap hb2]; rfl
  have d1 : w2.cell? ⟨b, 1, none⟩ = some v := by rw [Lib.cell_of_heap hb2]; rfl
  have f1 : w2.frozen? ⟨b, 1, none⟩ = false := Lib.frozen_of_heap hb2 1
  have hne' : v'.ownBlock ≠ some b := by
    intro e
    rcases hwh with h1 | h1
    · have := h1 b e; omega
    · exact hne (h1 ▸ e)
  have HW := Lib.hid hwh
  have HN := Lib.hid hne'
  have HG := Lib.hid hgrow
  clear hwh hne'
  obtain ⟨ao, n', cap, rfl⟩ : ∃ ao n' cap, v' = .slice ao n' cap := by
    rcases hown'.2 with ⟨hv, _⟩ | ⟨g, cap, cur, hv, _⟩
    · exact ⟨_, _, _, hv⟩
    · exact ⟨_, _, _, hv⟩
  go_wp2
  go_ret2
  refine ⟨rfl, .slice ao n' cap, ?_, ?_, HN.out, ?_, ?_⟩
  · simp [World.setCell, Array.getElem?_modify, hb2]
  · refine ⟨hown'.1, ?_⟩
    rcases hown'.2 with h0 | ⟨g, cap', cur, h1, h2, h3, h4⟩
    · exact .inl h0
    · exact .inr ⟨g, cap', cur, h1, h2, (Below.heap_setCell _ _ _ _ (fun e => HN.out (by rw [h1, e]; rfl))).trans h3, h4⟩
  · rw [HS.out] at HW; exact HW.out
  · have hX := HX.out
    refine ⟨HG.out.os.trans hX.1, HG.out.tape.trans hX.2.1, HG.out.output.trans hX.2.2, ?_, fun k hk hm => ?_⟩
    · have := HG.out.size; rw [HS.out] at this; simpa [World.setCell] using this
    · have hkb : k ≠ b := fun e => hm (.inr (.inl e))
      rw [Below.heap_setCell _ _ _ _ hkb, HG.out.block k (by rw [HS.out]; exact hk) (fun e => hm (.inr (.inr e.symm))), HO1.out k hkb]
end Go.Proofs.YtalfcmgcjdkolaaGreatDoor
namespace Go.Proofs.YtalfcmgcjdkolaaGreatDoor
open Go.RowKit
set_option maxRecDepth 100000
def toI (l : List UInt8) : List Int := l.map fun b => (b.toNat : Int)
theorem toI_length (l : List UInt8) : (toI l).length = l.length := by simp [toI]
theorem bytesOf_toI (l : List UInt8) : bytesOf (toI l) = l := by
  induction l with
  | nil => rfl
  | cons a t ih => simp only [bytesOf, toI, List.map_cons] at ih ⊢; rw [ih]; simp
theorem strCells_rep {w : World} {C : Cx} (s : List UInt8) : RepL C w (Lib.strCells ⟨s.toArray⟩) (((toI s).map (D.int .u8)).flatMap D.cells) := by
  rw [flatU8]
  have e : Lib.strCells ⟨s.toArray⟩ = s.map fun b => Value.int .u8 b.toNat := by simp [Lib.strCells]
  rw [e]
  refine ⟨by simp [toI], fun v hv => ?_, fun i v d hv hd => ?_⟩
  · obtain ⟨b, _, rfl⟩ := List.mem_map.1 hv; rfl
  · simp only [toI, List.getElem?_map] at hv hd
    cases hs : s[i]? with
    | none => rw [hs] at hv; simp at hv
    | some b =>
      rw [hs] at hv hd
      simp at hv hd
      subst hv hd
      exact .int _ _ (by have := b.toNat_lt; unfold inR; simp only [kLo, kHi]; omega)
theorem flatU8_len (l : List Int) : ∀ x ∈ l.map (D.int .u8), x.cells.length = 1 := by
  intro x hx; obtain ⟨n, _, rfl⟩ := List.mem_map.1 hx; rfl
theorem sp_cases {w : World} {C : Cx} {v : Value} {id : Nat} (h : Rep w C v (.sp id)) {g : Nat} (hs : C.σ id = .pointer (some ⟨g, 0, none⟩)) : v = .pointer none ∨ v = .pointer (some ⟨g, 0, none⟩) := by
  cases h with
  | sp0 _ _ => exact .inl rfl
  | sp1 _ g' _ h' => rw [hs] at h'; injection h' with h'; injection h' with h'; injection h' with h'; subst h'; exact .inr rfl
theorem bld_block {w : World} {C : Cx} {id g : Nat} {d : D} (hs : C.σ id = .pointer (some ⟨g, 0, none⟩)) (h : BRep C w 0 id (.bbox 132 [.sp id, d])) : ∃ v, BldAt g v w ∧ Rep w C v d ∧ ∀ o, ¬ C.F g o := by
  obtain ⟨g', vs, q1, q2, q3, q4, q5⟩ := h
  rw [hs] at q1; injection q1 with q1; injection q1 with q1; injection q1 with q1
  subst q1
  have hl := q4.len
  obtain ⟨p, v, hvs⟩ : ∃ p v, vs = #[p, v] := by
    obtain ⟨l⟩ := vs
    match l, hl with
    | [p, v], _ => exact ⟨p, v, rfl⟩
  subst hvs
  exact ⟨v, ⟨p, sp_cases (q4.rep 0 p _ rfl rfl) hs, q3⟩, q4.rep 1 v _ rfl rfl, q5⟩
theorem wrote (I : World → Prop) (id nid : Nat) (s : List UInt8) (l : List Int) (H : Nat → Option Blk) (d : D) (eff : Eff) (hid : H id = some (.bbox 132 [.sp id, d])) (hlen : l.length + s.length ≤ 140737488355328) (hne : nid ≠ id)
    (hd : (d = .nils ∧ l = [] ∧ eff = [(nid, some (.vec 5 1 ((l ++ toI s).map (D.int .u8)) false)), (id, some (.bbox 132 [.sp id, .own nid (l.length + s.length)]))]) ∨
      ∃ id2, d = .own id2 l.length ∧ H id2 = some (.vec 5 1 (l.map (D.int .u8)) false) ∧ id2 ≠ id ∧ eff = [(id2, none), (nid, some (.vec 5 1 ((l ++ toI s).map (D.int .u8)) false)), (id, some (.bbox 132 [.sp id, .own nid (l.length + s.length)]))]) :
    CallOK Tryz.prog I 58 [.ptr id 0, .str s] H nid (.tup [.int .i64 s.length, .err false]) eff := by
  refine ⟨by kernel_rfl, fun i0 w C B args hI hb0 hM hH hF hbase hn hal hrep => ?_⟩
  obtain ⟨a0, a1, rfl⟩ : ∃ a0 a1, args = [a0, a1] := by
    match args, hal with
    | [a, b], _ => exact ⟨a, b, rfl⟩
  have r0 := hrep 0 a0 _ rfl rfl
  have r1 := hrep 1 a1 _ rfl rfl
  clear hrep
  obtain ⟨rfl, hsl⟩ := rep_str1 r1
  cases r0 with
  | ptr _ _ g hlid hσ =>
  obtain ⟨k0, k1⟩ := hH.rep id _ hid
  obtain ⟨v, hB, hv, hnoF⟩ := bld_block hσ k1
  have hgM : B.M g := hH.own id _ hid g (by rw [hσ]; rfl)
  have hglt : g < w.heap.size := by obtain ⟨p, _, hb⟩ := hB; exact (Array.getElem?_eq_some_iff.1 hb).1
  -- the row
  obtain ⟨vals, hown, hvals, hvne, hvM, hvF⟩ : ∃ vals, w.ownsRow 0 5 1 v vals.length vals ∧ vals.length = l.length ∧ v.ownBlock ≠ some g ∧ (∀ k, v.ownBlock = some k → B.M k) ∧ (∀ k o, v.ownBlock = some k → ¬ C.F k o) := by
    rcases hd with ⟨rfl, rfl, _⟩ | ⟨id2, rfl, h2, h3, _⟩
    · cases hv
      exact ⟨[], World.ownsRow_nil _ _ _ _, rfl, by simp [Value.ownBlock], by simp [Value.ownBlock], by simp [Value.ownBlock]⟩
    · cases hv with
      | own _ _ c A hl2 hm2 hσ2 =>
        obtain ⟨_, vals, q1, q2, q3, q4⟩ := hH.rep id2 _ h2
        rw [hσ2] at q1
        have hvl : vals.length = l.length := by have := q1.1; simpa using this
        refine ⟨vals, by rw [hvl]; simpa using q1, hvl, fun e => ?_, fun k hk => hH.own id2 _ h2 k (by rw [hσ2, blockOf_own]; exact hk), fun k o hk hF' => ?_⟩
        · exact hH.apart id2 id _ _ h2 hid h3 g (by rw [hσ2, blockOf_own]; exact e) (by rw [hσ]; rfl)
        · have := ((q4 k (by rw [hσ2]; exact hk)).1 o hF').1; cases this
  have hssz : (⟨s.toArray⟩ : ByteArray).size = s.length := bsize s
  refine (writeStr g v vals ⟨s.toArray⟩ w hB hown hvne (by rw [hvals, hssz]; exact hlen)).mono ?_
  rintro e w' ⟨rfl, v', e1, e2, e3, e4, e5⟩
  rw [hssz, hvals] at e2
  have hbel : BelM B.M w w' := ⟨e5.os, e5.tape, e5.output, e5.size, fun k hk hm => e5.block k hk (by
    rintro (h | h | h)
    · omega
    · exact hm (h ▸ hgM)
    · exact hm (hvM k h))⟩
  -- outside the two blocks nothing has changed
  have hout : ∀ k, k < w.heap.size → k ≠ g → v.ownBlock ≠ some k → w'.heap[k]? = w.heap[k]? := fun k hk h1 h2 => e5.block k hk (by rintro (h | h | h); omega; exact h1 h; exact h2 h)
  have hFk : ∀ b o, C.F b o → w'.heap[b]? = w.heap[b]? := fun b o hb => hout b (hF b o hb) (fun e => hnoF o (e ▸ hb)) (fun e => hvF b o e hb)
  have ee := Cx.new_ext (C := C) (w := w) (w' := w') hn v' hFk
  have hs2 : (C.new nid v').σ nid = v' := by simp [Cx.new, upd]
  have hσ' : (C.new nid v').σ id = .pointer (some ⟨g, 0, none⟩) := by rw [ee.σ id hlid]; exact hσ
  obtain ⟨A', c', rfl⟩ : ∃ A' c', v' = .slice A' (l.length + s.length) c' := by
    rcases e2.2 with ⟨h1, h2⟩ | ⟨g', cap, cur, h1, _⟩
    · exact ⟨none, 0, by rw [h1, h2]⟩
    · exact ⟨_, _, h1⟩
  have hlm : l.length + s.length ≤ maxLen := by unfold maxLen; omega
  have hnewF : ∀ k, (Value.slice A' (l.length + s.length) c').ownBlock = some k → ∀ o, ¬ C.F k o := by
    intro k hk o hb
    rcases e4 with h | h
    · have := h k hk; have := hF k o hb; omega
    · exact hvF k o (h ▸ hk) hb
  -- the row's new block stands for the new list
  have hvec : ∀ (q3 : RepL (cF C.F) w vals ((l.map (D.int .u8)).flatMap D.cells)), BRep (C.new nid (.slice A' (l.length + s.length) c')) w' 0 nid (.vec 5 1 ((l ++ toI s).map (D.int .u8)) false) := by
    intro q3
    refine ⟨vals ++ Lib.strCells ⟨s.toArray⟩, ?_, flatU8_len _, ?_, ?_⟩
    · rw [hs2]; simpa [toI_length] using e2
    · rw [List.map_append, List.flatMap_append]
      exact (q3.ext ee.cF).append (strCells_rep s)
    · intro k hk
      rw [hs2] at hk
      exact ⟨fun o ho => absurd ho (hnewF k hk o), fun h => by cases h⟩
  have hbox : BRep (C.new nid (.slice A' (l.length + s.length) c')) w' 0 id (.bbox 132 [.sp id, .own nid (l.length + s.length)]) := by
    refine ⟨g, #[.pointer (some ⟨g, 0, none⟩), .slice A' (l.length + s.length) c'], hσ', Nat.zero_le _, e1, ?_, hnoF⟩
    have x1 : Rep w' (C.new nid (.slice A' (l.length + s.length) c')) (.pointer (some ⟨g, 0, none⟩)) (.sp id) := .sp1 id g (Or.inl hlid) hσ'
    have x2 : Rep w' (C.new nid (.slice A' (l.length + s.length) c')) (.slice A' (l.length + s.length) c') (.own nid (l.length + s.length)) := .own nid _ c' A' (Or.inr rfl) hlm hs2
    exact (RepL.one1 rfl x1).append (RepL.one1 rfl x2)
  -- everything else is as it was
  have hrest : ∀ j bj, j ≠ id → (∀ k, blockOf (C.σ j) = some k → v.ownBlock ≠ some k) → H j = some bj → (C.new nid (.slice A' (l.length + s.length) c')).live j ∧ BRep (C.new nid (.slice A' (l.length + s.length) c')) w' 0 j bj := by
    intro j bj hj hv hb
    obtain ⟨h1, h2⟩ := hH.rep j bj hb
    exact ⟨.inl h1, h2.keep h1 ee (fun k hk => hout k (h2.lt k hk).2 (fun e => hH.apart j id _ _ hb hid hj k hk (by rw [hσ, e]; rfl)) (hv k hk)) (fun k o _ h => h)⟩
  have hrepr : Rep w' (C.new nid (.slice A' (l.length + s.length) c')) (.tuple #[.int .i64 ((⟨s.toArray⟩ : ByteArray).size : Int), .nilIface]) (.tup [.int .i64 s.length, .err false]) := by
    rw [hssz]
    refine .tup [.int .i64 s.length, .nilIface] _ rfl ?_
    intro i v d hv hd
    match i with
    | 0 => simp at hv hd; subst hv hd; exact .int _ _ (by unfold inR; simp only [kLo, kHi]; omega)
    | 1 => simp at hv hd; subst hv hd; exact .err0
    | i + 2 => simp at hv
  have hdead : ∀ b, H nid ≠ some b := fun b hb => hn (hH.rep nid b hb).1
  have hfin : ∀ H', (∀ j, j ≠ id → j ≠ nid → ∀ b, H' j = some b → H j = some b ∧ ∀ k, blockOf (C.σ j) = some k → v.ownBlock ≠ some k) → H' nid = some (.vec 5 1 ((l ++ toI s).map (D.int .u8)) false) → H' id = some (.bbox 132 [.sp id, .own nid (l.length + s.length)]) →
      RepL (cF C.F) w vals ((l.map (D.int .u8)).flatMap D.cells) → HOK (C.new nid (.slice A' (l.length + s.length) c')) w' B H' := by
    intro H' hold hnew hnb q3
    have bσ : ∀ j b, j ≠ id → j ≠ nid → H' j = some b → (C.new nid (.slice A' (l.length + s.length) c')).σ j = C.σ j := fun j b h1 h2 h3 => ee.σ j (hH.rep j b (hold j h1 h2 b h3).1).1
    have bnid : ∀ k, blockOf (Value.slice A' (l.length + s.length) c') = some k → w.heap.size ≤ k ∨ v.ownBlock = some k := by
      intro k hk
      rw [blockOf_own] at hk
      rcases e4 with h | h
      · exact .inl (h k hk)
      · exact .inr (h ▸ hk)
    have apn : ∀ j b, j ≠ id → j ≠ nid → H' j = some b → ∀ k, blockOf (C.σ j) = some k → blockOf (Value.slice A' (l.length + s.length) c') ≠ some k := by
      intro j b h1 h2 h3 k hk hk2
      obtain ⟨h4, h5⟩ := hold j h1 h2 b h3
      rcases bnid k hk2 with h | h
      · have := ((hH.rep j b h4).2.lt k hk).2; omega
      · exact h5 k hk h
    have apb : ∀ j b, j ≠ id → j ≠ nid → H' j = some b → ∀ k, blockOf (C.σ j) = some k → k ≠ g := by
      intro j b h1 h2 h3 k hk e
      exact hH.apart j id b _ (hold j h1 h2 b h3).1 hid h1 k hk (by rw [hσ, e]; rfl)
    have apnb : ∀ k, blockOf (Value.slice A' (l.length + s.length) c') = some k → k ≠ g := by
      intro k hk e
      rcases bnid k hk with h | h
      · omega
      · exact hvne (e ▸ h)
    refine ⟨fun j b hj => ?_, fun j b hj k hk => ?_, fun j k cs hj => ?_, fun j j' b b' hj hj' hjj k hk hk' => ?_⟩
    · by_cases h1 : j = id
      · subst h1; rw [hnb] at hj; injection hj with hj; subst hj; exact ⟨.inl hlid, hbox⟩
      · by_cases h2 : j = nid
        · subst h2; rw [hnew] at hj; injection hj with hj; subst hj; exact ⟨.inr rfl, hvec q3⟩
        · obtain ⟨h3, h4⟩ := hold j h1 h2 b hj
          exact hrest j b h1 h4 h3
    · by_cases h1 : j = id
      · subst h1; rw [hσ'] at hk; simp [blockOf] at hk; subst hk; exact hgM
      · by_cases h2 : j = nid
        · subst h2
          rw [hs2] at hk
          rcases bnid k hk with h | h
          · exact hbase k h
          · exact hvM k h
        · rw [bσ j b h1 h2 hj] at hk
          exact hH.own j b (hold j h1 h2 b hj).1 k hk
    · by_cases h1 : j = id
      · subst h1; rw [hnb] at hj; cases hj
      · by_cases h2 : j = nid
        · subst h2; rw [hnew] at hj; cases hj
        · rw [bσ j _ h1 h2 hj]; exact hH.pin j k cs (hold j h1 h2 _ hj).1
    · by_cases h1 : j = id
      · subst h1
        rw [hσ'] at hk; simp [blockOf] at hk; subst hk
        by_cases h2 : j' = nid
        · subst h2; rw [hs2] at hk'; exact apnb _ hk' rfl
        · rw [bσ j' b' (fun e => hjj e.symm) h2 hj'] at hk'
          exact apb j' b' (fun e => hjj e.symm) h2 hj' _ hk' rfl
      · by_cases h2 : j = nid
        · subst h2
          rw [hs2] at hk
          by_cases h3 : j' = id
          · subst h3; rw [hσ'] at hk'; simp [blockOf] at hk'; subst hk'; exact apnb _ hk rfl
          · rw [bσ j' b' h3 (fun e => hjj e.symm) hj'] at hk'
            exact apn j' b' h3 (fun e => hjj e.symm) hj' k hk' hk
        · rw [bσ j b h1 h2 hj] at hk
          by_cases h3 : j' = id
          · subst h3; rw [hσ'] at hk'; simp [blockOf] at hk'; subst hk'; exact apb j b h1 h2 hj _ hk rfl
          · by_cases h4 : j' = nid
            · subst h4; rw [hs2] at hk'; exact apn j b h1 h2 hj k hk hk'
            · rw [bσ j' b' h3 h4 hj'] at hk'
              exact hH.apart j j' b b' (hold j h1 h2 b hj).1 (hold j' h3 h4 b' hj').1 hjj k hk hk'
  refine ⟨_, C.new nid (.slice A' (l.length + s.length) c'), rfl, hbel, ee, hrepr, ?_, fun b o h => Nat.lt_of_lt_of_le (hF b o h) e5.size, fun _ h => h, fun _ _ h => .inl h⟩
  rcases hd with ⟨rfl, rfl, rfl⟩ | ⟨id2, rfl, h2, h3, rfl⟩
  · cases hv
    have hvn : vals = [] := List.eq_nil_of_length_eq_zero hvals
    refine hfin _ (fun j h1 h2 b hb => ?_) (by simp [appEff, upd, hne]) (by simp [appEff, upd]) (by rw [hvn]; exact RepL.nil)
    simp [appEff, upd, h1, h2] at hb
    exact ⟨hb, by simp [Value.ownBlock]⟩
  · cases hv with
    | own _ _ c A hl2 hm2 hσ2 =>
      obtain ⟨_, vals2, q1, q2, q3, q4⟩ := hH.rep id2 _ h2
      rw [hσ2] at q1
      have hn2 : nid ≠ id2 := fun e => hdead _ (e ▸ h2)
      have hvv : vals2 = vals := by
        rcases q1.2 with ⟨r1, r2⟩ | ⟨g1, cap1, cur1, r1, r2, r3, r4, r5, r6, r7⟩
        · have r2' : l.length = 0 := by simpa using r2
          rw [List.eq_nil_of_length_eq_zero (l := vals) (by omega), List.eq_nil_of_length_eq_zero (l := vals2) (by have := q1.1; simp at this; omega)]
        · rcases hown.2 with ⟨t1, t2⟩ | ⟨g2, cap2, cur2, t1, t2, t3, t4, t5, t6, t7⟩
          · rw [t1] at r1; cases r1
          · rw [r1] at t1; injection t1 with t1 _ _; injection t1 with t1; injection t1 with t1
            subst t1
            rw [r3] at t3; injection t3 with t3; injection t3 with t3
            subst t3
            rw [← r7, ← t7]; simp [hvals]
      refine hfin _ (fun j h1 h2' b hb => ?_) (by simp [appEff, upd, hne]) (by simp [appEff, upd]) (by rw [← hvv]; exact q3)
      by_cases hj2 : j = id2
      · subst hj2; simp [appEff, upd, h1, h2'] at hb
      · simp [appEff, upd, h1, h2', hj2] at hb
        exact ⟨hb, fun k hk hk2 => hH.apart j id2 _ _ hb h2 hj2 k hk (by rw [hσ2, blockOf_own]; exact hk2)⟩
theorem c_WriteString1 (I : World → Prop) {id nid id2 n : Nat} {s : List UInt8} {l : List Int} {H : Nat → Option Blk} (hid : H id = some (.bbox 132 [.sp id, .own id2 n])) (h2 : H id2 = some (.vec 5 1 (l.map (D.int .u8)) false)) (hn : n = l.length) (hlen : l.length + s.length ≤ 140737488355328) (hne : nid ≠ id) :
    CallOK Tryz.prog I 58 [.ptr id 0, .str s] H nid (.tup [.int .i64 s.length, .err false]) [(id2, none), (nid, some (.vec 5 1 ((l ++ toI s).map (D.int .u8)) false)), (id, some (.bbox 132 [.sp id, .own nid (l ++ toI s).length]))] := by
  subst hn
  exact wrote I id nid s l H _ _ hid hlen hne (.inr ⟨id2, rfl, h2, fun e => (by rw [e, hid] at h2; cases h2), by simp [toI_length]⟩)
set_option maxHeartbeats 2000000 in
theorem bldString_row (b g cap : Nat) (p : Value) (cur : Array Value) (l : List UInt8) (w : World) (h0 : l ≠ []) (hbk : w.heap[b]? = some (.cells #[p, .slice (some ⟨g, 0, none⟩) l.length cap] 132 (0, 0)))
    (hown : w.ownsRow 0 5 1 (.slice (some ⟨g, 0, none⟩) l.length cap) l.length (Lib.byteCells l)) :
    Calls Tryz.prog 59 #[.pointer (some ⟨b, 0, none⟩)] w fun e w' => e = .returned (.string ⟨l.toArray⟩) ∧ BelM (fun k => w.heap.size ≤ k ∨ k = g) w w' := by
  have hl0 : l.length ≠ 0 := by simpa using h0
  obtain ⟨cur, hg, hnc, hcm, hcs⟩ : ∃ cur, w.heap[g]? = some (.cells cur 5 (0, 0)) ∧ l.length ≤ cap ∧ cap ≤ maxLen ∧ cur.size = cap * 1 := by
    rcases hown.2 with ⟨_, hz⟩ | ⟨g', cap', cur, hv, _, h1, h2, h3, h4, _⟩
    · exact absurd hz hl0
    · injection hv with hv1 _ hv2; injection hv1 with hv1; injection hv1 with hv1
      subst hv1 hv2; exact ⟨cur, h1, h2, h3, h4⟩
  have c1 : w.drew.cell? ⟨b, 1, none⟩ = some (.slice (some ⟨g, 0, none⟩) l.length cap) := by
    have : w.drew.heap[b]? = some (.cells #[p, .slice (some ⟨g, 0, none⟩) l.length cap] 132 (0, 0)) := hbk
    rw [Lib.cell_of_heap this]; rfl
  have hSD : (Builtin.unsafeSliceData_ #[130] 171 #[.slice (some ⟨g, 0, none⟩) l.length cap]).run Tryz.prog w.drew = .ok (.pointer (some ⟨g, 0, none⟩)) w.drew :=
    Lib.run_unsafeSliceData_row _ _ _ _ _ _ (by omega)
  have hUS : (Builtin.unsafeString_ #[171, 3] 9 #[.pointer (some ⟨g, 0, none⟩), .int .i64 l.length]).run Tryz.prog w.drew = .ok (.string ⟨l.toArray⟩) (w.drew.freeze ⟨g, 0, none⟩ l.length) := by
    refine Lib.run_unsafeString_row w.drew 171 3 9 5 Tryz.underlying171 (by kernel_rfl) g cur.size (by have hg' : w.drew.heap[g]? = some (.cells cur 5 (0, 0)) := hg; simp [World.shape?, hg']) l h0 (by omega) (by unfold maxLen at hcm; omega) ?_
    intro j x hx
    exact hown.cells (g := g) rfl j (.int .u8 x.toNat) (by simp [Lib.byteCells, hx])
  have mixed : Tryz.prog.follows .mixedOrders = true := by kernel_rfl
  have hbf := Lib.below_freeze (Below.drew (Below.refl g w)) (p := ⟨g, 0, none⟩) (Nat.le_refl _) l.length
  have hoth : ∀ k, k ≠ g → (w.drew.freeze ⟨g, 0, none⟩ l.length).heap[k]? = w.heap[k]? := by
    intro k hk
    simp only [World.freeze, hl0, if_false]
    rw [Array.getElem?_modify]
    simp only [Ne.symm hk, if_false]
    rfl
  have HB := Lib.hid (And.intro hbf hoth)
  clear hbf hoth
  go_enter Tryz.func59, Tryz.ntmps59
  go_wp2
  go_region_o
  all_goals (go_wp2; go_ret; exact ⟨rfl, HB.out.1.os, HB.out.1.tape, HB.out.1.output, HB.out.1.size, fun k _ hm => HB.out.2 k (fun e => hm (.inr e))⟩)
theorem callString {P : Program} {C : Cx} {w w' : World} {B : Bx} {H : Nat → Option Blk} {nid : Nat} {l : List UInt8} (hH : HOK C w B H) (hF : FB C w) (hb : Below w.heap.size w w') (hl : l.length ≤ maxLen) :
    ∃ v C', Ending.returned (.string ⟨l.toArray⟩) = .returned v ∧ BelM B.M w w' ∧ Ext C w C' w' ∧ Rep w' C' v (.str l) ∧ HOK C' w' B (appEff H []) ∧ FB C' w' ∧ (∀ id, C'.live id → C.live id ∨ id = nid) ∧ ∀ b o, C'.F b o → C.F b o ∨ B.M b := by
  have ee : Ext C w C w' := ⟨fun _ _ h => h, fun b o h => hb.block b (hF b o h), fun _ h => h, fun _ _ => rfl⟩
  refine ⟨_, C, rfl, BelM.of hb, ee, .str l hl, ⟨fun id b h => ?_, hH.own, hH.pin, hH.apart⟩, fun b o h => Nat.lt_of_lt_of_le (hF b o h) hb.size, fun _ h => .inl h, fun _ _ h => .inl h⟩
  obtain ⟨k1, k2⟩ := hH.rep id b h
  exact ⟨k1, k2.keep k1 ee (fun g hg => hb.block g (k2.lt g hg).2) (fun _ _ _ h => h)⟩
theorem byteCells_toI {w : World} {C : Cx} {vals : List Value} {l : List Int} (h : RepL C w vals ((l.map (D.int .u8)).flatMap D.cells)) : vals = Lib.byteCells (bytesOf l) := by
  rw [flatU8] at h
  have e := repU8 h
  rw [e]
  simp only [Lib.byteCells, bytesOf, List.map_map]
  apply List.map_congr_left
  intro n hn
  obtain ⟨i, hi⟩ := List.getElem?_of_mem hn
  have hv : vals[i]? = some (.int .u8 n) := by rw [e]; simp [hi]
  have := h.rep i _ (.int .u8 n) hv (by simp [hi])
  cases this with
  | int _ _ hr =>
    unfold inR at hr; simp only [kLo, kHi] at hr
    simp only [Function.comp, UInt8.toNat_ofNat']
    congr 1; omega
theorem c_String1 (I : World → Prop) {id nid id2 n : Nat} {l : List Int} {H : Nat → Option Blk} (hid : H id = some (.bbox 132 [.sp id, .own id2 n])) (h2 : H id2 = some (.vec 5 1 (l.map (D.int .u8)) false)) (hn : n = l.length) :
    CallOK Tryz.prog I 59 [.ptr id 0] H nid (.str (bytesOf l)) [(id2, none), (id, none)] := by
  subst hn
  refine ⟨by kernel_rfl, fun i0 w C B args hI hb0 hM hH hF hbase hn hal hrep => ?_⟩
  obtain ⟨a0, rfl⟩ : ∃ a0, args = [a0] := by
    match args, hal with
    | [a], _ => exact ⟨a, rfl⟩
  have r0 := hrep 0 a0 _ rfl rfl
  cases r0 with
  | ptr _ _ g hlid hσ =>
  obtain ⟨k0, k1⟩ := hH.rep id _ hid
  obtain ⟨v, ⟨p, hp, hB⟩, hv, hnoF⟩ := bld_block hσ k1
  have hdrop : HOK C w B (appEff H [(id2, none), (id, none)]) := (hH.drop id2).drop id
  have plain : ∀ w', Below w.heap.size w w' → bytesOf l = [] → ∃ v C', Ending.returned (.string ⟨#[]⟩) = .returned v ∧ BelM B.M w w' ∧ Ext C w C' w' ∧ Rep w' C' v (.str (bytesOf l)) ∧ HOK C' w' B (appEff H [(id2, none), (id, none)]) ∧ FB C' w' ∧ (∀ id, C'.live id → C.live id ∨ id = nid) ∧ ∀ b o, C'.F b o → C.F b o ∨ B.M b := by
    intro w' hb he
    rw [he]
    obtain ⟨v, C', x⟩ := callString (P := Tryz.prog) (l := []) (nid := nid) hdrop hF hb (by simp)
    exact ⟨v, C', x⟩
  cases hv with
  | own _ _ c A hl2 hm2 hσ2 =>
    obtain ⟨_, vals, q1, q2, q3, q4⟩ := hH.rep id2 _ h2
    rw [hσ2] at q1
    have hvals := byteCells_toI q3
    have hbl : (bytesOf l).length = l.length := by simp [bytesOf]
    rcases q1.2 with ⟨r1, r2⟩ | ⟨g1, cap1, cur1, r1, r2, r3, r4, r5, r6, r7⟩
    · injection r1 with r1 _ r3
      subst r1 r3
      have hl0 : l.length = 0 := by simpa using r2
      rw [hl0] at hB
      refine (Any.Builder_String_nil Tryz.lays169 Tryz.Builder_Extra_169 w.heap.size g p w hB).mono ?_
      rintro e w' ⟨rfl, hb⟩
      exact plain w' hb (List.eq_nil_of_length_eq_zero (by omega))
    · injection r1 with r1 _ r8
      subst r1 r8
      by_cases hl0 : l.length = 0
      · rw [hl0] at hB
        by_cases hc0 : c = 0
        · subst hc0
          refine (Any.Builder_String_noroom Tryz.lays169 Tryz.Builder_Extra_169 w.heap.size g g1 p cur1 w (Nat.le_refl _) hB r3).mono ?_
          rintro e w' ⟨rfl, hb⟩
          exact plain w' hb (List.eq_nil_of_length_eq_zero (by omega))
        · refine (Any.Builder_String_room Tryz.lays169 Tryz.Builder_Extra_169 w.heap.size g g1 c p w hc0 hB).mono ?_
          rintro e w' ⟨rfl, hb⟩
          exact plain w' hb (List.eq_nil_of_length_eq_zero (by omega))
      · have hb1 : w.heap[g]? = some (.cells #[p, .slice (some ⟨g1, 0, none⟩) (bytesOf l).length c] 132 (0, 0)) := by rw [hbl]; exact hB
        have ho1 : w.ownsRow 0 5 1 (.slice (some ⟨g1, 0, none⟩) (bytesOf l).length c) (bytesOf l).length (Lib.byteCells (bytesOf l)) := by rw [hbl, ← hvals]; simpa using q1
        refine (bldString_row g g1 c p cur1 (bytesOf l) w (fun e => hl0 (by rw [← hbl, e]; rfl)) hb1 ho1).mono ?_
        rintro e w' ⟨rfl, hb⟩
        have hg1M : B.M g1 := hH.own id2 _ h2 g1 (by rw [hσ2]; rfl)
        have hnoF1 : ∀ o, ¬ C.F g1 o := fun o ho => by have := ((q4 g1 (by rw [hσ2]; rfl)).1 o ho).1; cases this
        have hsame : ∀ k, k < w.heap.size → k ≠ g1 → w'.heap[k]? = w.heap[k]? := fun k hk h1 => hb.block k hk (by rintro (h | h); omega; exact h1 h)
        have ee : Ext C w C w' := ⟨fun _ _ h => h, fun b o h => hsame b (hF b o h) (fun e => hnoF1 o (e ▸ h)), fun _ h => h, fun _ _ => rfl⟩
        have hbm : BelM B.M w w' := ⟨hb.os, hb.tape, hb.output, hb.size, fun k hk hm => hsame k hk (fun e => hm (e ▸ hg1M))⟩
        refine ⟨_, C, rfl, hbm, ee, .str _ (by rw [hbl]; exact hm2), ⟨fun j b h => ?_, hdrop.own, hdrop.pin, hdrop.apart⟩, fun b o h => Nat.lt_of_lt_of_le (hF b o h) hb.size, fun _ h => .inl h, fun _ _ h => .inl h⟩
        by_cases h3 : j = id
        · subst h3; simp [appEff, upd] at h
        · by_cases h4 : j = id2
          · subst h4; simp [appEff, upd, h3] at h
          · have h5 : H j = some b := by simpa [appEff, upd, h3, h4] using h
            obtain ⟨t1, t2⟩ := hH.rep j b h5
            exact ⟨t1, t2.keep t1 ee (fun k hk => hsame k (t2.lt k hk).2 (fun e => hH.apart j id2 _ _ h5 h2 h4 k hk (by rw [hσ2, e]; rfl))) (fun _ _ _ h => h)⟩
end Go.Proofs.YtalfcmgcjdkolaaGreatDoor
namespace Go.Proofs.YtalfcmgcjdkolaaGreatDoor
open Go.RowKit
set_option maxRecDepth 100000
theorem a_Join (I : World → Prop) (l : List (List UInt8)) (sep : List UInt8) (hne : l ≠ []) (h1 : l.length ≤ 140737488355328) (h2 : (Lib.join l sep).length ≤ 140737488355328) : AFun Tryz.prog I 134 [.sl (l.map D.str), .str sep] (.str (Lib.join l sep)) := by
  refine AFun.of_calls (v := .string ⟨(Lib.join l sep).toArray⟩) (by kernel_rfl) (fun w F => .str _ (by unfold maxLen; omega)) ?_
  intro w F args hI hfb hl hr
  match args, hl with
  | [v1, v2], _ =>
    obtain ⟨rfl, _⟩ := rep_str1 (hr 1 v2 _ rfl rfl)
    have hv := hr 0 v1 _ rfl rfl
    generalize hxs : l.map D.str = xs at hv
    cases hv with
    | sl0 A c hm => exact absurd (List.map_eq_nil_iff.1 hxs) hne
    | sl b off k c _ vals hc hm hk hlv hone hF hcell hrep =>
      subst hxs
      rw [flat_strs] at hlv hrep
      have hpos : 0 < vals.length := by rw [hlv, List.length_map]; exact List.length_pos_iff.2 hne
      have hb : b < w.heap.size := hfb b (off + 0) (hF 0 hpos)
      have hmm : (l.map fun s => (⟨s.toArray⟩ : ByteArray)).map (·.data.toList) = l := by rw [List.map_map]; exact List.map_id'' (fun s => by simp) l
      have := Tryz.strings_Join b off c (l.map fun s => (⟨s.toArray⟩ : ByteArray)) ⟨sep.toArray⟩ w (fun j x hx => by
        simp only [List.getElem?_map] at hx
        cases hj : l[j]? with
        | none => rw [hj] at hx; simp at hx
        | some s =>
          rw [hj] at hx
          simp at hx
          subst hx
          have hjl : j < vals.length := by rw [hlv, List.length_map]; exact (List.getElem?_eq_some_iff.1 hj).1
          have hv := hrep j _ (.str s) (List.getElem?_eq_getElem hjl) (by simp [hj])
          obtain ⟨hv, _⟩ := rep_str1 hv
          rw [hcell j _ (List.getElem?_eq_getElem hjl), hv]) hb (by simpa using h1) (by simpa using hc) (by rw [hmm]; exact h2)
      rw [hmm] at this
      simpa using this
def g_strings_Join (l : List (List UInt8)) (sep : List UInt8) : Option (List UInt8) := if l.length ≤ 140737488355328 ∧ (Lib.join l sep).length ≤ 140737488355328 then some (Lib.join l sep) else none
theorem a_strings_Join (I : World → Prop) (hI : Stab I) (l : List (List UInt8)) (sep : List UInt8) {r : List UInt8} (h : g_strings_Join l sep = some r) : AFun Tryz.prog I 134 [.sl (l.map D.str), .str sep] (.str r) := by
  unfold g_strings_Join at h
  obtain ⟨hc, h⟩ := ite_on h
  obtain rfl := Option.some.inj h
  by_cases hne : l = []
  · subst hne
    refine AFun.of_calls (v := .string ⟨#[]⟩) (by kernel_rfl) (fun w F => ?_) ?_
    · have : (Lib.join ([] : List (List UInt8)) sep) = [] := rfl
      rw [this]
      exact .str [] (by simp)
    · intro w F args hI hfb hl hr
      match args, hl with
      | [v1, v2], _ =>
        obtain ⟨rfl, _⟩ := rep_str1 (hr 1 v2 _ rfl rfl)
        have hv := hr 0 v1 _ rfl rfl
        simp only [List.map_nil] at hv
        cases hv with
        | sl0 A c hm =>
          refine (Tryz.strings_Join_none A c _ w).mono ?_
          rintro e w' ⟨rfl, rfl⟩
          exact ⟨rfl, Below.refl _ _⟩
        | sl b off k c _ vals hc hm hk hlv hone hF hcell hrep =>
          refine (Tryz.strings_Join_none _ c _ w).mono ?_
          rintro e w' ⟨rfl, rfl⟩
          exact ⟨rfl, Below.refl _ _⟩
  · exact a_Join I l sep hne hc.1 hc.2
end Go.Proofs.YtalfcmgcjdkolaaGreatDoor
namespace Go.Proofs.YtalfcmgcjdkolaaGreatDoor
open Go.RowKit
set_option maxRecDepth 100000
set_option maxHeartbeats 10000000
structure A_Style where
 Color : Int
 Italic : Bool
 Underline : Bool
 deriving DecidableEq
def A_Style.d (x : A_Style) : D := .agg [.int .u8 x.Color, .bool x.Italic, .bool x.Underline]
structure A_Run where
 Text : List UInt8
 Style : A_Style
 Ruby : List UInt8
 deriving DecidableEq
def A_Run.d (x : A_Run) : D := .agg [.str x.Text, .int .u8 x.Style.Color, .bool x.Style.Italic, .bool x.Style.Underline, .str x.Ruby]
structure A_Row where
 Runs : List A_Run
 deriving DecidableEq
def A_Row.d (x : A_Row) : D := .agg [.sl (x.Runs.map A_Run.d)]
structure A_Event where
 ID : Int
 Span : A_Span
 Region : List UInt8
 Kind : Int
 Speaker : List UInt8
 Rows : List A_Row
 deriving DecidableEq
def A_Event.d (x : A_Event) : D := .agg [.int .i64 x.ID, .int .i64 x.Span.In, .int .i64 x.Span.Out, .str x.Region, .int .u8 x.Kind, .str x.Speaker, .sl (x.Rows.map A_Row.d)]
theorem dd_EJ : (∀ x, A_Token.d x = .agg [.str x.Text, .int .i64 x.Sg]) ∧ (∀ x, T_arr6_Int.d x = .agg [.int .i64 x.a0, .int .i64 x.a1, .int .i64 x.a2, .int .i64 x.a3, .int .i64 x.a4, .int .i64 x.a5]) ∧ (∀ x, A_Penalties.d x = .agg [.int .i64 x.Sg.a0, .int .i64 x.Sg.a1, .int .i64 x.Sg.a2, .int .i64 x.Sg.a3, .int .i64 x.Sg.a4, .int .i64 x.Sg.a5, .int .i64 x.Rgd, .int .i64 x.Row, .int .i64 x.Event, .int .i64 x.Fast, .int .i64 x.Gap, .int .i64 x.Shot]) ∧ (∀ x, A_Paragraph.d x = .agg [.sl (x.Tokens.map A_Token.d), .int .i64 x.Width, .int .i64 x.Rows, .int .i64 x.Table.Sg.a0, .int .i64 x.Table.Sg.a1, .int .i64 x.Table.Sg.a2, .int .i64 x.Table.Sg.a3, .int .i64 x.Table.Sg.a4, .int .i64 x.Table.Sg.a5, .int .i64 x.Table.Rgd, .int .i64 x.Table.Row, .int .i64 x.Table.Event, .int .i64 x.Table.Fast, .int .i64 x.Table.Gap, .int .i64 x.Table.Shot]) ∧ (∀ x, T_rowbreak_sheet.d x = .agg [.sl (x.p_.Tokens.map A_Token.d), .int .i64 x.p_.Width, .int .i64 x.p_.Rows, .int .i64 x.p_.Table.Sg.a0, .int .i64 x.p_.Table.Sg.a1, .int .i64 x.p_.Table.Sg.a2, .int .i64 x.p_.Table.Sg.a3, .int .i64 x.p_.Table.Sg.a4, .int .i64 x.p_.Table.Sg.a5, .int .i64 x.p_.Table.Rgd, .int .i64 x.p_.Table.Row, .int .i64 x.p_.Table.Event, .int .i64 x.p_.Table.Fast, .int .i64 x.p_.Table.Gap, .int .i64 x.p_.Table.Shot, .sl (x.sums_.map (D.int .i64)), .int .i64 x.aim_]) ∧ (∀ x, A_Span.d x = .agg [.int .i64 x.In, .int .i64 x.Out]) ∧ (∀ x, A_Word.d x = .agg [.str x.Text, .int .i64 x.Span.In, .int .i64 x.Span.Out]) ∧ (∀ x, A_Profile.d x = .agg [.str x.Name, .int .i64 x.Reading, .int .i64 x.MinFrames, .int .i64 x.MxF, .int .i64 x.MinGap, .int .i64 x.ShB, .int .i64 x.ShA, .int .i64 x.Rows, .int .i64 x.Cols, .str x.Fbd, .int .i64 x.SfT, .int .i64 x.SfB, .int .i64 x.SfL, .int .i64 x.SfR]) ∧ (∀ x, A_Speech.d x = .agg [.int .u8 x.Rate, .sl (x.Words.map A_Word.d), .sl (x.Shots.map (D.int .i64)), .int .i64 x.Table.Sg.a0, .int .i64 x.Table.Sg.a1, .int .i64 x.Table.Sg.a2, .int .i64 x.Table.Sg.a3, .int .i64 x.Table.Sg.a4, .int .i64 x.Table.Sg.a5, .int .i64 x.Table.Rgd, .int .i64 x.Table.Row, .int .i64 x.Table.Event, .int .i64 x.Table.Fast, .int .i64 x.Table.Gap, .int .i64 x.Table.Shot, .str x.House.Name, .int .i64 x.House.Reading, .int .i64 x.House.MinFrames, .int .i64 x.House.MxF, .int .i64 x.House.MinGap, .int .i64 x.House.ShB, .int .i64 x.House.ShA, .int .i64 x.House.Rows, .int .i64 x.House.Cols, .str x.House.Fbd, .int .i64 x.House.SfT, .int .i64 x.House.SfB, .int .i64 x.House.SfL, .int .i64 x.House.SfR]) ∧ (∀ x, A_Part.d x = .agg [.int .i64 x.From, .int .i64 x.To, .sl (x.Breaks.map (D.int .i64)), .int .i64 x.Span.In, .int .i64 x.Span.Out]) ∧ (∀ x, A_Style.d x = .agg [.int .u8 x.Color, .bool x.Italic, .bool x.Underline]) ∧ (∀ x, A_Run.d x = .agg [.str x.Text, .int .u8 x.Style.Color, .bool x.Style.Italic, .bool x.Style.Underline, .str x.Ruby]) ∧ (∀ x, A_Row.d x = .agg [.sl (x.Runs.map A_Run.d)]) ∧ (∀ x, A_Event.d x = .agg [.int .i64 x.ID, .int .i64 x.Span.In, .int .i64 x.Span.Out, .str x.Region, .int .u8 x.Kind, .str x.Speaker, .sl (x.Rows.map A_Row.d)]) := ⟨fun _ => rfl, fun _ => rfl, fun _ => rfl, fun _ => rfl, fun _ => rfl, fun _ => rfl, fun _ => rfl, fun _ => rfl, fun _ => rfl, fun _ => rfl, fun _ => rfl, fun _ => rfl, fun _ => rfl, fun _ => rfl⟩
def g_rowbreak_sheet_total_s1 (ends_1 : List Int) (x24 : Int × Int) : Option (Nx (Int × Int) (Unit ⊕ Unit)) :=
 (if (decide (x24.2 < (ends_1.length : Int))) then ((atI ends_1 x24.2).bind fun y104 => (if (decide (y104 ≤ x24.1)) then (some (.out (.inl ()))) else (some (.go (y104, (IntKind.i64.wrap (x24.2 + 1))))))) else (some (.out (.inr ()))))
def g_rowbreak_sheet_total_s2 (s_0 : T_rowbreak_sheet) (ends_1 : List Int) (x125 : Int × Int × Int) : Option (Nx (Int × Int × Int) (Unit ⊕ Int)) :=
 (if (decide (x125.2.2 < (ends_1.length : Int))) then ((atI ends_1 x125.2.2).bind fun y255 => ((g_rowbreak_sheet_fits s_0 x125.1 y255).bind fun r261 => (if r261 then ((g_rowbreak_sheet_cost s_0 x125.1 y255).bind fun r268 => (some (.go (y255, (IntKind.i64.wrap (x125.2.1 + r268)), (IntKind.i64.wrap (x125.2.2 + 1)))))) else (some (.out (.inl ())))))) else (some (.out (.inr x125.2.1))))
def g_rowbreak_sheet_total (s_0 : T_rowbreak_sheet) (ends_1 : List Int) : Option (Int × Int) :=
 (((if ((ends_1.length : Int) == 0) then (some true) else ((atI ends_1 (IntKind.i64.wrap ((ends_1.length : Int) - 1))).bind fun y12 => ((g_rowbreak_sheet_n s_0).bind fun r14 => (some (y12 != r14))))) : Option (Bool)).bind fun v9 => (if v9 then (some (0, 1)) else ((iter (g_rowbreak_sheet_total_s1 ends_1) (0, 0)).bind fun e25 => (match e25 with | Sum.inl e25 => (some (0, 1)) | Sum.inr (e25) => (if (decide (s_0.p_.Rows < (ends_1.length : Int))) then (some (0, 9)) else ((iter (g_rowbreak_sheet_total_s2 s_0 ends_1) (0, 0, 0)).bind fun e126 => (match e126 with | Sum.inl e126 => (some (0, 11)) | Sum.inr (e126) => (some (e126, 0)))))))))
theorem a_rowbreak_sheet_total {I : World → Prop} (hI : Stab I) {H : Nat → Option Blk} {nid : Nat} {i0 : Nat} {p0 : Option Nat} {s_0 : T_rowbreak_sheet} {ends_1 : List Int} {r : Int × Int} (h : g_rowbreak_sheet_total s_0 ends_1 = some r) (b0 : H i0 = some (.box p0 [.sl (s_0.p_.Tokens.map A_Token.d), .int .i64 s_0.p_.Width, .int .i64 s_0.p_.Rows, .int .i64 s_0.p_.Table.Sg.a0, .int .i64 s_0.p_.Table.Sg.a1, .int .i64 s_0.p_.Table.Sg.a2, .int .i64 s_0.p_.Table.Sg.a3, .int .i64 s_0.p_.Table.Sg.a4, .int .i64 s_0.p_.Table.Sg.a5, .int .i64 s_0.p_.Table.Rgd, .int .i64 s_0.p_.Table.Row, .int .i64 s_0.p_.Table.Event, .int .i64 s_0.p_.Table.Fast, .int .i64 s_0.p_.Table.Gap, .int .i64 s_0.p_.Table.Shot, .sl (s_0.sums_.map (D.int .i64)), .int .i64 s_0.aim_])) : CallOK Tryz.prog I 133 [.ptr i0 0, .sl (ends_1.map (D.int .i64))] H nid (.tup [.int .i64 r.1, .int .i64 r.2]) [] := by
 refine CallOK.ro (eff := [(i0, some (.box p0 [.sl (s_0.p_.Tokens.map A_Token.d), .int .i64 s_0.p_.Width, .int .i64 s_0.p_.Rows, .int .i64 s_0.p_.Table.Sg.a0, .int .i64 s_0.p_.Table.Sg.a1, .int .i64 s_0.p_.Table.Sg.a2, .int .i64 s_0.p_.Table.Sg.a3, .int .i64 s_0.p_.Table.Sg.a4, .int .i64 s_0.p_.Table.Sg.a5, .int .i64 s_0.p_.Table.Rgd, .int .i64 s_0.p_.Table.Row, .int .i64 s_0.p_.Table.Event, .int .i64 s_0.p_.Table.Fast, .int .i64 s_0.p_.Table.Gap, .int .i64 s_0.p_.Table.Shot, .sl (s_0.sums_.map (D.int .i64)), .int .i64 s_0.aim_]))]) (CallOK.intro (is := [(i0, p0)]) (css := [[.sl (s_0.p_.Tokens.map A_Token.d), .int .i64 s_0.p_.Width, .int .i64 s_0.p_.Rows, .int .i64 s_0.p_.Table.Sg.a0, .int .i64 s_0.p_.Table.Sg.a1, .int .i64 s_0.p_.Table.Sg.a2, .int .i64 s_0.p_.Table.Sg.a3, .int .i64 s_0.p_.Table.Sg.a4, .int .i64 s_0.p_.Table.Sg.a5, .int .i64 s_0.p_.Table.Rgd, .int .i64 s_0.p_.Table.Row, .int .i64 s_0.p_.Table.Event, .int .i64 s_0.p_.Table.Fast, .int .i64 s_0.p_.Table.Gap, .int .i64 s_0.p_.Table.Shot, .sl (s_0.sums_.map (D.int .i64)), .int .i64 s_0.aim_]]) (ds0 := [.ptr 0 0, .sl (ends_1.map (D.int .i64))]) (pl := [(0, none)]) hI Tryz.func133 rfl (by decide) (by simp [Tryz.f133]) (by kernel_rfl) rfl rfl rfl rfl (lentAll_of ⟨⟨b0, rfl⟩, trivial⟩) (by simp) ?_) (ro1 b0)
 have dd := dd_EJ; have k := True.intro; have q := k; have rs := Tryz.results133
 unfold g_rowbreak_sheet_total at h
 simp only [lentH, List.length_cons, List.length_nil, Nat.zero_add, Nat.reduceAdd, Tryz.ntmps133, dd_EJ]
 refine xs <| rz ?_
 refine es <| xs ?_
 obtain ⟨v9, h16, h⟩ := bs h
 refine rb_cut (fun v9 => ⟨envL [(0, .ptr 0 0), (1, .sl (ends_1.map (D.int .i64))), (25, .bool v9)], heapL [(0, .box (some 0) [.sl (s_0.p_.Tokens.map A_Token.d), .int .i64 s_0.p_.Width, .int .i64 s_0.p_.Rows, .int .i64 s_0.p_.Table.Sg.a0, .int .i64 s_0.p_.Table.Sg.a1, .int .i64 s_0.p_.Table.Sg.a2, .int .i64 s_0.p_.Table.Sg.a3, .int .i64 s_0.p_.Table.Sg.a4, .int .i64 s_0.p_.Table.Sg.a5, .int .i64 s_0.p_.Table.Rgd, .int .i64 s_0.p_.Table.Row, .int .i64 s_0.p_.Table.Event, .int .i64 s_0.p_.Table.Fast, .int .i64 s_0.p_.Table.Gap, .int .i64 s_0.p_.Table.Shot, .sl (s_0.sums_.map (D.int .i64)), .int .i64 s_0.aim_])], 1, 65⟩) h16 ?_ ?_
 ·clear h
  intro v9 h
  refine rD hI fun K10 RK10 hK10 gK10 => zz ?_
  rcases iK k h with ⟨k, h⟩ | ⟨k, h⟩
  ·refine zz ?_
   subst hK10 gK10
   cases h
   exact en ⟨rfl, wk []⟩
  ·refine zz ?_
   obtain ⟨y12, q, h⟩ := bK q h
   refine zz ?_
   obtain ⟨r14, h15, h⟩ := bs h
   refine eD.intro (fun H' ho hs => a_rowbreak_sheet_n hI (H := H') (nid := 14) (i0 := 0) (p0 := (some 0)) h15 (ho 0 _ (by dsimp only; decide) fz)) fi rfl fk <| zz ?_
   subst hK10 gK10
   cases h
   exact en ⟨rfl, wk []⟩
 ·rcases iK k h with ⟨k, h⟩ | ⟨k, h⟩
  ·refine xt <| xs <| rz ?_
   refine es <| xr <| er ?_
   cases h
   exact en fp
  ·refine xf <| xk <| es <| xs <| rz ?_
   refine es <| xs <| xs <| rz ?_
   refine es <| xb ?_
   obtain ⟨e25, h113, h⟩ := bs h
   refine rb_loop (fun x24 => ⟨envL [(0, .ptr 0 0), (1, .sl (ends_1.map (D.int .i64))), (6, .int .i64 x24.1), (26, .sl (ends_1.map (D.int .i64))), (27, .int .i64 (ends_1.length : Int)), (28, .int .i64 x24.2)], heapL [(0, .box (some 0) [.sl (s_0.p_.Tokens.map A_Token.d), .int .i64 s_0.p_.Width, .int .i64 s_0.p_.Rows, .int .i64 s_0.p_.Table.Sg.a0, .int .i64 s_0.p_.Table.Sg.a1, .int .i64 s_0.p_.Table.Sg.a2, .int .i64 s_0.p_.Table.Sg.a3, .int .i64 s_0.p_.Table.Sg.a4, .int .i64 s_0.p_.Table.Sg.a5, .int .i64 s_0.p_.Table.Rgd, .int .i64 s_0.p_.Table.Row, .int .i64 s_0.p_.Table.Event, .int .i64 s_0.p_.Table.Fast, .int .i64 s_0.p_.Table.Gap, .int .i64 s_0.p_.Table.Shot, .sl (s_0.sums_.map (D.int .i64)), .int .i64 s_0.aim_])], 1, 65⟩) (fun w => match w with | Sum.inl _ => .ret | Sum.inr (_) => .exit 0) (fun w => match w with | Sum.inl e25 => ⟨envL [(0, .ptr 0 0), (4, .int .i64 0), (5, .int .i64 1)], heapL [(0, .box (some 0) [.sl (s_0.p_.Tokens.map A_Token.d), .int .i64 s_0.p_.Width, .int .i64 s_0.p_.Rows, .int .i64 s_0.p_.Table.Sg.a0, .int .i64 s_0.p_.Table.Sg.a1, .int .i64 s_0.p_.Table.Sg.a2, .int .i64 s_0.p_.Table.Sg.a3, .int .i64 s_0.p_.Table.Sg.a4, .int .i64 s_0.p_.Table.Sg.a5, .int .i64 s_0.p_.Table.Rgd, .int .i64 s_0.p_.Table.Row, .int .i64 s_0.p_.Table.Event, .int .i64 s_0.p_.Table.Fast, .int .i64 s_0.p_.Table.Gap, .int .i64 s_0.p_.Table.Shot, .sl (s_0.sums_.map (D.int .i64)), .int .i64 s_0.aim_])], 1, 65⟩ | Sum.inr (e25) => ⟨envL [(0, .ptr 0 0), (1, .sl (ends_1.map (D.int .i64)))], heapL [(0, .box (some 0) [.sl (s_0.p_.Tokens.map A_Token.d), .int .i64 s_0.p_.Width, .int .i64 s_0.p_.Rows, .int .i64 s_0.p_.Table.Sg.a0, .int .i64 s_0.p_.Table.Sg.a1, .int .i64 s_0.p_.Table.Sg.a2, .int .i64 s_0.p_.Table.Sg.a3, .int .i64 s_0.p_.Table.Sg.a4, .int .i64 s_0.p_.Table.Sg.a5, .int .i64 s_0.p_.Table.Rgd, .int .i64 s_0.p_.Table.Row, .int .i64 s_0.p_.Table.Event, .int .i64 s_0.p_.Table.Fast, .int .i64 s_0.p_.Table.Gap, .int .i64 s_0.p_.Table.Shot, .sl (s_0.sums_.map (D.int .i64)), .int .i64 s_0.aim_])], 1, 65⟩) h113 (wk []) (by intro w; rcases w with w | w <;> simp) ?_ ?_
   ·clear h
    intro x24 y h
    unfold g_rowbreak_sheet_total_s1 at h
    refine xs <| rz ?_
    refine es <| xs ?_
    rcases iK k h with ⟨k, h⟩ | ⟨k, h⟩
    ·refine xt <| xk <| es <| xs <| xb <| xs <| rK fun K103 RK103 hK103 gK103 => zz ?_
     obtain ⟨y104, q, h⟩ := bK q h
     refine zz ?_
     subst hK103 gK103
     refine es <| xs <| xs <| rz ?_
     refine es ?_
     rcases iK k h with ⟨k, h⟩ | ⟨k, h⟩
     ·refine xt <| xs <| rz ?_
      refine es <| xr <| er <| br <| er ?_
      cases h
      exact en ⟨rfl, wk []⟩
     ·refine xf <| xk <| es <| rz ?_
      refine bn <| es <| rz ?_
      cases h
      exact en ⟨rfl, wk []⟩
    ·refine xf <| xx <| ee ?_
     cases h
     exact en ⟨rfl, wk []⟩
   ·rcases e25 with e25 | e25
    ·try dsimp only at h ⊢
     refine br <| er ?_
     cases h
     exact en fp
    ·try dsimp only at h ⊢
     refine bh <| es <| xs <| xs <| rz ?_
     refine es ?_
     rcases iK k h with ⟨k, h⟩ | ⟨k, h⟩
     ·refine xt <| xs <| rz ?_
      refine es <| xr <| er ?_
      cases h
      exact en fp
     ·refine xf <| xk <| es <| xs <| rz ?_
      refine es <| xs <| rz ?_
      refine es <| xs <| xs <| rz ?_
      refine es <| xb ?_
      obtain ⟨e126, h274, h⟩ := bs h
      refine rb_loop (fun x125 => ⟨envL [(0, .ptr 0 0), (6, .int .i64 x125.1), (9, .int .i64 x125.2.1), (45, .sl (ends_1.map (D.int .i64))), (46, .int .i64 (ends_1.length : Int)), (47, .int .i64 x125.2.2)], heapL [(0, .box (some 0) [.sl (s_0.p_.Tokens.map A_Token.d), .int .i64 s_0.p_.Width, .int .i64 s_0.p_.Rows, .int .i64 s_0.p_.Table.Sg.a0, .int .i64 s_0.p_.Table.Sg.a1, .int .i64 s_0.p_.Table.Sg.a2, .int .i64 s_0.p_.Table.Sg.a3, .int .i64 s_0.p_.Table.Sg.a4, .int .i64 s_0.p_.Table.Sg.a5, .int .i64 s_0.p_.Table.Rgd, .int .i64 s_0.p_.Table.Row, .int .i64 s_0.p_.Table.Event, .int .i64 s_0.p_.Table.Fast, .int .i64 s_0.p_.Table.Gap, .int .i64 s_0.p_.Table.Shot, .sl (s_0.sums_.map (D.int .i64)), .int .i64 s_0.aim_])], 1, 65⟩) (fun w => match w with | Sum.inl _ => .ret | Sum.inr (_) => .exit 2) (fun w => match w with | Sum.inl e126 => ⟨envL [(0, .ptr 0 0), (4, .int .i64 0), (5, .int .i64 11)], heapL [(0, .box (some 0) [.sl (s_0.p_.Tokens.map A_Token.d), .int .i64 s_0.p_.Width, .int .i64 s_0.p_.Rows, .int .i64 s_0.p_.Table.Sg.a0, .int .i64 s_0.p_.Table.Sg.a1, .int .i64 s_0.p_.Table.Sg.a2, .int .i64 s_0.p_.Table.Sg.a3, .int .i64 s_0.p_.Table.Sg.a4, .int .i64 s_0.p_.Table.Sg.a5, .int .i64 s_0.p_.Table.Rgd, .int .i64 s_0.p_.Table.Row, .int .i64 s_0.p_.Table.Event, .int .i64 s_0.p_.Table.Fast, .int .i64 s_0.p_.Table.Gap, .int .i64 s_0.p_.Table.Shot, .sl (s_0.sums_.map (D.int .i64)), .int .i64 s_0.aim_])], 1, 65⟩ | Sum.inr (e126) => ⟨envL [(0, .ptr 0 0), (9, .int .i64 e126)], heapL [(0, .box (some 0) [.sl (s_0.p_.Tokens.map A_Token.d), .int .i64 s_0.p_.Width, .int .i64 s_0.p_.Rows, .int .i64 s_0.p_.Table.Sg.a0, .int .i64 s_0.p_.Table.Sg.a1, .int .i64 s_0.p_.Table.Sg.a2, .int .i64 s_0.p_.Table.Sg.a3, .int .i64 s_0.p_.Table.Sg.a4, .int .i64 s_0.p_.Table.Sg.a5, .int .i64 s_0.p_.Table.Rgd, .int .i64 s_0.p_.Table.Row, .int .i64 s_0.p_.Table.Event, .int .i64 s_0.p_.Table.Fast, .int .i64 s_0.p_.Table.Gap, .int .i64 s_0.p_.Table.Shot, .sl (s_0.sums_.map (D.int .i64)), .int .i64 s_0.aim_])], 1, 65⟩) h274 (wk []) (by intro w; rcases w with w | w <;> simp) ?_ ?_
      ·clear h
       intro x125 y h
       unfold g_rowbreak_sheet_total_s2 at h
       refine xs <| rz ?_
       refine es <| xs ?_
       rcases iK k h with ⟨k, h⟩ | ⟨k, h⟩
       ·refine xt <| xk <| es <| xs <| xb <| xs <| rK fun K254 RK254 hK254 gK254 => zz ?_
        obtain ⟨y255, q, h⟩ := bK q h
        refine zz ?_
        subst hK254 gK254
        refine es <| xs <| xs <| rK fun K260 RK260 hK260 gK260 => zz ?_
        obtain ⟨r261, h262, h⟩ := bs h
        refine eW.intro (a_rowbreak_sheet_fits hI (nid := 8) (i0 := 0) (p0 := (some 0)) h262 fz) fi rfl <| zz ?_
        subst hK260 gK260
        refine es ?_
        rcases iK k h with ⟨k, h⟩ | ⟨k, h⟩
        ·refine xf <| xk <| es <| xs <| rK fun K267 RK267 hK267 gK267 => zz ?_
         obtain ⟨r268, h269, h⟩ := bs h
         refine eW.intro (a_rowbreak_sheet_cost hI (nid := 14) (i0 := 0) (p0 := (some 0)) h269 fz) fi rfl <| zz ?_
         subst hK267 gK267
         refine es <| rz ?_
         refine bn <| es <| rz ?_
         cases h
         exact en ⟨rfl, wk []⟩
        ·refine xt <| xs <| rz ?_
         refine es <| xr <| er <| br <| er ?_
         cases h
         exact en ⟨rfl, wk []⟩
       ·refine xf <| xx <| ee ?_
        cases h
        exact en ⟨rfl, wk []⟩
      ·rcases e126 with e126 | e126
       ·try dsimp only at h ⊢
        refine br <| er ?_
        cases h
        exact en fp
       ·try dsimp only at h ⊢
        refine bh <| es <| xs <| rz ?_
        refine es <| xr ?_
        cases h
        exact en fp
def g_rowbreak_Cost (p_0 : A_Paragraph) (ends_1 : List Int) : Option (Int × Int) :=
 ((g_rowbreak_Check p_0).bind fun r7 => (if (r7 != 0) then (some (0, r7)) else ((g_rowbreak_open p_0).bind fun r20 => ((g_rowbreak_sheet_total r20 ends_1).bind fun r22 => (some (r22.1, r22.2))))))
theorem a_rowbreak_Cost {I : World → Prop} (hI : Stab I) (hU8T : ∀ w, I w → U8T w) {p_0 : A_Paragraph} {ends_1 : List Int} {r : Int × Int} (h : g_rowbreak_Cost p_0 ends_1 = some r) : AFun Tryz.prog I 92 [A_Paragraph.d p_0, .sl (ends_1.map (D.int .i64))] (.tup [.int .i64 r.1, .int .i64 r.2]) := by
 have dd := dd_EJ; have k := True.intro; have q := k; have rs := Tryz.results92
 unfold g_rowbreak_Cost at h
 refine .en hI Tryz.func92 Tryz.ntmps92 ?_
 refine xs <| rz ?_
 refine es <| xs <| xs <| rK fun K6 RK6 hK6 gK6 => zz ?_
 obtain ⟨r7, h8, h⟩ := bs h
 refine cw (a_rowbreak_Check hI hU8T h8) <| zz ?_
 subst hK6 gK6
 refine es <| xs <| rz ?_
 refine es ?_
 rcases iK k h with ⟨k, h⟩ | ⟨k, h⟩
 ·refine xt <| xs <| rz ?_
  refine es <| xr <| er ?_
  cases h
  exact en fr
 ·refine xf <| xk <| es <| xs <| rK fun K19 RK19 hK19 gK19 => zz ?_
  obtain ⟨r20, h21, h⟩ := bs h
  refine cW.introE (a_rowbreak_open hI hU8T (nid := 9) h21) fz rfl <| zz ?_
  obtain ⟨r22, h23, h⟩ := bs h
  refine eW.intro (a_rowbreak_sheet_total hI (nid := 11) (i0 := 9) (p0 := none) h23 fz) fi rfl <| zz ?_
  subst hK19 gK19
  refine es <| xr ?_
  cases h
  exact en fr
def g_token_Join_s1 (l_0 : List A_Token) (x21 : Int × (List (List UInt8))) : Option (Nx (Int × (List (List UInt8))) ((List (List UInt8)))) :=
 (if (decide (x21.1 < (l_0.length : Int))) then ((atI l_0 x21.1).bind fun y78 => ((atI x21.2 x21.1).bind fun y81 => ((setI x21.2 x21.1 y78.Text).bind fun m82 => (some (.go ((IntKind.i64.wrap (x21.1 + 1)), m82)))))) else (some (.out x21.2)))
def g_token_Join (l_0 : List A_Token) : Option ((List UInt8)) :=
 ((mkI 16 (l_0.length : Int) ([] : List UInt8)).bind fun m12 => ((iter (g_token_Join_s1 l_0) (0, m12)).bind fun e22 => ((g_strings_Join e22 [32]).bind fun r94 => (some r94))))
theorem a_token_Join {I : World → Prop} (hI : Stab I) {l_0 : List A_Token} {r : (List UInt8)} (h : g_token_Join l_0 = some r) : AFun Tryz.prog I 93 [.sl (l_0.map A_Token.d)] (.str r) := by
 have dd := dd_EJ; have k := True.intro; have q := k; have rs := Tryz.results93
 unfold g_token_Join at h
 refine .en hI Tryz.func93 Tryz.ntmps93 ?_
 refine xs <| rz ?_
 refine es <| xs <| rK fun K11 RK11 hK11 gK11 => zz ?_
 obtain ⟨m12, h13, h⟩ := bind_some h
 obtain ⟨h14, h15, h16, h17, h18⟩ := mkI_some h13
 have h18 := h18 D.str
 have h17 := (Int.toNat_natCast _).symm.trans h17 |>.symm
 rw [h17] at h18
 have k := And.intro h17 k
 try simp only [sevalprocAttr, List.map_nil, Int.toNat_natCast, dd] at h18
 have q := And.intro @h14 <| And.intro @h15 <| And.intro @h16 <| And.intro @h17 <| And.intro @h18 <| q
 refine zz ?_
 subst hK11 gK11
 refine es <| xs <| xs <| rz ?_
 refine es <| xb ?_
 obtain ⟨e22, h89, h⟩ := bs h
 refine rb_loop (fun x21 => ⟨envL [(3, .own 0 x21.2.length), (9, .sl (l_0.map A_Token.d)), (10, .int .i64 (l_0.length : Int)), (11, .int .i64 x21.1)], heapL [(0, .vec 9 1 (x21.2.map D.str) false)], 1, 24⟩) (fun _ => .exit 0) (fun e22 => ⟨envL [(3, .own 0 e22.length)], heapL [(0, .vec 9 1 (e22.map D.str) false)], 1, 24⟩) h89 (wk [(0, some 3)]) (by intro w; simp) ?_ ?_
 ·clear h
  intro x21 y h
  unfold g_token_Join_s1 at h
  refine xs <| rz ?_
  refine es <| xs ?_
  rcases iK k h with ⟨k, h⟩ | ⟨k, h⟩
  ·refine xt <| xk <| es <| xs <| xb <| xs <| rK fun K77 RK77 hK77 gK77 => zz ?_
   obtain ⟨y78, q, h⟩ := bK q h
   refine zz ?_
   subst hK77 gK77
   refine es <| rK fun K80 RK80 hK80 gK80 => zz ?_
   obtain ⟨y81, q, h⟩ := oN q h
   refine zz ?_
   obtain ⟨m82, h83, h⟩ := bind_some h
   obtain ⟨h84, h85, h86, h87⟩ := setI_some h83
   have h87 := h87 D.str
   try simp only [sevalprocAttr, List.map_nil, dd] at h87
   have q := And.intro @h84 <| And.intro @h85 <| And.intro @h86 <| And.intro @h87 <| q
   refine zz ?_
   subst hK80 gK80
   refine bn <| es <| rz ?_
   cases h
   exact en ⟨rfl, wk []⟩
  ·refine xf <| xx <| ee ?_
   cases h
   exact en ⟨rfl, wk []⟩
 ·refine bh <| es <| xs <| rK fun K93 RK93 hK93 gK93 => zz ?_
  obtain ⟨r94, h95, h⟩ := bs h
  refine cw (a_strings_Join I hI e22 [32] h95) <| zz ?_
  subst hK93 gK93
  refine es <| xr ?_
  cases h
  exact en fr
def g_rowbreak_Rows_s1 (p_0 : A_Paragraph) (ends_1 : List Int) (x20 : (List (List UInt8)) × Int × Int) : Option (Nx ((List (List UInt8)) × Int × Int) ((List (List UInt8)))) :=
 (if (decide (x20.2.2 < (ends_1.length : Int))) then ((atI ends_1 x20.2.2).bind fun y254 => ((subI p_0.Tokens x20.2.1 y254).bind fun z269 => ((g_token_Join z269).bind fun r276 => (if (x20.1.length + 1) * 16 ≤ 140737488355328 then (some (.go ((x20.1 ++ [r276]), y254, (IntKind.i64.wrap (x20.2.2 + 1))))) else none)))) else (some (.out x20.1)))
def g_rowbreak_Rows (p_0 : A_Paragraph) (ends_1 : List Int) : Option ((List (List UInt8)) × Int) :=
 ((g_rowbreak_Cost p_0 ends_1).bind fun r7 => (if (r7.2 != 0) then (some ([], r7.2)) else ((iter (g_rowbreak_Rows_s1 p_0 ends_1) ([], 0, 0)).bind fun e21 => (some (e21, 0)))))
theorem a_rowbreak_Rows {I : World → Prop} (hI : Stab I) (hU8T : ∀ w, I w → U8T w) {p_0 : A_Paragraph} {ends_1 : List Int} {r : (List (List UInt8)) × Int} (h : g_rowbreak_Rows p_0 ends_1 = some r) : AFun Tryz.prog I 51 [A_Paragraph.d p_0, .sl (ends_1.map (D.int .i64))] (.tup [.sl (r.1.map D.str), .int .i64 r.2]) := by
 have dd := dd_EJ; have k := True.intro; have q := k; have rs := Tryz.results51
 unfold g_rowbreak_Rows at h
 refine .en hI Tryz.func51 Tryz.ntmps51 ?_
 refine xs <| rz ?_
 refine es <| xs <| xs <| rK fun K6 RK6 hK6 gK6 => zz ?_
 obtain ⟨r7, h8, h⟩ := bs h
 refine cw (a_rowbreak_Cost hI hU8T h8) <| zz ?_
 subst hK6 gK6
 refine es <| xs <| rz ?_
 refine es ?_
 rcases iK k h with ⟨k, h⟩ | ⟨k, h⟩
 ·refine xt <| xs <| rz ?_
  refine es <| xr <| er ?_
  cases h
  exact en fr
 ·refine xf <| xk <| es <| xs <| rz ?_
  refine es <| xs <| rz ?_
  refine es <| xs <| xs <| rz ?_
  refine es <| xb ?_
  obtain ⟨e21, h282, h⟩ := bs h
  refine rb_loop (fun x20 => ⟨envL [(2, .ptr 0 0), (8, .own 1 x20.1.length), (9, .int .i64 x20.2.1), (21, .sl (ends_1.map (D.int .i64))), (22, .int .i64 (ends_1.length : Int)), (23, .int .i64 x20.2.2)], heapL [(0, .box none [.sl (p_0.Tokens.map A_Token.d), .int .i64 p_0.Width, .int .i64 p_0.Rows, .int .i64 p_0.Table.Sg.a0, .int .i64 p_0.Table.Sg.a1, .int .i64 p_0.Table.Sg.a2, .int .i64 p_0.Table.Sg.a3, .int .i64 p_0.Table.Sg.a4, .int .i64 p_0.Table.Sg.a5, .int .i64 p_0.Table.Rgd, .int .i64 p_0.Table.Row, .int .i64 p_0.Table.Event, .int .i64 p_0.Table.Fast, .int .i64 p_0.Table.Gap, .int .i64 p_0.Table.Shot]), (1, .vec 9 1 (x20.1.map D.str) false)], 2, 39⟩) (fun _ => .exit 0) (fun e21 => ⟨envL [(8, .own 0 e21.length)], heapL [(0, .vec 9 1 (e21.map D.str) false)], 1, 39⟩) h282 (wk [(1, none)]) (by intro w; simp) ?_ ?_
  ·clear h
   intro x20 y h
   unfold g_rowbreak_Rows_s1 at h
   refine xs <| rz ?_
   refine es <| xs ?_
   rcases iK k h with ⟨k, h⟩ | ⟨k, h⟩
   ·refine xt <| xk <| es <| xs <| xb <| xs <| rK fun K253 RK253 hK253 gK253 => zz ?_
    obtain ⟨y254, q, h⟩ := bK q h
    refine zz ?_
    subst hK253 gK253
    refine es <| xs <| rK fun K268 RK268 hK268 gK268 => zz ?_
    obtain ⟨z269, h270, h⟩ := bind_some h
    obtain ⟨⟨h271, h272, h273, h274⟩, h275⟩ := subI_some h270
    have q := And.intro @h271 <| And.intro @h272 <| And.intro @h273 <| And.intro @h274 <| q
    try simp -implicitDefEqProofs only [vt, vm, sevalprocAttr, dd, k, q] at h275
    have q := And.intro @h275 <| q
    refine zz ?_
    obtain ⟨r276, h277, h⟩ := bs h
    refine cw (a_token_Join hI h277) <| zz ?_
    obtain ⟨h278, h⟩ := ite_on h
    have h279 : x20.1.length + 1 ≤ 9223372036854775807 := by omega
    try simp only [Nat.reduceLeDiff] at h279
    have q := And.intro @h279 <| And.intro @h278 <| q
    refine zz ?_
    subst hK268 gK268
    refine es <| rz ?_
    refine bn <| es <| rz ?_
    cases h
    exact en ⟨rfl, wk [(1, some 14)]⟩
   ·refine xf <| xx <| ee ?_
    cases h
    exact en ⟨rfl, wk [(0, some 1)]⟩
  ·refine bh <| es <| xs <| rz ?_
   refine es <| xr ?_
   cases h
   exact en fr
def g_segment_Events_s2 (r978 : (List (List UInt8)) × Int) (x982 : Int × (List A_Row)) : Option (Nx (Int × (List A_Row)) ((List A_Row))) :=
 (if (decide (x982.1 < (r978.1.length : Int))) then ((atI r978.1 x982.1).bind fun y1066 => (if (x982.2.length + 1) * 24 ≤ 140737488355328 then (some (.go ((IntKind.i64.wrap (x982.1 + 1)), (x982.2 ++ [(A_Row.mk [(A_Run.mk y1066 (A_Style.mk 0 false false) [])])])))) else none)) else (some (.out x982.2)))
def g_segment_Events_s1 (s_0 : A_Speech) (r18 : (List A_Part) × Int × Int) (r29 : (List A_Token)) (x35 : (List A_Event) × Int) : Option (Nx ((List A_Event) × Int) ((List A_Event))) :=
 (if (decide (x35.2 < (r18.1.length : Int))) then ((atI r18.1 x35.2).bind fun y952 => ((subI r29 y952.From y952.To).bind fun z969 => ((g_segment_paragraph s_0 z969).bind fun r976 => ((g_rowbreak_Rows r976 y952.Breaks).bind fun r978 => ((iter (g_segment_Events_s2 r978) (0, [])).bind fun e983 => (if (x35.1.length + 1) * 88 ≤ 140737488355328 then (some (.go ((x35.1 ++ [(A_Event.mk (IntKind.i64.wrap (x35.2 + 1)) y952.Span [] 1 [] e983)]), (IntKind.i64.wrap (x35.2 + 1))))) else none)))))) else (some (.out x35.1)))
def g_segment_Events (s_0 : A_Speech) (l_1 : List A_Part) : Option ((List A_Event) × Int) :=
 ((g_segment_Check s_0).bind fun r7 => (if (r7 != 0) then (some ([], r7)) else ((g_segment_cost s_0 l_1).bind fun r18 => (if (r18.2.2 != 0) then (some ([], r18.2.2)) else ((g_segment_tokens s_0).bind fun r29 => ((iter (g_segment_Events_s1 s_0 r18 r29) ([], 0)).bind fun e36 => (some (e36, 0))))))))
theorem a_segment_Events {I : World → Prop} (hI : Stab I) (hShp : ∀ w, I w → Shp w) (hU8T : ∀ w, I w → U8T w) {s_0 : A_Speech} {l_1 : List A_Part} {r : (List A_Event) × Int} (h : g_segment_Events s_0 l_1 = some r) : AFun Tryz.prog I 21 [A_Speech.d s_0, .sl (l_1.map A_Part.d)] (.tup [.sl (r.1.map A_Event.d), .int .i64 r.2]) := by
 have dd := dd_EJ; have k := True.intro; have q := k; have rs := Tryz.results21
 unfold g_segment_Events at h
 refine .en hI Tryz.func21 Tryz.ntmps21 ?_
 refine xs <| rz ?_
 refine es <| xs <| xs <| rK fun K6 RK6 hK6 gK6 => zz ?_
 obtain ⟨r7, h8, h⟩ := bs h
 refine cw (a_segment_Check hI hU8T h8) <| zz ?_
 subst hK6 gK6
 refine es <| xs <| rz ?_
 refine es ?_
 rcases iK k h with ⟨k, h⟩ | ⟨k, h⟩
 ·refine xt <| xs <| rz ?_
  refine es <| xr <| er ?_
  cases h
  exact en fr
 ·refine xf <| xk <| es <| xs <| rK fun K17 RK17 hK17 gK17 => zz ?_
  obtain ⟨r18, h19, h⟩ := bs h
  refine cw (a_segment_cost hI hShp hU8T h19) <| zz ?_
  subst hK17 gK17
  refine es <| xs <| xs <| rz ?_
  refine es ?_
  rcases iK k h with ⟨k, h⟩ | ⟨k, h⟩
  ·refine xt <| xs <| rz ?_
   refine es <| xr <| er ?_
   cases h
   exact en fr
  ·refine xf <| xk <| es <| xs <| rK fun K28 RK28 hK28 gK28 => zz ?_
   obtain ⟨r29, h30, h⟩ := bs h
   refine cw (a_segment_tokens hI hShp h30) <| zz ?_
   subst hK28 gK28
   refine es <| xs <| rz ?_
   refine es <| xs <| xs <| rz ?_
   refine es <| xb ?_
   obtain ⟨e36, h1077, h⟩ := bs h
   refine rb_loop (fun x35 => ⟨envL [(2, .ptr 0 0), (10, .sl (r29.map A_Token.d)), (11, .own 1 x35.1.length), (36, .sl (r18.1.map A_Part.d)), (37, .int .i64 (r18.1.length : Int)), (38, .int .i64 x35.2)], heapL [(0, .box none [.int .u8 s_0.Rate, .sl (s_0.Words.map A_Word.d), .sl (s_0.Shots.map (D.int .i64)), .int .i64 s_0.Table.Sg.a0, .int .i64 s_0.Table.Sg.a1, .int .i64 s_0.Table.Sg.a2, .int .i64 s_0.Table.Sg.a3, .int .i64 s_0.Table.Sg.a4, .int .i64 s_0.Table.Sg.a5, .int .i64 s_0.Table.Rgd, .int .i64 s_0.Table.Row, .int .i64 s_0.Table.Event, .int .i64 s_0.Table.Fast, .int .i64 s_0.Table.Gap, .int .i64 s_0.Table.Shot, .str s_0.House.Name, .int .i64 s_0.House.Reading, .int .i64 s_0.House.MinFrames, .int .i64 s_0.House.MxF, .int .i64 s_0.House.MinGap, .int .i64 s_0.House.ShB, .int .i64 s_0.House.ShA, .int .i64 s_0.House.Rows, .int .i64 s_0.House.Cols, .str s_0.House.Fbd, .int .i64 s_0.House.SfT, .int .i64 s_0.House.SfB, .int .i64 s_0.House.SfL, .int .i64 s_0.House.SfR]), (1, .vec 61 7 (x35.1.map A_Event.d) false)], 2, 84⟩) (fun _ => .exit 0) (fun e36 => ⟨envL [(11, .own 0 e36.length)], heapL [(0, .vec 61 7 (e36.map A_Event.d) false)], 1, 84⟩) h1077 (wk [(1, none)]) (by intro w; simp) ?_ ?_
   ·clear h
    intro x35 y h
    unfold g_segment_Events_s1 at h
    refine xs <| rz ?_
    refine es <| xs ?_
    rcases iK k h with ⟨k, h⟩ | ⟨k, h⟩
    ·refine xt <| xk <| es <| xs <| xb <| xs <| rK fun K951 RK951 hK951 gK951 => zz ?_
     obtain ⟨y952, q, h⟩ := bK q h
     refine zz ?_
     subst hK951 gK951
     refine es <| xs <| rz ?_
     refine es <| xs <| rD hI fun K968 RK968 hK968 gK968 => zz ?_
     obtain ⟨z969, h970, h⟩ := bind_some h
     obtain ⟨⟨h971, h972, h973, h974⟩, h975⟩ := subI_some h970
     have q := And.intro @h971 <| And.intro @h972 <| And.intro @h973 <| And.intro @h974 <| q
     try simp -implicitDefEqProofs only [vt, vm, sevalprocAttr, dd, k, q] at h975
     have q := And.intro @h975 <| q
     refine zz ?_
     obtain ⟨r976, h977, h⟩ := bs h
     refine cd (a_segment_paragraph hI h977) <| zz ?_
     obtain ⟨r978, h979, h⟩ := bs h
     refine cd (a_rowbreak_Rows hI hU8T h979) <| zz ?_
     subst hK968 gK968
     refine es <| xs <| xs <| rz ?_
     refine es <| xb ?_
     obtain ⟨e983, h1072, h⟩ := bs h
     refine rb_loop (fun x982 => ⟨envL [(2, .ptr 0 0), (10, .sl (r29.map A_Token.d)), (11, .own 1 x35.1.length), (14, .ptr 2 0), (36, .sl (r18.1.map A_Part.d)), (37, .int .i64 (r18.1.length : Int)), (38, .int .i64 x35.2), (62, .sl (r978.1.map D.str)), (63, .int .i64 (r978.1.length : Int)), (64, .int .i64 x982.1)], heapL [(0, .box none [.int .u8 s_0.Rate, .sl (s_0.Words.map A_Word.d), .sl (s_0.Shots.map (D.int .i64)), .int .i64 s_0.Table.Sg.a0, .int .i64 s_0.Table.Sg.a1, .int .i64 s_0.Table.Sg.a2, .int .i64 s_0.Table.Sg.a3, .int .i64 s_0.Table.Sg.a4, .int .i64 s_0.Table.Sg.a5, .int .i64 s_0.Table.Rgd, .int .i64 s_0.Table.Row, .int .i64 s_0.Table.Event, .int .i64 s_0.Table.Fast, .int .i64 s_0.Table.Gap, .int .i64 s_0.Table.Shot, .str s_0.House.Name, .int .i64 s_0.House.Reading, .int .i64 s_0.House.MinFrames, .int .i64 s_0.House.MxF, .int .i64 s_0.House.MinGap, .int .i64 s_0.House.ShB, .int .i64 s_0.House.ShA, .int .i64 s_0.House.Rows, .int .i64 s_0.House.Cols, .str s_0.House.Fbd, .int .i64 s_0.House.SfT, .int .i64 s_0.House.SfB, .int .i64 s_0.House.SfL, .int .i64 s_0.House.SfR]), (1, .vec 61 7 (x35.1.map A_Event.d) false), (2, .box none [.int .i64 (IntKind.i64.wrap (x35.2 + 1)), .int .i64 y952.Span.In, .int .i64 y952.Span.Out, .str [], .int .u8 1, .str [], .own 3 x982.2.length]), (3, .vec 68 1 (x982.2.map A_Row.d) false)], 4, 84⟩) (fun _ => .exit 2) (fun e983 => ⟨envL [(2, .ptr 0 0), (10, .sl (r29.map A_Token.d)), (11, .own 1 x35.1.length), (14, .ptr 2 0), (36, .sl (r18.1.map A_Part.d)), (37, .int .i64 (r18.1.length : Int)), (38, .int .i64 x35.2)], heapL [(0, .box none [.int .u8 s_0.Rate, .sl (s_0.Words.map A_Word.d), .sl (s_0.Shots.map (D.int .i64)), .int .i64 s_0.Table.Sg.a0, .int .i64 s_0.Table.Sg.a1, .int .i64 s_0.Table.Sg.a2, .int .i64 s_0.Table.Sg.a3, .int .i64 s_0.Table.Sg.a4, .int .i64 s_0.Table.Sg.a5, .int .i64 s_0.Table.Rgd, .int .i64 s_0.Table.Row, .int .i64 s_0.Table.Event, .int .i64 s_0.Table.Fast, .int .i64 s_0.Table.Gap, .int .i64 s_0.Table.Shot, .str s_0.House.Name, .int .i64 s_0.House.Reading, .int .i64 s_0.House.MinFrames, .int .i64 s_0.House.MxF, .int .i64 s_0.House.MinGap, .int .i64 s_0.House.ShB, .int .i64 s_0.House.ShA, .int .i64 s_0.House.Rows, .int .i64 s_0.House.Cols, .str s_0.House.Fbd, .int .i64 s_0.House.SfT, .int .i64 s_0.House.SfB, .int .i64 s_0.House.SfL, .int .i64 s_0.House.SfR]), (1, .vec 61 7 (x35.1.map A_Event.d) false), (2, .box none [.int .i64 (IntKind.i64.wrap (x35.2 + 1)), .int .i64 y952.Span.In, .int .i64 y952.Span.Out, .str [], .int .u8 1, .str [], .own 3 e983.length]), (3, .vec 68 1 (e983.map A_Row.d) false)], 4, 84⟩) h1072 (wk [(2, some 14), (3, none)]) (by intro w; simp) ?_ ?_
     ·clear h
      intro x982 y h
      unfold g_segment_Events_s2 at h
      refine xs <| rz ?_
      refine es <| xs ?_
      rcases iK k h with ⟨k, h⟩ | ⟨k, h⟩
      ·refine xt <| xk <| es <| xs <| xb <| xs <| rK fun K1065 RK1065 hK1065 gK1065 => zz ?_
       obtain ⟨y1066, q, h⟩ := bK q h
       refine zz ?_
       subst hK1065 gK1065
       refine es <| rK fun K1068 RK1068 hK1068 gK1068 => zz ?_
       obtain ⟨h1069, h⟩ := ite_on h
       have h1070 : x982.2.length + 1 ≤ 9223372036854775807 := by omega
       try simp only [Nat.reduceLeDiff] at h1070
       have q := And.intro @h1070 <| And.intro @h1069 <| q
       refine zz ?_
       subst hK1068 gK1068
       refine bn <| es <| rz ?_
       cases h
       exact en ⟨rfl, wk [(3, some 15)]⟩
      ·refine xf <| xx <| ee ?_
       cases h
       exact en ⟨rfl, wk []⟩
     ·refine bh <| es <| rK fun K1073 RK1073 hK1073 gK1073 => zz ?_
      obtain ⟨h1074, h⟩ := ite_on h
      have h1075 : x35.1.length + 1 ≤ 9223372036854775807 := by omega
      try simp only [Nat.reduceLeDiff] at h1075
      have q := And.intro @h1075 <| And.intro @h1074 <| q
      refine zz ?_
      subst hK1073 gK1073
      refine bn <| es <| rz ?_
      cases h
      exact en ⟨rfl, wk [(1, some 7)]⟩
    ·refine xf <| xx <| ee ?_
     cases h
     exact en ⟨rfl, wk [(0, some 1)]⟩
   ·refine bh <| es <| xs <| rz ?_
    refine es <| xr ?_
    cases h
    exact en fr
end Go.Proofs.YtalfcmgcjdkolaaGreatDoor
namespace Go.Proofs.YtalfcmgcjdkolaaGreatDoor
open Go.RowKit
set_option maxRecDepth 100000
set_option maxHeartbeats 10000000
theorem dd_EM : (∀ x, A_Style.d x = .agg [.int .u8 x.Color, .bool x.Italic, .bool x.Underline]) ∧ (∀ x, A_Run.d x = .agg [.str x.Text, .int .u8 x.Style.Color, .bool x.Style.Italic, .bool x.Style.Underline, .str x.Ruby]) ∧ (∀ x, A_Row.d x = .agg [.sl (x.Runs.map A_Run.d)]) ∧ (∀ x, A_Span.d x = .agg [.int .i64 x.In, .int .i64 x.Out]) ∧ (∀ x, A_Word.d x = .agg [.str x.Text, .int .i64 x.Span.In, .int .i64 x.Span.Out]) ∧ (∀ x, T_arr6_Int.d x = .agg [.int .i64 x.a0, .int .i64 x.a1, .int .i64 x.a2, .int .i64 x.a3, .int .i64 x.a4, .int .i64 x.a5]) ∧ (∀ x, A_Penalties.d x = .agg [.int .i64 x.Sg.a0, .int .i64 x.Sg.a1, .int .i64 x.Sg.a2, .int .i64 x.Sg.a3, .int .i64 x.Sg.a4, .int .i64 x.Sg.a5, .int .i64 x.Rgd, .int .i64 x.Row, .int .i64 x.Event, .int .i64 x.Fast, .int .i64 x.Gap, .int .i64 x.Shot]) ∧ (∀ x, A_Profile.d x = .agg [.str x.Name, .int .i64 x.Reading, .int .i64 x.MinFrames, .int .i64 x.MxF, .int .i64 x.MinGap, .int .i64 x.ShB, .int .i64 x.ShA, .int .i64 x.Rows, .int .i64 x.Cols, .str x.Fbd, .int .i64 x.SfT, .int .i64 x.SfB, .int .i64 x.SfL, .int .i64 x.SfR]) ∧ (∀ x, A_Speech.d x = .agg [.int .u8 x.Rate, .sl (x.Words.map A_Word.d), .sl (x.Shots.map (D.int .i64)), .int .i64 x.Table.Sg.a0, .int .i64 x.Table.Sg.a1, .int .i64 x.Table.Sg.a2, .int .i64 x.Table.Sg.a3, .int .i64 x.Table.Sg.a4, .int .i64 x.Table.Sg.a5, .int .i64 x.Table.Rgd, .int .i64 x.Table.Row, .int .i64 x.Table.Event, .int .i64 x.Table.Fast, .int .i64 x.Table.Gap, .int .i64 x.Table.Shot, .str x.House.Name, .int .i64 x.House.Reading, .int .i64 x.House.MinFrames, .int .i64 x.House.MxF, .int .i64 x.House.MinGap, .int .i64 x.House.ShB, .int .i64 x.House.ShA, .int .i64 x.House.Rows, .int .i64 x.House.Cols, .str x.House.Fbd, .int .i64 x.House.SfT, .int .i64 x.House.SfB, .int .i64 x.House.SfL, .int .i64 x.House.SfR]) ∧ (∀ x, A_Part.d x = .agg [.int .i64 x.From, .int .i64 x.To, .sl (x.Breaks.map (D.int .i64)), .int .i64 x.Span.In, .int .i64 x.Span.Out]) ∧ (∀ x, A_Event.d x = .agg [.int .i64 x.ID, .int .i64 x.Span.In, .int .i64 x.Span.Out, .str x.Region, .int .u8 x.Kind, .str x.Speaker, .sl (x.Rows.map A_Row.d)]) := ⟨fun _ => rfl, fun _ => rfl, fun _ => rfl, fun _ => rfl, fun _ => rfl, fun _ => rfl, fun _ => rfl, fun _ => rfl, fun _ => rfl, fun _ => rfl, fun _ => rfl⟩
def g_style_Len_s1 (row_0 : A_Row) (x7 : Int × Int) : Option (Nx (Int × Int) (Unit ⊕ Int)) :=
 (if (decide (x7.2 < (row_0.Runs.length : Int))) then ((atI row_0.Runs x7.2).bind fun y76 => ((g_charset_Len y76.Text).bind fun r82 => (if (decide (r82 < 0)) then (some (.out (.inl ()))) else (some (.go ((IntKind.i64.wrap (x7.1 + r82)), (IntKind.i64.wrap (x7.2 + 1)))))))) else (some (.out (.inr x7.1))))
def g_style_Len (row_0 : A_Row) : Option (Int) :=
 ((iter (g_style_Len_s1 row_0) (0, 0)).bind fun e8 => (match e8 with | Sum.inl e8 => (some (-1)) | Sum.inr (e8) => (some e8)))
theorem a_style_Len {I : World → Prop} (hI : Stab I) (hU8T : ∀ w, I w → U8T w) {row_0 : A_Row} {r : Int} (h : g_style_Len row_0 = some r) : AFun Tryz.prog I 24 [A_Row.d row_0] (.int .i64 r) := by
 have dd := dd_EM; have k := True.intro; have q := k; have rs := Tryz.results24
 unfold g_style_Len at h
 refine .en hI Tryz.func24 Tryz.ntmps24 ?_
 refine xs <| rz ?_
 refine es <| xs <| rz ?_
 refine es <| xs <| xs <| rz ?_
 refine es <| xb ?_
 obtain ⟨e8, h91, h⟩ := bs h
 refine rb_loop (fun x7 => ⟨envL [(3, .int .i64 x7.1), (8, .sl (row_0.Runs.map A_Run.d)), (9, .int .i64 (row_0.Runs.length : Int)), (10, .int .i64 x7.2)], heapL [], 0, 24⟩) (fun w => match w with | Sum.inl _ => .ret | Sum.inr (_) => .exit 0) (fun w => match w with | Sum.inl e8 => ⟨envL [(2, .int .i64 (-1))], heapL [], 0, 24⟩ | Sum.inr (e8) => ⟨envL [(3, .int .i64 e8)], heapL [], 0, 24⟩) h91 (wk []) (by intro w; rcases w with w | w <;> simp) ?_ ?_
 ·clear h
  intro x7 y h
  unfold g_style_Len_s1 at h
  refine xs <| rz ?_
  refine es <| xs ?_
  rcases iK k h with ⟨k, h⟩ | ⟨k, h⟩
  ·refine xt <| xk <| es <| xs <| xb <| xs <| rK fun K75 RK75 hK75 gK75 => zz ?_
   obtain ⟨y76, q, h⟩ := bK q h
   refine zz ?_
   subst hK75 gK75
   refine es <| xs <| rK fun K81 RK81 hK81 gK81 => zz ?_
   obtain ⟨r82, h83, h⟩ := bs h
   refine cw (a_charset_Len hI hU8T h83) <| zz ?_
   subst hK81 gK81
   refine es <| xs <| xs <| rz ?_
   refine es ?_
   rcases iK k h with ⟨k, h⟩ | ⟨k, h⟩
   ·refine xt <| xs <| rz ?_
    refine es <| xr <| er <| br <| er ?_
    cases h
    exact en ⟨rfl, wk []⟩
   ·refine xf <| xk <| es <| rz ?_
    refine bn <| es <| rz ?_
    cases h
    exact en ⟨rfl, wk []⟩
  ·refine xf <| xx <| ee ?_
   cases h
   exact en ⟨rfl, wk []⟩
 ·rcases e8 with e8 | e8
  ·try dsimp only at h ⊢
   refine br <| er ?_
   cases h
   exact en fr
  ·try dsimp only at h ⊢
   refine bh <| es <| xs <| rz ?_
   refine es <| xr ?_
   cases h
   exact en fr
def g_style_Plain_s1 (row_0 : A_Row) (x7 : Int × (List Int)) : Option (Nx (Int × (List Int)) ((List Int))) :=
 (if (decide (x7.1 < (row_0.Runs.length : Int))) then ((atI row_0.Runs x7.1).bind fun y67 => (if x7.2.length + y67.Text.length ≤ 140737488355328 then (some (.go ((IntKind.i64.wrap (x7.1 + 1)), (x7.2 ++ toI y67.Text)))) else none)) else (some (.out x7.2)))
def g_style_Plain (row_0 : A_Row) : Option ((List UInt8)) :=
 ((iter (g_style_Plain_s1 row_0) (0, [])).bind fun e8 => (some (bytesOf e8)))
theorem a_style_Plain {I : World → Prop} (hI : Stab I) {row_0 : A_Row} {r : (List UInt8)} (h : g_style_Plain row_0 = some r) : AFun Tryz.prog I 25 [A_Row.d row_0] (.str r) := by
 have dd := dd_EM; have k := True.intro; have q := k; have rs := Tryz.results25
 unfold g_style_Plain at h
 refine .en hI Tryz.func25 Tryz.ntmps25 ?_
 refine xs <| rz ?_
 refine es <| xs <| rz ?_
 refine es <| xs <| xs <| rz ?_
 refine es <| xb ?_
 obtain ⟨e8, h72, h⟩ := bs h
 refine rb_loop (fun x7 => ⟨envL [(3, .ptr 0 0), (7, .sl (row_0.Runs.map A_Run.d)), (8, .int .i64 (row_0.Runs.length : Int)), (9, .int .i64 x7.1)], heapL [(0, .bbox 132 [.sp 0, .own 1 x7.2.length]), (1, .vec 5 1 (x7.2.map (D.int .u8)) false)], 2, 18⟩) (fun _ => .exit 0) (fun e8 => ⟨envL [(3, .ptr 0 0)], heapL [(0, .bbox 132 [.sp 0, .own 1 e8.length]), (1, .vec 5 1 (e8.map (D.int .u8)) false)], 2, 18⟩) h72 (wk [(0, some 2), (1, none)]) (by intro w; simp) ?_ ?_
 ·clear h
  intro x7 y h
  unfold g_style_Plain_s1 at h
  refine xs <| rz ?_
  refine es <| xs ?_
  rcases iK k h with ⟨k, h⟩ | ⟨k, h⟩
  ·refine xt <| xk <| es <| xs <| xb <| xs <| rK fun K66 RK66 hK66 gK66 => zz ?_
   obtain ⟨y67, q, h⟩ := bK q h
   refine zz ?_
   subst hK66 gK66
   refine es <| rK fun K69 RK69 hK69 gK69 => zz ?_
   obtain ⟨h70, h⟩ := ite_on h
   refine eW.intro (c_WriteString1 I (id := 0) (nid := 9) (id2 := 1) (n := x7.2.length) (s := y67.Text) (l := x7.2) fz fz fs h70 (by decide)) fi rfl <| zz ?_
   subst hK69 gK69
   refine bn <| es <| rz ?_
   cases h
   exact en ⟨rfl, wk [(1, some 9)]⟩
  ·refine xf <| xx <| ee ?_
   cases h
   exact en ⟨rfl, wk []⟩
 ·refine bh <| es <| xs <| rK fun K74 RK74 hK74 gK74 => zz ?_
  refine eW.intro (c_String1 I (id := 0) (nid := 2) (id2 := 1) (n := e8.length) (l := e8) fz fz fs) fi rfl <| zz ?_
  subst hK74 gK74
  refine es <| xr ?_
  cases h
  exact en fr
end Go.Proofs.YtalfcmgcjdkolaaGreatDoor
namespace Go.Proofs.YtalfcmgcjdkolaaGreatDoor
set_option maxRecDepth 100000
set_option maxHeartbeats 10000000
def nmB (b : UInt8) : Bool := (decide (65 ≤ b.toNat) && decide (b.toNat ≤ 90)) || (decide (48 ≤ b.toNat) && decide (b.toNat ≤ 57)) || b.toNat == 95 || b.toNat == 45
def isNm (s : List UInt8) : Bool := match s with
  | [] => false
  | b :: _ => decide (s.length ≤ 16) && (decide (65 ≤ b.toNat) && decide (b.toNat ≤ 90)) && s.all nmB
theorem isNm_at (s : List UInt8) (h1 : 1 ≤ s.length) : isNm s = true ↔ (s.length ≤ 16 ∧ (65 ≤ s[0].toNat ∧ s[0].toNat ≤ 90) ∧ ∀ i (h : i < s.length), nmB s[i] = true) := by
  match s, h1 with
  | b :: t, _ =>
    simp only [isNm, Bool.and_eq_true, decide_eq_true_eq, List.all_eq_true]
    constructor
    · rintro ⟨⟨h1, h2⟩, h3⟩
      exact ⟨h1, by simpa using h2, fun i h => h3 _ (List.getElem_mem h)⟩
    · rintro ⟨h1, h2, h3⟩
      refine ⟨⟨h1, by simpa using h2⟩, fun x hx => ?_⟩
      obtain ⟨i, hi, rfl⟩ := List.getElem_of_mem hx
      exact h3 i hi
theorem lines_Name_loop (s : List UInt8) (hs : s.length ≤ 16) : ∃ e, iter (g_lines_Name_s1 s) 0 = some e ∧ (e = .inr () ↔ ∀ i (h : i < s.length), nmB s[i] = true) := by
  refine iter_cnt s.length (by omega) (fun n => ∀ i (h : i < s.length), i < n → nmB s[i] = true) _ (by intro i _ h; omega) ?_ ?_
  · intro i hi hI
    have hw := wrap_i64 ((i : Int) + 1) (by omega) (by omega)
    simp only [g_lines_Name_s1, atI_nat hi, Option.bind_some, hw]
    have hb := u8lt s[i]
    have hk : nmB s[i] = true ∨ nmB s[i] = false := by cases nmB s[i] <;> simp
    rcases hk with hk | hk
    · left
      refine ⟨?_, fun j hj hlt => ?_⟩
      · simp only [nmB] at hk; grind
      · by_cases hji : j = i
        · subst hji; exact hk
        · exact hI j hj (by omega)
    · right
      refine ⟨.inl (), ?_, ?_⟩
      · simp only [nmB] at hk; grind
      · simp only [reduceCtorEq, false_iff]
        intro h
        have := h i hi
        simp [hk] at this
  · intro hI
    refine ⟨.inr (), by simp [g_lines_Name_s1], ?_⟩
    simp only [true_iff]
    exact fun i h => hI i h h
theorem lines_Name_eq (s : List UInt8) : g_lines_Name s = some (isNm s) := by
  by_cases h0 : s.length < 1
  · match s, h0 with
    | [], _ => rfl
  · by_cases h1 : s.length ≤ 16
    · obtain ⟨e, he, hi⟩ := lines_Name_loop s h1
      have hn := isNm_at s (by omega)
      have h0' : atI s 0 = some s[0] := atI_nat (n := 0) (by omega)
      simp only [g_lines_Name, he, h0', Option.bind_some]
      rcases e with ⟨⟩ | ⟨⟩ <;> grind
    · have : isNm s = false := by
        cases hh : isNm s with
        | false => rfl
        | true => exact absurd ((isNm_at s (by omega)).1 hh).1 h1
      simp only [g_lines_Name, this]
      grind
theorem decL_dec {l : List UInt8} (h : l ≠ []) : decL l = Lib.decodeL l := by
  unfold Lib.decodeL
  have := decL_eq l 0 ((List.length_pos_iff.2 h))
  rw [this]; simp
theorem decL_wd {l : List UInt8} (h : l ≠ []) : 1 ≤ (decL l).2 := by rw [decL_dec h]; exact Lib.decodeL_width l
theorem wd_pos {s : List UInt8} {p : Nat} (h : p < s.length) : 1 ≤ widthAt s p := by
  unfold widthAt
  refine decL_wd fun h0 => ?_
  have := congrArg List.length h0
  simp at this; omega
theorem place_same (s : List UInt8) (r : Int) : g_charset_place_s1 s r = g_ref08_Index_s1 r s := by
  funext x
  unfold g_charset_place_s1 g_ref08_Index_s1
  rfl
theorem place_total (s : List UInt8) (hs : s.length ≤ 1000) (r : Int) : ∃ e, iter (g_ref08_Index_s1 r s) (0, 0) = some e := by
  have := iter_post (step := g_ref08_Index_s1 r s) (fun x => 0 ≤ x.1 ∧ x.1 ≤ x.2) (fun x => s.length - x.2) (fun _ => True) (x := (0, 0)) ⟨Int.le_refl _, by simp⟩ (by show s.length - 0 < _; omega) ?_
  · obtain ⟨e, h, _⟩ := this; exact ⟨e, h⟩
  · rintro ⟨n, p⟩ ⟨h0, h1⟩
    dsimp only at h0 h1
    unfold g_ref08_Index_s1
    dsimp only
    by_cases hp : p < s.length
    · rw [if_pos (by simpa using hp)]
      by_cases hr : (runeAt s p == r) = true
      · right; rw [if_pos hr]; exact ⟨_, rfl, trivial⟩
      · left; rw [if_neg hr]
        have hw := wd_pos hp
        refine ⟨_, rfl, ?_, ?_⟩
        · dsimp only
          rw [wr64 (by omega)]
          omega
        · dsimp only; omega
    · right; rw [if_neg (by simpa using hp)]; exact ⟨_, rfl, trivial⟩
theorem Index_same (r : Int) : ∃ v, g_charset_Index r = some v ∧ g_ref08_Index r = some v := by
  unfold g_charset_Index g_ref08_Index g_charset_place
  by_cases h : 32 ≤ r ∧ r ≤ 126
  · rw [if_pos (by simpa using h.1)]
    simp only [Option.bind_some]
    rw [if_pos (by simpa using h.2), if_pos (by simpa using h.2)]
    exact ⟨_, rfl, rfl⟩
  · have : (if decide (32 ≤ r) = true then some (decide (r ≤ 126)) else some false : Option Bool) = some false := by
      by_cases h1 : 32 ≤ r
      · have : ¬ r ≤ 126 := fun h2 => h ⟨h1, h2⟩
        simp [h1, this]
      · simp [h1]
    rw [this]
    simp only [Option.bind_some, Bool.false_eq_true, if_false, place_same, g_ref08_Repertoire]
    obtain ⟨e, he⟩ := place_total g_ref08_Repertoire.get! (by decide) r
    simp only [g_ref08_Repertoire, Option.get!] at he
    rw [he]
    cases e <;> exact ⟨_, rfl, rfl⟩
def ixv (r : Int) : Int := (g_ref08_Index r).getD 0
theorem ix_eq (r : Int) : g_charset_Index r = some (ixv r) ∧ g_ref08_Index r = some (ixv r) := by
  obtain ⟨v, h1, h2⟩ := Index_same r
  unfold ixv
  rw [h2]
  exact ⟨h1, rfl⟩
theorem ixv_bad : g_ref08_Index 65533 = some (-1) := by decide +kernel
def gv (l : List UInt8) : Bool := if h : l = [] then true else decide (0 ≤ ixv (decL l).1) && gv (l.drop (decL l).2)
termination_by l.length
decreasing_by
  have := decL_wd h
  have := (List.length_pos_iff.2 h)
  simp; omega
theorem gv_nil : gv [] = true := by unfold gv; simp
theorem gv_ne {l : List UInt8} (h : l ≠ []) : gv l = (decide (0 ≤ ixv (decL l).1) && gv (l.drop (decL l).2)) := by
  rw [gv, dif_neg h]
theorem gv_loop {step : Nat → Option (Nx Nat (Unit ⊕ Unit))} (s : List UInt8) (hs : s.length < 73786976294838206464) (hst : ∀ p, step p = (if decide (p < s.length) = true then (if decide (ixv (runeAt s p) < 0) = true then some (.out (.inl ())) else some (.go (p + widthAt s p))) else some (.out (.inr ())))) :
    iter step 0 = some (if gv s then .inr () else .inl ()) := by
  refine iter_of (fun p e => e = if gv (s.drop p) then .inr () else .inl ()) (fun p => s.length - p) ?_ (x := 0) (by simp) (by show s.length - 0 < _; omega)
  rintro p e rfl
  rw [hst]
  by_cases hp : p < s.length
  · rw [if_pos (by simpa using hp)]
    have hne : s.drop p ≠ [] := fun h0 => by have := congrArg List.length h0; simp at this; omega
    by_cases hr : ixv (runeAt s p) < 0
    · right
      rw [if_pos (by simpa using hr), gv_ne hne]
      have : ¬ 0 ≤ ixv (decL (s.drop p)).1 := by unfold runeAt at hr; omega
      simp [this]
    · left
      rw [if_neg (by simpa using hr)]
      have hw := wd_pos hp
      refine ⟨_, rfl, ?_, by omega⟩
      rw [gv_ne hne]
      have : 0 ≤ ixv (decL (s.drop p)).1 := by unfold runeAt at hr; omega
      simp only [this, decide_true, Bool.true_and, List.drop_drop]
      rfl
  · right
    rw [if_neg (by simpa using hp), List.drop_eq_nil_of_le (by omega), gv_nil]; rfl
theorem gv_valid : ∀ (n : Nat) (l : List UInt8), l.length ≤ n → gv l = true → Lib.validD l = true := by
  intro n
  induction n with
  | zero => intro l hl _; have : l = [] := List.eq_nil_of_length_eq_zero (by omega); subst this; rfl
  | succ n ih =>
    intro l hl h
    by_cases hne : l = []
    · subst hne; rfl
    · rw [gv_ne hne, Bool.and_eq_true, decide_eq_true_eq] at h
      have hw := decL_wd hne
      have hlen := List.length_pos_iff.2 hne
      rw [Lib.validD_step l hne, ← decL_dec hne, if_neg]
      · exact ih _ (by simp; omega) h.2
      · rintro ⟨h1, _⟩
        have h2 := h.1
        rw [h1] at h2
        unfold ixv at h2
        rw [show (((65533 : Nat) : Nat) : Int) = 65533 from rfl, ixv_bad] at h2
        simp at h2
theorem prog_Valid_eq (s : List UInt8) (hs : s.length ≤ 140737488355328) : g_charset_Valid s = some (gv s) := by
  unfold g_charset_Valid g_unicode_utf8_ValidString
  simp only [Option.bind_some]
  rw [gv_loop s (by omega) (fun p => by unfold g_charset_Valid_s1; simp only [(ix_eq _).1, Option.bind_some])]
  cases hg : gv s
  · cases Lib.validD s <;> rfl
  · rw [gv_valid s.length s (Nat.le_refl _) hg]; rfl
def rnL (l : List UInt8) : List Int := if h : l = [] then [] else (((decL l).1 : Nat) : Int) :: rnL (l.drop (decL l).2)
termination_by l.length
decreasing_by
  have h1 := decL_wd h
  have h2 := List.length_pos_iff.2 h
  simp only [List.length_drop]; omega
theorem rnL_nil : rnL [] = [] := by unfold rnL; simp
theorem rnL_ne {l : List UInt8} (h : l ≠ []) : rnL l = (((decL l).1 : Nat) : Int) :: rnL (l.drop (decL l).2) := by rw [rnL, dif_neg h]
theorem rnL_at {s : List UInt8} {p : Nat} (h : p < s.length) : rnL (s.drop p) = runeAt s p :: rnL (s.drop (p + widthAt s p)) := by
  have hne : s.drop p ≠ [] := by
    intro e
    have := congrArg List.length e
    simp at this; omega
  rw [rnL_ne hne]
  unfold runeAt widthAt
  rw [List.drop_drop]
theorem rnL_end {s : List UInt8} {p : Nat} (h : s.length ≤ p) : rnL (s.drop p) = [] := by rw [List.drop_eq_nil_of_le h, rnL_nil]
theorem rnL_len : ∀ (n : Nat) (l : List UInt8), l.length ≤ n → (rnL l).length ≤ l.length
  | 0, l, h => by
    have : l = [] := List.eq_nil_of_length_eq_zero (by omega)
    subst this; rw [rnL_nil]; simp
  | n + 1, l, h => by
    by_cases hl : l = []
    · subst hl; rw [rnL_nil]; simp
    · have h1 := decL_wd hl
      have h2 := List.length_pos_iff.2 hl
      have ih := rnL_len n (l.drop (decL l).2) (by simp only [List.length_drop]; omega)
      rw [rnL_ne hl, List.length_cons]
      simp only [List.length_drop] at ih
      omega
def ascF : Int → List Int → Bool
  | _, [] => true
  | a, x :: l => decide (a < x) && ascF x l
theorem prog_asc (p : A_Profile) (hs : p.Fbd.length ≤ 140737488355328) : iter (g_profile_Check_s2 p) (-1, 0) = some (if ascF (-1) (rnL p.Fbd) then .inr () else .inl ()) := by
  refine iter_of (fun x e => e = if ascF x.1 (rnL (p.Fbd.drop x.2)) then .inr () else .inl ()) (fun x => p.Fbd.length - x.2) ?_ (x := (-1, 0)) (by simp) (by show p.Fbd.length - 0 < _; omega)
  rintro ⟨a, q⟩ e rfl
  dsimp only
  unfold g_profile_Check_s2
  dsimp only
  by_cases h : q < p.Fbd.length
  · have hw : 1 ≤ widthAt p.Fbd q := wd_pos h
    rw [if_pos (by simpa using h), rnL_at h]
    by_cases hr : runeAt p.Fbd q ≤ a
    · right
      rw [if_pos (by simpa using hr)]
      simp [ascF, show ¬ a < runeAt p.Fbd q from by omega]
    · left
      rw [if_neg (by simpa using hr)]
      refine ⟨_, rfl, ?_, by dsimp only; omega⟩
      simp [ascF, show a < runeAt p.Fbd q from by omega]
  · right
    rw [if_neg (by simpa using h), rnL_end (by omega)]
    simp [ascF]
def okR (p : A_Profile) : Prop := (1 ≤ p.Reading ∧ p.Reading ≤ 10000) ∧ (1 ≤ p.MinFrames ∧ p.MinFrames ≤ 5184000) ∧ (1 ≤ p.MxF ∧ p.MxF ≤ 5184000) ∧ (0 ≤ p.MinGap ∧ p.MinGap ≤ 1000) ∧ (0 ≤ p.ShB ∧ p.ShB ≤ 1000) ∧ (0 ≤ p.ShA ∧ p.ShA ≤ 1000) ∧ (1 ≤ p.Rows ∧ p.Rows ≤ 4) ∧ (1 ≤ p.Cols ∧ p.Cols ≤ 32) ∧ (0 ≤ p.SfT ∧ p.SfT ≤ 31) ∧ (0 ≤ p.SfB ∧ p.SfB ≤ 31) ∧ (0 ≤ p.SfL ∧ p.SfL ≤ 31) ∧ (0 ≤ p.SfR ∧ p.SfR ≤ 31)
instance (p : A_Profile) : Decidable (okR p) := by unfold okR; infer_instance
def ckS (p : A_Profile) : Int :=
  if isNm p.Name = false then 5 else if ¬ okR p then 2 else if 15 ≤ p.SfT + p.SfB ∨ 32 ≤ p.SfL + p.SfR then 2 else if p.MxF < p.MinFrames then 8 else if gv p.Fbd = false then 10 else if ascF (-1) (rnL p.Fbd) then 0 else 8
def lmL (p : A_Profile) : List T_profile_limit := [⟨p.Reading, 1, 10000⟩, ⟨p.MinFrames, 1, 5184000⟩, ⟨p.MxF, 1, 5184000⟩, ⟨p.MinGap, 0, 1000⟩, ⟨p.ShB, 0, 1000⟩, ⟨p.ShA, 0, 1000⟩, ⟨p.Rows, 1, 4⟩, ⟨p.Cols, 1, 32⟩, ⟨p.SfT, 0, 31⟩, ⟨p.SfB, 0, 31⟩, ⟨p.SfL, 0, 31⟩, ⟨p.SfR, 0, 31⟩]
theorem limits_eq (p : A_Profile) : g_profile_limits p = some (lmL p) := by
  unfold g_profile_limits
  rw [show iter (g_profile_limits_s1 p) (0, [(T_profile_limit.mk p.Reading 1 10000), (T_profile_limit.mk p.MinFrames 1 5184000), (T_profile_limit.mk p.MxF 1 5184000), (T_profile_limit.mk p.MinGap 0 1000), (T_profile_limit.mk p.ShB 0 1000), (T_profile_limit.mk p.ShA 0 1000), (T_profile_limit.mk p.Rows 1 4), (T_profile_limit.mk p.Cols 1 32)]) = some (lmL p) from rfl]
  rfl
theorem limits_loop (l : List T_profile_limit) (hl : l.length ≤ 140737488355328) : iter (g_profile_Check_s1 l) 0 = some (if l.all fun y => decide (y.lo_ ≤ y.n_) && decide (y.n_ ≤ y.hi_) then .inr () else .inl ()) := by
  have := iter_idx (step := g_profile_Check_s1 l) l.length (by omega) (fun i => if (l.drop i).all fun y => decide (y.lo_ ≤ y.n_) && decide (y.n_ ≤ y.hi_) then .inr () else .inl ()) (fun i hi => ?_) ?_
  · simpa using this
  · unfold g_profile_Check_s1
    rw [if_pos (by simpa using hi), atI_nat hi, List.drop_eq_getElem_cons hi, wr64 (by omega)]
    simp only [Option.bind_some, List.all_cons]
    by_cases h1 : l[i].n_ < l[i].lo_
    · right; simp [h1, show ¬ l[i].lo_ ≤ l[i].n_ from by omega]
    · by_cases h2 : l[i].hi_ < l[i].n_
      · right; simp [h1, h2, show ¬ l[i].n_ ≤ l[i].hi_ from by omega]
      · left; simp [h1, h2, show l[i].lo_ ≤ l[i].n_ from by omega, show l[i].n_ ≤ l[i].hi_ from by omega]
  · unfold g_profile_Check_s1
    rw [if_neg (by simp)]
    simp
theorem lm_all (p : A_Profile) : ((lmL p).all fun y => decide (y.lo_ ≤ y.n_) && decide (y.n_ ≤ y.hi_)) = decide (okR p) := by
  rw [Bool.eq_iff_iff, decide_eq_true_iff]
  unfold lmL okR
  simp only [List.all_cons, List.all_nil, Bool.and_true, Bool.and_eq_true, decide_eq_true_eq]
theorem prog_Check (p : A_Profile) (h1 : p.Name.length ≤ 140737488355328) (h2 : p.Fbd.length ≤ 140737488355328) : g_profile_Check p = some (ckS p) := by
  unfold g_profile_Check ckS
  rw [lines_Name_eq p.Name, limits_eq, prog_Valid_eq p.Fbd (by omega)]
  simp only [Option.bind_some]
  cases hn : isNm p.Name
  · rfl
  rw [limits_loop _ (by simp [lmL]), lm_all, prog_asc p h2]
  simp only [Option.bind_some, if_true, Bool.true_eq_false, if_false]
  by_cases hr : okR p
  · have hr' := hr
    unfold okR at hr'
    rw [wr64 (by omega), wr64 (by omega)]
    simp only [hr, decide_true, if_true, not_true, if_false]
    by_cases q1 : 15 ≤ p.SfT + p.SfB
    · simp [q1]
    · by_cases q2 : 32 ≤ p.SfL + p.SfR
      · simp [q1, q2]
      · simp only [q1, q2, decide_false, Bool.false_eq_true, if_false, Option.bind_some, false_or]
        by_cases q3 : p.MxF < p.MinFrames
        · simp [q3]
        · simp only [q3, decide_false, Bool.false_eq_true, if_false]
          cases gv p.Fbd
          · rfl
          · cases ascF (-1) (rnL p.Fbd) <;> rfl
  · simp only [hr, decide_false, Bool.false_eq_true, if_false, not_false_eq_true, if_true]
def rtV (r : Int) : Bool := decide (1 ≤ r) && decide (r ≤ 7)
def rtT (r : Int) : Int := if r = 1 then 5005 else if r = 2 then 5000 else if r = 3 then 4800 else if r = 4 then 4004 else if r = 5 then 4000 else if r = 6 then 2400 else if r = 7 then 2002 else 0
theorem rates_fin : ∀ r : Fin 256, g_timebase_Valid ((r.val : Nat) : Int) = some (rtV ((r.val : Nat) : Int)) ∧ g_ref02_Valid ((r.val : Nat) : Int) = some (rtV ((r.val : Nat) : Int)) ∧ g_timebase_Ticks ((r.val : Nat) : Int) = some (rtT ((r.val : Nat) : Int)) ∧
    (rtV ((r.val : Nat) : Int) = true → g_ref02_Ticks ((r.val : Nat) : Int) = some (rtT ((r.val : Nat) : Int)) ∧ 2002 ≤ rtT ((r.val : Nat) : Int) ∧ rtT ((r.val : Nat) : Int) ≤ 5005) := by decide +kernel
theorem rates (r : Int) (h0 : 0 ≤ r) (h1 : r ≤ 255) : g_timebase_Valid r = some (rtV r) ∧ g_ref02_Valid r = some (rtV r) ∧ g_timebase_Ticks r = some (rtT r) ∧ (rtV r = true → g_ref02_Ticks r = some (rtT r) ∧ 2002 ≤ rtT r ∧ rtT r ≤ 5005) := by
  have := rates_fin ⟨r.toNat, by omega⟩
  have e : ((r.toNat : Nat) : Int) = r := by omega
  simp only [e] at this
  exact this
def wiB (n lo hi : Int) : Bool := decide (lo ≤ n) && decide (n ≤ hi)
theorem rwithin_eq (n lo hi : Int) : g_reading_within n lo hi = some (wiB n lo hi) := by
  unfold g_reading_within wiB
  cases decide (lo ≤ n) <;> simp
theorem within_ref (n lo hi : Int) : g_ref40_within n lo hi = some (wiB n lo hi) := by
  unfold g_ref40_within wiB
  cases decide (lo ≤ n) <;> simp
theorem wiB_t {n lo hi : Int} (h : wiB n lo hi = true) : lo ≤ n ∧ n ≤ hi := by
  unfold wiB at h; simpa using h
def upQ (a b : Int) : Int := Int.tdiv (a + b - 1) b
theorem upQ_le {a b f : Int} (ha : 0 ≤ a) (hb : 0 < b) : upQ a b ≤ f ↔ a ≤ f * b := by
  unfold upQ
  rw [Int.tdiv_eq_ediv_of_nonneg (by omega)]
  constructor
  · intro h
    have h1 := Int.lt_mul_ediv_self_add (x := a + b - 1) hb
    have h2 : b * ((a + b - 1) / b) ≤ b * f := Int.mul_le_mul_of_nonneg_left h (by omega)
    rw [Int.mul_comm f b]
    omega
  · intro h
    have : (a + b - 1) / b < f + 1 := by
      refine Int.ediv_lt_of_lt_mul hb ?_
      rw [Int.add_mul]
      omega
    omega
def needS (r c l : Int) : Int × Int := if rtV r then (if wiB c 0 10000 && wiB l 1 10000 then (upQ (c * 12000000) (l * rtT r), 0) else (0, 2)) else (0, 3)
theorem mul_small {x t : Int} (k : Int) (hx : 1 ≤ x) (hk : x ≤ k) (h1 : 2002 ≤ t) (h2 : t ≤ 5005) (hkk : k ≤ 5184000) : 1 ≤ x * t ∧ x * t ≤ 25945920000 := by
  have a1 : x * t ≤ 5184000 * t := Int.mul_le_mul_of_nonneg_right (by omega) (by omega)
  have a2 : 5184000 * t ≤ 5184000 * 5005 := Int.mul_le_mul_of_nonneg_left h2 (by omega)
  have a3 : 1 * t ≤ x * t := Int.mul_le_mul_of_nonneg_right hx (by omega)
  omega
theorem Needed_eq (r c l : Int) (h0 : 0 ≤ r) (h1 : r ≤ 255) : g_reading_Needed r c l = some (needS r c l) ∧ g_ref40_Needed r c l = some (needS r c l) := by
  obtain ⟨e1, e2, e3, e4⟩ := rates r h0 h1
  unfold g_reading_Needed g_ref40_Needed needS
  simp only [e1, e2, rwithin_eq, within_ref, Option.bind_some]
  cases hv : rtV r with
  | false => simp
  | true =>
    obtain ⟨e5, t0, t1⟩ := e4 hv
    simp only [if_true, e3, e5, Option.bind_some]
    cases hc : wiB c 0 10000 with
    | false => simp
    | true =>
      cases hl : wiB l 1 10000 with
      | false => simp
      | true =>
        have hc' := wiB_t hc
        have hl' := wiB_t hl
        obtain ⟨m1, m2⟩ := mul_small 10000 hl'.1 hl'.2 t0 t1 (by omega)
        generalize l * rtT r = b at m1 m2
        have w0 := wrap_i64 (c * 100) (by omega) (by omega)
        have w1 := wrap_i64 (c * 100 * 120000) (by omega) (by omega)
        have w2 := wrap_i64 b (by omega) (by omega)
        have w3 := wrap_i64 (c * 100 * 120000 + b) (by omega) (by omega)
        have w4 := wrap_i64 (c * 100 * 120000 + b - 1) (by omega) (by omega)
        have hb : ¬ b = 0 := by omega
        have hq := upQ_le (a := c * 12000000) (b := b) (f := 120000000000) (by omega) (by omega)
        have hq1 : upQ (c * 12000000) b ≤ 120000000000 := hq.2 (by have := Int.mul_le_mul_of_nonneg_left m1 (show (0 : Int) ≤ 120000000000 by omega); omega)
        have hq0 : 0 ≤ upQ (c * 12000000) b := by unfold upQ; exact Int.tdiv_nonneg (by omega) (by omega)
        have eu : Int.tdiv (c * 100 * 120000 + b - 1) b = upQ (c * 12000000) b := by unfold upQ; congr 1; omega
        have w5 := wrap_i64 (upQ (c * 12000000) b) (by omega) (by omega)
        simp only [Bool.not_true, Bool.false_eq_true, if_false, Bool.and_self, if_true, g_reading_load, g_reading_up, Option.bind_some, w0, w1, w2, w3, w4, hb, not_false_eq_true, eu, w5, and_self]
def pnL (t : A_Penalties) : List Int := [t.Sg.a0, t.Sg.a1, t.Sg.a2, t.Sg.a3, t.Sg.a4, t.Sg.a5, t.Rgd, t.Row, t.Event, t.Fast, t.Gap, t.Shot]
def prs (t : A_Penalties) : List (Int × Int) := [(t.Sg.a0, t.Sg.a1), (t.Sg.a1, t.Sg.a2), (t.Sg.a2, t.Sg.a3), (t.Sg.a3, t.Sg.a4), (t.Sg.a4, t.Sg.a5)]
def inN (y : Int) : Bool := decide (0 ≤ y) && decide (y ≤ 1000000)
def pcS (t : A_Penalties) : Int := if (pnL t).all inN then (if (prs t).all fun p => decide (p.2 ≤ p.1) then 0 else 8) else 2
theorem num_loop (l : List Int) (hl : l.length ≤ 1000) : iter (g_penalty_Check_s1 l) 0 = some (if l.all inN then .inr () else .inl ()) := by
  have := iter_idx (step := g_penalty_Check_s1 l) l.length (by omega) (fun i => if (l.drop i).all inN then .inr () else .inl ()) (fun i hi => ?_) ?_
  · simpa using this
  · unfold g_penalty_Check_s1
    rw [if_pos (by simpa using hi), atI_nat hi, List.drop_eq_getElem_cons hi, wr64 (by omega)]
    simp only [Option.bind_some, List.all_cons]
    by_cases h1 : l[i] < 0
    · right; simp [h1, inN, show ¬ 0 ≤ l[i] from by omega]
    · by_cases h2 : 1000000 < l[i]
      · right; simp [h1, h2, inN, show ¬ l[i] ≤ 1000000 from by omega]
      · left; simp [h1, h2, inN, show 0 ≤ l[i] from by omega, show l[i] ≤ 1000000 from by omega]
  · unfold g_penalty_Check_s1
    rw [if_neg (by simp)]
    simp
theorem wl : IntKind.i64.wrap 0 = 0 ∧ IntKind.i64.wrap 1 = 1 ∧ IntKind.i64.wrap 2 = 2 ∧ IntKind.i64.wrap 3 = 3 ∧ IntKind.i64.wrap 4 = 4 ∧ IntKind.i64.wrap 5 = 5 ∧ IntKind.i64.wrap 6 = 6 ∧ IntKind.i64.wrap 7 = 7 := by decide
def dsR (t : A_Penalties) (k : Nat) : Unit ⊕ Unit := if ((prs t).drop k).all fun p => decide (p.2 ≤ p.1) then .inr () else .inl ()
theorem des_loop (t : A_Penalties) : iter (g_penalty_Check_s2 t) 1 = some (dsR t 0) := by
  obtain ⟨w0, w1, w2, w3, w4, w5, w6, w7⟩ := wl
  refine iter_of (fun x e => (x = 1 ∧ e = dsR t 0) ∨ (x = 2 ∧ e = dsR t 1) ∨ (x = 3 ∧ e = dsR t 2) ∨ (x = 4 ∧ e = dsR t 3) ∨ (x = 5 ∧ e = dsR t 4) ∨ (x = 6 ∧ e = dsR t 5)) (fun x => 10 - x.toNat) ?_ (.inl ⟨rfl, rfl⟩) (by decide)
  rintro x e (⟨rfl, rfl⟩ | ⟨rfl, rfl⟩ | ⟨rfl, rfl⟩ | ⟨rfl, rfl⟩ | ⟨rfl, rfl⟩ | ⟨rfl, rfl⟩)
  · unfold g_penalty_Check_s2
    by_cases h : t.Sg.a0 < t.Sg.a1
    · right; simp [dsR, prs, h, show ¬ t.Sg.a1 ≤ t.Sg.a0 from by omega, *]
    · left; refine ⟨2, by simp [h, *], .inr (.inl ⟨rfl, ?_⟩), by decide⟩
      simp [dsR, prs, show t.Sg.a1 ≤ t.Sg.a0 from by omega]
  · unfold g_penalty_Check_s2
    by_cases h : t.Sg.a1 < t.Sg.a2
    · right; simp [dsR, prs, h, show ¬ t.Sg.a2 ≤ t.Sg.a1 from by omega, *]
    · left; refine ⟨3, by simp [h, *], .inr (.inr (.inl ⟨rfl, ?_⟩)), by decide⟩
      simp [dsR, prs, show t.Sg.a2 ≤ t.Sg.a1 from by omega]
  · unfold g_penalty_Check_s2
    by_cases h : t.Sg.a2 < t.Sg.a3
    · right; simp [dsR, prs, h, show ¬ t.Sg.a3 ≤ t.Sg.a2 from by omega, *]
    · left; refine ⟨4, by simp [h, *], .inr (.inr (.inr (.inl ⟨rfl, ?_⟩))), by decide⟩
      simp [dsR, prs, show t.Sg.a3 ≤ t.Sg.a2 from by omega]
  · unfold g_penalty_Check_s2
    by_cases h : t.Sg.a3 < t.Sg.a4
    · right; simp [dsR, prs, h, show ¬ t.Sg.a4 ≤ t.Sg.a3 from by omega, *]
    · left; refine ⟨5, by simp [h, *], .inr (.inr (.inr (.inr (.inl ⟨rfl, ?_⟩)))), by decide⟩
      simp [dsR, prs, show t.Sg.a4 ≤ t.Sg.a3 from by omega]
  · unfold g_penalty_Check_s2
    by_cases h : t.Sg.a4 < t.Sg.a5
    · right; simp [dsR, prs, h, show ¬ t.Sg.a5 ≤ t.Sg.a4 from by omega, *]
    · left; refine ⟨6, by simp [h, *], .inr (.inr (.inr (.inr (.inr ⟨rfl, ?_⟩)))), by decide⟩
      simp [dsR, prs, show t.Sg.a5 ≤ t.Sg.a4 from by omega]
  · right
    unfold g_penalty_Check_s2
    simp [dsR, prs]
theorem pen_Check (t : A_Penalties) : g_penalty_Check t = some (pcS t) := by
  unfold g_penalty_Check g_penalty_numbers pcS
  simp only [Option.bind_some, List.cons_append, List.nil_append]
  have h := num_loop (pnL t) (by simp [pnL])
  unfold pnL at h ⊢
  rw [h, des_loop]
  unfold dsR
  simp only [List.drop_zero, Option.bind_some]
  generalize List.all _ inN = b
  generalize List.all (prs t) _ = c
  cases b <;> cases c <;> rfl
theorem pcS_0 {t : A_Penalties} (h : pcS t = 0) : (0 ≤ t.Sg.a0 ∧ t.Sg.a0 ≤ 1000000) ∧ (0 ≤ t.Sg.a1 ∧ t.Sg.a1 ≤ 1000000) ∧ (0 ≤ t.Sg.a2 ∧ t.Sg.a2 ≤ 1000000) ∧ (0 ≤ t.Sg.a3 ∧ t.Sg.a3 ≤ 1000000) ∧ (0 ≤ t.Sg.a4 ∧ t.Sg.a4 ≤ 1000000) ∧ (0 ≤ t.Sg.a5 ∧ t.Sg.a5 ≤ 1000000) ∧ (0 ≤ t.Rgd ∧ t.Rgd ≤ 1000000) ∧ (0 ≤ t.Row ∧ t.Row ≤ 1000000) ∧ (0 ≤ t.Event ∧ t.Event ≤ 1000000) ∧ (0 ≤ t.Fast ∧ t.Fast ≤ 1000000) ∧ (0 ≤ t.Gap ∧ t.Gap ≤ 1000000) ∧ (0 ≤ t.Shot ∧ t.Shot ≤ 1000000) := by
  unfold pcS at h
  split at h
  · rename_i h1
    simpa [pnL, inN, and_assoc] using h1
  · cases h
def hasSp (s : List UInt8) : Bool := s.any fun b => b.toNat == 32
theorem idx_sp : ∀ s : List UInt8, decide (0 ≤ Lib.indexByte s 32) = hasSp s
  | [] => by decide
  | b :: l => by
    have ih := idx_sp l
    have hg := Lib.indexByte_ge l 32
    have hb : (b == 32) = (b.toNat == 32) := by
      rw [Bool.eq_iff_iff, beq_iff_eq, beq_iff_eq]
      exact ⟨fun h => by rw [h]; rfl, fun h => UInt8.toNat_inj.1 h⟩
    unfold hasSp at ih ⊢
    rw [List.any_cons, ← ih, ← hb]
    rw [show Lib.indexByte (b :: l) 32 = (if b == 32 then 0 else if Lib.indexByte l 32 == -1 then -1 else Lib.indexByte l 32 + 1) from rfl]
    cases hq : b == 32
    · by_cases h2 : Lib.indexByte l 32 = -1
      · simp [h2]
      · have : (Lib.indexByte l 32 == -1) = false := by simpa using h2
        simp only [this, Bool.false_eq_true, if_false, Bool.false_or]
        rw [decide_eq_decide]
        omega
    · simp
theorem cont_eq (s : List UInt8) : g_strings_Contains s [32] = some (hasSp s) := by
  rw [← idx_sp]; rfl
def ckW (w : A_Word) (last : Int) : Int := if w.Text = [] ∨ hasSp w.Text = true then 4 else if gv w.Text = false then 10 else if w.Span.In < 0 ∨ w.Span.Out ≤ w.Span.In ∨ 5184000 < w.Span.Out then 2 else if w.Span.In < last then 8 else 0
theorem sp_three (w : A_Word) : (if (decide (w.Span.In < 0)) then (some true) else (if (decide (w.Span.Out ≤ w.Span.In)) then (some true) else (some (decide (5184000 < w.Span.Out)))) : Option Bool) = some (decide (w.Span.In < 0 ∨ w.Span.Out ≤ w.Span.In ∨ 5184000 < w.Span.Out)) := by
  by_cases h1 : w.Span.In < 0
  · simp [h1]
  · by_cases h2 : w.Span.Out ≤ w.Span.In
    · simp [h1, h2]
    · simp [h1, h2]
theorem word_prog (w : A_Word) (last : Int) (hw : w.Text.length ≤ 140737488355328) : g_segment_checkWord w last = some (ckW w last) := by
  unfold g_segment_checkWord ckW
  rw [cont_eq, prog_Valid_eq _ (by omega), sp_three]
  by_cases h : w.Text = []
  · simp [h]
  · have hb : (w.Text == ([] : List UInt8)) = false := by simpa using h
    rw [hb]
    simp only [Bool.false_eq_true, if_false, Option.bind_some, h, false_or]
    cases hasSp w.Text
    · cases gv w.Text
      · rfl
      · simp only [Bool.false_eq_true, if_false, if_true, Option.bind_some]
        by_cases h3 : w.Span.In < 0 ∨ w.Span.Out ≤ w.Span.In ∨ 5184000 < w.Span.Out
        · simp [h3]
        · simp only [h3, decide_false, Bool.false_eq_true, if_false]
          by_cases h4 : w.Span.In < last <;> simp [h4]
    · rfl
def ckWs : Int → List A_Word → Int
  | _, [] => 0
  | last, w :: l => if ckW w last ≠ 0 then ckW w last else ckWs w.Span.Out l
theorem words_loop {step : Int × Int → Option (Nx (Int × Int) (Int ⊕ Unit))} {chk : A_Word → Int → Option Int} (ws : List A_Word) (hn : ws.length ≤ 1000) (hc : ∀ y ∈ ws, ∀ a, chk y a = some (ckW y a))
    (hst : ∀ x, step x = (if (decide (x.2 < (ws.length : Int))) then ((atI ws x.2).bind fun y153 => ((chk y153 x.1).bind fun r159 => (if (r159 != 0) then (some (.out (.inl r159))) else (some (.go (y153.Span.Out, (IntKind.i64.wrap (x.2 + 1)))))))) else (some (.out (.inr ()))))) :
    iter step (0, 0) = some (if ckWs 0 ws = 0 then .inr () else .inl (ckWs 0 ws)) := by
  refine iter_of (fun x e => ∃ i : Nat, x.2 = (i : Int) ∧ i ≤ ws.length ∧ e = if ckWs x.1 (ws.drop i) = 0 then .inr () else .inl (ckWs x.1 (ws.drop i))) (fun x => ws.length - x.2.toNat) ?_ (x := (0, 0)) ⟨0, rfl, Nat.zero_le _, by simp⟩ (by show ws.length - 0 < _; omega)
  rintro ⟨a, x⟩ e ⟨i, hx, hi, rfl⟩
  dsimp only at hx ⊢
  subst hx
  rw [hst]
  dsimp only
  by_cases h : i < ws.length
  · rw [if_pos (by simpa using h), atI_nat h, List.drop_eq_getElem_cons h, wr64 (by omega)]
    simp only [Option.bind_some, hc _ (List.getElem_mem h), ckWs]
    by_cases h1 : ckW ws[i] a = 0
    · left
      simp only [h1, bne_self_eq_false, Bool.false_eq_true, if_false, ne_eq, not_true]
      exact ⟨_, rfl, ⟨i + 1, rfl, h, rfl⟩, by dsimp only; omega⟩
    · right
      have : (ckW ws[i] a != 0) = true := by simpa using h1
      simp [this, h1]
  · right
    rw [if_neg (by simpa using h), List.drop_eq_nil_of_le (by omega)]
    simp [ckWs]
theorem shots_total (l : List Int) (hl : l.length ≤ 1000) : ∃ v, g_shots_Check l = some v := by
  unfold g_shots_Check
  by_cases h : 400 < (l.length : Int)
  · exact ⟨9, by simp [h]⟩
  · rw [if_neg (by simpa using h)]
    have hh : ∃ e, iter (g_shots_Check_s1 l) 0 = some e := by
      refine iter_ends l.length (by omega) (fun i hi => ?_) ?_
      · unfold g_shots_Check_s1
        rw [if_pos (by simpa using hi), atI_nat hi, wr64 (x := (i : Int) + 1) (by omega)]
        simp only [Option.bind_some]
        have hv : ∃ b : Bool, (if decide (l[i] < 1) = true then some true else some (decide (5184000 < l[i])) : Option Bool) = some b := by
          by_cases q : l[i] < 1
          · exact ⟨true, by simp [q]⟩
          · exact ⟨_, by simp [q]; rfl⟩
        obtain ⟨b, hb⟩ := hv
        rw [hb]
        simp only [Option.bind_some]
        cases b
        · simp only [Bool.false_eq_true, if_false]
          by_cases q : 0 < (i : Int)
          · rw [if_pos (by simpa using q), wr64 (by omega), show ((i : Int) - 1) = ((i - 1 : Nat) : Int) by omega, atI_nat (show i - 1 < l.length by omega)]
            simp only [Option.bind_some]
            by_cases q2 : l[i] ≤ l[i - 1]
            · exact .inr ⟨_, by rw [if_pos (by simpa using q2)]⟩
            · exact .inl (by rw [if_neg (by simpa using q2)])
          · exact .inl (by rw [if_neg (by simpa using q)])
        · exact .inr ⟨_, rfl⟩
      · unfold g_shots_Check_s1
        exact ⟨_, by rw [if_neg (by simp)]⟩
    obtain ⟨e, he⟩ := hh
    rw [he]
    cases e <;> exact ⟨_, rfl⟩
def shC (l : List Int) : Int := (g_shots_Check l).getD 0
theorem shC_eq (l : List Int) (hl : l.length ≤ 1000) : g_shots_Check l = some (shC l) := by
  obtain ⟨v, h⟩ := shots_total l hl
  unfold shC; rw [h]; rfl
theorem inside_total (l : List Int) (s : A_Span) (hl : l.length ≤ 1000) : ∃ v, g_shots_Inside l s = some v ∧ v.length ≤ l.length := by
  unfold g_shots_Inside
  rw [shC_eq l hl]
  simp only [Option.bind_some]
  by_cases h : shC l = 0
  · rw [if_neg (by simp [h])]
    have := iter_post (step := g_shots_Inside_s1 l s) (fun x => ∃ i : Nat, x.2 = (i : Int) ∧ i ≤ l.length ∧ x.1.length ≤ i) (fun x => l.length - x.2.toNat) (fun e => e.length ≤ l.length) (x := ([], 0)) ⟨0, rfl, Nat.zero_le _, by simp⟩ (by show l.length - 0 < _; omega) ?_
    · obtain ⟨e, h1, h2⟩ := this
      exact ⟨e, by rw [h1]; rfl, h2⟩
    · rintro ⟨a, x⟩ ⟨i, hx, hi, ha⟩
      dsimp only at hx ha ⊢
      subst hx
      unfold g_shots_Inside_s1
      dsimp only
      by_cases q : i < l.length
      · rw [if_pos (by simpa using q), atI_nat q, wr64 (by omega)]
        simp only [Option.bind_some]
        have hv : ∃ b : Bool, (if decide (s.In < l[i]) = true then some (decide (l[i] < s.Out)) else some false : Option Bool) = some b := by
          by_cases q : s.In < l[i]
          · exact ⟨_, by simp [q]; rfl⟩
          · exact ⟨false, by simp [q]⟩
        obtain ⟨b, hb⟩ := hv
        rw [hb]
        simp only [Option.bind_some]
        left
        cases b
        · exact ⟨_, rfl, ⟨i + 1, rfl, q, by dsimp only; omega⟩, by dsimp only; omega⟩
        · rw [if_pos rfl, if_pos (by omega)]
          exact ⟨_, rfl, ⟨i + 1, rfl, q, by simp; omega⟩, by dsimp only; omega⟩
      · right
        rw [if_neg (by simpa using q)]
        exact ⟨_, rfl, by omega⟩
  · rw [if_pos (by simpa using h)]
    exact ⟨_, rfl, by simp⟩
structure Sok (s : A_Speech) : Prop where
  rate : 0 ≤ s.Rate ∧ s.Rate ≤ 255
  words : s.Words.length ≤ 8
  texts : ∀ w ∈ s.Words, w.Text.length ≤ 140737488355328
  shots : s.Shots.length ≤ 6
  name : s.House.Name.length ≤ 140737488355328
  forb : s.House.Fbd.length ≤ 140737488355328
def ckSp (s : A_Speech) : Int := if rtV s.Rate = false then 13 else if s.Words = [] then 6 else if ckWs 0 s.Words ≠ 0 then ckWs 0 s.Words else if shC s.Shots ≠ 0 then shC s.Shots else if pcS s.Table ≠ 0 then pcS s.Table else ckS s.House
theorem seg_Check {s : A_Speech} (h : Sok s) : g_segment_Check s = some (ckSp s) := by
  obtain ⟨e1, _, _, _⟩ := rates s.Rate h.rate.1 h.rate.2
  unfold g_segment_Check ckSp
  rw [e1, words_loop (step := g_segment_Check_s1 s) (chk := g_segment_checkWord) s.Words (by have := h.words; omega) (fun y hy a => word_prog y a (h.texts y hy)) (fun x => rfl), shC_eq _ (by have := h.shots; omega), pen_Check, prog_Check _ h.name h.forb]
  simp only [Option.bind_some]
  cases rtV s.Rate
  · rfl
  simp only [Bool.true_eq_false, if_true, if_false]
  rw [if_neg (by have := h.words; simp; omega)]
  by_cases h0 : s.Words = []
  · simp [h0]
  have hl : ((s.Words.length : Int) == 0) = false := by
    have := List.length_pos_iff.2 h0
    simpa using (by omega : ¬ (s.Words.length : Int) = 0)
  simp only [hl, Bool.false_eq_true, if_false, h0]
  by_cases h1 : ckWs 0 s.Words = 0
  · simp only [h1, if_true, ne_eq, not_true, if_false]
    by_cases h2 : shC s.Shots = 0
    · simp only [h2, bne_self_eq_false, Bool.false_eq_true, if_false, not_true]
      by_cases h3 : pcS s.Table = 0
      · simp [h3]
      · simp [h3]
    · simp [h2]
  · simp [h1]
def cutS : List UInt8 := [34, 39, 41, 93]
theorem cut_eq (s : List UInt8) : g_strings_TrimRight s [34, 39, 41, 93] = some (Lib.trimRightS s cutS) := by
  unfold g_strings_TrimRight
  rw [if_pos (by decide)]; rfl
theorem trim_snoc (l : List UInt8) (b : UInt8) : Lib.trimRightS (l ++ [b]) cutS = if cutS.contains b then Lib.trimRightS l cutS else l ++ [b] := by
  unfold Lib.trimRightS
  rw [List.reverse_append]
  simp only [List.reverse_cons, List.reverse_nil, List.nil_append, List.cons_append, List.dropWhile_cons]
  split <;> simp
theorem cut_mem (b : UInt8) : cutS.contains b = ((b.toNat == 34) || (b.toNat == 39) || (b.toNat == 41) || (b.toNat == 93)) := by
  have h : ∀ (n : Nat) (c : UInt8), c.toNat = n → (b == c) = (b.toNat == n) := by
    intro n c hc
    rw [Bool.eq_iff_iff, beq_iff_eq, beq_iff_eq]
    exact ⟨fun h => by rw [h, hc], fun h => UInt8.toNat_inj.1 (by rw [h, hc])⟩
  unfold cutS
  simp only [List.contains_cons, List.contains_nil, Bool.or_false]
  rw [h 34 34 rfl, h 39 39 rfl, h 41 41 rfl, h 93 93 rfl, Bool.or_assoc, Bool.or_assoc]
theorem trim_loop (s : List UInt8) (hs : s.length ≤ 140737488355328) : iter g_ref34_Sg_s1 s = some (Lib.trimRightS s cutS) := by
  refine iter_of (fun x e => x.length ≤ 140737488355328 ∧ e = Lib.trimRightS x cutS) (fun x => x.length) ?_ ⟨hs, rfl⟩ (by show s.length < _; omega)
  rintro x e ⟨hx, rfl⟩
  unfold g_ref34_Sg_s1
  rcases List.eq_nil_or_concat x with rfl | ⟨l, b, rfl⟩
  · right; rfl
  · rw [List.concat_eq_append] at hx ⊢
    have hl : (l ++ [b]).length = l.length + 1 := by simp
    rw [hl] at hx
    rw [hl, wr64 (by omega), if_pos (by simp), show (((l.length + 1 : Nat) : Int) - 1) = (l.length : Int) by omega, atI_nat (by simp)]
    simp only [Option.bind_some, List.getElem_append_right (Nat.le_refl _), Nat.sub_self, List.getElem_cons_zero]
    have hv : (if ((b.toNat : Int) == 34) = true then some true else if ((b.toNat : Int) == 39) = true then some true else if ((b.toNat : Int) == 41) = true then some true else some ((b.toNat : Int) == 93) : Option Bool) = some (cutS.contains b) := by
      rw [cut_mem]
      have e : ∀ n : Nat, ((b.toNat : Int) == (n : Int)) = (b.toNat == n) := fun n => by
        rw [Bool.eq_iff_iff, beq_iff_eq, beq_iff_eq]; omega
      have e1 := e 34; have e2 := e 39; have e3 := e 41; have e4 := e 93
      simp only [Int.cast_ofNat_Int] at e1 e2 e3 e4
      rw [e1, e2, e3, e4]
      cases (b.toNat == 34) <;> cases (b.toNat == 39) <;> cases (b.toNat == 41) <;> rfl
    rw [hv, trim_snoc]
    simp only [Option.bind_some]
    cases cutS.contains b
    · right; simp
    · left
      refine ⟨l, ?_, ⟨by omega, by simp⟩, by omega⟩
      simp [subH]
theorem trim_le (s : List UInt8) : (Lib.trimRightS s cutS).length ≤ s.length := trimRight_len s cutS
def lA : List UInt8 := [97, 32, 97, 110, 32, 116, 104, 101, 32, 111, 102, 32, 116, 111, 32, 105, 110, 32, 111, 110, 32, 97, 116, 32, 98, 121, 32, 102, 111, 114, 32, 102, 114, 111, 109, 32, 119, 105, 116, 104, 32, 109, 121, 32, 121, 111, 117, 114, 32, 104, 105, 115, 32, 104, 101, 114, 32, 105, 116, 115, 32, 111, 117, 114, 32, 116, 104, 101, 105, 114, 32, 110, 111]
def lB : List UInt8 := [97, 110, 100, 32, 98, 117, 116, 32, 111, 114, 32, 98, 101, 99, 97, 117, 115, 101, 32, 116, 104, 97, 116, 32, 119, 104, 105, 99, 104, 32, 119, 104, 111, 32, 119, 104, 101, 110, 32, 105, 102, 32, 119, 104, 105, 108, 101, 32, 115, 111, 32, 97, 115]
theorem same_A : g_strings_Split lA [32] = g_ref34_Words lA := by decide +kernel
theorem same_B : g_strings_Split lB [32] = g_ref34_Words lB := by decide +kernel
theorem some_A : ∃ l, g_ref34_Words lA = some l ∧ l.length ≤ 1000 := ⟨(g_ref34_Words lA).getD [], by decide +kernel, by decide +kernel⟩
theorem some_B : ∃ l, g_ref34_Words lB = some l ∧ l.length ≤ 1000 := ⟨(g_ref34_Words lB).getD [], by decide +kernel, by decide +kernel⟩
theorem among_step (s : List UInt8) (r : List (List UInt8)) : g_ref34_among_s1 s r = g_token_among_s1 s r := rfl
theorem among_total (s : List UInt8) (l : List (List UInt8)) (hl : l.length ≤ 1000) : ∃ e, iter (g_token_among_s1 s l) 0 = some e := by
  refine iter_ends l.length (by omega) (fun i hi => ?_) ?_
  · unfold g_token_among_s1
    rw [if_pos (by simpa using hi), atI_nat hi, wr64 (by omega)]
    simp only [Option.bind_some]
    cases l[i] == s
    · exact .inl rfl
    · exact .inr ⟨_, rfl⟩
  · unfold g_token_among_s1
    exact ⟨_, by rw [if_neg (by simp)]⟩
theorem among_both (s L : List UInt8) (h1 : g_strings_Split L [32] = g_ref34_Words L) (h2 : ∃ l, g_ref34_Words L = some l ∧ l.length ≤ 1000) : ∃ b, g_token_among s L = some b ∧ g_ref34_among L s = some b := by
  obtain ⟨l, hl, hn⟩ := h2
  obtain ⟨e, he⟩ := among_total s l hn
  unfold g_token_among g_ref34_among
  rw [h1, hl]
  simp only [Option.bind_some, among_step, he]
  cases e
  · exact ⟨true, rfl, rfl⟩
  · exact ⟨false, rfl, rfl⟩
theorem opt3 (p q r : Bool) : (if p = true then some true else if q = true then some true else some r : Option Bool) = some (p || q || r) := by
  cases p <;> cases q <;> rfl
theorem strength_both (w n : List UInt8) (hw : w.length ≤ 140737488355328) : ∃ v, 0 ≤ v ∧ v ≤ 5 ∧ g_token_Sg w n = some v ∧ g_ref34_Sg w n = some v := by
  unfold g_token_Sg g_ref34_Sg
  rw [cut_eq, trim_loop w hw]
  have hle := trim_le w
  obtain ⟨b1, p1, r1⟩ := among_both (smS w) lA same_A some_A
  obtain ⟨b2, p2, r2⟩ := among_both (smS n) lB same_B some_B
  unfold lA at p1 r1
  unfold lB at p2 r2
  simp only [Option.bind_some, g_token_small, g_ref34_small, p1, p2, r1, r2]
  generalize Lib.trimRightS w cutS = t at hle ⊢
  have tail : ∃ v : Int, 0 ≤ v ∧ v ≤ 5 ∧ (if b1 = true then some 0 else if b2 = true then some 2 else some 1 : Option Int) = some v := by
    cases b1
    · cases b2
      · exact ⟨1, by decide, by decide, rfl⟩
      · exact ⟨2, by decide, by decide, rfl⟩
    · exact ⟨0, by decide, by decide, rfl⟩
  by_cases ht : t = []
  · subst ht
    simp only [beq_self_eq_true, if_true, List.length_nil, Int.natCast_zero, Int.lt_irrefl, decide_false, Bool.false_eq_true, if_false]
    cases w == ([45] : List UInt8)
    · obtain ⟨v, h0, h5, hv⟩ := tail
      exact ⟨v, h0, h5, hv, hv⟩
    · exact ⟨4, by decide, by decide, rfl, rfl⟩
  · have hb : (t == ([] : List UInt8)) = false := by simpa using ht
    have hp := List.length_pos_iff.2 ht
    rw [hb, if_pos (show decide (0 < (t.length : Int)) = true by simpa using hp), wr64 (by omega), show ((t.length : Int) - 1) = ((t.length - 1 : Nat) : Int) by omega, atI_nat (show t.length - 1 < t.length by omega)]
    simp only [Bool.false_eq_true, if_false, Option.bind_some]
    generalize t[t.length - 1] = b
    rw [opt3, opt3]
    simp only [Option.bind_some]
    generalize ((b.toNat : Int) == 46 || (b.toNat : Int) == 33 || (b.toNat : Int) == 63) = o1
    generalize ((b.toNat : Int) == 58 || (b.toNat : Int) == 59 || w == ([45] : List UInt8)) = o2
    generalize ((b.toNat : Int) == 44) = o3
    cases o1
    · cases o2
      · cases o3
        · obtain ⟨v, h0, h5, hv⟩ := tail
          exact ⟨v, h0, h5, hv, hv⟩
        · exact ⟨3, by decide, by decide, rfl, rfl⟩
      · exact ⟨4, by decide, by decide, rfl, rfl⟩
    · exact ⟨5, by decide, by decide, rfl, rfl⟩
def strS (w n : List UInt8) : Int := (g_token_Sg w n).getD 0
theorem strS_eq (w n : List UInt8) (hw : w.length ≤ 140737488355328) : g_token_Sg w n = some (strS w n) ∧ g_ref34_Sg w n = some (strS w n) ∧ 0 ≤ strS w n ∧ strS w n ≤ 5 := by
  obtain ⟨v, h0, h5, h1, h2⟩ := strength_both w n hw
  unfold strS
  rw [h1]
  exact ⟨rfl, h2, h0, h5⟩
def tkA (ws : List A_Word) (i : Nat) : A_Token := ⟨(ws[i]?.getD ⟨[], ⟨0, 0⟩⟩).Text, if i + 1 < ws.length then strS (ws[i]?.getD ⟨[], ⟨0, 0⟩⟩).Text (ws[i + 1]?.getD ⟨[], ⟨0, 0⟩⟩).Text else 5⟩
def tks (ws : List A_Word) : List A_Token := (List.range ws.length).map (tkA ws)
theorem tks_len (ws : List A_Word) : (tks ws).length = ws.length := by simp [tks]
theorem tks_at (ws : List A_Word) {i : Nat} (h : i < (tks ws).length) : (tks ws)[i] = tkA ws i := by simp [tks]
theorem tkA_text (ws : List A_Word) {i : Nat} (h : i < ws.length) : (tkA ws i).Text = ws[i].Text := by simp [tkA, h]
theorem tkA_str (ws : List A_Word) {i : Nat} (h : i < ws.length) (hs : ∀ w ∈ ws, w.Text.length ≤ 140737488355328) : 0 ≤ (tkA ws i).Sg ∧ (tkA ws i).Sg ≤ 5 := by
  unfold tkA
  by_cases h2 : i + 1 < ws.length
  · simp only [h2, if_true]
    have := strS_eq (ws[i]?.getD ⟨[], ⟨0, 0⟩⟩).Text (ws[i + 1]?.getD ⟨[], ⟨0, 0⟩⟩).Text (by
      rw [List.getElem?_eq_getElem h]
      have := hs _ (List.getElem_mem h)
      simp only [Option.getD_some]; omega)
    exact this.2.2
  · simp [h2]
theorem setI_nat {α : Type} {l : List α} {n : Nat} (x : α) (h : n < l.length) : setI l (n : Int) x = some (l.set n x) := by
  simp [setI, h]
theorem mkI_nat {α : Type} (by' : Int) (n : Nat) (z : α) (h : (n : Int) * by' ≤ 140737488355328) (h2 : n ≤ 9223372036854775807) : mkI by' (n : Int) z = some (List.replicate n z) := by
  unfold mkI
  rw [if_pos (by omega)]
  simp [replL]
theorem tokens_eq {s : A_Speech} (h : Sok s) : g_segment_tokens s = some (tks s.Words) := by
  have hn := h.words
  unfold g_segment_tokens
  rw [mkI_nat 24 s.Words.length _ (by omega) (by omega)]
  simp only [Option.bind_some]
  have key : iter (g_segment_tokens_s1 s) (0, List.replicate s.Words.length (A_Token.mk [] 0)) = some (tks s.Words) := by
    refine iter_of (fun x e => ∃ i : Nat, x.1 = (i : Int) ∧ i ≤ s.Words.length ∧ x.2 = (List.range i).map (tkA s.Words) ++ List.replicate (s.Words.length - i) (A_Token.mk [] 0) ∧ e = tks s.Words) (fun x => s.Words.length - x.1.toNat) ?_ (x := (0, _)) ⟨0, rfl, by omega, by simp, rfl⟩ (by show s.Words.length - 0 < _; omega)
    rintro ⟨x, m⟩ e ⟨i, hx, hi, hm, rfl⟩
    dsimp only at hx hm ⊢
    subst hx hm
    unfold g_segment_tokens_s1
    dsimp only
    by_cases hlt : i < s.Words.length
    · left
      obtain ⟨k, hk⟩ : ∃ k, s.Words.length - i = k + 1 := ⟨s.Words.length - i - 1, by omega⟩
      have hk2 : s.Words.length - (i + 1) = k := by omega
      have hA : ((List.range i).map (tkA s.Words)).length = i := by simp
      have hset : ∀ (v u : A_Token), (((List.range i).map (tkA s.Words) ++ v :: List.replicate k (A_Token.mk [] 0))).set i u = (List.range i).map (tkA s.Words) ++ u :: List.replicate k (A_Token.mk [] 0) := fun v u => by
        rw [List.set_append_right _ _ (by omega), hA, Nat.sub_self]; rfl
      have hgt : ∀ (v : A_Token), atI ((List.range i).map (tkA s.Words) ++ v :: List.replicate k (A_Token.mk [] 0)) (i : Int) = some v := fun v => by
        rw [atI_nat (by simp), List.getElem_append_right (by omega)]
        simp [hA]
      have hse : ∀ (v u : A_Token), setI ((List.range i).map (tkA s.Words) ++ v :: List.replicate k (A_Token.mk [] 0)) (i : Int) u = some ((List.range i).map (tkA s.Words) ++ u :: List.replicate k (A_Token.mk [] 0)) := fun v u => by
        rw [setI_nat _ (by simp), hset]
      have hfin : ∀ u : A_Token, u = tkA s.Words i → (List.range i).map (tkA s.Words) ++ u :: List.replicate k (A_Token.mk [] 0) = (List.range (i + 1)).map (tkA s.Words) ++ List.replicate (s.Words.length - (i + 1)) (A_Token.mk [] 0) := fun u hu => by
        rw [hk2, List.range_succ, List.map_append, hu]; simp
      rw [hk, List.replicate_succ, if_pos (by simpa using hlt), atI_nat hlt]
      simp only [Option.bind_some, hgt, hse]
      rw [wr64 (by omega)]
      have hw := h.texts _ (List.getElem_mem hlt)
      by_cases h2 : i + 1 < s.Words.length
      · rw [if_pos (by simp; omega), show ((i : Int) + 1) = ((i + 1 : Nat) : Int) by omega, atI_nat h2]
        simp only [Option.bind_some]
        rw [(strS_eq s.Words[i].Text s.Words[i + 1].Text (by omega)).1]
        simp only [Option.bind_some, hgt, hse]
        refine ⟨_, rfl, ⟨i + 1, rfl, by omega, hfin _ ?_, by first | rfl | trivial⟩, by dsimp only; omega⟩
        simp [tkA, hlt, h2]
      · rw [if_neg (by simp; omega), show ((i : Int) + 1) = ((i + 1 : Nat) : Int) by omega]
        refine ⟨_, rfl, ⟨i + 1, rfl, by omega, hfin _ ?_, by first | rfl | trivial⟩, by dsimp only; omega⟩
        simp [tkA, hlt, h2]
    · right
      obtain rfl : i = s.Words.length := by omega
      rw [if_neg (by simp)]
      simp [tks]
  rw [key]; rfl
def tkP (ws : List A_Word) (i j : Nat) : List A_Token := ((tks ws).drop i).take (j - i)
theorem tkP_len (ws : List A_Word) {i j : Nat} (h : j ≤ ws.length) : (tkP ws i j).length = j - i := by
  simp [tkP, tks]; omega
theorem tkP_at (ws : List A_Word) {i j k : Nat} (hj : j ≤ ws.length) (h : k < (tkP ws i j).length) : (tkP ws i j)[k] = tkA ws (i + k) := by
  simp [tkP, tks]
def Lst (P : Int → Prop) (v : Int) : Prop := (v = -1 ∧ ∀ x, ¬ P x) ∨ (0 ≤ v ∧ P v ∧ ∀ x, P x → v ≤ x)
theorem Lst.uniq {P : Int → Prop} {v w : Int} (h : Lst P v) (k : Lst P w) : v = w := by
  rcases h with ⟨h1, h2⟩ | ⟨h1, h2, h3⟩
  · rcases k with ⟨k1, _⟩ | ⟨_, k2, _⟩
    · rw [h1, k1]
    · exact absurd k2 (h2 _)
  · rcases k with ⟨_, k2⟩ | ⟨_, k2, k3⟩
    · exact absurd h2 (k2 _)
    · have := h3 _ k2; have := k3 _ h2; omega
theorem Lst.congr {P Q : Int → Prop} {v : Int} (e : ∀ x, P x ↔ Q x) (h : Lst P v) : Lst Q v := by
  have : P = Q := funext fun x => propext (e x)
  rw [← this]; exact h
theorem Lst.ge {P : Int → Prop} {v : Int} (h : Lst P v) : -1 ≤ v := by
  rcases h with ⟨h1, _⟩ | ⟨h1, _⟩ <;> omega
theorem Lst.mem {P : Int → Prop} {v : Int} (h : Lst P v) (hv : v ≠ -1) : 0 ≤ v ∧ P v ∧ ∀ x, P x → v ≤ x := by
  rcases h with ⟨h1, _⟩ | h
  · exact absurd h1 hv
  · exact h
theorem Lst.has {P : Int → Prop} {v x : Int} (h : Lst P v) (hx : P x) : v ≠ -1 ∧ 0 ≤ v ∧ v ≤ x := by
  rcases h with ⟨_, h2⟩ | ⟨h1, _, h3⟩
  · exact absurd hx (h2 _)
  · exact ⟨by omega, h1, h3 _ hx⟩
theorem Lst.none : Lst (fun _ => False) (-1) := .inl ⟨rfl, fun _ h => h⟩
theorem Lst.join {P Q : Int → Prop} {v w : Int} (h : Lst P v) (k : Lst Q w) : Lst (fun x => P x ∨ Q x) (if w = -1 then v else if v = -1 ∨ w < v then w else v) := by
  by_cases hw : w = -1
  · rw [if_pos hw]
    have kn : ∀ x, ¬ Q x := by
      rcases k with ⟨_, k2⟩ | ⟨k1, _⟩
      · exact k2
      · omega
    exact h.congr fun x => ⟨.inl, fun h => h.elim id fun q => absurd q (kn x)⟩
  · obtain ⟨k1, k2, k3⟩ := k.mem hw
    rw [if_neg hw]
    by_cases hv : v = -1
    · rw [if_pos (.inl hv)]
      have hn : ∀ x, ¬ P x := by
        rcases h with ⟨_, h2⟩ | ⟨h1, _⟩
        · exact h2
        · omega
      exact .inr ⟨k1, .inr k2, fun x hx => hx.elim (fun q => absurd q (hn x)) (k3 x)⟩
    · obtain ⟨h1, h2, h3⟩ := h.mem hv
      by_cases hl : w < v
      · rw [if_pos (.inr hl)]
        exact .inr ⟨k1, .inr k2, fun x hx => hx.elim (fun q => by have := h3 x q; omega) (k3 x)⟩
      · rw [if_neg (by omega)]
        exact .inr ⟨h1, .inl h2, fun x hx => hx.elim (h3 x) (fun q => by have := k3 x q; omega)⟩
theorem Lst.shift {P : Int → Prop} {v c : Int} (h : Lst P v) (hc : 0 ≤ c) : Lst (fun x => ∃ y, P y ∧ x = c + y) (if v = -1 then -1 else c + v) := by
  by_cases hv : v = -1
  · rw [if_pos hv]
    refine .inl ⟨rfl, ?_⟩
    rintro x ⟨y, hy, rfl⟩
    rcases h with ⟨_, h2⟩ | ⟨h1, _⟩
    · exact h2 y hy
    · omega
  · rw [if_neg hv]
    obtain ⟨h1, h2, h3⟩ := h.mem hv
    refine .inr ⟨by omega, ⟨v, h2, rfl⟩, ?_⟩
    rintro x ⟨y, hy, rfl⟩
    have := h3 y hy; omega
section
variable {n : Nat} {fit : Nat → Nat → Bool} {c : Nat → Nat → Int}
variable (n fit c) in
inductive Pth : Nat → Nat → Int → Prop
  | nil : Pth 0 n 0
  | cons {r i j : Nat} {x : Int} : i < j → j ≤ n → fit i j = true → Pth r j x → Pth (r + 1) i (c i j + x)
variable (n fit c) in
def AtM (m i : Nat) (x : Int) : Prop := ∃ r, r ≤ m ∧ Pth n fit c r i x
variable (fit c) in
def Cand (Q : Nat → Int → Prop) (i J : Nat) (x : Int) : Prop := ∃ j y, i < j ∧ j < J ∧ fit i j = true ∧ Q j y ∧ x = c i j + y
theorem cand_start (Q : Nat → Int → Prop) (i : Nat) : Lst (Cand fit c Q i (i + 1)) (-1) :=
  .inl ⟨rfl, fun x ⟨j, y, h1, h2, _⟩ => by omega⟩
theorem cand_step {Q : Nat → Int → Prop} {i J : Nat} {v w : Int} (hi : i < J) (hf : fit i J = true) (hc : 0 ≤ c i J) (h : Lst (Cand fit c Q i J) v) (k : Lst (Q J) w) : Lst (Cand fit c Q i (J + 1)) (if w = -1 then v else if v = -1 ∨ c i J + w < v then c i J + w else v) := by
  have h2 := h.join (k.shift hc)
  have e : (if (if w = -1 then -1 else c i J + w) = -1 then v else if v = -1 ∨ (if w = -1 then -1 else c i J + w) < v then (if w = -1 then -1 else c i J + w) else v) = (if w = -1 then v else if v = -1 ∨ c i J + w < v then c i J + w else v) := by
    by_cases hw : w = -1
    · simp [hw]
    · have := k.ge
      have : ¬ c i J + w = -1 := by omega
      simp [hw, this]
  rw [e] at h2
  refine h2.congr fun x => ⟨?_, ?_⟩
  · rintro (⟨j, y, a1, a2, a3, a4, a5⟩ | ⟨y, a4, a5⟩)
    · exact ⟨j, y, a1, by omega, a3, a4, a5⟩
    · exact ⟨J, y, hi, by omega, hf, a4, a5⟩
  · rintro ⟨j, y, a1, a2, a3, a4, a5⟩
    by_cases hj : j = J
    · subst hj; exact .inr ⟨y, a4, a5⟩
    · exact .inl ⟨j, y, a1, by omega, a3, a4, a5⟩
theorem cand_end {Q : Nat → Int → Prop} {i J : Nat} {v : Int} (hJ : J ≤ n + 1) (hmono : J ≤ n → ∀ k, J ≤ k → k ≤ n → fit i k = false) (h : Lst (Cand fit c Q i J) v) : Lst (Cand fit c Q i (n + 1)) v := by
  refine h.congr fun x => ⟨?_, ?_⟩
  · rintro ⟨j, y, a1, a2, a3, a4, a5⟩
    exact ⟨j, y, a1, by omega, a3, a4, a5⟩
  · rintro ⟨j, y, a1, a2, a3, a4, a5⟩
    refine ⟨j, y, a1, ?_, a3, a4, a5⟩
    rcases Nat.lt_or_ge j J with hlt | hge
    · exact hlt
    · rw [hmono (by omega) j hge (by omega)] at a3; cases a3
theorem pth_zero {i : Nat} {x : Int} : Pth n fit c 0 i x ↔ i = n ∧ x = 0 :=
  ⟨fun h => by cases h; exact ⟨rfl, rfl⟩, fun ⟨h1, h2⟩ => by subst h1 h2; exact .nil⟩
theorem pth_succ {r i : Nat} {x : Int} : Pth n fit c (r + 1) i x ↔ Cand fit c (Pth n fit c r) i (n + 1) x :=
  ⟨fun h => by cases h with | cons a1 a2 a3 a4 => exact ⟨_, _, a1, by omega, a3, a4, rfl⟩, fun ⟨j, y, a1, a2, a3, a4, a5⟩ => by subst a5; exact .cons a1 (by omega) a3 a4⟩
theorem atm_join {m i : Nat} {v w : Int} (h : Lst (AtM n fit c m i) v) (k : Lst (Pth n fit c (m + 1) i) w) : Lst (AtM n fit c (m + 1) i) (if w = -1 then v else if v = -1 ∨ w < v then w else v) := by
  refine (h.join k).congr fun x => ⟨?_, ?_⟩
  · rintro (⟨r, h1, h⟩ | h)
    · exact ⟨r, by omega, h⟩
    · exact ⟨m + 1, Nat.le_refl _, h⟩
  · rintro ⟨r, h1, h⟩
    by_cases e : r = m + 1
    · subst e; exact .inr h
    · exact .inl ⟨r, by omega, h⟩
theorem atm_0 {i : Nat} {v : Int} (h : Lst (Pth n fit c 0 i) v) : Lst (AtM n fit c 0 i) v := by
  refine h.congr fun x => ⟨fun h => ⟨0, Nat.le_refl _, h⟩, ?_⟩
  rintro ⟨r, h1, h⟩
  obtain rfl : r = 0 := by omega
  exact h
variable {E A : Nat → Nat → Int} {R : Nat}
def OkS (fit : Nat → Nat → Bool) (c : Nat → Nat → Int) (E : Nat → Nat → Int) (r i j : Nat) : Prop := fit i j = true ∧ E r j ≠ -1 ∧ c i j + E r j = E (r + 1) i
variable (n fit c E) in
inductive Gr : Nat → Nat → List Nat → Prop
  | nil : Gr 0 n []
  | cons {r i j : Nat} {L : List Nat} : i < j → j ≤ n → OkS fit c E r i j → (∀ k, i < k → k < j → ¬ OkS fit c E r i k) → Gr r j L → Gr (r + 1) i (j :: L)
theorem first_of {P : Nat → Prop} : ∀ (m i : Nat), (∃ j, i < j ∧ j ≤ i + m ∧ P j) → ∃ j, i < j ∧ j ≤ i + m ∧ P j ∧ ∀ k, i < k → k < j → ¬ P k
  | 0, i, ⟨j, h1, h2, _⟩ => by omega
  | m + 1, i, ⟨j, h1, h2, h3⟩ => by
    by_cases hp : P (i + 1)
    · exact ⟨i + 1, by omega, by omega, hp, fun k _ _ => by omega⟩
    · have hj : j ≠ i + 1 := fun e => hp (e ▸ h3)
      obtain ⟨j', a1, a2, a3, a4⟩ := first_of m (i + 1) ⟨j, by omega, by omega, h3⟩
      refine ⟨j', by omega, by omega, a3, fun k k1 k2 => ?_⟩
      by_cases e : k = i + 1
      · rw [e]; exact hp
      · exact a4 k (by omega) k2
theorem gr_step (hE : ∀ r i, r ≤ R → i ≤ n → Lst (Pth n fit c r i) (E r i)) {r i : Nat} (hr : r + 1 ≤ R) (hi : i ≤ n) (hv : E (r + 1) i ≠ -1) : ∃ j, i < j ∧ j ≤ n ∧ OkS fit c E r i j ∧ ∀ k, i < k → k < j → ¬ OkS fit c E r i k := by
  obtain ⟨_, h2, h3⟩ := (hE (r + 1) i hr hi).mem hv
  obtain ⟨j, y, a1, a2, a3, a4, a5⟩ := pth_succ.1 h2
  have k := (hE r j (by omega) (by omega)).has a4
  have hm := (hE r j (by omega) (by omega)).mem k.1
  have hle := h3 _ (Pth.cons a1 (by omega) a3 hm.2.1)
  have hok : OkS fit c E r i j := ⟨a3, k.1, by have := k.2.2; omega⟩
  obtain ⟨j', b1, b2, b3, b4⟩ := first_of (P := OkS fit c E r i) (n - i) i ⟨j, a1, by omega, hok⟩
  exact ⟨j', b1, by omega, b3, b4⟩
theorem gr_exists (hE : ∀ r i, r ≤ R → i ≤ n → Lst (Pth n fit c r i) (E r i)) : ∀ (r i : Nat), r ≤ R → i ≤ n → E r i ≠ -1 → ∃ L, Gr n fit c E r i L
  | 0, i, hr, hi, hv => by
    have := ((hE 0 i hr hi).mem hv).2.1
    obtain ⟨rfl, _⟩ := pth_zero.1 this
    exact ⟨[], .nil⟩
  | r + 1, i, hr, hi, hv => by
    obtain ⟨j, b1, b2, b3, b4⟩ := gr_step hE hr hi hv
    obtain ⟨L, hL⟩ := gr_exists hE r j (by omega) b2 b3.2.1
    exact ⟨j :: L, .cons b1 b2 b3 b4 hL⟩
theorem gr_len {r i : Nat} {L : List Nat} (h : Gr n fit c E r i L) : L.length = r := by
  induction h with
  | nil => rfl
  | cons _ _ _ _ _ ih => simp [ih]
def Tight (E : Nat → Nat → Int) (r i : Nat) : Prop := E r i ≠ -1 ∧ ∀ s, s < r → E s i = -1 ∨ E r i < E s i
end
theorem rcF : ∀ (fuel pos : Nat) (s : List UInt8), s.length ≤ pos + fuel → Lib.runeCountFrom ⟨s.toArray⟩ fuel pos = (rnL (s.drop pos)).length
  | 0, pos, s, h => by rw [rnL_end (by omega)]; rfl
  | fuel + 1, pos, s, h => by
    have hsz : (⟨s.toArray⟩ : ByteArray).size = s.length := bsize s
    unfold Lib.runeCountFrom
    rw [hsz]
    by_cases hp : pos < s.length
    · rw [if_pos hp, decL_eq s pos hp, rnL_at hp]
      have hw := wd_pos hp
      have := rcF fuel (pos + widthAt s pos) s (by omega)
      unfold widthAt at this
      rw [this, List.length_cons]
      unfold widthAt
      omega
    · rw [if_neg hp, rnL_end (by omega)]; rfl
theorem rcL (s : List UInt8) : Lib.runeCountL s = (rnL s).length := by
  unfold Lib.runeCountL Lib.runeCount
  rw [rcF _ 0 s (by rw [bsize]; omega), List.drop_zero]
def chL (s : List UInt8) : Int := if gv s then ((rnL s).length : Int) else -1
theorem len_prog (s : List UInt8) (h : s.length ≤ 140737488355328) : g_charset_Len s = some (chL s) := by
  unfold g_charset_Len chL
  rw [prog_Valid_eq s (by omega)]
  simp only [Option.bind_some, g_unicode_utf8_RuneCountInString]
  cases gv s
  · rfl
  · simp only [if_true]
    rw [if_pos (show s.length < 9223372036854775807 by omega), rcL]; rfl
theorem chL_le (s : List UInt8) (h : s.length ≤ 140737488355328) : -1 ≤ chL s ∧ chL s ≤ 140737488355328 := by
  unfold chL
  have := rnL_len _ s (Nat.le_refl _)
  split <;> omega
theorem chL_pos {s : List UInt8} (h : gv s = true) (hn : s ≠ []) : 1 ≤ chL s := by
  unfold chL
  rw [if_pos h, rnL_ne hn, List.length_cons]
  omega
def upP (a b : Int) : Int := Int.tdiv (a + b - 1) b
theorem upP_ge {a b : Int} (ha : 1 ≤ a) (hb : 1 ≤ b) : 1 ≤ upP a b ∧ upP a b ≤ a := by
  unfold upP
  rw [Int.tdiv_eq_ediv_of_nonneg (by omega)]
  constructor
  · exact (Int.le_ediv_iff_mul_le (by omega)).2 (by omega)
  · have : (a + b - 1) / b < a + 1 := by
      refine Int.ediv_lt_of_lt_mul (by omega) ?_
      have : (a + 1) * b = a * b + b := by rw [Int.add_mul, Int.one_mul]
      have h2 : a * 1 ≤ a * b := Int.mul_le_mul_of_nonneg_left hb (by omega)
      omega
    omega
def aimS (t w : Int) : Int × Int := if wiB t 1 10000 && wiB w 1 32 then (upP t (upP t w), 0) else (0, 2)
theorem pwithin (n lo hi : Int) : g_penalty_within n lo hi = some (wiB n lo hi) := by
  unfold g_penalty_within wiB
  cases decide (lo ≤ n) <;> simp
theorem aim_prog (t w : Int) : g_penalty_Aim t w = some (aimS t w) := by
  unfold g_penalty_Aim aimS wiB g_penalty_up
  by_cases h1 : t < 1
  · simp [h1, show ¬ 1 ≤ t from by omega]
  by_cases h2 : 10000 < t
  · simp [h1, h2, show ¬ t ≤ 10000 from by omega]
  by_cases h3 : w < 1
  · simp [h1, h2, h3, show ¬ 1 ≤ w from by omega]
  by_cases h4 : 32 < w
  · simp [h1, h2, h3, h4, show ¬ w ≤ 32 from by omega]
  obtain ⟨a1, a2⟩ := upP_ge (a := t) (b := w) (by omega) (by omega)
  obtain ⟨b1, b2⟩ := upP_ge (a := t) (b := upP t w) (by omega) a1
  have e1 : IntKind.i64.wrap (Int.tdiv (IntKind.i64.wrap (IntKind.i64.wrap (t + w) - 1)) w) = upP t w := by
    rw [wr64 (x := t + w) (by omega), wr64 (x := t + w - 1) (by omega)]
    exact wr64 (by unfold upP at a1 a2; omega)
  have e2 : IntKind.i64.wrap (Int.tdiv (IntKind.i64.wrap (IntKind.i64.wrap (t + upP t w) - 1)) (upP t w)) = upP t (upP t w) := by
    rw [wr64 (x := t + upP t w) (by omega), wr64 (x := t + upP t w - 1) (by omega)]
    exact wr64 (by unfold upP at b1 b2 ⊢; omega)
  have q1 : ¬ w = 0 := by omega
  have q2 : ¬ upP t w = 0 := by omega
  simp only [h1, h2, h3, h4, decide_false, Bool.false_eq_true, if_false, Option.bind_some, q1, not_false_eq_true, if_true, e1, q2, e2, show 1 ≤ t from by omega, show t ≤ 10000 from by omega, show 1 ≤ w from by omega, show w ≤ 32 from by omega, decide_true, Bool.and_self]
def abD (a b : Int) : Int := if a - b < 0 then b - a else a - b
def stAt (t : A_Penalties) (k : Int) : Int := if k = 0 then t.Sg.a0 else if k = 1 then t.Sg.a1 else if k = 2 then t.Sg.a2 else if k = 3 then t.Sg.a3 else if k = 4 then t.Sg.a4 else if k = 5 then t.Sg.a5 else 0
theorem stAt_le {t : A_Penalties} (h : pcS t = 0) (k : Int) : 0 ≤ stAt t k ∧ stAt t k ≤ 1000000 := by
  have := pcS_0 h
  unfold stAt
  split
  · omega
  split
  · omega
  split
  · omega
  split
  · omega
  split
  · omega
  split
  · omega
  · omega
def rowS (t : A_Penalties) (aim len str : Int) : Int × Int := if pcS t ≠ 0 then (0, pcS t) else if wiB aim 1 32 && (wiB len 1 32 && wiB str (-1) 5) then (t.Row + t.Rgd * abD aim len + stAt t str, 0) else (0, 2)
theorem row_arith {t : A_Penalties} (h : pcS t = 0) {a b : Int} (ha : 1 ≤ a ∧ a ≤ 32) (hb : 1 ≤ b ∧ b ≤ 32) : 0 ≤ t.Rgd * abD a b ∧ t.Rgd * abD a b ≤ 31000000 ∧ 0 ≤ abD a b ∧ abD a b ≤ 31 := by
  have hp := pcS_0 h
  have h0 : 0 ≤ abD a b ∧ abD a b ≤ 31 := by unfold abD; split <;> omega
  have h1 : 0 ≤ t.Rgd * abD a b := Int.mul_nonneg (by omega) h0.1
  have h2 : t.Rgd * abD a b ≤ 1000000 * abD a b := Int.mul_le_mul_of_nonneg_right (by omega) h0.1
  omega
theorem rowS_le (t : A_Penalties) (aim len str : Int) : 0 ≤ (rowS t aim len str).1 ∧ (rowS t aim len str).1 ≤ 33000000 := by
  unfold rowS
  split
  · simp
  · rename_i h
    split
    · rename_i h2
      simp only [Bool.and_eq_true] at h2
      have hp := pcS_0 (by omega : pcS t = 0)
      have := row_arith (by omega : pcS t = 0) (wiB_t h2.1) (wiB_t h2.2.1)
      have := stAt_le (by omega : pcS t = 0) str
      dsimp only
      omega
    · simp
theorem row_prog (t : A_Penalties) (aim len str : Int) : g_penalty_Row t aim len str = some (rowS t aim len str) := by
  unfold g_penalty_Row rowS
  rw [pen_Check, pwithin, pwithin, pwithin]
  simp only [Option.bind_some]
  by_cases h : pcS t = 0
  rotate_left
  · simp [h]
  rw [if_neg (show ¬ (pcS t != 0) = true by simpa using h), if_neg (show ¬ pcS t ≠ 0 by omega)]
  cases h1 : wiB aim 1 32
  · rfl
  cases h2 : wiB len 1 32
  · rfl
  cases h3 : wiB str (-1) 5
  · rfl
  have h1 := wiB_t h1
  have h2 := wiB_t h2
  have h3 := wiB_t h3
  have hp := pcS_0 h
  obtain ⟨m1, m2, m3, m4⟩ := row_arith h h1 h2
  have e0 : (if IntKind.i64.wrap (len - aim) > IntKind.i64.wrap (aim - len) then IntKind.i64.wrap (len - aim) else IntKind.i64.wrap (aim - len)) = abD aim len := by
    rw [wr64 (by omega), wr64 (by omega)]
    unfold abD
    split <;> split <;> omega
  simp only [if_true, Bool.not_true, Bool.false_eq_true, if_false, Option.bind_some, Bool.and_self, e0]
  have w1 := wr64 (x := t.Rgd * abD aim len) (by omega)
  have w2 := wr64 (x := t.Row + t.Rgd * abD aim len) (by omega)
  rw [w1, w2]
  have hzb : 0 ≤ t.Row + t.Rgd * abD aim len ∧ t.Row + t.Rgd * abD aim len ≤ 32000000 := by omega
  generalize t.Row + t.Rgd * abD aim len = z at *
  have hz : ∀ k, 0 ≤ k → k ≤ 1000000 → IntKind.i64.wrap (z + k) = z + k := fun k _ _ => wr64 (by omega)
  have w3 := hz t.Sg.a0 (by omega) (by omega)
  have w4 := hz t.Sg.a1 (by omega) (by omega)
  have w5 := hz t.Sg.a2 (by omega) (by omega)
  have w6 := hz t.Sg.a3 (by omega) (by omega)
  have w7 := hz t.Sg.a4 (by omega) (by omega)
  have w8 := hz t.Sg.a5 (by omega) (by omega)
  rw [w3, w4, w5, w6, w7, w8]
  have hs : str = -1 ∨ str = 0 ∨ str = 1 ∨ str = 2 ∨ str = 3 ∨ str = 4 ∨ str = 5 := by omega
  rcases hs with rfl | rfl | rfl | rfl | rfl | rfl | rfl <;> simp [stAt]
def okLd (l : A_Load) : Bool := wiB l.Fast 0 5184000 && (wiB l.Gap 0 5184000 && (wiB l.Shots 0 400 && wiB l.Sg 0 5))
def evS (t : A_Penalties) (l : A_Load) : Int × Int := if pcS t ≠ 0 then (0, pcS t) else if okLd l then (t.Event + t.Fast * l.Fast + t.Gap * l.Gap + t.Shot * l.Shots + (if l.Last then 0 else stAt t l.Sg), 0) else (0, 2)
theorem mulb {a b m k : Int} (ha : 0 ≤ a ∧ a ≤ m) (hb : 0 ≤ b ∧ b ≤ k) : 0 ≤ a * b ∧ a * b ≤ m * k := by
  have h1 : 0 ≤ a * b := Int.mul_nonneg ha.1 hb.1
  have h2 : a * b ≤ m * b := Int.mul_le_mul_of_nonneg_right ha.2 hb.1
  have h3 : m * b ≤ m * k := Int.mul_le_mul_of_nonneg_left hb.2 (by omega)
  omega
theorem ev_arith {t : A_Penalties} {l : A_Load} (h : pcS t = 0) (hl : okLd l = true) : (0 ≤ t.Fast * l.Fast ∧ t.Fast * l.Fast ≤ 1000000 * 5184000) ∧ (0 ≤ t.Gap * l.Gap ∧ t.Gap * l.Gap ≤ 1000000 * 5184000) ∧ (0 ≤ t.Shot * l.Shots ∧ t.Shot * l.Shots ≤ 1000000 * 400) := by
  have hp := pcS_0 h
  unfold okLd at hl
  simp only [Bool.and_eq_true] at hl
  have a1 := wiB_t hl.1
  have a2 := wiB_t hl.2.1
  have a3 := wiB_t hl.2.2.1
  exact ⟨mulb (by omega) (by omega), mulb (by omega) (by omega), mulb (by omega) (by omega)⟩
theorem evS_le (t : A_Penalties) (l : A_Load) : 0 ≤ (evS t l).1 ∧ (evS t l).1 ≤ 20000000000000 := by
  unfold evS
  split
  · simp
  · rename_i h
    split
    · rename_i h2
      have hp := pcS_0 (by omega : pcS t = 0)
      have := ev_arith (by omega : pcS t = 0) h2
      have := stAt_le (by omega : pcS t = 0) l.Sg
      dsimp only
      split <;> omega
    · simp
theorem ev_fin {t : A_Penalties} {l : A_Load} (h : pcS t = 0) (hl : okLd l = true) : (if l.Last then (some ((IntKind.i64.wrap ((IntKind.i64.wrap ((IntKind.i64.wrap (t.Event + (IntKind.i64.wrap (t.Fast * l.Fast)))) + (IntKind.i64.wrap (t.Gap * l.Gap)))) + (IntKind.i64.wrap (t.Shot * l.Shots)))), 0)) else (if l.Sg == 0 then (some ((IntKind.i64.wrap ((IntKind.i64.wrap ((IntKind.i64.wrap ((IntKind.i64.wrap (t.Event + (IntKind.i64.wrap (t.Fast * l.Fast)))) + (IntKind.i64.wrap (t.Gap * l.Gap)))) + (IntKind.i64.wrap (t.Shot * l.Shots)))) + t.Sg.a0)), 0)) else (if l.Sg == 1 then (some ((IntKind.i64.wrap ((IntKind.i64.wrap ((IntKind.i64.wrap ((IntKind.i64.wrap (t.Event + (IntKind.i64.wrap (t.Fast * l.Fast)))) + (IntKind.i64.wrap (t.Gap * l.Gap)))) + (IntKind.i64.wrap (t.Shot * l.Shots)))) + t.Sg.a1)), 0)) else (if l.Sg == 2 then (some ((IntKind.i64.wrap ((IntKind.i64.wrap ((IntKind.i64.wrap ((IntKind.i64.wrap (t.Event + (IntKind.i64.wrap (t.Fast * l.Fast)))) + (IntKind.i64.wrap (t.Gap * l.Gap)))) + (IntKind.i64.wrap (t.Shot * l.Shots)))) + t.Sg.a2)), 0)) else (if l.Sg == 3 then (some ((IntKind.i64.wrap ((IntKind.i64.wrap ((IntKind.i64.wrap ((IntKind.i64.wrap (t.Event + (IntKind.i64.wrap (t.Fast * l.Fast)))) + (IntKind.i64.wrap (t.Gap * l.Gap)))) + (IntKind.i64.wrap (t.Shot * l.Shots)))) + t.Sg.a3)), 0)) else (if l.Sg == 4 then (some ((IntKind.i64.wrap ((IntKind.i64.wrap ((IntKind.i64.wrap ((IntKind.i64.wrap (t.Event + (IntKind.i64.wrap (t.Fast * l.Fast)))) + (IntKind.i64.wrap (t.Gap * l.Gap)))) + (IntKind.i64.wrap (t.Shot * l.Shots)))) + t.Sg.a4)), 0)) else (if l.Sg == 5 then (some ((IntKind.i64.wrap ((IntKind.i64.wrap ((IntKind.i64.wrap ((IntKind.i64.wrap (t.Event + (IntKind.i64.wrap (t.Fast * l.Fast)))) + (IntKind.i64.wrap (t.Gap * l.Gap)))) + (IntKind.i64.wrap (t.Shot * l.Shots)))) + t.Sg.a5)), 0)) else none)))))) : Option (Int × Int)) = some (t.Event + t.Fast * l.Fast + t.Gap * l.Gap + t.Shot * l.Shots + (if l.Last then 0 else stAt t l.Sg), 0) := by
  have hp := pcS_0 h
  obtain ⟨m1, m2, m3⟩ := ev_arith h hl
  unfold okLd at hl
  simp only [Bool.and_eq_true] at hl
  have h3 := wiB_t hl.2.2.2
  rw [wr64 (x := t.Fast * l.Fast) (by omega), wr64 (x := t.Gap * l.Gap) (by omega), wr64 (x := t.Shot * l.Shots) (by omega)]
  rw [wr64 (x := t.Event + t.Fast * l.Fast) (by omega), wr64 (x := t.Event + t.Fast * l.Fast + t.Gap * l.Gap) (by omega), wr64 (x := t.Event + t.Fast * l.Fast + t.Gap * l.Gap + t.Shot * l.Shots) (by omega)]
  generalize hzz : t.Event + t.Fast * l.Fast + t.Gap * l.Gap + t.Shot * l.Shots = z
  have hzb : 0 ≤ z ∧ z ≤ 20000000000000 := by omega
  have hz : ∀ k, 0 ≤ k → k ≤ 1000000 → IntKind.i64.wrap (z + k) = z + k := fun k _ _ => wr64 (by omega)
  rw [hz t.Sg.a0 (by omega) (by omega), hz t.Sg.a1 (by omega) (by omega), hz t.Sg.a2 (by omega) (by omega), hz t.Sg.a3 (by omega) (by omega), hz t.Sg.a4 (by omega) (by omega), hz t.Sg.a5 (by omega) (by omega)]
  generalize l.Sg = str at *
  have hs : str = 0 ∨ str = 1 ∨ str = 2 ∨ str = 3 ∨ str = 4 ∨ str = 5 := by omega
  cases l.Last
  · rcases hs with rfl | rfl | rfl | rfl | rfl | rfl <;> simp [stAt]
  · simp
theorem ev_prog (t : A_Penalties) (l : A_Load) : g_penalty_Event t l = some (evS t l) := by
  unfold g_penalty_Event evS
  rw [pen_Check, pwithin, pwithin, pwithin, pwithin]
  simp only [Option.bind_some]
  by_cases h : pcS t = 0
  rotate_left
  · simp [h]
  rw [if_neg (show ¬ (pcS t != 0) = true by simpa using h), if_neg (show ¬ pcS t ≠ 0 by omega)]
  by_cases hl : okLd l = true
  · rw [if_pos hl]
    have hl2 := hl
    unfold okLd at hl2
    simp only [Bool.and_eq_true] at hl2
    simp only [hl2.1, hl2.2.1, hl2.2.2.1, hl2.2.2.2, if_true, Bool.not_true, Bool.false_eq_true, if_false, Option.bind_some]
    exact ev_fin h hl
  · rw [if_neg hl]
    unfold okLd at hl
    cases h1 : wiB l.Fast 0 5184000
    · rfl
    cases h2 : wiB l.Gap 0 5184000
    · rfl
    cases h3 : wiB l.Shots 0 400
    · rfl
    cases h4 : wiB l.Sg 0 5
    · rfl
    exact absurd (by rw [h1, h2, h3, h4]; rfl) hl
structure Pok (p : A_Paragraph) : Prop where
  toks : p.Tokens.length ≤ 8
  texts : ∀ t ∈ p.Tokens, t.Text.length ≤ 140737488355328
def ckTk (t : A_Token) : Int := if t.Text = [] ∨ hasSp t.Text = true then 4 else if gv t.Text = false then 10 else if t.Sg < 0 ∨ 5 < t.Sg then 2 else 0
def ckTks : List A_Token → Int
  | [] => 0
  | t :: l => if ckTk t ≠ 0 then ckTk t else ckTks l
theorem toks_prog (l : List A_Token) (hl : l.length ≤ 8) (h : ∀ t ∈ l, t.Text.length ≤ 140737488355328) : g_token_Check l = some (ckTks l) := by
  unfold g_token_Check
  rw [if_neg (by simp; omega)]
  have key := iter_idx (step := g_token_Check_s1 l) l.length (by omega) (fun i => if ckTks (l.drop i) = 0 then .inr () else .inl (ckTks (l.drop i))) (fun i hi => ?_) ?_
  · rw [List.drop_zero] at key
    rw [key]
    simp only [Option.bind_some]
    split
    · rename_i e he; split at he <;> cases he; rfl
    · rename_i e he; split at he
      · rename_i h0; rw [h0]
      · cases he
  · have ht := h _ (List.getElem_mem hi)
    unfold g_token_Check_s1
    rw [if_pos (by simpa using hi), atI_nat hi, List.drop_eq_getElem_cons hi, wr64 (by omega)]
    simp only [Option.bind_some, cont_eq, prog_Valid_eq _ (show l[i].Text.length ≤ 140737488355328 by omega), ckTks]
    generalize l[i] = t
    unfold ckTk
    by_cases h1 : t.Text = []
    · right; simp [h1]
    · have hb : (t.Text == ([] : List UInt8)) = false := by simpa using h1
      simp only [hb, Bool.false_eq_true, if_false, Option.bind_some, h1, false_or]
      cases hasSp t.Text
      · cases gv t.Text
        · right; simp
        · by_cases h2 : t.Sg < 0
          · right; simp [h2]
          · by_cases h3 : 5 < t.Sg
            · right; simp [h2, h3]
            · left; simp [h2, h3]
      · right; simp
  · unfold g_token_Check_s1
    rw [if_neg (by simp)]
    simp [ckTks]
def ckP (p : A_Paragraph) : Int := if ckTks p.Tokens ≠ 0 then ckTks p.Tokens else if p.Tokens = [] then 6 else if p.Width < 1 ∨ 32 < p.Width ∨ p.Rows < 1 ∨ 4 < p.Rows then 2 else pcS p.Table
theorem opt4 (p : A_Paragraph) : (if (decide (p.Width < 1)) then (some true) else (if (decide (32 < p.Width)) then (some true) else (if (decide (p.Rows < 1)) then (some true) else (some (decide (4 < p.Rows))))) : Option Bool) = some (decide (p.Width < 1 ∨ 32 < p.Width ∨ p.Rows < 1 ∨ 4 < p.Rows)) := by
  by_cases h1 : p.Width < 1
  · simp [h1]
  by_cases h2 : 32 < p.Width
  · simp [h1, h2]
  by_cases h3 : p.Rows < 1
  · simp [h1, h2, h3]
  · simp [h1, h2, h3]
theorem par_prog {p : A_Paragraph} (h : Pok p) : g_rowbreak_Check p = some (ckP p) := by
  unfold g_rowbreak_Check ckP
  rw [toks_prog _ h.toks h.texts, opt4, pen_Check]
  simp only [Option.bind_some]
  by_cases h1 : ckTks p.Tokens = 0
  · simp only [h1, bne_self_eq_false, Bool.false_eq_true, if_false, ne_eq, not_true]
    by_cases h2 : p.Tokens = []
    · simp [h2]
    · have : ((p.Tokens.length : Int) == 0) = false := by
        have := List.length_pos_iff.2 h2
        simpa using (by omega : ¬ (p.Tokens.length : Int) = 0)
      simp only [this, Bool.false_eq_true, if_false, h2]
      by_cases h3 : p.Width < 1 ∨ 32 < p.Width ∨ p.Rows < 1 ∨ 4 < p.Rows <;> simp [h3]
  · simp [h1]
theorem ckTks_0 : ∀ {l : List A_Token}, ckTks l = 0 → ∀ t ∈ l, t.Text ≠ [] ∧ gv t.Text = true ∧ 0 ≤ t.Sg ∧ t.Sg ≤ 5
  | [], _, t, ht => by cases ht
  | u :: l, h, t, ht => by
    unfold ckTks at h
    by_cases hu : ckTk u = 0
    · rw [if_neg (by omega)] at h
      rcases List.mem_cons.1 ht with rfl | ht
      · unfold ckTk at hu
        by_cases h1 : t.Text = [] ∨ hasSp t.Text = true
        · rw [if_pos h1] at hu; cases hu
        · rw [if_neg h1] at hu
          by_cases h2 : gv t.Text = false
          · rw [if_pos h2] at hu; cases hu
          · rw [if_neg h2] at hu
            by_cases h3 : t.Sg < 0 ∨ 5 < t.Sg
            · rw [if_pos h3] at hu; cases hu
            · exact ⟨fun e => h1 (.inl e), by simpa using h2, by omega, by omega⟩
      · exact ckTks_0 h t ht
    · rw [if_pos hu] at h; exact absurd h hu
structure Pv (p : A_Paragraph) : Prop where
  ok : Pok p
  ne : p.Tokens ≠ []
  tok : ∀ t ∈ p.Tokens, t.Text ≠ [] ∧ gv t.Text = true ∧ 0 ≤ t.Sg ∧ t.Sg ≤ 5
  width : 1 ≤ p.Width ∧ p.Width ≤ 32
  rows : 1 ≤ p.Rows ∧ p.Rows ≤ 4
  table : pcS p.Table = 0
theorem ckP_0 {p : A_Paragraph} (h : Pok p) (h0 : ckP p = 0) : Pv p := by
  unfold ckP at h0
  by_cases h1 : ckTks p.Tokens = 0
  · rw [if_neg (by omega)] at h0
    by_cases h2 : p.Tokens = []
    · rw [if_pos h2] at h0; cases h0
    · rw [if_neg h2] at h0
      by_cases h3 : p.Width < 1 ∨ 32 < p.Width ∨ p.Rows < 1 ∨ 4 < p.Rows
      · rw [if_pos h3] at h0; cases h0
      · rw [if_neg h3] at h0
        exact ⟨h, h2, ckTks_0 h1, by omega, by omega, h0⟩
  · rw [if_pos h1] at h0; exact absurd h0 h1
def tlen (p : A_Paragraph) (k : Nat) : Int := chL (p.Tokens[k]?.getD ⟨[], 0⟩).Text
def smP (p : A_Paragraph) : Nat → Int
  | 0 => 0
  | k + 1 => smP p k + tlen p k
def lnP (p : A_Paragraph) (i j : Nat) : Int := smP p j - smP p i + j - i - 1
theorem tlen_at (p : A_Paragraph) {k : Nat} (h : k < p.Tokens.length) : tlen p k = chL p.Tokens[k].Text := by simp [tlen, h]
theorem tlen_le {p : A_Paragraph} (h : Pok p) {k : Nat} (hk : k < p.Tokens.length) : -1 ≤ tlen p k ∧ tlen p k ≤ 140737488355328 := by
  rw [tlen_at p hk]; exact chL_le _ (h.texts _ (List.getElem_mem hk))
theorem smP_le {p : A_Paragraph} (h : Pok p) : ∀ {k : Nat}, k ≤ p.Tokens.length → -(k : Int) ≤ smP p k ∧ smP p k ≤ (k : Int) * 140737488355328
  | 0, _ => by simp [smP]
  | k + 1, hk => by
    have := smP_le h (k := k) (by omega)
    have := tlen_le h (k := k) (by omega)
    unfold smP
    omega
theorem smP_b {p : A_Paragraph} (h : Pok p) {k : Nat} (hk : k ≤ p.Tokens.length) : -8 ≤ smP p k ∧ smP p k ≤ 1125899906842624 := by
  have := smP_le h hk
  have := h.toks
  omega
theorem tlen_pos {p : A_Paragraph} (h : Pv p) {k : Nat} (hk : k < p.Tokens.length) : 1 ≤ tlen p k := by
  rw [tlen_at p hk]
  have := h.tok _ (List.getElem_mem hk)
  exact chL_pos this.2.1 this.1
theorem smP_lt {p : A_Paragraph} (h : Pv p) {i : Nat} : ∀ {j : Nat}, i ≤ j → j ≤ p.Tokens.length → smP p i + ((j : Int) - i) ≤ smP p j
  | 0, hij, _ => by obtain rfl : i = 0 := by omega
                    simp
  | j + 1, hij, hj => by
    by_cases e : i = j + 1
    · subst e; omega
    · have := smP_lt h (i := i) (j := j) (by omega) (by omega)
      have := tlen_pos h (k := j) (by omega)
      rw [show smP p (j + 1) = smP p j + tlen p j from rfl]
      omega
def fitP (p : A_Paragraph) (i j : Nat) : Bool := decide (lnP p i j ≤ p.Width)
theorem fit_mono {p : A_Paragraph} (h : Pv p) {i j k : Nat} (hij : i < j) (hjk : j ≤ k) (hk : k ≤ p.Tokens.length) (hf : fitP p i j = false) : fitP p i k = false := by
  have := smP_lt h hjk hk
  unfold fitP lnP at *
  simp only [decide_eq_false_iff_not] at *
  omega
def aimP (p : A_Paragraph) : Int := (aimS (lnP p 0 p.Tokens.length) p.Width).1
def strP (p : A_Paragraph) (j : Nat) : Int := if j < p.Tokens.length then (p.Tokens[j - 1]?.getD ⟨[], 0⟩).Sg else -1
def cPr (p : A_Paragraph) (i j : Nat) : Int := (rowS p.Table (aimP p) (lnP p i j) (strP p j)).1
theorem cPr_le (p : A_Paragraph) (i j : Nat) : 0 ≤ cPr p i j ∧ cPr p i j ≤ 33000000 := rowS_le _ _ _ _
def shP (p : A_Paragraph) (a : Int) : T_rowbreak_sheet := ⟨p, (List.range (p.Tokens.length + 1)).map (smP p), a⟩
theorem shP_at (p : A_Paragraph) {k : Nat} (hk : k ≤ p.Tokens.length) : atI ((List.range (p.Tokens.length + 1)).map (smP p)) (k : Int) = some (smP p k) := by
  rw [atI_nat (by simp; omega)]
  simp
theorem length_eq {p : A_Paragraph} (h : Pok p) (a : Int) {i j : Nat} (hi : i ≤ p.Tokens.length) (hj : j ≤ p.Tokens.length) : g_rowbreak_sheet_length (shP p a) (i : Int) (j : Int) = some (lnP p i j) := by
  unfold g_rowbreak_sheet_length shP
  dsimp only
  rw [shP_at p hj, shP_at p hi]
  have h1 := smP_b h hi
  have h2 := smP_b h hj
  have := h.toks
  simp only [Option.bind_some]
  rw [wr64 (x := smP p j - smP p i) (by omega), wr64 (x := smP p j - smP p i + j) (by omega), wr64 (x := smP p j - smP p i + j - i) (by omega), wr64 (x := smP p j - smP p i + j - i - 1) (by omega)]
  rfl
theorem fits_eq {p : A_Paragraph} (h : Pok p) (a : Int) {i j : Nat} (hi : i ≤ p.Tokens.length) (hj : j ≤ p.Tokens.length) : g_rowbreak_sheet_fits (shP p a) (i : Int) (j : Int) = some (fitP p i j) := by
  unfold g_rowbreak_sheet_fits
  rw [length_eq h a hi hj]
  rfl
theorem cost_eq {p : A_Paragraph} (h : Pok p) {i j : Nat} (hi : i < j) (hj : j ≤ p.Tokens.length) : g_rowbreak_sheet_cost (shP p (aimP p)) (i : Int) (j : Int) = some (cPr p i j) := by
  unfold g_rowbreak_sheet_cost g_rowbreak_sheet_n
  rw [length_eq h _ (by omega) hj]
  have := h.toks
  simp only [Option.bind_some, row_prog]
  have e : (shP p (aimP p)).p_ = p := rfl
  have e2 : (shP p (aimP p)).aim_ = aimP p := rfl
  rw [e, e2]
  unfold cPr strP
  by_cases h1 : j < p.Tokens.length
  · rw [if_pos (by simpa using h1), if_pos h1, wr64 (by omega), show ((j : Int) - 1) = ((j - 1 : Nat) : Int) by omega, atI_nat (show j - 1 < p.Tokens.length by omega)]
    simp [show j - 1 < p.Tokens.length by omega]
  · rw [if_neg (by simpa using h1), if_neg h1]
theorem open_eq {p : A_Paragraph} (h : Pok p) : g_rowbreak_open p = some (shP p (aimP p)) := by
  unfold g_rowbreak_open
  have hn := h.toks
  have key : iter (g_rowbreak_open_s1 p) (0, [0]) = some ((List.range (p.Tokens.length + 1)).map (smP p)) := by
    refine iter_of (fun x e => ∃ i : Nat, x.1 = (i : Int) ∧ i ≤ p.Tokens.length ∧ x.2 = (List.range (i + 1)).map (smP p) ∧ e = (List.range (p.Tokens.length + 1)).map (smP p)) (fun x => p.Tokens.length - x.1.toNat) ?_ (x := (0, [0])) ⟨0, rfl, by omega, rfl, rfl⟩ (by show p.Tokens.length - 0 < _; omega)
    rintro ⟨x, m⟩ e ⟨i, hx, hi, hm, rfl⟩
    dsimp only at hx hm ⊢
    subst hx hm
    unfold g_rowbreak_open_s1
    dsimp only
    by_cases hlt : i < p.Tokens.length
    · left
      rw [if_pos (by simpa using hlt), atI_nat hlt, atI_nat (show i < ((List.range (i + 1)).map (smP p)).length by simp)]
      simp only [Option.bind_some]
      rw [len_prog _ (h.texts _ (List.getElem_mem hlt))]
      have b1 := smP_b h (k := i) (by omega)
      have b2 := tlen_le h hlt
      simp only [Option.bind_some, List.length_map, List.length_range, List.getElem_map, List.getElem_range]
      rw [if_pos (by omega), wr64 (x := (i : Int) + 1) (by omega), ← tlen_at p hlt, wr64 (x := smP p i + tlen p i) (by omega)]
      refine ⟨_, rfl, ⟨i + 1, rfl, by omega, ?_, by first | rfl | trivial⟩, by dsimp only; omega⟩
      dsimp only
      rw [show List.range (i + 1 + 1) = List.range (i + 1) ++ [i + 1] from List.range_succ, List.map_append]; rfl
    · right
      obtain rfl : i = p.Tokens.length := by omega
      rw [if_neg (by simp)]
  rw [key]
  simp only [Option.bind_some, g_rowbreak_sheet_n]
  have e : (T_rowbreak_sheet.mk p ((List.range (p.Tokens.length + 1)).map (smP p)) 0) = shP p 0 := rfl
  rw [e]
  have := length_eq h 0 (i := 0) (j := p.Tokens.length) (by omega) (by omega)
  simp only [Int.natCast_zero] at this
  rw [this]
  simp only [Option.bind_some, aim_prog]
  rfl
theorem pth_bd {n : Nat} {fit : Nat → Nat → Bool} {c : Nat → Nat → Int} {K : Int} (hc : ∀ i j, 0 ≤ c i j ∧ c i j ≤ K) : ∀ {r i : Nat} {x : Int}, Pth n fit c r i x → 0 ≤ x ∧ x ≤ (r : Int) * K := by
  intro r i x h
  induction h with
  | nil => simp
  | @cons r i j x _ _ _ _ ih =>
    have := hc i j
    have e : ((r + 1 : Nat) : Int) * K = (r : Int) * K + K := by rw [Int.natCast_add, Int.add_mul]; omega
    omega
abbrev PP (p : A_Paragraph) := Pth p.Tokens.length (fitP p) (cPr p)
abbrev PA (p : A_Paragraph) := AtM p.Tokens.length (fitP p) (cPr p)
theorem pp_bd {p : A_Paragraph} {r i : Nat} {x : Int} (h : PP p r i x) : 0 ≤ x ∧ x ≤ (r : Int) * 33000000 := pth_bd (cPr_le p) h
theorem lst_bd {p : A_Paragraph} {r i : Nat} {v : Int} (hr : r ≤ 8) (h : Lst (PP p r i) v) : -1 ≤ v ∧ v ≤ 264000000 := by
  by_cases hv : v = -1
  · omega
  · have h1 := h.mem hv
    have h2 := pp_bd h1.2.1
    omega
theorem lstA_bd {p : A_Paragraph} {r i : Nat} {v : Int} (hr : r ≤ 8) (h : Lst (PA p r i) v) : -1 ≤ v ∧ v ≤ 264000000 := by
  by_cases hv : v = -1
  · omega
  · obtain ⟨h1, ⟨s, hs, h2⟩, _⟩ := h.mem hv
    have h2 := pp_bd h2
    omega
def RowOK (p : A_Paragraph) (r : Nat) (row : List Int) : Prop := row.length = p.Tokens.length + 1 ∧ ∀ i, i ≤ p.Tokens.length → ∃ v, row[i]? = some v ∧ Lst (PP p r i) v
theorem getI {α : Type} {l : List α} {i : Nat} {v : α} (h : l[i]? = some v) : atI l (i : Int) = some v := by
  obtain ⟨h1, h2⟩ := List.getElem?_eq_some_iff.1 h
  rw [atI_nat h1, h2]
theorem ex_inner {p : A_Paragraph} (hv : Pv p) {r i : Nat} (hr : 1 ≤ r) (hr4 : r ≤ 8) (hi : i ≤ p.Tokens.length) {m : List (List Int)} {prev row z : List Int} (hm : m[r - 1]? = some prev) (hp : RowOK p (r - 1) prev) (hrow : row.length = p.Tokens.length + 1) :
    ∃ e, iter (g_rowbreak_sheet_exact_s3 (shP p (aimP p)) (p.Tokens.length : Int) ((r : Int), m) ((i : Int), z)) ((i : Int) + 1, row.set i (-1)) = some e ∧ ∃ v, e = row.set i v ∧ Lst (PP p r i) v := by
  have hn := hv.ok.toks
  refine iter_post (fun x => ∃ (J : Nat) (v : Int), x.1 = (J : Int) ∧ i < J ∧ J ≤ p.Tokens.length + 1 ∧ x.2 = row.set i v ∧ Lst (Cand (fitP p) (cPr p) (PP p (r - 1)) i J) v ∧ -1 ≤ v ∧ v ≤ 264000000) (fun x => p.Tokens.length + 1 - x.1.toNat) (fun e => ∃ v, e = row.set i v ∧ Lst (PP p r i) v) ⟨i + 1, -1, rfl, by omega, by omega, rfl, cand_start _ _, by omega, by omega⟩ (by show p.Tokens.length + 1 - _ < _; omega) ?_
  rintro ⟨x, rw'⟩ ⟨J, v, hx, hiJ, hJ, hrw, hL, hb1, hb2⟩
  dsimp only at hx hrw ⊢
  subst hx hrw
  unfold g_rowbreak_sheet_exact_s3
  dsimp only
  have hfin : (J ≤ p.Tokens.length → fitP p i J = false) → ∃ e, some (Nx.out (row.set i v) : Nx (Int × List Int) (List Int)) = some (.out e) ∧ ∃ v, e = row.set i v ∧ Lst (PP p r i) v := fun hf => by
    refine ⟨_, rfl, v, rfl, ?_⟩
    have := cand_end (n := p.Tokens.length) hJ (fun hle k hk1 hk2 => fit_mono hv hiJ hk1 hk2 (hf hle)) hL
    obtain ⟨r', rfl⟩ : ∃ r', r = r' + 1 := ⟨r - 1, by omega⟩
    exact this.congr fun x => pth_succ.symm
  by_cases hle : J ≤ p.Tokens.length
  · rw [if_pos (show decide ((J : Int) ≤ (p.Tokens.length : Int)) = true by simpa using hle), fits_eq hv.ok _ hi hle]
    simp only [Option.bind_some]
    cases hf : fitP p i J
    · right
      exact hfin fun _ => hf
    · left
      simp only [if_true]
      rw [wr64 (x := (r : Int) - 1) (by omega), show ((r : Int) - 1) = ((r - 1 : Nat) : Int) by omega, getI hm]
      simp only [Option.bind_some]
      rw [if_pos (by omega)]
      obtain ⟨w, hw, hLw⟩ := hp.2 J hle
      have hwb := lst_bd (by omega) hLw
      rw [getI hw, wr64 (x := (J : Int) + 1) (by omega)]
      simp only [Option.bind_some]
      have hstep := cand_step hiJ hf (cPr_le p i J).1 hL hLw
      by_cases h1 : w = -1
      · rw [if_pos (by simpa using h1)]
        rw [if_pos h1] at hstep
        exact ⟨_, rfl, ⟨J + 1, v, rfl, by omega, by omega, rfl, hstep, hb1, hb2⟩, by dsimp only; omega⟩
      · rw [if_neg (by simpa using h1), cost_eq hv.ok hiJ hle]
        rw [if_neg h1] at hstep
        simp only [Option.bind_some]
        have hat : (row.set i v)[i]? = some v := by rw [List.getElem?_set, if_pos rfl, if_pos (by omega)]
        have hc := cPr_le p i J
        have hps := hLw.mem h1
        have hpb := pp_bd hps.2.1
        rw [getI hat, wr64 (x := cPr p i J + w) (by omega)]
        simp only [Option.bind_some]
        have hcw : cPr p i J + w ≤ 264000000 := by
          have : ((r - 1 : Nat) : Int) ≤ 7 := by omega
          omega
        by_cases h2 : v = -1 ∨ cPr p i J + w < v
        · rw [if_pos h2] at hstep
          have hcond : (if (v == -1) = true then some true else some (decide (cPr p i J + w < v)) : Option Bool) = some true := by
            rcases h2 with h2 | h2
            · simp [h2]
            · simp [h2]
          rw [hcond]
          simp only [Option.bind_some, if_true]
          rw [setI_nat _ (by rw [List.length_set]; omega), List.set_set]
          exact ⟨_, rfl, ⟨J + 1, cPr p i J + w, rfl, by omega, by omega, rfl, hstep, by omega, hcw⟩, by dsimp only; omega⟩
        · rw [if_neg h2] at hstep
          have hcond : (if (v == -1) = true then some true else some (decide (cPr p i J + w < v)) : Option Bool) = some false := by
            have a1 : ¬ v = -1 := fun e => h2 (.inl e)
            have a2 : ¬ cPr p i J + w < v := fun e => h2 (.inr e)
            simp [a1, a2]
          rw [hcond]
          simp only [Option.bind_some, Bool.false_eq_true, if_false]
          exact ⟨_, rfl, ⟨J + 1, v, rfl, by omega, by omega, rfl, hstep, hb1, hb2⟩, by dsimp only; omega⟩
  · right
    rw [if_neg (by simpa using hle)]
    simp only [Option.bind_some, Bool.false_eq_true, if_false]
    exact hfin fun h => absurd h hle
theorem ex_row {p : A_Paragraph} (hv : Pv p) {r : Nat} (hr : 1 ≤ r) (hr4 : r ≤ 8) {m : List (List Int)} {prev m0 : List Int} (hm : m[r - 1]? = some prev) (hp : RowOK p (r - 1) prev) (h0 : m0.length = p.Tokens.length + 1) :
    ∃ e, iter (g_rowbreak_sheet_exact_s2 (shP p (aimP p)) (p.Tokens.length : Int) ((r : Int), m) m0) (0, m0) = some e ∧ RowOK p r e := by
  have hn := hv.ok.toks
  refine iter_post (fun x => ∃ i : Nat, x.1 = (i : Int) ∧ i ≤ p.Tokens.length + 1 ∧ x.2.length = p.Tokens.length + 1 ∧ ∀ k, k < i → ∃ v, x.2[k]? = some v ∧ Lst (PP p r k) v) (fun x => p.Tokens.length + 1 - x.1.toNat) (RowOK p r) (x := (0, m0)) ⟨0, rfl, by omega, h0, fun k hk => by omega⟩ (by show p.Tokens.length + 1 - _ < _; omega) ?_
  rintro ⟨x, row⟩ ⟨i, hx, hi, hl, hk⟩
  dsimp only at hx hl hk ⊢
  subst hx
  unfold g_rowbreak_sheet_exact_s2
  dsimp only
  rw [h0]
  by_cases hlt : i ≤ p.Tokens.length
  · left
    rw [if_pos (by simp; omega), atI_nat (by omega), setI_nat _ (by omega)]
    simp only [Option.bind_some]
    rw [if_neg (by simp; omega), wr64 (x := (i : Int) + 1) (by omega)]
    obtain ⟨e, he, v, rfl, hL⟩ := ex_inner hv hr hr4 hlt (z := row) hm hp hl
    rw [he]
    refine ⟨_, rfl, ⟨i + 1, rfl, by omega, by rw [List.length_set]; exact hl, fun k hk2 => ?_⟩, by dsimp only; omega⟩
    by_cases e : k = i
    · subst e
      exact ⟨v, by rw [List.getElem?_set, if_pos rfl, if_pos (by omega)], hL⟩
    · obtain ⟨w, hw, hLw⟩ := hk k (by omega)
      exact ⟨w, by rw [List.getElem?_set, if_neg (by omega)]; exact hw, hLw⟩
  · right
    rw [if_neg (by simp; omega)]
    exact ⟨_, rfl, hl, fun k hk2 => hk k (by omega)⟩
theorem ex_row0 {p : A_Paragraph} (hv : Pv p) {m : List (List Int)} {m0 : List Int} (h0 : m0.length = p.Tokens.length + 1) :
    ∃ e, iter (g_rowbreak_sheet_exact_s2 (shP p (aimP p)) (p.Tokens.length : Int) (0, m) m0) (0, m0) = some e ∧ e.length = p.Tokens.length + 1 ∧ ∀ k, k ≤ p.Tokens.length → e[k]? = some (-1) := by
  have hn := hv.ok.toks
  refine iter_post (fun x => ∃ i : Nat, x.1 = (i : Int) ∧ i ≤ p.Tokens.length + 1 ∧ x.2.length = p.Tokens.length + 1 ∧ ∀ k, k < i → x.2[k]? = some (-1)) (fun x => p.Tokens.length + 1 - x.1.toNat) (fun (e : List Int) => e.length = p.Tokens.length + 1 ∧ ∀ k, k ≤ p.Tokens.length → e[k]? = some (-1)) (x := (0, m0)) ⟨0, rfl, by omega, h0, fun k hk => by omega⟩ (by show p.Tokens.length + 1 - _ < _; omega) ?_
  rintro ⟨x, row⟩ ⟨i, hx, hi, hl, hk⟩
  dsimp only at hx hl hk ⊢
  subst hx
  unfold g_rowbreak_sheet_exact_s2
  dsimp only
  rw [h0]
  by_cases hlt : i ≤ p.Tokens.length
  · left
    rw [if_pos (by simp; omega), atI_nat (by omega), setI_nat _ (by omega)]
    simp only [Option.bind_some]
    rw [if_pos (by rfl), wr64 (x := (i : Int) + 1) (by omega)]
    refine ⟨_, rfl, ⟨i + 1, rfl, by omega, by rw [List.length_set]; exact hl, fun k hk2 => ?_⟩, by dsimp only; omega⟩
    by_cases e : k = i
    · subst e
      rw [List.getElem?_set, if_pos rfl, if_pos (by omega)]
    · rw [List.getElem?_set, if_neg (by omega)]
      exact hk k (by omega)
  · right
    rw [if_neg (by simp; omega)]
    exact ⟨_, rfl, hl, fun k hk2 => hk k (by omega)⟩
def TabOK (p : A_Paragraph) (R : Nat) (f : List (List Int)) : Prop := f.length = R + 1 ∧ ∀ r, r ≤ R → ∃ row, f[r]? = some row ∧ RowOK p r row
theorem exact_key {p : A_Paragraph} (hv : Pv p) {R : Nat} (hrw : R ≤ 4) : ∃ f, iter (g_rowbreak_sheet_exact_s1 (shP p (aimP p)) (p.Tokens.length : Int) (List.replicate (R + 1) ([] : List Int))) (0, List.replicate (R + 1) ([] : List Int)) = some f ∧ TabOK p R f := by
  have hn := hv.ok.toks
  refine iter_post (fun x => ∃ r : Nat, x.1 = (r : Int) ∧ r ≤ R + 1 ∧ x.2.length = R + 1 ∧ ∀ k, k < r → ∃ row, x.2[k]? = some row ∧ RowOK p k row) (fun x => R + 1 - x.1.toNat) (TabOK p R) (x := (0, _)) ⟨0, rfl, by omega, by simp, fun k hk => by omega⟩ (by show R + 1 - _ < _; omega) ?_
  rintro ⟨x, m⟩ ⟨r, hx, hr, hl, hk⟩
  dsimp only at hx hl hk ⊢
  subst hx
  unfold g_rowbreak_sheet_exact_s1
  dsimp only
  by_cases hlt : r ≤ R
  · left
    rw [if_pos (by simp; omega), wr64 (x := (p.Tokens.length : Int) + 1) (by omega), show ((p.Tokens.length : Int) + 1) = ((p.Tokens.length + 1 : Nat) : Int) by omega, mkI_nat 8 (p.Tokens.length + 1) _ (by omega) (by omega)]
    simp only [Option.bind_some]
    rw [atI_nat (show r < m.length by omega)]
    simp only [Option.bind_some]
    have hset : ∀ row, RowOK p r row → (∃ r' : Nat, ((r : Int) + 1) = (r' : Int) ∧ r' ≤ R + 1 ∧ (m.set (r : Int).toNat row).length = R + 1 ∧ ∀ k, k < r' → ∃ row', (m.set (r : Int).toNat row)[k]? = some row' ∧ RowOK p k row') := fun row hrow => by
      refine ⟨r + 1, by omega, by omega, by rw [List.length_set]; exact hl, fun k hk2 => ?_⟩
      rw [Int.toNat_natCast]
      by_cases e : k = r
      · subst e
        exact ⟨row, by rw [List.getElem?_set, if_pos rfl, if_pos (by omega)], hrow⟩
      · obtain ⟨w, hw, hLw⟩ := hk k (by omega)
        exact ⟨w, by rw [List.getElem?_set, if_neg (by omega)]; exact hw, hLw⟩
    have hzl : (List.replicate (p.Tokens.length + 1) (0 : Int)).length = p.Tokens.length + 1 := by simp
    rw [wr64 (x := (r : Int) + 1) (by omega)]
    by_cases hr0 : r = 0
    · subst hr0
      obtain ⟨e, he, hel, hall⟩ := ex_row0 hv (m := m) hzl
      simp only [Int.natCast_zero] at hset ⊢
      rw [he]
      simp only [Option.bind_some, beq_self_eq_true, if_true]
      have a0 := atI_nat (l := m) (n := 0) (by omega)
      simp only [Int.natCast_zero] at a0
      rw [a0]
      simp only [Option.bind_some]
      rw [atI_nat (show p.Tokens.length < e.length by omega), setI_nat _ (by omega)]
      simp only [Option.bind_some]
      refine ⟨_, rfl, hset _ ⟨by rw [List.length_set]; exact hel, fun i hi => ?_⟩, by dsimp only; omega⟩
      by_cases e2 : i = p.Tokens.length
      · subst e2
        exact ⟨0, by rw [List.getElem?_set, if_pos rfl, if_pos (by omega)], .inr ⟨by omega, .nil, fun x hx => by rw [(pth_zero.1 hx).2]; omega⟩⟩
      · exact ⟨-1, by rw [List.getElem?_set, if_neg (by omega)]; exact hall i hi, .inl ⟨rfl, fun x hx => e2 (pth_zero.1 hx).1⟩⟩
    · obtain ⟨prev, hpv, hpr⟩ := hk (r - 1) (by omega)
      obtain ⟨e, he, hel⟩ := ex_row hv (r := r) (by omega) (by omega) hpv hpr hzl
      rw [he]
      simp only [Option.bind_some]
      rw [if_neg (by simp; omega)]
      exact ⟨_, rfl, hset _ hel, by dsimp only; omega⟩
  · right
    rw [if_neg (by simp; omega)]
    exact ⟨_, rfl, hl, fun k hk2 => hk k (by omega)⟩
theorem exact_eq {p : A_Paragraph} (hv : Pv p) : ∃ f, g_rowbreak_sheet_exact (shP p (aimP p)) = some f ∧ TabOK p p.Rows.toNat f := by
  have hn := hv.ok.toks
  have hrw := hv.rows
  obtain ⟨R, hR⟩ : ∃ R : Nat, p.Rows = (R : Int) := ⟨p.Rows.toNat, by omega⟩
  obtain ⟨f, h1, h2⟩ := exact_key hv (R := R) (by omega)
  refine ⟨f, ?_, by rw [hR]; exact h2⟩
  have e1 : (shP p (aimP p)).p_ = p := rfl
  have e2 : IntKind.i64.wrap (p.Rows + 1) = ((R + 1 : Nat) : Int) := by rw [wr64 (by omega)]; omega
  simp only [g_rowbreak_sheet_exact, g_rowbreak_sheet_n, e1, e2, Option.bind_some, mkI_nat 24 (R + 1) ([] : List Int) (by omega) (by omega), h1]
theorem idx_bd {n k i : Nat} (hn : n ≤ 8) (hk : k ≤ 5) (hi : i ≤ n) : k * (n + 1) + i ≤ 100 := by
  have := Nat.mul_le_mul hk (show n + 1 ≤ 9 by omega)
  omega
def PotAt (p : A_Paragraph) (R : Nat) (l : List Int) (k i : Nat) : Prop := ∃ v, l[k * (p.Tokens.length + 1) + i]? = some v ∧ Lst (PA p (R - k) i) v
def PotOK (p : A_Paragraph) (R : Nat) (l : List Int) : Prop := l.length = (R + 1) * (p.Tokens.length + 1) ∧ ∀ k i, k ≤ R → i ≤ p.Tokens.length → PotAt p R l k i
def fE (f : List (List Int)) (r i : Nat) : Int := ((f[r]?.getD [])[i]?).getD (-1)
theorem fE_ok {p : A_Paragraph} {R : Nat} {f : List (List Int)} (h : TabOK p R f) : ∀ r i, r ≤ R → i ≤ p.Tokens.length → Lst (Pth p.Tokens.length (fitP p) (cPr p) r i) (fE f r i) := fun r i hr hi => by
  obtain ⟨row, h1, h2⟩ := h.2 r hr
  obtain ⟨v, h3, h4⟩ := h2.2 i hi
  unfold fE
  rw [h1, Option.getD_some, h3, Option.getD_some]
  exact h4
theorem fE_at {p : A_Paragraph} {R : Nat} {f : List (List Int)} (h : TabOK p R f) {r i : Nat} (hr : r ≤ R) (hi : i ≤ p.Tokens.length) : ∃ row, atI f (r : Int) = some row ∧ atI row (i : Int) = some (fE f r i) := by
  obtain ⟨row, h1, h2⟩ := h.2 r hr
  obtain ⟨v, h3, h4⟩ := h2.2 i hi
  refine ⟨row, getI h1, ?_⟩
  unfold fE
  rw [h1, Option.getD_some, h3, Option.getD_some]
  exact getI h3
def fA (l : List Int) (n R m i : Nat) : Int := (l[(R - m) * (n + 1) + i]?).getD (-1)
theorem fA_ok {p : A_Paragraph} {R : Nat} {l : List Int} (h : PotOK p R l) : ∀ m i, m ≤ R → i ≤ p.Tokens.length → Lst (AtM p.Tokens.length (fitP p) (cPr p) m i) (fA l p.Tokens.length R m i) := fun m i hm hi => by
  obtain ⟨v, h1, h2⟩ := h.2 (R - m) i (by omega) hi
  unfold fA
  rw [h1, Option.getD_some]
  rw [show R - (R - m) = m by omega] at h2
  exact h2
theorem fA_at {p : A_Paragraph} {R : Nat} {l : List Int} (h : PotOK p R l) {m i : Nat} (hm : m ≤ R) (hi : i ≤ p.Tokens.length) : atI l (((R - m) * (p.Tokens.length + 1) + i : Nat) : Int) = some (fA l p.Tokens.length R m i) := by
  obtain ⟨v, h1, h2⟩ := h.2 (R - m) i (by omega) hi
  unfold fA
  rw [h1, Option.getD_some]
  exact getI h1
theorem least_row {p : A_Paragraph} (hv : Pv p) {R k i : Nat} (hk : k ≤ R) (hR : R ≤ 4) {f : List (List Int)} (hf : TabOK p R f) (hi : i ≤ p.Tokens.length) {z : List Int} :
    ∃ e, iter (g_rowbreak_Break_s3 ((i : Int), z) (f.take (R - k + 1))) (-1, 0) = some e ∧ Lst (PA p (R - k) i) e := by
  have hlen : (f.take (R - k + 1)).length = R - k + 1 := by rw [List.length_take, hf.1]; omega
  refine iter_post (fun x => ∃ t : Nat, x.2 = (t : Int) ∧ t ≤ R - k + 1 ∧ ((t = 0 ∧ x.1 = -1) ∨ ∃ t', t = t' + 1 ∧ Lst (PA p t' i) x.1)) (fun x => R - k + 1 - x.2.toNat) (fun e => Lst (PA p (R - k) i) e) (x := (-1, 0)) ⟨0, rfl, by omega, .inl ⟨rfl, rfl⟩⟩ (by show R - k + 1 - _ < _; omega) ?_
  rintro ⟨b, x⟩ ⟨t, hx, ht, hb⟩
  dsimp only at hx hb ⊢
  subst hx
  unfold g_rowbreak_Break_s3
  dsimp only
  rw [hlen]
  by_cases hlt : t < R - k + 1
  · left
    obtain ⟨row, h1, h2⟩ := fE_at hf (r := t) (i := i) (by omega) hi
    have hE := fE_ok hf t i (by omega) hi
    have hbd := lst_bd (by omega) hE
    have h1' : atI (f.take (R - k + 1)) (t : Int) = some row := by
      rw [atI_nat (by omega), List.getElem_take]
      rw [atI_nat (by rw [hf.1]; omega)] at h1
      exact h1
    rw [if_pos (by simp; omega), h1', wr64 (x := (t : Int) + 1) (by omega)]
    simp only [Option.bind_some]
    rw [h2]
    simp only [Option.bind_some]
    generalize fE f t i = v at *
    have hnew : Lst (PA p t i) (if v = -1 then b else if b = -1 ∨ v < b then v else b) := by
      rcases hb with ⟨rfl, rfl⟩ | ⟨t', rfl, hL⟩
      · have h0 := atm_0 hE
        by_cases e : v = -1
        · rw [if_pos e]; rw [e] at h0; exact h0
        · rw [if_neg e, if_pos (.inl rfl)]; exact h0
      · exact atm_join hL hE
    have hcond : (if (v != -1) = true then if (b == -1) = true then some true else some (decide (v < b)) else some false : Option Bool) = some (decide (v ≠ -1 ∧ (b = -1 ∨ v < b))) := by
      by_cases e1 : v = -1
      · simp [e1]
      · by_cases e2 : b = -1
        · simp [e1, e2]
        · simp [e1, e2]
    rw [hcond]
    simp only [Option.bind_some]
    by_cases e1 : v = -1
    · rw [if_pos e1] at hnew
      rw [if_neg (by simp [e1])]
      exact ⟨_, rfl, ⟨t + 1, rfl, by omega, .inr ⟨t, rfl, hnew⟩⟩, by dsimp only; omega⟩
    · rw [if_neg e1] at hnew
      by_cases e2 : b = -1 ∨ v < b
      · rw [if_pos e2] at hnew
        rw [if_pos (by simp [e1, e2])]
        exact ⟨_, rfl, ⟨t + 1, rfl, by omega, .inr ⟨t, rfl, hnew⟩⟩, by dsimp only; omega⟩
      · rw [if_neg e2] at hnew
        rw [if_neg (by simp [e1]; omega)]
        exact ⟨_, rfl, ⟨t + 1, rfl, by omega, .inr ⟨t, rfl, hnew⟩⟩, by dsimp only; omega⟩
  · right
    rw [if_neg (by simp; omega)]
    refine ⟨_, rfl, ?_⟩
    rcases hb with ⟨rfl, _⟩ | ⟨t', rfl, hL⟩
    · omega
    · rw [show R - k = t' by omega]; exact hL
def PotTo (p : A_Paragraph) (R k i : Nat) (l : List Int) : Prop := l.length = k * (p.Tokens.length + 1) + i ∧ ∀ k' i', k' ≤ R → i' ≤ p.Tokens.length → (k' < k ∨ k' = k ∧ i' < i) → PotAt p R l k' i'
theorem pots_row {p : A_Paragraph} (hv : Pv p) {R k : Nat} (hR : p.Rows = (R : Int)) (hk : k ≤ R) {f : List (List Int)} (hf : TabOK p R f) {y : List Int} (hy : y.length = p.Tokens.length + 1) {l0 : List Int} (h0 : PotTo p R k 0 l0) :
    ∃ e, iter (g_rowbreak_Break_s2 p f ((k : Int), l0) y) (0, l0) = some e ∧ PotTo p R (k + 1) 0 e := by
  have hn := hv.ok.toks
  have hrw := hv.rows
  refine iter_post (fun x => ∃ i : Nat, x.1 = (i : Int) ∧ i ≤ p.Tokens.length + 1 ∧ PotTo p R k i x.2) (fun x => p.Tokens.length + 1 - x.1.toNat) (PotTo p R (k + 1) 0) (x := (0, l0)) ⟨0, rfl, by omega, h0⟩ (by show p.Tokens.length + 1 - _ < _; omega) ?_
  rintro ⟨x, l⟩ ⟨i, hx, hi, hl⟩
  dsimp only at hx hl ⊢
  subst hx
  unfold g_rowbreak_Break_s2
  dsimp only
  rw [hy]
  by_cases hlt : i ≤ p.Tokens.length
  · left
    have hb := idx_bd hn (show k ≤ 5 by omega) hlt
    obtain ⟨v, he, hL⟩ := least_row hv hk (by omega) hf hlt (z := l)
    have hsub : subH f (IntKind.i64.wrap (IntKind.i64.wrap (p.Rows - (k : Int)) + 1)) = some (f.take (R - k + 1)) := by
      rw [hR, wr64 (x := (R : Int) - k) (by omega), wr64 (by omega)]
      unfold subH
      rw [if_pos (by have := hf.1; omega)]
      congr 2
      omega
    rw [if_pos (by simp; omega), hsub]
    simp only [Option.bind_some]
    rw [he]
    simp only [Option.bind_some]
    rw [if_pos (by rw [hl.1]; omega), wr64 (x := (i : Int) + 1) (by omega)]
    refine ⟨_, rfl, ⟨i + 1, rfl, by omega, by simp [hl.1]; omega, fun k' i' h1 h2 h3 => ?_⟩, by dsimp only; omega⟩
    by_cases e : k' = k ∧ i' = i
    · obtain ⟨rfl, rfl⟩ := e
      exact ⟨v, by dsimp only; rw [List.getElem?_append_right (by rw [hl.1]; omega), hl.1]; simp, hL⟩
    · obtain ⟨w, hw, hLw⟩ := hl.2 k' i' h1 h2 (by omega)
      refine ⟨w, ?_, hLw⟩
      dsimp only
      rw [List.getElem?_append_left (List.getElem?_eq_some_iff.1 hw).1]
      exact hw
  · right
    rw [if_neg (by simp; omega)]
    refine ⟨_, rfl, ?_, fun k' i' h1 h2 h3 => hl.2 k' i' h1 h2 (by omega)⟩
    rw [hl.1, Nat.add_mul]; omega
theorem pots_key {p : A_Paragraph} (hv : Pv p) {R : Nat} (hR : p.Rows = (R : Int)) {f : List (List Int)} (hf : TabOK p R f) : ∃ e, iter (g_rowbreak_Break_s1 p f) (0, []) = some e ∧ PotOK p R e := by
  have hn := hv.ok.toks
  have hrw := hv.rows
  have hfl := hf.1
  refine iter_post (fun x => ∃ k : Nat, x.1 = (k : Int) ∧ k ≤ R + 1 ∧ PotTo p R k 0 x.2) (fun x => R + 1 - x.1.toNat) (PotOK p R) (x := (0, [])) ⟨0, rfl, by omega, by simp, fun k' i' _ _ h => by omega⟩ (by show R + 1 - _ < _; omega) ?_
  rintro ⟨x, l⟩ ⟨k, hx, hk, hl⟩
  dsimp only at hx hl ⊢
  subst hx
  unfold g_rowbreak_Break_s1
  dsimp only
  rw [hfl]
  by_cases hlt : k ≤ R
  · left
    obtain ⟨row, h1, h2⟩ := hf.2 0 (by omega)
    have h1 := getI h1
    simp only [Int.natCast_zero] at h1
    obtain ⟨e, he, hl2⟩ := pots_row hv hR hlt hf h2.1 hl
    rw [if_pos (by simp; omega), h1, wr64 (x := (k : Int) + 1) (by omega)]
    simp only [Option.bind_some]
    rw [he]
    exact ⟨_, rfl, ⟨k + 1, rfl, by omega, hl2⟩, by dsimp only; omega⟩
  · right
    obtain rfl : k = R + 1 := by omega
    rw [if_neg (by simp)]
    exact ⟨_, rfl, by rw [hl.1]; omega, fun k' i' h1 h2 => hl.2 k' i' h1 h2 (by omega)⟩
theorem rows_key {p : A_Paragraph} (hv : Pv p) {R : Nat} (hR : p.Rows = (R : Int)) {f : List (List Int)} (hf : TabOK p R f) {y : Int} (hy : Lst (PA p R 0) y) (h1 : y ≠ -1) :
    ∃ r : Nat, iter (g_rowbreak_Break_s4 f y) 0 = some (r : Int) ∧ 1 ≤ r ∧ r ≤ R ∧ fE f r 0 = y ∧ Tight (fE f) r 0 := by
  have hn := hv.ok.toks
  have hrw := hv.rows
  have hne : 1 ≤ p.Tokens.length := List.length_pos_iff.2 hv.ne
  have hE := fE_ok hf
  obtain ⟨hy0, ⟨s, hs, hps⟩, hmin⟩ := hy.mem h1
  have hex : fE f s 0 = y := by
    have a := (hE s 0 hs (by omega)).has hps
    have b := (hE s 0 hs (by omega)).mem a.1
    have c := hmin _ ⟨s, hs, b.2.1⟩
    have := a.2.2; omega
  have key : ∃ e, iter (g_rowbreak_Break_s4 f y) 0 = some e ∧ ∃ r : Nat, e = (r : Int) ∧ r ≤ R ∧ fE f r 0 = y ∧ ∀ t, t < r → fE f t 0 ≠ y := by
    refine iter_post (fun x => ∃ r : Nat, x = (r : Int) ∧ r ≤ s ∧ ∀ t, t < r → fE f t 0 ≠ y) (fun x => R + 1 - x.toNat) (fun e => ∃ r : Nat, e = (r : Int) ∧ r ≤ R ∧ fE f r 0 = y ∧ ∀ t, t < r → fE f t 0 ≠ y) (x := 0) ⟨0, rfl, by omega, fun t ht => by omega⟩ (by show R + 1 - _ < _; omega) ?_
    rintro x ⟨r, rfl, hr, ht⟩
    unfold g_rowbreak_Break_s4
    obtain ⟨row, a1, a2⟩ := fE_at hf (r := r) (i := 0) (by omega) (by omega)
    simp only [Int.natCast_zero] at a2
    rw [a1]
    simp only [Option.bind_some]
    rw [a2]
    simp only [Option.bind_some]
    by_cases e : fE f r 0 = y
    · right
      rw [if_neg (by simpa using e)]
      exact ⟨_, rfl, r, rfl, by omega, e, ht⟩
    · left
      rw [if_pos (by simpa using e), wr64 (by omega)]
      have : r ≠ s := fun q => e (by rw [q]; exact hex)
      refine ⟨_, rfl, ⟨r + 1, rfl, by omega, fun t h => ?_⟩, by omega⟩
      by_cases q : t = r
      · rw [q]; exact e
      · exact ht t (by omega)
  obtain ⟨e, h2, r, rfl, h3, h4, h5⟩ := key
  refine ⟨r, h2, ?_, h3, h4, ?_⟩
  · rcases Nat.eq_zero_or_pos r with q | q
    · subst q
      have := ((hE 0 0 (by omega) (by omega)).mem (by rw [h4]; exact h1)).2.1
      have := (pth_zero.1 this).1
      omega
    · exact q
  · refine ⟨by rw [h4]; exact h1, fun t ht => ?_⟩
    by_cases q : fE f t 0 = -1
    · exact .inl q
    · right
      have a := (hE t 0 (by omega) (by omega)).mem q
      have b := hmin _ ⟨t, by omega, a.2.1⟩
      have := h5 t ht
      rw [h4]; omega
def inl (L : List Nat) : List Int := L.map fun (j : Nat) => (j : Int)
theorem ends_inner {p : A_Paragraph} (hv : Pv p) {R : Nat} (hR : R ≤ 4) {f : List (List Int)} (hf : TabOK p R f) {r i j : Nat} (hr : r + 1 ≤ R) (hij : i < j) (hj : j ≤ p.Tokens.length) (hok : OkS (fitP p) (cPr p) (fE f) r i j) (hno : ∀ k, i < k → k < j → ¬ OkS (fitP p) (cPr p) (fE f) r i k) {z : List Int} :
    ∃ e, iter (g_rowbreak_Break_s6 (shP p (aimP p)) f (((r + 1 : Nat) : Int), (i : Int), z)) ((i : Int) + 1) = some e ∧ e.1 = (j : Int) := by
  have hn := hv.ok.toks
  have hE := fE_ok hf
  refine iter_post (fun x => ∃ k : Nat, x = (k : Int) ∧ i < k ∧ k ≤ j) (fun x => j + 1 - x.toNat) (fun e => Prod.fst e = (j : Int)) ⟨i + 1, rfl, by omega, by omega⟩ (by show j + 1 - _ < _; omega) ?_
  rintro x ⟨k, rfl, hk1, hk2⟩
  unfold g_rowbreak_Break_s6
  dsimp only
  rw [fits_eq hv.ok _ (by omega) (by omega)]
  simp only [Option.bind_some]
  obtain ⟨row, a1, a2⟩ := fE_at hf (r := r) (i := k) (by omega) (by omega)
  obtain ⟨row', b1, b2⟩ := fE_at hf (r := r + 1) (i := i) (by omega) (by omega)
  have hbd := lst_bd (by omega) (hE r k (by omega) (by omega))
  have hc := cPr_le p i k
  rw [wr64 (x := ((r + 1 : Nat) : Int) - 1) (by omega), show ((r + 1 : Nat) : Int) - 1 = (r : Int) by omega, wr64 (x := (k : Int) + 1) (by omega), a1]
  simp only [Option.bind_some]
  rw [a2]
  simp only [Option.bind_some]
  rw [cost_eq hv.ok hk1 (by omega), b1]
  simp only [Option.bind_some]
  rw [b2]
  simp only [Option.bind_some]
  rw [wr64 (x := cPr p i k + fE f r k) (by omega)]
  by_cases e : k = j
  · right
    subst e
    rw [if_pos hok.1, if_neg (by simpa using hok.2.1), if_neg (by simpa using hok.2.2)]
    exact ⟨_, rfl, rfl⟩
  · left
    have hnk := hno k hk1 (by omega)
    refine ⟨((k + 1 : Nat) : Int), ?_, ⟨k + 1, rfl, by omega, by omega⟩, by omega⟩
    cases hf2 : fitP p i k
    · rfl
    · rw [if_pos rfl]
      by_cases q1 : fE f r k = -1
      · rw [if_pos (by simpa using q1)]; rfl
      · have q2 : cPr p i k + fE f r k ≠ fE f (r + 1) i := fun h => hnk ⟨hf2, q1, h⟩
        rw [if_neg (by simpa using q1), if_pos (by simpa using q2)]; rfl
theorem ends_prog {p : A_Paragraph} (hv : Pv p) {R : Nat} (hR : R ≤ 4) {f : List (List Int)} (hf : TabOK p R f) {r : Nat} {G : List Nat} (hr : r ≤ R) (hG : Gr p.Tokens.length (fitP p) (cPr p) (fE f) r 0 G) :
    iter (g_rowbreak_Break_s5 (shP p (aimP p)) f) ((r : Int), 0, []) = some (inl G) := by
  have hn := hv.ok.toks
  refine iter_of (fun x e => e = inl G ∧ ∃ (r i : Nat) (L : List Nat), x.1 = (r : Int) ∧ x.2.1 = (i : Int) ∧ r ≤ R ∧ i ≤ p.Tokens.length ∧ Gr p.Tokens.length (fitP p) (cPr p) (fE f) r i L ∧ x.2.2 ++ inl L = inl G ∧ x.2.2.length + r ≤ 4) (fun x => x.1.toNat) ?_ (x := ((r : Int), 0, [])) ⟨rfl, r, 0, G, rfl, rfl, hr, by omega, hG, rfl, by simp; omega⟩ (by show ((r : Int)).toNat < _; omega)
  rintro ⟨x, y, acc⟩ e ⟨rfl, r, i, L, hx, hy, hr, hi, hg, hacc, hl⟩
  dsimp only at hx hy hacc hl ⊢
  subst hx hy
  unfold g_rowbreak_Break_s5
  dsimp only
  cases hg with
  | nil =>
    right
    rw [if_neg (by simp), ← hacc]
    simp [inl]
  | @cons r i j L a1 a2 a3 a4 a5 =>
    left
    obtain ⟨e, he, hej⟩ := ends_inner hv hR hf hr a1 a2 a3 a4 (z := acc)
    rw [if_pos (by first | (simp; done) | (simp; omega)), wr64 (x := (i : Int) + 1) (by omega), he]
    simp only [Option.bind_some]
    rw [if_pos (by omega), hej, wr64 (by omega)]
    refine ⟨_, rfl, ⟨by first | rfl | trivial, r, j, L, by dsimp only; omega, rfl, by omega, a2, a5, ?_, by simp; omega⟩, by dsimp only; omega⟩
    dsimp only
    rw [← hacc]
    simp [inl]
inductive RPath (p : A_Paragraph) : Nat → List Nat → Prop
  | nil : RPath p p.Tokens.length []
  | cons {i j : Nat} {L : List Nat} : i < j → j ≤ p.Tokens.length → fitP p i j = true → RPath p j L → RPath p i (j :: L)
theorem gr_path {p : A_Paragraph} {E : Nat → Nat → Int} {r i : Nat} {L : List Nat} (h : Gr p.Tokens.length (fitP p) (cPr p) E r i L) : RPath p i L := by
  induction h with
  | nil => exact .nil
  | cons a1 a2 a3 _ _ ih => exact .cons a1 a2 a3.1 ih
def BrFin (p : A_Paragraph) (b : A_Breaks) : Prop := ckP p = 0 ∧ 0 ≤ b.Cost ∧ b.Cost ≤ 264000000 ∧ (∃ (r : Nat) (x : Int), (r : Int) ≤ p.Rows ∧ PP p r 0 x) ∧ ∃ G, b.Ends = inl G ∧ RPath p 0 G ∧ (G.length : Int) ≤ p.Rows
theorem Break_both {p : A_Paragraph} (h : Pok p) : ∃ b e, g_rowbreak_Break p = some (b, e) ∧ b.Ends.length ≤ 4 ∧ (e = 0 → BrFin p b) := by
  unfold g_rowbreak_Break
  rw [par_prog h]
  simp only [Option.bind_some]
  by_cases h0 : ckP p = 0
  rotate_left
  · rw [if_pos (by simpa using h0)]
    exact ⟨_, _, rfl, by simp, fun e => absurd e h0⟩
  rw [if_neg (by simpa using h0)]
  have hv := ckP_0 h h0
  have hn := h.toks
  have hrw := hv.rows
  obtain ⟨R, hR⟩ : ∃ R : Nat, p.Rows = (R : Int) := ⟨p.Rows.toNat, by omega⟩
  have hRn : p.Rows.toNat = R := by rw [hR]; rfl
  obtain ⟨f, hf, htab⟩ := exact_eq hv
  rw [hRn] at htab
  obtain ⟨l, hl', hpot⟩ := pots_key hv hR htab
  rw [open_eq h]
  simp only [Option.bind_some]
  rw [hf]
  simp only [Option.bind_some]
  rw [hl']
  simp only [Option.bind_some]
  have hA := fA_ok hpot R 0 (Nat.le_refl _) (by omega)
  have hat := fA_at hpot (m := R) (i := 0) (Nat.le_refl _) (by omega)
  rw [Nat.sub_self, Nat.zero_mul, Nat.zero_add] at hat
  simp only [Int.natCast_zero] at hat
  rw [hat]
  simp only [Option.bind_some]
  generalize fA l p.Tokens.length R R 0 = y at *
  have hyb := lstA_bd (by omega) hA
  by_cases hy : y = -1
  · rw [if_pos (by simpa using hy)]
    exact ⟨_, _, rfl, by simp, fun e => by cases e⟩
  · rw [if_neg (by simpa using hy)]
    obtain ⟨r, k1, k2, k3, k4, k5⟩ := rows_key hv hR htab hA hy
    obtain ⟨G, hG⟩ := gr_exists (R := R) (fE_ok htab) r 0 k3 (by omega) (by rw [k4]; exact hy)
    rw [k1]
    simp only [Option.bind_some]
    rw [ends_prog hv (by omega) htab k3 hG]
    refine ⟨_, _, rfl, by have := gr_len hG; simp [inl]; omega, fun _ => ⟨h0, by dsimp only; omega, by dsimp only; omega, ⟨r, y, by omega, ?_⟩, G, rfl, gr_path hG, by have := gr_len hG; omega⟩⟩
    have := (fE_ok htab r 0 k3 (by omega)).mem (by rw [k4]; exact hy)
    rw [k4] at this
    exact this.2.1
theorem sum_loop {α : Type} (l : List α) (tx : α → List UInt8) (len : List UInt8 → Option Int) (hn : l.length ≤ 8) (ht : ∀ a ∈ l, (tx a).length ≤ 140737488355328) (hlen : ∀ a ∈ l, len (tx a) = some (chL (tx a))) {step : Int × Int → Option (Nx (Int × Int) Int)}
    (hst : ∀ x, step x = (if (decide (x.2 < (l.length : Int))) then ((atI l x.2).bind fun y => ((len (tx y)).bind fun r => (some (.go ((IntKind.i64.wrap (x.1 + r)), (IntKind.i64.wrap (x.2 + 1))))))) else (some (.out x.1)))) :
    iter step (0, 0) = some ((l.map fun a => chL (tx a)).sum) := by
  refine iter_of (fun x e => e = (l.map fun a => chL (tx a)).sum ∧ ∃ i : Nat, x.2 = (i : Int) ∧ i ≤ l.length ∧ x.1 + ((l.drop i).map fun a => chL (tx a)).sum = (l.map fun a => chL (tx a)).sum ∧ -(i : Int) ≤ x.1 ∧ x.1 ≤ (i : Int) * 140737488355328) (fun x => l.length - x.2.toNat) ?_ (x := (0, 0)) ⟨rfl, 0, rfl, by omega, by simp, by simp, by simp⟩ (by show l.length - 0 < _; omega)
  rintro ⟨a, x⟩ e ⟨rfl, i, hx, hi, hs, h1, h2⟩
  dsimp only at hx hs h1 h2 ⊢
  subst hx
  rw [hst]
  dsimp only
  by_cases h : i < l.length
  · left
    have hb := chL_le _ (ht _ (List.getElem_mem h))
    rw [if_pos (by simpa using h), atI_nat h, wr64 (x := (i : Int) + 1) (by omega)]
    simp only [Option.bind_some]
    rw [hlen _ (List.getElem_mem h)]
    simp only [Option.bind_some]
    rw [wr64 (by omega)]
    rw [List.drop_eq_getElem_cons h, List.map_cons, List.sum_cons] at hs
    exact ⟨_, rfl, ⟨by first | rfl | trivial, i + 1, rfl, h, by dsimp only; omega, by dsimp only; omega, by dsimp only; omega⟩, by dsimp only; omega⟩
  · right
    rw [if_neg (by simpa using h)]
    rw [List.drop_eq_nil_of_le (by omega)] at hs
    simp at hs
    rw [hs]
theorem smP_sum (p : A_Paragraph) : ∀ k, k ≤ p.Tokens.length → smP p k = ((p.Tokens.take k).map fun t => chL t.Text).sum
  | 0, _ => by simp [smP]
  | k + 1, h => by
    rw [show smP p (k + 1) = smP p k + tlen p k from rfl, smP_sum p k (by omega), tlen_at p (by omega), List.take_add_one, List.getElem?_eq_getElem (by omega), List.map_append, List.sum_append]
    congr 1
    simp
theorem pp_room {p : A_Paragraph} (hw : 0 ≤ p.Width) : ∀ {r i : Nat} {x : Int}, PP p r i x → smP p p.Tokens.length - smP p i + ((p.Tokens.length : Int) - i) ≤ (r : Int) * (p.Width + 1) := by
  intro r i x h
  induction h with
  | nil => simp
  | @cons r i j x a1 a2 a3 a4 ih =>
    unfold fitP lnP at a3
    simp only [decide_eq_true_eq] at a3
    have e : ((r + 1 : Nat) : Int) * (p.Width + 1) = (r : Int) * (p.Width + 1) + (p.Width + 1) := by rw [Int.natCast_add, Int.add_mul]; omega
    omega
theorem ckWs_at : ∀ {a : Int} {l : List A_Word}, ckWs a l = 0 → ∀ i (h : i < l.length), (l[i].Text ≠ [] ∧ hasSp l[i].Text = false ∧ gv l[i].Text = true ∧ 0 ≤ l[i].Span.In ∧ l[i].Span.In < l[i].Span.Out ∧ l[i].Span.Out ≤ 5184000) ∧ (∀ h0 : 0 < i, (l[i - 1]'(by omega)).Span.Out ≤ l[i].Span.In) ∧ (i = 0 → a ≤ l[i].Span.In)
  | a, [], h, i, hi => by simp at hi
  | a, w :: l, h, i, hi => by
    unfold ckWs at h
    by_cases hw : ckW w a = 0
    · rw [if_neg (by omega)] at h
      have hwf : (w.Text ≠ [] ∧ hasSp w.Text = false ∧ gv w.Text = true ∧ 0 ≤ w.Span.In ∧ w.Span.In < w.Span.Out ∧ w.Span.Out ≤ 5184000) ∧ a ≤ w.Span.In := by
        unfold ckW at hw
        by_cases h1 : w.Text = [] ∨ hasSp w.Text = true
        · rw [if_pos h1] at hw; cases hw
        rw [if_neg h1] at hw
        by_cases h2 : gv w.Text = false
        · rw [if_pos h2] at hw; cases hw
        rw [if_neg h2] at hw
        by_cases h3 : w.Span.In < 0 ∨ w.Span.Out ≤ w.Span.In ∨ 5184000 < w.Span.Out
        · rw [if_pos h3] at hw; cases hw
        rw [if_neg h3] at hw
        by_cases h4 : w.Span.In < a
        · rw [if_pos h4] at hw; cases hw
        refine ⟨⟨fun e => h1 (.inl e), ?_, by simpa using h2, by omega, by omega, by omega⟩, by omega⟩
        cases hh : hasSp w.Text
        · rfl
        · exact absurd (.inr hh) h1
      cases i with
      | zero => exact ⟨hwf.1, fun h0 => by omega, fun _ => hwf.2⟩
      | succ i =>
        have ih := ckWs_at h i (by simpa using hi)
        refine ⟨ih.1, fun _ => ?_, fun e => by omega⟩
        cases i with
        | zero => exact ih.2.2 rfl
        | succ i => exact ih.2.1 (by omega)
    · rw [if_pos hw] at h; exact absurd h hw
theorem words_mono {a : Int} {l : List A_Word} (h : ckWs a l = 0) {i : Nat} : ∀ {j : Nat} (hij : i ≤ j) (hj : j < l.length), (l[i]'(by omega)).Span.In ≤ l[j].Span.In ∧ (l[i]'(by omega)).Span.Out ≤ l[j].Span.Out
  | 0, hij, hj => by
    obtain rfl : i = 0 := by omega
    exact ⟨Int.le_refl _, Int.le_refl _⟩
  | j + 1, hij, hj => by
    by_cases e : i = j + 1
    · subst e; exact ⟨Int.le_refl _, Int.le_refl _⟩
    · have ih := words_mono h (i := i) (j := j) (by omega) (by omega)
      have a1 := (ckWs_at h (j + 1) hj).2.1 (by omega)
      have a2 := (ckWs_at h (j + 1) hj).1
      have a3 := (ckWs_at h j (by omega)).1
      simp only [Nat.add_sub_cancel] at a1
      omega
structure Sv (s : A_Speech) : Prop where
  ok : Sok s
  rate : rtV s.Rate = true
  ne : s.Words ≠ []
  words : ckWs 0 s.Words = 0
  table : pcS s.Table = 0
  house : okR s.House
theorem ckS_0 {p : A_Profile} (h : ckS p = 0) : okR p := by
  unfold ckS at h
  by_cases h1 : isNm p.Name = false
  · rw [if_pos h1] at h; cases h
  rw [if_neg h1] at h
  by_cases h2 : okR p
  · exact h2
  · rw [if_pos h2] at h; cases h
theorem ckSp_0 {s : A_Speech} (h : Sok s) (h0 : ckSp s = 0) : Sv s := by
  unfold ckSp at h0
  by_cases h1 : rtV s.Rate = false
  · rw [if_pos h1] at h0; cases h0
  rw [if_neg h1] at h0
  by_cases h2 : s.Words = []
  · rw [if_pos h2] at h0; cases h0
  rw [if_neg h2] at h0
  by_cases h3 : ckWs 0 s.Words = 0
  rotate_left
  · rw [if_pos h3] at h0; exact absurd h0 h3
  rw [if_neg (by omega)] at h0
  by_cases h4 : shC s.Shots = 0
  rotate_left
  · rw [if_pos h4] at h0; exact absurd h0 h4
  rw [if_neg (by omega)] at h0
  by_cases h5 : pcS s.Table = 0
  rotate_left
  · rw [if_pos h5] at h0; exact absurd h0 h5
  rw [if_neg (by omega)] at h0
  exact ⟨h, by simpa using h1, h2, h3, h5, ckS_0 h0⟩
def psp (s : A_Speech) (i j : Nat) : A_Paragraph := ⟨tkP s.Words i j, s.House.Cols, s.House.Rows, s.Table⟩
theorem psp_ok {s : A_Speech} (h : Sok s) {i j : Nat} (hj : j ≤ s.Words.length) : Pok (psp s i j) := by
  refine ⟨?_, fun t ht => ?_⟩
  · have := tkP_len s.Words (i := i) hj
    have := h.words
    show (tkP s.Words i j).length ≤ 8
    omega
  · obtain ⟨k, hk, rfl⟩ := List.getElem_of_mem ht
    have hk' : k < (tkP s.Words i j).length := hk
    have hl := tkP_len s.Words (i := i) hj
    show ((tkP s.Words i j)[k]).Text.length ≤ 140737488355328
    rw [tkP_at s.Words hj hk', tkA_text s.Words (show i + k < s.Words.length by omega)]
    exact h.texts _ (List.getElem_mem _)
theorem zero_le_needS (r c l : Int) (hr : 0 ≤ r ∧ r ≤ 255) (hc : 0 ≤ c) (hc2 : c ≤ 800) : 0 ≤ (needS r c l).1 ∧ (needS r c l).1 ≤ 5184000 := by
  obtain ⟨_, _, _, e4⟩ := rates r hr.1 hr.2
  unfold needS
  cases hv : rtV r with
  | false => simp
  | true =>
    obtain ⟨_, t0, t1⟩ := e4 hv
    cases h1 : wiB c 0 10000 with
    | false => simp
    | true =>
      cases h2 : wiB l 1 10000 with
      | false => simp
      | true =>
        have hl := wiB_t h2
        obtain ⟨m1, m2⟩ := mul_small 10000 hl.1 hl.2 t0 t1 (by omega)
        have m3 : 2002 ≤ l * rtT r := by
          have : 1 * rtT r ≤ l * rtT r := Int.mul_le_mul_of_nonneg_right hl.1 (by omega)
          omega
        simp only [if_true, Bool.and_self]
        refine ⟨?_, (upQ_le (by omega) (by omega)).2 ?_⟩
        · unfold upQ; exact Int.tdiv_nonneg (by omega) (by omega)
        · have := Int.mul_le_mul_of_nonneg_left m3 (show (0 : Int) ≤ 5184000 by omega)
          omega
theorem maxe (x : Int) : (if x > 0 then x else 0) = (if 0 > x then 0 else x) := by
  split <;> split <;> omega
def zPt : A_Part := ⟨0, 0, [], ⟨0, 0⟩⟩
theorem tkP_text (ws : List A_Word) {i j : Nat} (hj : j ≤ ws.length) : ((tkP ws i j).map fun t => chL t.Text) = (((ws.drop i).take (j - i)).map fun w => chL w.Text) := by
  refine List.ext_getElem (by simp [tkP, tks]) fun k h1 h2 => ?_
  have hl := tkP_len ws (i := i) hj
  simp only [List.length_map] at h1 h2
  rw [List.getElem_map, List.getElem_map, tkP_at ws hj h1, tkA_text ws (by omega)]
  simp
def wAt (s : A_Speech) (i : Nat) : A_Word := s.Words[i]?.getD ⟨[], ⟨0, 0⟩⟩
theorem wAt_eq {s : A_Speech} {i : Nat} (h : i < s.Words.length) : wAt s i = s.Words[i] := by simp [wAt, h]
theorem part_both {s : A_Speech} (hs : Sv s) {i j : Nat} (hij : i < j) (hj : j ≤ s.Words.length) : ∃ q : A_Part × Int × Int, g_segment_part s (tks s.Words) (i : Int) (j : Int) = some q ∧ q.1.Breaks.length ≤ 4 ∧
    (q.2.2 = 0 → q.1.From = (i : Int) ∧ q.1.To = (j : Int) ∧ 0 ≤ q.2.1 ∧ q.2.1 ≤ 30000000000000 ∧ smP (psp s i j) (j - i) + ((j : Int) - i) ≤ s.House.Rows * (s.House.Cols + 1) ∧ (ckP (psp s i j) = 0 ∧ ∃ G, q.1.Breaks = inl G ∧ RPath (psp s i j) 0 G ∧ (G.length : Int) ≤ s.House.Rows) ∧ q.1.Span = ⟨(wAt s i).Span.In, (wAt s (j - 1)).Span.Out⟩) := by
  have h := hs.ok
  have hn := h.words
  have hP := psp_ok h (i := i) hj
  have hlen : (psp s i j).Tokens.length = j - i := tkP_len s.Words hj
  obtain ⟨b, e, hb1, hbe, hb3⟩ := Break_both hP
  have hi' : i < s.Words.length := by omega
  have hj' : j - 1 < s.Words.length := by omega
  have wi := ckWs_at hs.words i hi'
  have wj := ckWs_at hs.words (j - 1) hj'
  have wm := words_mono hs.words (show i ≤ j - 1 by omega) hj'
  have wi := wi.1
  have wj := wj.1
  have hfalse : (if (decide ((i : Int) < 0)) then (some true) else (if (decide ((j : Int) ≤ (i : Int))) then (some true) else (some (decide (((tks s.Words).length : Int) < (j : Int))))) : Option Bool) = some false := by
    rw [if_neg (by simp), if_neg (by simp; omega), tks_len]
    simp; omega
  have hfalse2 : (if (decide ((i : Int) < 0)) then (some true) else (if (decide ((j : Int) ≤ (i : Int))) then (some true) else (some (decide ((s.Words.length : Int) < (j : Int))))) : Option Bool) = some false := by
    rw [if_neg (by simp), if_neg (by simp; omega)]
    simp; omega
  have ej : IntKind.i64.wrap ((j : Int) - 1) = ((j - 1 : Nat) : Int) := by rw [wr64 (by omega)]; omega
  have ed : IntKind.i64.wrap ((j : Int) - (i : Int)) = ((j - i : Nat) : Int) := by rw [wr64 (by omega)]; omega
  have ai := atI_nat hi'
  have aj := atI_nat hj'
  obtain ⟨Wi, hWi⟩ : ∃ Wi, s.Words[i] = Wi := ⟨_, rfl⟩
  obtain ⟨Wj, hWj⟩ : ∃ Wj, s.Words[j - 1] = Wj := ⟨_, rfl⟩
  rw [hWi] at wi ai wm
  rw [hWj] at wj aj wm
  obtain ⟨fr, hfr⟩ : ∃ fr, Wj.Span.Out - Wi.Span.In = fr := ⟨_, rfl⟩
  have hfrb : 0 ≤ fr ∧ fr ≤ 5184000 := by omega
  have ef : IntKind.i64.wrap (Wj.Span.Out - Wi.Span.In) = fr := by rw [hfr]; exact wr64 (by omega)
  have hsub : subI (tks s.Words) (i : Int) (j : Int) = some (tkP s.Words i j) := by
    unfold subI tkP
    rw [if_pos (by have := tks_len s.Words; omega)]
    simp only [Int.toNat_natCast]
  have hwsub : subI s.Words (i : Int) (j : Int) = some ((s.Words.drop i).take (j - i)) := by
    unfold subI
    rw [if_pos (by omega)]
    simp only [Int.toNat_natCast]
  have hpsp : (A_Paragraph.mk (tkP s.Words i j) s.House.Cols s.House.Rows s.Table) = psp s i j := rfl
  have hv : ∃ v : Bool, (if (decide (1 < ((j - i : Nat) : Int))) then (some (decide (s.House.MxF < fr))) else (some false) : Option Bool) = some v := by
    split
    · exact ⟨_, rfl⟩
    · exact ⟨_, rfl⟩
  obtain ⟨v, hv⟩ := hv
  cases v
  rotate_left
  · refine ⟨(zPt, 0, 2), ?_, by simp [zPt], fun e => by cases e⟩
    · simp only [g_segment_part, hfalse, ej, ed, ef, ai, aj, hv, Option.bind_some, Bool.false_eq_true, if_false, if_true, zPt]
  by_cases he : e = 0
  rotate_left
  · have hb : (e != 0) = true := by simpa using he
    refine ⟨(zPt, 0, e), ?_, by simp [zPt], fun q => absurd q he⟩
    · simp only [g_segment_part, hfalse, ej, ed, ef, ai, aj, hv, hsub, g_segment_paragraph, hpsp, hb1, hb, Option.bind_some, Bool.false_eq_true, if_false, if_true, zPt]
  have hb3 := hb3 he
  unfold BrFin at hb3
  obtain ⟨hck, hc0, hc1, ⟨r, x, hr, hpp⟩, hpath⟩ := hb3
  have hpv := ckP_0 hP hck
  have hbne : (e != 0) = false := by simp [he]
  have hroom := pp_room (by have := hpv.width; omega) hpp
  have hrows := hpv.rows
  have hwid := hpv.width
  have hmulr : (r : Int) * ((psp s i j).Width + 1) ≤ (psp s i j).Rows * ((psp s i j).Width + 1) := Int.mul_le_mul_of_nonneg_right hr (by omega)
  have hmulr2 : (psp s i j).Rows * ((psp s i j).Width + 1) ≤ 4 * ((psp s i j).Width + 1) := Int.mul_le_mul_of_nonneg_right (by omega) (by omega)
  have hsm := smP_lt hpv (i := 0) (j := (psp s i j).Tokens.length) (by omega) (Nat.le_refl _)
  have hs0 : smP (psp s i j) 0 = 0 := rfl
  rw [hs0] at hsm hroom
  have hC : ((psp s i j).Tokens.map fun t => chL t.Text).sum = smP (psp s i j) (psp s i j).Tokens.length := by
    rw [smP_sum _ _ (Nat.le_refl _), List.take_length]
  have hC2 : (((s.Words.drop i).take (j - i)).map fun w => chL w.Text).sum = smP (psp s i j) (psp s i j).Tokens.length := by
    rw [← tkP_text s.Words hj]; exact hC
  obtain ⟨C, hCC⟩ : ∃ C, smP (psp s i j) (psp s i j).Tokens.length = C := ⟨_, rfl⟩
  rw [hCC] at hC hC2 hsm hroom
  have hCb : 0 ≤ C ∧ C ≤ 131 := by omega
  have l1 : iter (g_segment_load_s1 ((s.Words.drop i).take (j - i))) (0, 0) = some C := by
    rw [← hC2]
    exact sum_loop _ (fun w => w.Text) g_charset_Len (by simp; omega) (fun a ha => h.texts a (List.mem_of_mem_drop (List.mem_of_mem_take ha))) (fun a ha => len_prog _ (h.texts a (List.mem_of_mem_drop (List.mem_of_mem_take ha)))) (fun x => rfl)
  obtain ⟨nd1, nd2⟩ := Needed_eq s.Rate C s.House.Reading h.rate.1 h.rate.2
  have ndb := zero_le_needS s.Rate C s.House.Reading h.rate hCb.1 (by omega)
  obtain ⟨ins, hin, hil⟩ := inside_total s.Shots ⟨Wi.Span.In, Wj.Span.Out⟩ (by have := h.shots; omega)
  have hsh := h.shots
  have t1 : atI (tks s.Words) (((j - 1 : Nat) : Int)) = some (tkA s.Words (j - 1)) := by
    rw [atI_nat (by rw [tks_len]; omega), tks_at]
  have t2 : atI (psp s i j).Tokens (IntKind.i64.wrap (((j - i : Nat) : Int) - 1)) = some (tkA s.Words (j - 1)) := by
    rw [wr64 (by omega), show (((j - i : Nat) : Int) - 1) = ((j - i - 1 : Nat) : Int) by omega, atI_nat (by rw [hlen]; omega)]
    have := tkP_at s.Words hj (i := i) (k := j - i - 1) (by rw [tkP_len s.Words hj]; omega)
    rw [show i + (j - i - 1) = j - 1 by omega] at this
    exact congrArg some this
  have hstr := tkA_str s.Words (i := j - 1) (by omega) h.texts
  have hho := hs.house
  unfold okR at hho
  obtain ⟨nd, hnd⟩ : ∃ nd, needS s.Rate C s.House.Reading = nd := ⟨_, rfl⟩
  rw [hnd] at nd1 nd2 ndb
  have enf : IntKind.i64.wrap (nd.1 - fr) = nd.1 - fr := wr64 (by omega)
  have hroom2 : smP (psp s i j) (j - i) + ((j : Int) - i) ≤ s.House.Rows * (s.House.Cols + 1) := by
    rw [hlen] at hCC hroom
    rw [hCC]
    have e1 : (psp s i j).Rows = s.House.Rows := rfl
    have e2 : (psp s i j).Width = s.House.Cols := rfl
    rw [e1, e2] at hmulr
    rw [e2] at hroom
    omega
  obtain ⟨fa, hfa⟩ : ∃ fa, (if 0 > nd.1 - fr then 0 else nd.1 - fr) = fa := ⟨_, rfl⟩
  have hfab : 0 ≤ fa ∧ fa ≤ 5184000 := by rw [← hfa]; split <;> omega
  have hld : ∀ g : Int, 0 ≤ g → g ≤ 5184000 → ∀ la : Bool, okLd ⟨fa, g, (ins.length : Int), (tkA s.Words (j - 1)).Sg, la⟩ = true := fun g g0 g1 la => by
    unfold okLd wiB
    simp only [Bool.and_eq_true, decide_eq_true_eq]
    omega
  have hev : ∀ l : A_Load, okLd l = true → ((evS s.Table l).2 != 0) = false := fun l hl => by
    unfold evS
    rw [if_neg (by rw [hs.table]; simp), if_pos hl]; rfl
  by_cases hlast : j = s.Words.length
  · have hbq : ((j : Int) == (s.Words.length : Int)) = true := by simp [hlast]
    have hl2 := hev _ (hld 0 (by omega) (by omega) true)
    have hcb := evS_le s.Table ⟨fa, 0, (ins.length : Int), (tkA s.Words (j - 1)).Sg, true⟩
    obtain ⟨ev, hevv⟩ : ∃ ev, evS s.Table ⟨fa, 0, (ins.length : Int), (tkA s.Words (j - 1)).Sg, true⟩ = ev := ⟨_, rfl⟩
    rw [hevv] at hcb hl2
    have hw : IntKind.i64.wrap (b.Cost + ev.1) = b.Cost + ev.1 := wr64 (by omega)
    have hload : g_segment_load s (tks s.Words) (i : Int) (j : Int) = some ⟨fa, 0, (ins.length : Int), (tkA s.Words (j - 1)).Sg, true⟩ := by
      simp only [g_segment_load, ej, ai, aj, hwsub, Option.bind_some, l1, nd1, hin, t1, hbq, if_true, ef, enf, maxe, hfa]
    refine ⟨(⟨(i : Int), (j : Int), b.Ends, ⟨Wi.Span.In, Wj.Span.Out⟩⟩, b.Cost + ev.1, 0), ?_, hbe, fun _ => ⟨rfl, rfl, by dsimp only; omega, by dsimp only; omega, hroom2, ⟨hck, hpath⟩, by rw [wAt_eq hi', wAt_eq hj', hWi, hWj]⟩⟩
    · simp only [g_segment_part, hfalse, ej, ed, ef, ai, aj, hv, hsub, g_segment_paragraph, hpsp, hb1, hbne, Option.bind_some, Bool.false_eq_true, if_false, if_true, hload, ev_prog, hevv, hl2, hw]
  · have hbq : ((j : Int) == (s.Words.length : Int)) = false := by
      simpa using (by omega : ¬ (j : Int) = (s.Words.length : Int))
    have hj2 : j < s.Words.length := by omega
    have an := atI_nat hj2
    have wn := ckWs_at hs.words j hj2
    have wg := wn.2.1 (by omega)
    have wn := wn.1
    rw [hWj] at wg
    obtain ⟨Wn, hWn⟩ : ∃ Wn, s.Words[j] = Wn := ⟨_, rfl⟩
    rw [hWn] at wn an wg
    have eg : IntKind.i64.wrap (Wn.Span.In - Wj.Span.Out) = Wn.Span.In - Wj.Span.Out := wr64 (by omega)
    have eg2 : IntKind.i64.wrap (s.House.MinGap - (Wn.Span.In - Wj.Span.Out)) = s.House.MinGap - (Wn.Span.In - Wj.Span.Out) := wr64 (by omega)
    obtain ⟨g, hgg⟩ : ∃ g, (if 0 > s.House.MinGap - (Wn.Span.In - Wj.Span.Out) then 0 else s.House.MinGap - (Wn.Span.In - Wj.Span.Out)) = g := ⟨_, rfl⟩
    have hgb : 0 ≤ g ∧ g ≤ 5184000 := by rw [← hgg]; split <;> omega
    have hl2 := hev _ (hld g hgb.1 hgb.2 false)
    have hcb := evS_le s.Table ⟨fa, g, (ins.length : Int), (tkA s.Words (j - 1)).Sg, false⟩
    obtain ⟨ev, hevv⟩ : ∃ ev, evS s.Table ⟨fa, g, (ins.length : Int), (tkA s.Words (j - 1)).Sg, false⟩ = ev := ⟨_, rfl⟩
    rw [hevv] at hcb hl2
    have hw : IntKind.i64.wrap (b.Cost + ev.1) = b.Cost + ev.1 := wr64 (by omega)
    have hload : g_segment_load s (tks s.Words) (i : Int) (j : Int) = some ⟨fa, g, (ins.length : Int), (tkA s.Words (j - 1)).Sg, false⟩ := by
      simp only [g_segment_load, ej, ai, aj, an, hwsub, Option.bind_some, l1, nd1, hin, t1, hbq, Bool.false_eq_true, if_false, ef, enf, maxe, hfa, eg, eg2, hgg]
    refine ⟨(⟨(i : Int), (j : Int), b.Ends, ⟨Wi.Span.In, Wj.Span.Out⟩⟩, b.Cost + ev.1, 0), ?_, hbe, fun _ => ⟨rfl, rfl, by dsimp only; omega, by dsimp only; omega, hroom2, ⟨hck, hpath⟩, by rw [wAt_eq hi', wAt_eq hj', hWi, hWj]⟩⟩
    · simp only [g_segment_part, hfalse, ej, ed, ef, ai, aj, hv, hsub, g_segment_paragraph, hpsp, hb1, hbne, Option.bind_some, Bool.false_eq_true, if_false, if_true, hload, ev_prog, hevv, hl2, hw]
theorem awake38 : g_law38_awake = some true := by decide +kernel
structure Szs (s : A_Speech) : Prop where
  rate : 0 ≤ s.Rate ∧ s.Rate ≤ 255
  texts : ∀ w ∈ s.Words, w.Text.length ≤ 140737488355328
  name : s.House.Name.length ≤ 140737488355328
  forb : s.House.Fbd.length ≤ 140737488355328
theorem subH_take {α : Type} (l : List α) (k : Nat) : subH l (if (k : Int) < (l.length : Int) then (k : Int) else (l.length : Int)) = some (l.take k) := by
  unfold subH
  split
  · rename_i h
    rw [if_pos (by omega), Int.toNat_natCast, Nat.sub_zero, List.drop_zero]
  · rename_i h
    rw [if_pos (by omega), Int.toNat_natCast, Nat.sub_zero, List.drop_zero, List.take_length, List.take_of_length_le (by omega)]
theorem few_eq {s : A_Speech} (h : Szs s) : ∃ s', g_law38_few s = some s' ∧ Sok s' := by
  refine ⟨⟨s.Rate, s.Words.take 8, s.Shots.take 6, s.Table, s.House⟩, ?_, h.rate, ?_, fun w hw => h.texts w (List.mem_of_mem_take hw), ?_, h.name, h.forb⟩
  · unfold g_law38_few
    have a := subH_take s.Words 8
    have b := subH_take s.Shots 6
    simp only [Int.cast_ofNat_Int] at a b
    rw [a, b]; rfl
  · simp; omega
  · simp; omega
def pq (s : A_Speech) (i j : Nat) : A_Part × Int × Int := (g_segment_part s (tks s.Words) (i : Int) (j : Int)).getD (zPt, 0, 1)
theorem pq_eq {s : A_Speech} (hs : Sv s) {i j : Nat} (hij : i < j) (hj : j ≤ s.Words.length) : g_segment_part s (tks s.Words) (i : Int) (j : Int) = some (pq s i j) ∧ (pq s i j).1.Breaks.length ≤ 4 ∧
    ((pq s i j).2.2 = 0 → (pq s i j).1.From = (i : Int) ∧ (pq s i j).1.To = (j : Int) ∧ 0 ≤ (pq s i j).2.1 ∧ (pq s i j).2.1 ≤ 30000000000000 ∧ smP (psp s i j) (j - i) + ((j : Int) - i) ≤ s.House.Rows * (s.House.Cols + 1) ∧ (ckP (psp s i j) = 0 ∧ ∃ G, (pq s i j).1.Breaks = inl G ∧ RPath (psp s i j) 0 G ∧ (G.length : Int) ≤ s.House.Rows) ∧ (pq s i j).1.Span = ⟨(wAt s i).Span.In, (wAt s (j - 1)).Span.Out⟩) := by
  obtain ⟨q, h1, h2⟩ := part_both hs hij hj
  unfold pq
  rw [h1]
  exact ⟨rfl, h2⟩
theorem sum_loop2 {α : Type} (l : List α) (tx : α → List UInt8) (len : List UInt8 → Option Int) (a0 : Int) (ha0 : 0 ≤ a0 ∧ a0 ≤ 100) (hn : l.length ≤ 8) (ht : ∀ a ∈ l, (tx a).length ≤ 140737488355328) (hlen : ∀ a ∈ l, len (tx a) = some (chL (tx a))) {step : Int × Int → Option (Nx (Int × Int) Int)}
    (hst : ∀ x, step x = (if (decide (x.2 < (l.length : Int))) then ((atI l x.2).bind fun y => ((len (tx y)).bind fun r => (some (.go ((IntKind.i64.wrap (x.1 + r)), (IntKind.i64.wrap (x.2 + 1))))))) else (some (.out x.1)))) :
    iter step (a0, 0) = some (a0 + (l.map fun a => chL (tx a)).sum) := by
  refine iter_of (fun x e => e = a0 + (l.map fun a => chL (tx a)).sum ∧ ∃ i : Nat, x.2 = (i : Int) ∧ i ≤ l.length ∧ x.1 + ((l.drop i).map fun a => chL (tx a)).sum = a0 + (l.map fun a => chL (tx a)).sum ∧ -(i : Int) ≤ x.1 ∧ x.1 ≤ (i : Int) * 140737488355328 + 100) (fun x => l.length - x.2.toNat) ?_ (x := (a0, 0)) ⟨rfl, 0, rfl, by omega, by simp, by dsimp only; omega, by dsimp only; omega⟩ (by show l.length - 0 < _; omega)
  rintro ⟨a, x⟩ e ⟨rfl, i, hx, hi, hs, h1, h2⟩
  dsimp only at hx hs h1 h2 ⊢
  subst hx
  rw [hst]
  dsimp only
  by_cases h : i < l.length
  · left
    have hb := chL_le _ (ht _ (List.getElem_mem h))
    rw [if_pos (by simpa using h), atI_nat h, wr64 (x := (i : Int) + 1) (by omega)]
    simp only [Option.bind_some]
    rw [hlen _ (List.getElem_mem h)]
    simp only [Option.bind_some]
    rw [wr64 (by omega)]
    rw [List.drop_eq_getElem_cons h, List.map_cons, List.sum_cons] at hs
    exact ⟨_, rfl, ⟨by first | rfl | trivial, i + 1, rfl, h, by dsimp only; omega, by dsimp only; omega, by dsimp only; omega⟩, by dsimp only; omega⟩
  · right
    rw [if_neg (by simpa using h)]
    rw [List.drop_eq_nil_of_le (by omega)] at hs
    simp at hs
    rw [hs]
def wsum (s : A_Speech) (i j : Nat) : Int := (((s.Words.drop i).take (j - i)).map fun w => chL w.Text).sum
theorem wsum_psp {s : A_Speech} {i j : Nat} (hj : j ≤ s.Words.length) : smP (psp s i j) (j - i) = wsum s i j := by
  have hlen : (psp s i j).Tokens.length = j - i := tkP_len s.Words hj
  rw [smP_sum _ _ (by omega)]
  unfold wsum
  rw [← tkP_text s.Words hj, ← hlen, List.take_length]
  rfl
theorem wsum_succ (s : A_Speech) {i j : Nat} (hij : i ≤ j) (hj : j < s.Words.length) : wsum s i (j + 1) = wsum s i j + chL s.Words[j].Text := by
  unfold wsum
  rw [show j + 1 - i = (j - i) + 1 by omega, List.take_add_one, List.getElem?_drop, show i + (j - i) = j by omega, List.getElem?_eq_getElem hj, List.map_append, List.sum_append]
  simp
theorem wsum_mono {s : A_Speech} (hs : Sv s) {i : Nat} : ∀ {j k : Nat}, i ≤ j → j ≤ k → k ≤ s.Words.length → wsum s i j + ((k : Int) - j) ≤ wsum s i k
  | j, 0, h1, h2, h3 => by
    obtain rfl : j = 0 := by omega
    simp
  | j, k + 1, h1, h2, h3 => by
    by_cases e : j = k + 1
    · subst e; omega
    · have ih := wsum_mono hs (i := i) (j := j) (k := k) h1 (by omega) (by omega)
      have w := (ckWs_at hs.words k (by omega)).1
      have := chL_pos w.2.2.1 w.1
      rw [wsum_succ s (by omega) (by omega)]
      omega
theorem tlen_eq {s : A_Speech} (h : Sok s) {i j : Nat} (hij : i < j) (hj : j ≤ s.Words.length) : g_token_Len (tks s.Words) (i : Int) (j : Int) = some ((j : Int) - i - 1 + wsum s i j) := by
  have hn := h.words
  unfold g_token_Len
  rw [show (if (decide ((i : Int) < 0)) then (some true) else (if (decide ((j : Int) < (i : Int))) then (some true) else (some (decide (((tks s.Words).length : Int) < (j : Int))))) : Option Bool) = some false by
    rw [if_neg (by simp), if_neg (by simp; omega), tks_len]; simp; omega]
  have hsub : subI (tks s.Words) (i : Int) (j : Int) = some (tkP s.Words i j) := by
    unfold subI tkP
    rw [if_pos (by have := tks_len s.Words; omega)]
    simp only [Int.toNat_natCast]
  have e0 : (if IntKind.i64.wrap (IntKind.i64.wrap ((j : Int) - i) - 1) > 0 then IntKind.i64.wrap (IntKind.i64.wrap ((j : Int) - i) - 1) else 0) = (j : Int) - i - 1 := by
    rw [wr64 (x := (j : Int) - i) (by omega), wr64 (by omega)]
    split <;> omega
  simp only [Option.bind_some, Bool.false_eq_true, if_false, hsub, e0]
  have hlen := tkP_len s.Words (i := i) hj
  have hP := psp_ok h (i := i) hj
  have key : iter (g_token_Len_s1 (tkP s.Words i j)) ((j : Int) - i - 1, 0) = some ((j : Int) - i - 1 + ((tkP s.Words i j).map fun t => chL t.Text).sum) :=
    sum_loop2 (tkP s.Words i j) (fun t => t.Text) g_charset_Len _ (by omega) (by omega) hP.texts (fun a ha => len_prog _ (hP.texts a ha)) (fun x => rfl)
  rw [key, tkP_text s.Words hj]
  rfl
def okE (s : A_Speech) (i j : Nat) : Bool := (pq s i j).2.2 == 0
def fl (s : A_Speech) (i : Nat) : List Nat := (List.range' (i + 1) (s.Words.length - i)).filter (okE s i)
def edge (s : A_Speech) (i j : Nat) : T_segment_edge := ⟨(pq s i j).1, (pq s i j).2.1⟩
def ed (s : A_Speech) (i : Nat) : List T_segment_edge := (fl s i).map (edge s i)
theorem fl_mem {s : A_Speech} {i j : Nat} : j ∈ fl s i ↔ i < j ∧ j ≤ s.Words.length ∧ okE s i j = true := by
  unfold fl
  rw [List.mem_filter, List.mem_range']
  constructor
  · rintro ⟨⟨k, h1, h2⟩, h3⟩
    exact ⟨by omega, by omega, h3⟩
  · rintro ⟨h1, h2, h3⟩
    exact ⟨⟨j - i - 1, by omega, by omega⟩, h3⟩
theorem fl_sorted (s : A_Speech) (i : Nat) : (fl s i).Pairwise (· < ·) := List.Pairwise.filter _ (List.pairwise_lt_range' (step := 1) (by omega))
theorem fl_len (s : A_Speech) (i : Nat) : (fl s i).length ≤ s.Words.length := by
  unfold fl
  have := List.length_filter_le (okE s i) (List.range' (i + 1) (s.Words.length - i))
  rw [List.length_range'] at this
  omega
theorem most_eq {s : A_Speech} (hs : Sv s) : IntKind.i64.wrap (s.House.Rows * IntKind.i64.wrap (s.House.Cols + 1)) = s.House.Rows * (s.House.Cols + 1) := by
  have hh := hs.house
  unfold okR at hh
  have h1 : 0 ≤ s.House.Rows * (s.House.Cols + 1) ∧ s.House.Rows * (s.House.Cols + 1) ≤ 4 * 33 := mulb (by omega) (by omega)
  rw [wr64 (x := s.House.Cols + 1) (by omega), wr64 (by omega)]
theorem edges_row {s : A_Speech} (hs : Sv s) {i : Nat} (hi : i < s.Words.length) {acc : List (List T_segment_edge)} (ha : acc.length = i) :
    iter (g_segment_edges_s2 s (tks s.Words) ((i : Int), acc)) ((i : Int) + 1, []) = some (ed s i) := by
  have hn := hs.ok.words
  refine iter_of (fun x e => e = ed s i ∧ ∃ m : Nat, x.1 = ((i + 1 + m : Nat) : Int) ∧ i + 1 + m ≤ s.Words.length + 1 ∧ x.2 = ((List.range' (i + 1) m).filter (okE s i)).map (edge s i)) (fun x => s.Words.length + 1 - x.1.toNat) ?_ (x := ((i : Int) + 1, [])) ⟨rfl, 0, by dsimp only; omega, by omega, by simp⟩ (by show s.Words.length + 1 - _ < _; omega)
  rintro ⟨x, l⟩ e ⟨rfl, m, hx, hm, hl⟩
  dsimp only at hx hl ⊢
  subst hx hl
  unfold g_segment_edges_s2
  dsimp only
  rw [tks_len, most_eq hs]
  have hlenb : (((List.range' (i + 1) m).filter (okE s i)).map (edge s i)).length ≤ m := by
    have := List.length_filter_le (okE s i) (List.range' (i + 1) m)
    rw [List.length_range'] at this
    rw [List.length_map]; exact this
  -- what is behind the end has no event
  have hrest : (∀ j, i + 1 + m ≤ j → j ≤ s.Words.length → okE s i j = false) → ((List.range' (i + 1) m).filter (okE s i)).map (edge s i) = ed s i := fun hno => by
    unfold ed fl
    congr 1
    have e1 : s.Words.length - i = m + (s.Words.length - i - m) := by omega
    have hnil : (List.range' (i + 1 + m) (s.Words.length - i - m)).filter (okE s i) = [] := List.filter_eq_nil_iff.2 fun j hj => by
      obtain ⟨k, h1, h2⟩ := List.mem_range'.1 hj
      rw [hno j (by omega) (by omega)]; simp
    rw [e1, ← List.range'_append_1, List.filter_append, hnil, List.append_nil]
  by_cases hle : i + 1 + m ≤ s.Words.length
  · rw [if_pos (show decide (((i + 1 + m : Nat) : Int) ≤ (s.Words.length : Int)) = true by rw [decide_eq_true_iff]; omega), tlen_eq hs.ok (by omega) hle]
    simp only [Option.bind_some]
    by_cases hmost : ((i + 1 + m : Nat) : Int) - i - 1 + wsum s i (i + 1 + m) ≤ s.House.Rows * (s.House.Cols + 1)
    · left
      rw [if_pos (by simpa using hmost)]
      obtain ⟨q1, q3, q4⟩ := pq_eq hs (i := i) (j := i + 1 + m) (by omega) hle
      rw [q1]
      simp only [Option.bind_some]
      rw [wr64 (x := ((i + 1 + m : Nat) : Int) + 1) (by omega)]
      have hsnoc : List.range' (i + 1) (m + 1) = List.range' (i + 1) m ++ [i + 1 + m] := List.range'_1_concat ..
      by_cases he : (pq s i (i + 1 + m)).2.2 = 0
      · have hok : okE s i (i + 1 + m) = true := by simp [okE, he]
        rw [if_pos (by simpa using he), if_pos ⟨by omega, by omega⟩, if_pos (by omega), if_pos ⟨by omega, by omega⟩]
        refine ⟨_, rfl, ⟨by first | rfl | trivial, m + 1, by dsimp only; omega, by omega, ?_⟩, by dsimp only; omega⟩
        dsimp only
        rw [hsnoc, List.filter_append, List.map_append]
        simp [hok, edge]
      · have hok : okE s i (i + 1 + m) = false := by simp [okE, he]
        rw [if_neg (by simpa using he)]
        refine ⟨_, rfl, ⟨by first | rfl | trivial, m + 1, by dsimp only; omega, by omega, ?_⟩, by dsimp only; omega⟩
        dsimp only
        rw [hsnoc, List.filter_append, List.map_append]
        simp [hok]
    · right
      rw [if_neg (by simpa using hmost)]
      congr 2
      refine hrest fun j h1 h2 => ?_
      cases hok : okE s i j
      · rfl
      · obtain ⟨_, _, q4⟩ := pq_eq hs (i := i) (j := j) (by omega) h2
        have q5 := (q4 (by simpa [okE] using hok)).2.2.2.2.1
        rw [wsum_psp h2] at q5
        have := wsum_mono hs (i := i) (j := i + 1 + m) (k := j) (by omega) h1 h2
        omega
  · right
    rw [if_neg (by simp; omega)]
    simp only [Option.bind_some, Bool.false_eq_true, if_false]
    congr 2
    exact hrest fun j h1 h2 => by omega
theorem edges_eq {s : A_Speech} (hs : Sv s) : g_segment_edges s = some ((List.range s.Words.length).map (ed s)) := by
  have hn := hs.ok.words
  unfold g_segment_edges
  rw [tokens_eq hs.ok]
  simp only [Option.bind_some, tks_len]
  rw [if_pos (by omega)]
  have key : iter (g_segment_edges_s1 s (tks s.Words)) (0, ([] : List (List T_segment_edge))) = some ((List.range s.Words.length).map (ed s)) := by
    refine iter_of (fun x e => e = (List.range s.Words.length).map (ed s) ∧ ∃ i : Nat, x.1 = (i : Int) ∧ i ≤ s.Words.length ∧ x.2 = (List.range i).map (ed s)) (fun x => s.Words.length - x.1.toNat) ?_ (x := (0, [])) ⟨rfl, 0, rfl, by omega, rfl⟩ (by show s.Words.length - 0 < _; omega)
    rintro ⟨x, acc⟩ e ⟨rfl, i, hx, hi, ha⟩
    dsimp only at hx ha ⊢
    subst hx ha
    unfold g_segment_edges_s1
    dsimp only
    rw [tks_len]
    have hl : ((List.range i).map (ed s)).length = i := by simp
    rw [hl]
    by_cases h : i < s.Words.length
    · left
      rw [if_pos (by simpa using h), if_pos h, wr64 (x := (i : Int) + 1) (by omega), edges_row hs h hl]
      simp only [Option.bind_some]
      rw [if_pos h]
      exact ⟨_, rfl, ⟨by first | rfl | trivial, i + 1, rfl, by omega, by dsimp only; rw [List.range_succ, List.map_append]; rfl⟩, by dsimp only; omega⟩
    · right
      obtain rfl : i = s.Words.length := by omega
      rw [if_neg (by simp), if_pos rfl]
  rw [key]; rfl
def lexlt (a b : Int × Int) : Prop := a.1 < b.1 ∨ a.1 = b.1 ∧ a.2 < b.2
instance (a b : Int × Int) : Decidable (lexlt a b) := by unfold lexlt; infer_instance
def Bst (S : Nat → Prop) (val : Nat → Int × Int) (v : Int × Int) (j : Nat) : Prop := (v = (-1, 0) ∧ ∀ x, ¬ S x) ∨ (S j ∧ v = val j ∧ ∀ x, S x → ¬ lexlt (val x) (val j) ∧ (x < j → lexlt (val j) (val x)))
theorem Bst.congr {S T : Nat → Prop} {val val' : Nat → Int × Int} {v : Int × Int} {j : Nat} (e : ∀ x, S x ↔ T x) (ev : ∀ x, S x → val x = val' x) (h : Bst S val v j) : Bst T val' v j := by
  rcases h with ⟨h1, h2⟩ | ⟨h1, h2, h3⟩
  · exact .inl ⟨h1, fun x hx => h2 x ((e x).2 hx)⟩
  · refine .inr ⟨(e j).1 h1, by rw [h2, ev j h1], fun x hx => ?_⟩
    have hx' := (e x).2 hx
    rw [← ev j h1, ← ev x hx']
    exact h3 x hx'
theorem Bst.none {S : Nat → Prop} {val : Nat → Int × Int} {j : Nat} (h : ∀ x, ¬ S x) : Bst S val (-1, 0) j := .inl ⟨rfl, h⟩
theorem Bst.step {S : Nat → Prop} {val : Nat → Int × Int} {v : Int × Int} {j J : Nat} (hJ : ∀ x, S x → x < J) (h0 : ∀ x, S x → 0 ≤ (val x).1) (h : Bst S val v j) :
    Bst (fun x => S x ∨ x = J) val (if v.1 = -1 ∨ lexlt (val J) v then val J else v) (if v.1 = -1 ∨ lexlt (val J) v then J else j) := by
  rcases h with ⟨h1, h2⟩ | ⟨h1, h2, h3⟩
  · have hv : v.1 = -1 := by rw [h1]
    rw [if_pos (.inl hv), if_pos (.inl hv)]
    refine .inr ⟨.inr rfl, rfl, fun x hx => ?_⟩
    rcases hx with hx | rfl
    · exact absurd hx (h2 x)
    · exact ⟨fun hl => by unfold lexlt at hl; omega, fun h => by omega⟩
  · have hv : ¬ v.1 = -1 := by have := h0 j h1; rw [h2]; omega
    have hjJ := hJ j h1
    by_cases hl : lexlt (val J) v
    · rw [if_pos (.inr hl), if_pos (.inr hl)]
      rw [h2] at hl
      refine .inr ⟨.inr rfl, rfl, fun x hx => ?_⟩
      rcases hx with hx | rfl
      · have := (h3 x hx).1
        unfold lexlt at *
        exact ⟨by omega, fun _ => by omega⟩
      · exact ⟨fun hl => by unfold lexlt at hl; omega, fun h => by omega⟩
    · rw [if_neg (by intro h; rcases h with h | h; exact hv h; exact hl h), if_neg (by intro h; rcases h with h | h; exact hv h; exact hl h)]
      refine .inr ⟨.inl h1, h2, fun x hx => ?_⟩
      rcases hx with hx | rfl
      · exact h3 x hx
      · rw [h2] at hl
        exact ⟨hl, fun h => by omega⟩
theorem Bst.uniq {S : Nat → Prop} {val : Nat → Int × Int} {v v' : Int × Int} {j j' : Nat} (h0 : ∀ x, S x → 0 ≤ (val x).1) (h : Bst S val v j) (h' : Bst S val v' j') : v = v' ∧ (v.1 ≠ -1 → j = j') := by
  rcases h with ⟨h1, h2⟩ | ⟨h1, h2, h3⟩
  · rcases h' with ⟨k1, _⟩ | ⟨k1, _, _⟩
    · exact ⟨by rw [h1, k1], fun h => by rw [h1] at h; exact absurd rfl h⟩
    · exact absurd k1 (h2 _)
  · rcases h' with ⟨_, k2⟩ | ⟨k1, k2, k3⟩
    · exact absurd h1 (k2 _)
    · have a := h3 j' k1
      have b := k3 j h1
      have e : val j = val j' := by
        unfold lexlt at a b
        refine Prod.ext ?_ ?_ <;> omega
      refine ⟨by rw [h2, k2, e], fun _ => ?_⟩
      rcases Nat.lt_trichotomy j j' with q | q | q
      · have := b.2 q; unfold lexlt at this; rw [e] at this; omega
      · exact q
      · have := a.2 q; unfold lexlt at this; rw [e] at this; omega
theorem Bst.some {S : Nat → Prop} {val : Nat → Int × Int} {v : Int × Int} {j : Nat} (h : Bst S val v j) (hv : v.1 ≠ -1) : S j ∧ v = val j ∧ ∀ x, S x → ¬ lexlt (val x) (val j) ∧ (x < j → lexlt (val j) (val x)) := by
  rcases h with ⟨h1, _⟩ | h
  · rw [h1] at hv; exact absurd rfl hv
  · exact h
section
variable (n : Nat) (ok : Nat → Nat → Bool) (c : Nat → Nat → Int)
def cnd (C : Nat → Int) (i j : Nat) : Prop := i < j ∧ j ≤ n ∧ ok i j = true ∧ C j ≠ -1
def vl (C Pn : Nat → Int) (i j : Nat) : Int × Int := (c i j + C j, Pn j + 1)
structure DPx (m : Nat) (C Pn : Nat → Int) (nx : Nat → Nat) : Prop where
  n0 : C n = 0
  p0 : Pn n = 0
  nn : ∀ k, m ≤ k → k ≤ n → -1 ≤ C k
  bst : ∀ k, m ≤ k → k < n → Bst (cnd n ok C k) (vl c C Pn k) (C k, Pn k) (nx k)
variable {n ok c}
theorem best_exists (hc : ∀ i j, ok i j = true → 0 ≤ c i j) {C Pn : Nat → Int} {i : Nat} (hC : ∀ k, i < k → k ≤ n → -1 ≤ C k) : ∀ m, ∃ v j, Bst (fun x => cnd n ok C i x ∧ x < i + 1 + m) (vl c C Pn i) v j
  | 0 => ⟨(-1, 0), 0, .none fun x hx => by have := hx.1.1; have := hx.2; omega⟩
  | m + 1 => by
    obtain ⟨v, j, h⟩ := best_exists hc hC (Pn := Pn) m
    by_cases hq : cnd n ok C i (i + 1 + m)
    · refine ⟨_, _, (h.step (J := i + 1 + m) (fun x hx => hx.2) (fun x hx => ?_)).congr (fun x => ?_) (fun _ _ => rfl)⟩
      · obtain ⟨a1, a2, a3, a4⟩ := hx.1
        have := hc i x a3; have := hC x a1 a2
        show 0 ≤ c i x + C x
        omega
      · constructor
        · rintro (hx | rfl)
          · exact ⟨hx.1, by omega⟩
          · exact ⟨hq, by omega⟩
        · rintro ⟨h1, h2⟩
          by_cases e : x = i + 1 + m
          · exact .inr e
          · exact .inl ⟨h1, by omega⟩
    · refine ⟨v, j, h.congr (fun x => ⟨fun hx => ⟨hx.1, by omega⟩, fun hx => ⟨hx.1, ?_⟩⟩) (fun _ _ => rfl)⟩
      have : x ≠ i + 1 + m := fun e => hq (e ▸ hx.1)
      have := hx.2; omega
theorem dp_exists (hc : ∀ i j, ok i j = true → 0 ≤ c i j) : ∀ m, m ≤ n → ∃ C Pn nx, DPx n ok c (n - m) C Pn nx
  | 0, _ => ⟨fun _ => 0, fun _ => 0, fun _ => 0, rfl, rfl, fun _ _ _ => by omega, fun k h1 h2 => by omega⟩
  | m + 1, hm => by
    obtain ⟨C, Pn, nx, h⟩ := dp_exists hc m (by omega)
    obtain ⟨v, j, hb⟩ := best_exists (n := n) hc (C := C) (Pn := Pn) (i := n - (m + 1)) (fun k h1 h2 => h.nn k (by omega) h2) (n + 1)
    generalize hi : n - (m + 1) = i at *
    have hb' : Bst (cnd n ok C i) (vl c C Pn i) v j := hb.congr (fun x => ⟨fun hx => hx.1, fun hx => ⟨hx, by have := hx.2.1; omega⟩⟩) (fun _ _ => rfl)
    have hne : ∀ k, i < k → k ≠ i := fun k h => by omega
    refine ⟨fun k => if k = i then v.1 else C k, fun k => if k = i then v.2 else Pn k, fun k => if k = i then j else nx k, ?_, ?_, fun k h1 h2 => ?_, fun k h1 h2 => ?_⟩
    · show (if n = i then v.1 else C n) = 0
      rw [if_neg (by omega)]; exact h.n0
    · show (if n = i then v.2 else Pn n) = 0
      rw [if_neg (by omega)]; exact h.p0
    · show -1 ≤ (if k = i then v.1 else C k)
      by_cases e : k = i
      · rw [if_pos e]
        rcases hb' with ⟨q1, _⟩ | ⟨q1, q2, _⟩
        · rw [q1]; decide
        · rw [q2]
          have := hc i j q1.2.2.1
          have := h.nn j (by have := q1.1; omega) q1.2.1
          show -1 ≤ c i j + C j
          omega
      · rw [if_neg e]; exact h.nn k (by omega) h2
    · have hcn : ∀ x, k < x → (cnd n ok (fun k => if k = i then v.1 else C k) k x ↔ cnd n ok C k x) := fun x hx => by
        unfold cnd
        dsimp only
        rw [if_neg (by omega)]
      have hvl : ∀ x, k < x → vl c (fun k => if k = i then v.1 else C k) (fun k => if k = i then v.2 else Pn k) k x = vl c C Pn k x := fun x hx => by
        unfold vl
        dsimp only
        rw [if_neg (by omega), if_neg (by omega)]
      have key : Bst (cnd n ok C k) (vl c C Pn k) (if k = i then v.1 else C k, if k = i then v.2 else Pn k) (if k = i then j else nx k) := by
        by_cases e : k = i
        · subst e
          rw [if_pos rfl, if_pos rfl, if_pos rfl]
          exact hb'
        · rw [if_neg e, if_neg e, if_neg e]
          exact h.bst k (by omega) h2
      refine key.congr (fun x => ⟨fun hx => (hcn x hx.1).2 hx, fun hx => (hcn x hx.1).1 hx⟩) (fun x hx => (hvl x hx.1).symm)
theorem dp_bound {K : Int} (hK : 0 ≤ K) (hc : ∀ i j, ok i j = true → 0 ≤ c i j ∧ c i j ≤ K) {C Pn : Nat → Int} {nx : Nat → Nat} (h : DPx n ok c 0 C Pn nx) : ∀ m k, k ≤ n → n - k ≤ m → -1 ≤ C k ∧ C k ≤ ((n - k : Nat) : Int) * K ∧ 0 ≤ Pn k ∧ Pn k ≤ ((n - k : Nat) : Int)
  | 0, k, hk, hm => by
    obtain rfl : k = n := by omega
    rw [h.n0, h.p0]; simp
  | m + 1, k, hk, hm => by
    by_cases e : k = n
    · subst e; rw [h.n0, h.p0]; simp
    · rcases h.bst k (by omega) (by omega) with ⟨q1, _⟩ | ⟨q1, q2, _⟩
      · injection q1 with q1 q2
        rw [q1, q2]
        have : 0 ≤ ((n - k : Nat) : Int) * K := Int.mul_nonneg (by omega) hK
        omega
      · injection q2 with q2 q3
        obtain ⟨a1, a2, a3, a4⟩ := q1
        have ih := dp_bound hK hc h m (nx k) a2 (by omega)
        have hcb := hc k (nx k) a3
        have hm2 : (((n - nx k : Nat) : Int) + 1) * K ≤ ((n - k : Nat) : Int) * K := Int.mul_le_mul_of_nonneg_right (by omega) hK
        rw [Int.add_mul, Int.one_mul] at hm2
        rw [q2, q3]
        omega
variable (n ok c) in
inductive Way (C : Nat → Int) (nx : Nat → Nat) : Nat → List (Nat × Nat) → Prop
  | nil : Way C nx n []
  | cons {i : Nat} {L : List (Nat × Nat)} : i < n → C i ≠ -1 → cnd n ok C i (nx i) → Way C nx (nx i) L → Way C nx i ((i, nx i) :: L)
theorem way_exists {C Pn : Nat → Int} {nx : Nat → Nat} (h : DPx n ok c 0 C Pn nx) : ∀ m i, i ≤ n → n - i ≤ m → C i ≠ -1 → ∃ L, Way n ok C nx i L
  | 0, i, hi, hm, hv => by
    obtain rfl : i = n := by omega
    exact ⟨[], .nil⟩
  | m + 1, i, hi, hm, hv => by
    by_cases e : i = n
    · subst e; exact ⟨[], .nil⟩
    · have hb := (h.bst i (by omega) (by omega)).some hv
      obtain ⟨L, hL⟩ := way_exists h m (nx i) hb.1.2.1 (by have := hb.1.1; omega) hb.1.2.2.2
      exact ⟨_, .cons (by omega) hv hb.1 hL⟩
theorem way_len {C : Nat → Int} {nx : Nat → Nat} {i : Nat} {L : List (Nat × Nat)} (h : Way n ok C nx i L) : L.length + i ≤ n := by
  induction h with
  | nil => simp
  | cons h1 h2 h3 h4 ih => have := h3.1; simp only [List.length_cons]; omega
end
def csq (s : A_Speech) (i j : Nat) : Int := (pq s i j).2.1
def okQ (s : A_Speech) (i j : Nat) : Bool := decide (i < j) && decide (j ≤ s.Words.length) && okE s i j
theorem okQ_t {s : A_Speech} {i j : Nat} : okQ s i j = true ↔ i < j ∧ j ≤ s.Words.length ∧ okE s i j = true := by
  unfold okQ; simp only [Bool.and_eq_true, decide_eq_true_eq, and_assoc]
theorem csq_b {s : A_Speech} (hs : Sv s) {i j : Nat} (h : okQ s i j = true) : 0 ≤ csq s i j ∧ csq s i j ≤ 30000000000000 := by
  obtain ⟨h1, h2, h3⟩ := okQ_t.1 h
  obtain ⟨_, _, q4⟩ := pq_eq hs h1 h2
  have := q4 (by simpa [okE] using h3)
  exact ⟨this.2.2.1, this.2.2.2.1⟩
abbrev Dp (s : A_Speech) (C Pn : Nat → Int) (nx : Nat → Nat) : Prop := DPx s.Words.length (okQ s) (csq s) 0 C Pn nx
abbrev Cn (s : A_Speech) := cnd s.Words.length (okQ s)
theorem dp_ex {s : A_Speech} (hs : Sv s) : ∃ C Pn nx, Dp s C Pn nx := by
  have := dp_exists (n := s.Words.length) (ok := okQ s) (c := csq s) (fun i j h => (csq_b hs h).1) s.Words.length (Nat.le_refl _)
  rw [Nat.sub_self] at this
  exact this
theorem dp_bd {s : A_Speech} (hs : Sv s) {C Pn : Nat → Int} {nx : Nat → Nat} (h : Dp s C Pn nx) {k : Nat} (hk : k ≤ s.Words.length) : -1 ≤ C k ∧ C k ≤ 240000000000000 ∧ 0 ≤ Pn k ∧ Pn k ≤ 8 := by
  have := dp_bound (K := 30000000000000) (by omega) (fun i j hq => csq_b hs hq) h s.Words.length k hk (by omega)
  have := hs.ok.words
  omega
theorem fl_at {s : A_Speech} {i k : Nat} (h : k < (fl s i).length) : okQ s i (fl s i)[k] = true := okQ_t.2 (fl_mem.1 (List.getElem_mem h))
theorem ed_at {s : A_Speech} {i k : Nat} (h : k < (fl s i).length) : atI (ed s i) (k : Int) = some (edge s i (fl s i)[k]) := by
  rw [atI_nat (by simp [ed]; exact h)]
  simp [ed]
theorem ed_len (s : A_Speech) (i : Nat) : (ed s i).length = (fl s i).length := by simp [ed]
theorem fl_lt {s : A_Speech} {i a b : Nat} (hab : a < b) (hb : b < (fl s i).length) : (fl s i)[a]'(by omega) < (fl s i)[b] := List.pairwise_iff_getElem.1 (fl_sorted s i) a b (by omega) hb hab
theorem mem_take {s : A_Speech} {i k x : Nat} : x ∈ (fl s i).take k ↔ ∃ a, ∃ h : a < (fl s i).length, a < k ∧ (fl s i)[a] = x := by
  rw [List.mem_take_iff_getElem]
  constructor
  · rintro ⟨a, h, rfl⟩
    exact ⟨a, by omega, by omega, rfl⟩
  · rintro ⟨a, h, h1, rfl⟩
    exact ⟨a, by omega, rfl⟩
structure BestTo (s : A_Speech) (C Pn : Nat → Int) (i : Nat) (m : List (Int × Int)) : Prop where
  len : m.length = s.Words.length + 1
  done : ∀ k, i ≤ k → k ≤ s.Words.length → m[k]? = some (C k, Pn k)
  todo : ∀ k, k < i → m[k]? = some (0, 0)
def rPr (x : T_segment_rest) : Int × Int := (x.cost_, x.parts_)
theorem rPr_at {m : List T_segment_rest} {k : Nat} {a b : Int} (h : (m.map rPr)[k]? = some (a, b)) : atI m (k : Int) = some ⟨a, b⟩ := by
  rw [List.getElem?_map] at h
  cases hk : m[k]? with
  | none => rw [hk] at h; cases h
  | some x =>
    rw [hk] at h
    obtain ⟨x1, x2⟩ := x
    simp [rPr] at h
    rw [getI hk, h.1, h.2]
theorem map_set' {m : List T_segment_rest} {k : Nat} {x : T_segment_rest} : (m.set k x).map rPr = (m.map rPr).set k (rPr x) := List.map_set
def TakeOK (s : A_Speech) (C : Nat → Int) (nx : Nat → Nat) (i : Nat) (tk : List Int) : Prop := tk.length = s.Words.length ∧ ∀ k, i ≤ k → k < s.Words.length → C k ≠ -1 → ∃ t : Nat, tk[k]? = some (t : Int) ∧ (fl s k)[t]? = some (nx k)
theorem seg_inner {s : A_Speech} (hs : Sv s) {C Pn : Nat → Int} {nx : Nat → Nat} (hd : Dp s C Pn nx) {i : Nat} (hi : i < s.Words.length) {m : List T_segment_rest} (hm : BestTo s C Pn (i + 1) (m.map rPr)) {tk : List Int} (ht : TakeOK s C nx (i + 1) tk) {z1 : List T_segment_rest} {z2 : List Int} :
    ∃ e, iter (g_segment_Segment_s2 ((i : Int), z1, z2) (ed s i)) (0, m.set i ⟨-1, 0⟩, tk) = some e ∧ BestTo s C Pn i (e.1.map rPr) ∧ TakeOK s C nx i e.2 := by
  have hn := hs.ok.words
  have hfl := fl_len s i
  have hml := hm.len
  rw [List.length_map] at hml
  refine iter_post (fun x => ∃ (k : Nat) (v : Int × Int) (j : Nat), x.1 = (k : Int) ∧ k ≤ (fl s i).length ∧ x.2.1 = m.set i ⟨v.1, v.2⟩ ∧ x.2.2.length = s.Words.length ∧ (∀ a, a ≠ i → x.2.2[a]? = tk[a]?) ∧ Bst (fun y => Cn s C i y ∧ y ∈ (fl s i).take k) (vl (csq s) C Pn i) v j ∧ (v.1 ≠ -1 → ∃ t : Nat, x.2.2[i]? = some (t : Int) ∧ (fl s i)[t]? = some j)) (fun x => (fl s i).length - x.1.toNat) (fun (e : List T_segment_rest × List Int) => BestTo s C Pn i (e.1.map rPr) ∧ TakeOK s C nx i e.2) (x := (0, m.set i ⟨-1, 0⟩, tk)) ⟨0, (-1, 0), 0, rfl, by omega, rfl, ht.1, fun _ _ => rfl, .none (by simp), fun h => absurd rfl h⟩ (by show (fl s i).length - 0 < _; omega) ?_
  rintro ⟨x, bm, tk'⟩ ⟨k, v, j, hx, hk, hbm, htl, hte, hb, htk⟩
  dsimp only at hx hbm htl hte htk ⊢
  subst hx hbm
  unfold g_segment_Segment_s2
  dsimp only
  rw [ed_len]
  have hvb : -1 ≤ v.1 ∧ v.1 ≤ 270000000000000 ∧ 0 ≤ v.2 ∧ v.2 ≤ 9 := by
    rcases hb with ⟨q1, _⟩ | ⟨⟨q1, _⟩, q2, _⟩
    · rw [q1]; decide
    · rw [q2]
      have a := csq_b hs q1.2.2.1
      have b := dp_bd hs hd q1.2.1
      have c := q1.2.2.2
      show -1 ≤ csq s i j + C j ∧ csq s i j + C j ≤ _ ∧ 0 ≤ Pn j + 1 ∧ Pn j + 1 ≤ 9
      omega
  by_cases hlt : k < (fl s i).length
  · left
    have hJ := fl_at hlt
    obtain ⟨J, hJe⟩ : ∃ J, (fl s i)[k] = J := ⟨_, rfl⟩
    rw [hJe] at hJ
    obtain ⟨j1, j2, j3⟩ := okQ_t.1 hJ
    obtain ⟨_, _, q4⟩ := pq_eq hs j1 j2
    have q5 := q4 (by simpa [okE] using j3)
    have hdb := dp_bd hs hd j2
    have hcb := csq_b hs hJ
    have htake : ∀ x, x ∈ (fl s i).take (k + 1) ↔ x ∈ (fl s i).take k ∨ x = J := fun x => by
      rw [List.take_add_one, List.getElem?_eq_getElem hlt, hJe]
      simp
    have hold : ∀ x, (Cn s C i x ∧ x ∈ (fl s i).take k) → x < J := fun x hx => by
      obtain ⟨a, h1, h2, rfl⟩ := mem_take.1 hx.2
      rw [← hJe]; exact fl_lt h2 hlt
    have hval0 : ∀ x, (Cn s C i x ∧ x ∈ (fl s i).take k) → 0 ≤ (vl (csq s) C Pn i x).1 := fun x hx => by
      have a := csq_b hs hx.1.2.2.1
      have b := dp_bd hs hd hx.1.2.1
      have c := hx.1.2.2.2
      show 0 ≤ csq s i x + C x
      omega
    rw [if_pos (by simpa using hlt), ed_at hlt, hJe, wr64 (x := (k : Int) + 1) (by omega)]
    simp only [Option.bind_some]
    have hTo : (edge s i J).part_.To = (J : Int) := q5.2.1
    have hco : (edge s i J).cost_ = csq s i J := rfl
    have hmJ : atI (m.set i ⟨v.1, v.2⟩) (J : Int) = some ⟨C J, Pn J⟩ := rPr_at (by
      rw [map_set', List.getElem?_set, if_neg (by omega)]
      exact hm.done J (by omega) j2)
    have hmi : atI (m.set i ⟨v.1, v.2⟩) (i : Int) = some ⟨v.1, v.2⟩ := getI (by
      rw [List.getElem?_set, if_pos rfl, if_pos (by omega)])
    rw [hTo, hco, hmJ]
    simp only [Option.bind_some]
    by_cases hC : C J = -1
    · rw [if_pos (by simpa using hC)]
      refine ⟨_, rfl, ⟨k + 1, v, j, rfl, by omega, rfl, htl, hte, hb.congr (fun x => ⟨fun hx => ⟨hx.1, (htake x).2 (.inl hx.2)⟩, fun hx => ⟨hx.1, ?_⟩⟩) (fun _ _ => rfl), htk⟩, by dsimp only; omega⟩
      rcases (htake x).1 hx.2 with h | rfl
      · exact h
      · exact absurd hC hx.1.2.2.2
    · rw [if_neg (by simpa using hC), hmi]
      simp only [Option.bind_some]
      rw [wr64 (x := C J + csq s i J) (by omega), wr64 (x := Pn J + 1) (by omega)]
      have hcand : Cn s C i J := ⟨j1, j2, hJ, hC⟩
      have hstep := hb.step (J := J) hold hval0
      have e1 : vl (csq s) C Pn i J = (C J + csq s i J, Pn J + 1) := by unfold vl; rw [Int.add_comm]
      have hset' : ∀ x, ((Cn s C i x ∧ x ∈ (fl s i).take k) ∨ x = J) ↔ (Cn s C i x ∧ x ∈ (fl s i).take (k + 1)) := fun x => by
        rw [htake]
        constructor
        · rintro (h | rfl)
          · exact ⟨h.1, .inl h.2⟩
          · exact ⟨hcand, .inr rfl⟩
        · rintro ⟨h1, h2 | h2⟩
          · exact .inl ⟨h1, h2⟩
          · exact .inr h2
      have hstep := hstep.congr hset' (fun _ _ => rfl)
      have hbet : g_segment_rest_better ⟨C J + csq s i J, Pn J + 1⟩ ⟨v.1, v.2⟩ = some (decide (v.1 = -1 ∨ lexlt (vl (csq s) C Pn i J) v)) := by
        rw [e1]
        unfold g_segment_rest_better lexlt
        dsimp only
        by_cases a1 : v.1 = -1
        · simp [a1]
        · by_cases a2 : C J + csq s i J < v.1
          · simp [a1, a2]
          · by_cases a3 : C J + csq s i J = v.1
            · simp [a1, a2, a3]
            · simp [a1, a2, a3]
      rw [hbet]
      simp only [Option.bind_some]
      by_cases hb2 : v.1 = -1 ∨ lexlt (vl (csq s) C Pn i J) v
      · rw [if_pos hb2, if_pos hb2] at hstep
        rw [if_pos (by simpa using hb2)]
        rw [setI_nat _ (by rw [List.length_set]; omega), List.set_set]
        simp only [Option.bind_some]
        rw [atI_nat (by omega), setI_nat _ (by omega)]
        simp only [Option.bind_some]
        refine ⟨_, rfl, ⟨k + 1, vl (csq s) C Pn i J, J, rfl, by omega, by dsimp only; rw [e1], by dsimp only; rw [List.length_set]; exact htl, fun a ha => ?_, hstep, fun _ => ⟨k, ?_, ?_⟩⟩, by dsimp only; omega⟩
        · dsimp only
          rw [List.getElem?_set, if_neg (fun e => ha e.symm)]
          exact hte a ha
        · dsimp only
          rw [List.getElem?_set, if_pos rfl, if_pos (by omega)]
        · rw [List.getElem?_eq_getElem hlt, hJe]
      · rw [if_neg hb2, if_neg hb2] at hstep
        rw [if_neg (by simpa using hb2)]
        exact ⟨_, rfl, ⟨k + 1, v, j, rfl, by omega, rfl, htl, hte, hstep, htk⟩, by dsimp only; omega⟩
  · right
    rw [if_neg (by simpa using hlt)]
    have hfull : Bst (Cn s C i) (vl (csq s) C Pn i) v j := hb.congr (fun x => ⟨fun hx => hx.1, fun hx => ⟨hx, by
      rw [List.take_of_length_le (by omega)]
      exact fl_mem.2 (okQ_t.1 hx.2.2.1)⟩⟩) (fun _ _ => rfl)
    have hval0 : ∀ x, Cn s C i x → 0 ≤ (vl (csq s) C Pn i x).1 := fun x hx => by
      have a := csq_b hs hx.2.2.1
      have b := dp_bd hs hd hx.2.1
      have c := hx.2.2.2
      show 0 ≤ csq s i x + C x
      omega
    obtain ⟨u1, u2⟩ := hfull.uniq hval0 (hd.bst i (by omega) hi)
    have v1 : v.1 = C i := by rw [u1]
    have v2 : v.2 = Pn i := by rw [u1]
    refine ⟨_, rfl, ⟨?_, fun a h1 h2 => ?_, fun a h1 => ?_⟩, htl, fun a h1 h2 h3 => ?_⟩
    · dsimp only
      rw [List.length_map, List.length_set]; exact hml
    · dsimp only
      rw [map_set', List.getElem?_set]
      by_cases e : i = a
      · subst e
        rw [if_pos rfl, if_pos (by rw [List.length_map]; omega)]
        show some (v.1, v.2) = _
        rw [v1, v2]
      · rw [if_neg e]; exact hm.done a (by omega) h2
    · dsimp only
      rw [map_set', List.getElem?_set, if_neg (by omega)]
      exact hm.todo a (by omega)
    · dsimp only
      by_cases e : a = i
      · subst e
        have hv : v.1 ≠ -1 := by rw [v1]; exact h3
        rw [← u2 hv]
        exact htk hv
      · rw [hte a e]
        exact ht.2 a (by omega) h2 h3
instance (s : A_Speech) (C : Nat → Int) (i j : Nat) : Decidable (Cn s C i j) := by unfold Cn cnd; infer_instance
theorem seg_outer {s : A_Speech} (hs : Sv s) {C Pn : Nat → Int} {nx : Nat → Nat} (hd : Dp s C Pn nx) :
    ∃ e, iter (g_segment_Segment_s1 ((List.range s.Words.length).map (ed s))) ((s.Words.length : Int) - 1, List.replicate (s.Words.length + 1) ⟨0, 0⟩, List.replicate s.Words.length 0) = some e ∧ BestTo s C Pn 0 (e.1.map rPr) ∧ TakeOK s C nx 0 e.2 := by
  have hn := hs.ok.words
  refine iter_post (fun x => ∃ m : Nat, x.1 = (m : Int) - 1 ∧ m ≤ s.Words.length ∧ BestTo s C Pn m (x.2.1.map rPr) ∧ TakeOK s C nx m x.2.2) (fun x => (x.1 + 1).toNat) (fun (e : List T_segment_rest × List Int) => BestTo s C Pn 0 (e.1.map rPr) ∧ TakeOK s C nx 0 e.2) (x := ((s.Words.length : Int) - 1, _, _)) ⟨s.Words.length, rfl, Nat.le_refl _, ⟨by simp, fun k h1 h2 => ?_, fun k h1 => ?_⟩, by simp, fun k h1 h2 => by omega⟩ (by show ((s.Words.length : Int) - 1 + 1).toNat < _; omega) ?_
  · obtain rfl : k = s.Words.length := by omega
    rw [hd.n0, hd.p0, List.map_replicate, List.getElem?_replicate, if_pos (by omega)]; rfl
  · rw [List.map_replicate, List.getElem?_replicate, if_pos (by omega)]; rfl
  rintro ⟨x, bm, tk⟩ ⟨m, hx, hm, hb, ht⟩
  dsimp only at hx hb ht ⊢
  subst hx
  unfold g_segment_Segment_s1
  dsimp only
  cases m with
  | zero =>
    right
    rw [if_neg (by simp)]
    exact ⟨_, rfl, hb, ht⟩
  | succ i =>
    left
    have hbl := hb.len
    rw [List.length_map] at hbl
    rw [show ((i + 1 : Nat) : Int) - 1 = (i : Int) by omega, if_pos (by simp), rPr_at (hb.todo i (by omega))]
    simp only [Option.bind_some]
    rw [setI_nat _ (by omega), atI_nat (show i < ((List.range s.Words.length).map (ed s)).length by simp; omega), wr64 (x := (i : Int) - 1) (by omega)]
    simp only [Option.bind_some, List.getElem_map, List.getElem_range]
    obtain ⟨e, he, h1, h2⟩ := seg_inner hs hd (i := i) (by omega) hb ht (z1 := bm) (z2 := tk)
    rw [he]
    exact ⟨_, rfl, ⟨i, rfl, by omega, h1, h2⟩, by dsimp only; omega⟩
theorem pots_prog {e : List T_segment_rest × List Int} (hl : e.1.length ≤ 1000) : iter (g_segment_Segment_s3 e) (0, []) = some (e.1.map (·.cost_)) := by
  refine iter_of (fun x r => r = e.1.map (·.cost_) ∧ ∃ i : Nat, x.1 = (i : Int) ∧ i ≤ e.1.length ∧ x.2 = (e.1.take i).map (·.cost_)) (fun x => e.1.length - x.1.toNat) ?_ (x := (0, [])) ⟨rfl, 0, rfl, by omega, by simp⟩ (by show e.1.length - 0 < _; omega)
  rintro ⟨x, acc⟩ r ⟨rfl, i, hx, hi, ha⟩
  dsimp only at hx ha ⊢
  subst hx ha
  unfold g_segment_Segment_s3
  dsimp only
  by_cases h : i < e.1.length
  · left
    rw [if_pos (by simpa using h), atI_nat h, wr64 (x := (i : Int) + 1) (by omega)]
    simp only [Option.bind_some]
    rw [if_pos (by simp; omega)]
    refine ⟨_, rfl, ⟨by first | rfl | trivial, i + 1, rfl, h, ?_⟩, by dsimp only; omega⟩
    dsimp only
    rw [List.take_add_one, List.getElem?_eq_getElem h, List.map_append]
    rfl
  · right
    rw [if_neg (by simpa using h), List.take_of_length_le (by omega)]
theorem parts_prog {s : A_Speech} (hs : Sv s) {C Pn : Nat → Int} {nx : Nat → Nat} (hd : Dp s C Pn nx) {e : List T_segment_rest × List Int} (ht : TakeOK s C nx 0 e.2) {W : List (Nat × Nat)} (hW : Way s.Words.length (okQ s) C nx 0 W) :
    iter (g_segment_Segment_s4 ((List.range s.Words.length).map (ed s)) e) (0, []) = some (W.map fun q => (pq s q.1 q.2).1) := by
  have hn := hs.ok.words
  refine iter_of (fun x r => r = W.map (fun q => (pq s q.1 q.2).1) ∧ ∃ (i : Nat) (L : List (Nat × Nat)), x.1 = (i : Int) ∧ i ≤ s.Words.length ∧ Way s.Words.length (okQ s) C nx i L ∧ x.2 ++ L.map (fun q => (pq s q.1 q.2).1) = W.map (fun q => (pq s q.1 q.2).1) ∧ x.2.length ≤ i) (fun x => s.Words.length - x.1.toNat) ?_ (x := (0, [])) ⟨rfl, 0, W, rfl, by omega, hW, rfl, by simp⟩ (by show s.Words.length - 0 < _; omega)
  rintro ⟨x, acc⟩ r ⟨rfl, i, L, hx, hi, hL, ha, hal⟩
  dsimp only at hx ha hal ⊢
  subst hx
  unfold g_segment_Segment_s4
  dsimp only
  rw [List.length_map, List.length_range]
  cases hL with
  | nil =>
    right
    rw [if_neg (by simp), ← ha]
    simp
  | @cons i L h1 h2 h3 h4 =>
    left
    obtain ⟨t, t1, t2⟩ := ht.2 i (by omega) h1 h2
    obtain ⟨t3, t4⟩ := List.getElem?_eq_some_iff.1 t2
    have hq := okQ_t.1 h3.2.2.1
    obtain ⟨_, _, q4⟩ := pq_eq hs hq.1 hq.2.1
    have q5 := q4 (by simpa [okE] using hq.2.2)
    rw [if_pos (by simpa using h1), atI_nat (show i < ((List.range s.Words.length).map (ed s)).length by simp; omega), getI t1]
    simp only [Option.bind_some, List.getElem_map, List.getElem_range]
    rw [ed_at t3, t4]
    simp only [Option.bind_some]
    rw [if_pos (by omega)]
    refine ⟨_, rfl, ⟨by first | rfl | trivial, nx i, L, q5.2.1, hq.2.1, h4, ?_, by simp; omega⟩, ?_⟩
    · dsimp only
      rw [← ha]
      simp [edge]
    · dsimp only
      have : (edge s i (nx i)).part_.To = (nx i : Int) := q5.2.1
      rw [this]
      have := hq.1
      omega
theorem Segment_prog {s : A_Speech} (hs : Sv s) (hc : ckSp s = 0) {C Pn : Nat → Int} {nx : Nat → Nat} (hd : Dp s C Pn nx) {W : List (Nat × Nat)} (hW : C 0 ≠ -1 → Way s.Words.length (okQ s) C nx 0 W) :
    g_segment_Segment s = some (if C 0 = -1 then (⟨[], 0, []⟩, 11) else (⟨W.map (fun q => (pq s q.1 q.2).1), C 0, (List.range (s.Words.length + 1)).map C⟩, 0)) := by
  have hn := hs.ok.words
  obtain ⟨e, he, h1, h2⟩ := seg_outer hs hd
  have hel := h1.len
  rw [List.length_map] at hel
  have hpots : e.1.map (·.cost_) = (List.range (s.Words.length + 1)).map C := by
    refine List.ext_getElem? fun k => ?_
    by_cases hk : k < s.Words.length + 1
    · have := h1.done k (by omega) (by omega)
      rw [List.getElem?_map] at this ⊢
      rw [List.getElem?_map, List.getElem?_range hk]
      cases hx : e.1[k]? with
      | none => rw [hx] at this; cases this
      | some x =>
        rw [hx] at this
        simp [rPr] at this
        simp [this.1]
    · rw [List.getElem?_eq_none (by simp; omega), List.getElem?_eq_none (by simp; omega)]
  have ha := rPr_at (h1.done 0 (by omega) (by omega))
  simp only [Int.natCast_zero] at ha
  unfold g_segment_Segment
  rw [seg_Check hs.ok, hc, edges_eq hs]
  simp only [Option.bind_some, bne_self_eq_false, Bool.false_eq_true, if_false, List.length_map, List.length_range]
  rw [wr64 (x := (s.Words.length : Int) + 1) (by omega), wr64 (x := (s.Words.length : Int) - 1) (by omega), show ((s.Words.length : Int) + 1) = ((s.Words.length + 1 : Nat) : Int) by omega, mkI_nat 16 (s.Words.length + 1) _ (by omega) (by omega), mkI_nat 8 s.Words.length _ (by omega) (by omega)]
  simp only [Option.bind_some]
  rw [he]
  simp only [Option.bind_some]
  rw [ha]
  simp only [Option.bind_some]
  by_cases h0 : C 0 = -1
  · rw [if_pos (by simpa using h0), if_pos h0]
  · rw [if_neg (by simpa using h0), if_neg h0, pots_prog (by omega), parts_prog hs hd h2 (hW h0), hpots]
    rfl
theorem way_mem {s : A_Speech} {C : Nat → Int} {nx : Nat → Nat} {i : Nat} {W : List (Nat × Nat)} (h : Way s.Words.length (okQ s) C nx i W) : ∀ q ∈ W, okQ s q.1 q.2 = true := by
  induction h with
  | nil => simp
  | cons h1 h2 h3 h4 ih =>
    intro q hq
    rcases List.mem_cons.1 hq with rfl | hq
    · exact h3.2.2.1
    · exact ih q hq
def ckCh (n : Int) : Int → List A_Part → Option Int
  | a, [] => some a
  | a, p :: l => if p.From ≠ a ∨ p.To ≤ p.From ∨ n < p.To then none else ckCh n p.To l
theorem ckCh_cons (n a : Int) (p : A_Part) (l : List A_Part) : ckCh n a (p :: l) = if p.From ≠ a ∨ p.To ≤ p.From ∨ n < p.To then none else ckCh n p.To l := rfl
inductive Pa (n : Nat) : Nat → List (Nat × Nat) → Prop
  | nil : Pa n n []
  | cons {i j : Nat} {L : List (Nat × Nat)} : i < j → j ≤ n → Pa n j L → Pa n i ((i, j) :: L)
def inP (L : List (Nat × Nat)) : List (Int × Int) := L.map fun q => ((q.1 : Int), (q.2 : Int))
theorem chain_pa {n : Nat} : ∀ {l : List A_Part} {a : Nat}, a ≤ n → ckCh n a l = some (n : Int) → ∃ L, l.map (fun p => (p.From, p.To)) = inP L ∧ Pa n a L
  | [], a, ha, h => by
    unfold ckCh at h
    injection h with h
    obtain rfl : a = n := by omega
    exact ⟨[], rfl, .nil⟩
  | p :: l, a, ha, h => by
    unfold ckCh at h
    by_cases hq : p.From ≠ a ∨ p.To ≤ p.From ∨ (n : Int) < p.To
    · rw [if_pos hq] at h; cases h
    · rw [if_neg hq] at h
      obtain ⟨b, hb⟩ : ∃ b : Nat, p.To = (b : Int) := ⟨p.To.toNat, by omega⟩
      rw [hb] at h hq
      obtain ⟨L, h1, h2⟩ := chain_pa (a := b) (by omega) h
      refine ⟨(a, b) :: L, ?_, .cons (by omega) (by omega) h2⟩
      rw [List.map_cons, h1, hb]
      show (p.From, (b : Int)) :: inP L = ((a : Int), (b : Int)) :: inP L
      rw [show p.From = (a : Int) by omega]
theorem pa_mem {n a : Nat} {L : List (Nat × Nat)} (h : Pa n a L) : ∀ q ∈ L, a ≤ q.1 ∧ q.1 < q.2 ∧ q.2 ≤ n := by
  induction h with
  | nil => simp
  | cons h1 h2 h3 ih =>
    intro q hq
    rcases List.mem_cons.1 hq with rfl | hq
    · exact ⟨Nat.le_refl _, h1, h2⟩
    · have := ih q hq; omega
theorem pa_len {n a : Nat} {L : List (Nat × Nat)} (h : Pa n a L) : L.length + a ≤ n := by
  induction h with
  | nil => simp
  | cons h1 h2 h3 ih => simp only [List.length_cons]; omega
theorem chain_loop {s : A_Speech} (hn : s.Words.length ≤ 8) (l : List A_Part) (hl : l.length ≤ 10) : iter (g_segment_cost_s1 s l) (0, 0) = some (match ckCh s.Words.length 0 l with | none => .inl () | some a => .inr a) := by
  refine iter_of (fun x e => e = (match ckCh s.Words.length 0 l with | none => .inl () | some a => .inr a) ∧ ∃ i : Nat, x.2 = (i : Int) ∧ i ≤ l.length ∧ ckCh s.Words.length x.1 (l.drop i) = ckCh s.Words.length 0 l) (fun x => l.length - x.2.toNat) ?_ (x := (0, 0)) ⟨rfl, 0, rfl, by omega, by simp⟩ (by show l.length - 0 < _; omega)
  rintro ⟨a, x⟩ e ⟨rfl, i, hx, hi, hc⟩
  dsimp only at hx hc ⊢
  subst hx
  unfold g_segment_cost_s1
  dsimp only
  by_cases h : i < l.length
  · rw [List.drop_eq_getElem_cons h] at hc
    rw [ckCh_cons] at hc
    rw [if_pos (by simpa using h), atI_nat h, wr64 (x := (i : Int) + 1) (by omega)]
    simp only [Option.bind_some]
    generalize l[i] = p at hc ⊢
    have e1 : (if (p.From != a) = true then some true else if decide (p.To ≤ p.From) = true then some true else some (decide ((s.Words.length : Int) < p.To)) : Option Bool) = some (decide (p.From ≠ a ∨ p.To ≤ p.From ∨ (s.Words.length : Int) < p.To)) := by
      by_cases q1 : p.From = a
      · by_cases q2 : p.To ≤ p.From
        · have q3 : p.To ≤ a := by omega
          simp [q1, q3]
        · have q3 : ¬ p.To ≤ a := by omega
          simp [q1, q3]
      · simp [q1]
    rw [e1]
    simp only [Option.bind_some]
    by_cases hq : p.From ≠ a ∨ p.To ≤ p.From ∨ (s.Words.length : Int) < p.To
    · right
      rw [if_pos hq] at hc
      rw [if_pos (by rw [decide_eq_true_iff]; exact hq), ← hc]
    · left
      rw [if_neg hq] at hc
      rw [if_neg (by rw [decide_eq_true_iff]; exact hq)]
      exact ⟨_, rfl, ⟨by first | rfl | trivial, i + 1, rfl, h, hc⟩, by dsimp only; omega⟩
  · right
    rw [List.drop_eq_nil_of_le (by omega)] at hc
    rw [if_neg (by simpa using h), ← hc]
    rfl
def csL (s : A_Speech) : List (Nat × Nat) → Int ⊕ (List A_Part × Int)
  | [] => .inr ([], 0)
  | q :: L => if okE s q.1 q.2 then (match csL s L with | .inl e => .inl e | .inr r => .inr ((pq s q.1 q.2).1 :: r.1, csq s q.1 q.2 + r.2)) else .inl (pq s q.1 q.2).2.2
theorem csL_cons (s : A_Speech) (q : Nat × Nat) (L : List (Nat × Nat)) : csL s (q :: L) = if okE s q.1 q.2 then (match csL s L with | .inl e => .inl e | .inr r => .inr ((pq s q.1 q.2).1 :: r.1, csq s q.1 q.2 + r.2)) else .inl (pq s q.1 q.2).2.2 := rfl
def csF (out : List A_Part) (sum : Int) : Int ⊕ (List A_Part × Int) → Int ⊕ (List A_Part × Int)
  | .inl e => .inl e
  | .inr r => .inr (out ++ r.1, sum + r.2)
theorem csF_cons (s : A_Speech) (out : List A_Part) (sum : Int) (i j : Nat) (L : List (Nat × Nat)) (h : okE s i j = true) : csF out sum (csL s ((i, j) :: L)) = csF (out ++ [(pq s i j).1]) (sum + csq s i j) (csL s L) := by
  rw [csL_cons, if_pos h]
  cases csL s L with
  | inl e => rfl
  | inr r => simp [csF, Int.add_assoc]
theorem sum_loopP {s : A_Speech} (hs : Sv s) {l : List A_Part} {L : List (Nat × Nat)} (hl : l.map (fun p => (p.From, p.To)) = inP L) (hL : ∀ q ∈ L, q.1 < q.2 ∧ q.2 ≤ s.Words.length) (hn : L.length ≤ 10) :
    iter (g_segment_cost_s2 s l (tks s.Words)) ([], 0, 0) = some (csL s L) := by
  have hll : l.length = L.length := by
    have := congrArg List.length hl
    simpa [inP] using this
  have e0 : csL s L = csF [] 0 (csL s L) := by
    cases csL s L with
    | inl e => rfl
    | inr r => simp [csF]
  rw [e0]
  refine iter_of (fun x e => e = csF [] 0 (csL s L) ∧ ∃ i : Nat, x.2.2 = (i : Int) ∧ i ≤ L.length ∧ csF x.1 x.2.1 (csL s (L.drop i)) = csF [] 0 (csL s L) ∧ x.1.length = i ∧ 0 ≤ x.2.1 ∧ x.2.1 ≤ (i : Int) * 30000000000000) (fun x => L.length - x.2.2.toNat) ?_ (x := ([], 0, 0)) ⟨rfl, 0, rfl, by omega, by simp, rfl, by simp, by simp⟩ (by show L.length - 0 < _; omega)
  rintro ⟨out, sum, x⟩ e ⟨rfl, i, hx, hi, hc, hol, h0, h1⟩
  dsimp only at hx hc hol h0 h1 ⊢
  subst hx
  unfold g_segment_cost_s2
  dsimp only
  rw [hll]
  by_cases h : i < L.length
  · have hli : i < l.length := by omega
    have hp : (l[i].From, l[i].To) = ((L[i].1 : Int), (L[i].2 : Int)) := by
      have a : (l.map (fun p => (p.From, p.To)))[i]'(by simpa using hli) = (inP L)[i]'(by simpa [inP] using h) := by
        congr 1
      simpa [inP] using a
    injection hp with hp1 hp2
    have hq := hL _ (List.getElem_mem h)
    obtain ⟨q1, q3, q4⟩ := pq_eq hs hq.1 hq.2
    rw [List.drop_eq_getElem_cons h] at hc
    rw [if_pos (by simpa using h), atI_nat hli]
    simp only [Option.bind_some]
    rw [hp1, hp2, q1]
    simp only [Option.bind_some]
    by_cases he : (pq s L[i].1 L[i].2).2.2 = 0
    · left
      have hok : okE s L[i].1 L[i].2 = true := by simp [okE, he]
      have q5 := q4 he
      have hb : (pq s L[i].1 L[i].2).2.1 = csq s L[i].1 L[i].2 := rfl
      have hb2 : 0 ≤ csq s L[i].1 L[i].2 ∧ csq s L[i].1 L[i].2 ≤ 30000000000000 := ⟨q5.2.2.1, q5.2.2.2.1⟩
      rw [show L[i] = (L[i].1, L[i].2) from rfl, csF_cons s out sum _ _ _ hok] at hc
      rw [if_neg (by simpa using he), if_pos (by omega), hb, wr64 (x := sum + csq s L[i].1 L[i].2) (by omega), wr64 (x := (i : Int) + 1) (by omega)]
      exact ⟨_, rfl, ⟨by first | rfl | trivial, i + 1, rfl, h, hc, by simp [hol], by dsimp only; omega, by dsimp only; omega⟩, by dsimp only; omega⟩
    · right
      have hok : okE s L[i].1 L[i].2 = false := by simp [okE, he]
      rw [if_pos (by simpa using he), ← hc]
      rw [csL_cons, if_neg (by rw [hok]; simp)]
      rfl
  · right
    rw [List.drop_eq_nil_of_le (by omega)] at hc
    rw [if_neg (by simpa using h), ← hc]
    simp [csL, csF]
theorem cost_prog {s : A_Speech} (hs : Sv s) (l : List A_Part) (hl : l.length ≤ 10) :
    (ckCh s.Words.length 0 l ≠ some (s.Words.length : Int) ∧ g_segment_cost s l = some ([], 0, 1)) ∨
    ∃ L, l.map (fun p => (p.From, p.To)) = inP L ∧ Pa s.Words.length 0 L ∧ g_segment_cost s l = some (match csL s L with | .inl e => ([], 0, e) | .inr r => (r.1, r.2, 0)) := by
  have hn := hs.ok.words
  by_cases hc : ckCh s.Words.length 0 l = some (s.Words.length : Int)
  · right
    obtain ⟨L, h1, h2⟩ := chain_pa (n := s.Words.length) (a := 0) (by omega) hc
    have hlen : L.length ≤ 10 := by
      have := congrArg List.length h1
      simp [inP] at this
      omega
    refine ⟨L, h1, h2, ?_⟩
    have e2 := sum_loopP hs h1 (fun q hq => (pa_mem h2 q hq).2) hlen
    unfold g_segment_cost
    rw [chain_loop hn l hl, hc]
    simp only [Option.bind_some]
    rw [if_neg (by simp), tokens_eq hs.ok]
    simp only [Option.bind_some]
    rw [e2]
    simp only [Option.bind_some]
    cases csL s L <;> rfl
  · left
    refine ⟨hc, ?_⟩
    unfold g_segment_cost
    rw [chain_loop hn l hl]
    cases hcc : ckCh s.Words.length 0 l with
    | none => rfl
    | some a =>
      have : a ≠ (s.Words.length : Int) := fun e => hc (by rw [hcc, e])
      simp only [Option.bind_some]
      rw [if_pos (by simpa using this)]
def sumW (s : A_Speech) : List (Nat × Nat) → Int
  | [] => 0
  | q :: L => csq s q.1 q.2 + sumW s L
theorem csL_ok {s : A_Speech} : ∀ {L : List (Nat × Nat)}, (∀ q ∈ L, okE s q.1 q.2 = true) → csL s L = .inr (L.map (fun q => (pq s q.1 q.2).1), sumW s L)
  | [], _ => rfl
  | q :: L, h => by
    rw [csL_cons, if_pos (h q (by simp)), csL_ok (fun r hr => h r (by simp [hr]))]
    rfl
theorem way_pa {s : A_Speech} {C : Nat → Int} {nx : Nat → Nat} {i : Nat} {W : List (Nat × Nat)} (h : Way s.Words.length (okQ s) C nx i W) : Pa s.Words.length i W := by
  induction h with
  | nil => exact .nil
  | cons h1 h2 h3 h4 ih => exact .cons h3.1 h3.2.1 ih
end Go.Proofs.YtalfcmgcjdkolaaGreatDoor
namespace Go.Proofs.YtalfcmgcjdkolaaGreatDoor
set_option maxRecDepth 100000
set_option maxHeartbeats 10000000
theorem decL_4 (a b c d : UInt8) (t y : List UInt8) : decL (a :: b :: c :: d :: t ++ y) = decL (a :: b :: c :: d :: t) := by
  simp [decL]
theorem decL_app : ∀ (l y : List UInt8), (decL l).1 ≠ 65533 → decL (l ++ y) = decL l ∧ (decL l).2 ≤ l.length
  | [], y, h => absurd rfl h
  | [a], y, h => by
    have ha : a.toNat < 128 := by
      rcases Nat.lt_or_ge a.toNat 128 with q | q
      · exact q
      · exfalso; apply h
        have : ¬ a.toNat < 128 := by omega
        simp [decL, this]
    simp [decL, ha]
  | [a, b], y, h => by
    by_cases ha : a.toNat < 128
    · simp [decL, ha]
    · by_cases h1 : (a.toNat / 32 == 6 && b.toNat / 64 == 2) = true
      · have h1' := h1
        simp only [Bool.and_eq_true, beq_iff_eq] at h1'
        simp only [decL, ha, List.cons_append, List.nil_append, List.getElem?_cons_zero, List.getD_cons_zero, h1, if_true, if_false, List.length_cons, List.length_nil]
        split <;> simp
      · exfalso; apply h
        have h1 : (a.toNat / 32 == 6 && b.toNat / 64 == 2) = false := by simpa using h1
        simp [decL, ha, h1]
  | [a, b, c], y, h => by
    by_cases ha : a.toNat < 128
    · simp [decL, ha]
    · by_cases h1 : (a.toNat / 32 == 6 && b.toNat / 64 == 2) = true
      · simp only [decL, ha, List.cons_append, List.nil_append, List.getElem?_cons_zero, List.getD_cons_zero, h1, if_true, if_false, List.length_cons, List.length_nil]
        split <;> simp
      · by_cases h2 : (a.toNat / 16 == 14 && b.toNat / 64 == 2 && c.toNat / 64 == 2) = true
        · simp only [decL, ha, List.cons_append, List.nil_append, List.getElem?_cons_zero, List.getElem?_cons_succ, List.getD_cons_zero, List.getD_cons_succ, h1, h2, if_true, if_false, List.length_cons, List.length_nil, Bool.false_eq_true]
          split <;> simp
        · exfalso; apply h
          simp only [decL, ha, List.getElem?_cons_zero, List.getElem?_cons_succ, List.getElem?_nil, h1, h2, if_false, Bool.and_false, Bool.false_eq_true]
  | a :: b :: c :: d :: t, y, h => by
    refine ⟨decL_4 a b c d t y, ?_⟩
    simp only [decL, List.length_cons]
    repeat' split
    all_goals omega
theorem ixv_bad' : ixv 65533 = -1 := by unfold ixv; rw [ixv_bad]; rfl
theorem gv_dec {l : List UInt8} (h : l ≠ []) (hg : gv l = true) : (decL l).1 ≠ 65533 ∧ gv (l.drop (decL l).2) = true := by
  rw [gv_ne h] at hg
  simp only [Bool.and_eq_true, decide_eq_true_eq] at hg
  refine ⟨fun e => ?_, hg.2⟩
  have := hg.1
  rw [e] at this
  have e2 : ((65533 : Nat) : Int) = 65533 := rfl
  rw [e2, ixv_bad'] at this
  omega
theorem rnL_app : ∀ (n : Nat) (l y : List UInt8), l.length ≤ n → gv l = true → rnL (l ++ y) = rnL l ++ rnL y ∧ gv (l ++ y) = gv y := by
  intro n
  induction n with
  | zero =>
    intro l y h _
    have : l = [] := List.eq_nil_of_length_eq_zero (by omega)
    subst this
    simp [rnL_nil]
  | succ n ih =>
    intro l y h hg
    by_cases hl : l = []
    · subst hl; simp [rnL_nil]
    · obtain ⟨h1, h2⟩ := gv_dec hl hg
      obtain ⟨a1, a2⟩ := decL_app l y h1
      have hw := decL_wd hl
      have hpos := List.length_pos_iff.2 hl
      have hne : l ++ y ≠ [] := by simp [hl]
      obtain ⟨b1, b2⟩ := ih (l.drop (decL l).2) y (by simp; omega) h2
      have hdrop : (l ++ y).drop (decL l).2 = l.drop (decL l).2 ++ y := List.drop_append_of_le_length a2
      refine ⟨?_, ?_⟩
      · rw [rnL_ne hne, rnL_ne hl, a1, hdrop, b1]; rfl
      · rw [gv_ne hne, a1, hdrop, b2]
        rw [gv_ne hl] at hg
        simp only [Bool.and_eq_true] at hg
        rw [hg.1]; simp
theorem chL_app {x y : List UInt8} (hx : gv x = true) (hy : gv y = true) : chL (x ++ y) = chL x + chL y ∧ gv (x ++ y) = true := by
  obtain ⟨h1, h2⟩ := rnL_app x.length x y (Nat.le_refl _) hx
  unfold chL
  rw [h2, hx, hy, h1]
  simp
theorem chL_sp : chL [32] = 1 ∧ gv [32] = true := by
  have h0 : decL [32] = (32, 1) := by decide
  have h1 : ixv 32 = 0 := by unfold ixv; decide +kernel
  have hg : gv [32] = true := by
    rw [gv_ne (by simp), h0]
    have e : ((32 : Nat) : Int) = 32 := rfl
    dsimp only
    rw [e, h1]
    simp [gv_nil]
  refine ⟨?_, hg⟩
  unfold chL
  rw [hg, rnL_ne (by simp), h0]
  simp [rnL_nil]
end Go.Proofs.YtalfcmgcjdkolaaGreatDoor
