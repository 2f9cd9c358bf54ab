/- Texts of one proof, put together (PD, PE). No condition but those that each theorem states. -/
import Derived.Test.YtedhognhhcihpaaGreatDoorW4
set_option linter.unusedSimpArgs false
set_option linter.unusedVariables false
namespace Go.Proofs.YtedhognhhcihpaaGreatDoor
open Go.RowKit
set_option maxRecDepth 100000
set_option maxHeartbeats 10000000
structure T_captionerref07_Scanner where
  Line : T_api_Line
  At : Int
  Code : Int
  Col : Int
  deriving DecidableEq
def T_captionerref07_Scanner.d (x : T_captionerref07_Scanner) : D := .agg [.int .i64 x.Line.Number, .sl (x.Line.Fields.map T_api_Field.d), .int .i64 x.At, .int .i64 x.Code, .int .i64 x.Col]
theorem dd_PD : (∀ x, T_api_Field.d x = .agg [.str x.Text, .int .i64 x.Column, .bool x.Quoted]) ∧ (∀ x, T_api_Diag.d x = .agg [.int .i64 x.Line, .int .i64 x.Column, .int .i64 x.Code]) ∧ (∀ x, T_api_Line.d x = .agg [.int .i64 x.Number, .sl (x.Fields.map T_api_Field.d)]) ∧ (∀ x, T_captionerref07_Scanner.d x = .agg [.int .i64 x.Line.Number, .sl (x.Line.Fields.map T_api_Field.d), .int .i64 x.At, .int .i64 x.Code, .int .i64 x.Col]) := ⟨fun _ => rfl, fun _ => rfl, fun _ => rfl, fun _ => rfl⟩
def g_ref02_Valid (r_0 : Int) : Option (Bool) :=
  (if (decide (1 ≤ r_0)) then (some (decide (r_0 ≤ 7))) else (some false))
theorem a_ref02_Valid {I : World → Prop} (hI : Stab I) {r_0 : Int} {r : Bool} (h : g_ref02_Valid r_0 = some r) : AFun Tryz.prog I 45 [.int .u8 r_0] (.bool r) := by
  have dd := dd_PD; have k := True.intro; have q := k; have rs := Tryz.results45
  unfold g_ref02_Valid at h
  refine .en hI Tryz.func45 Tryz.ntmps45 ?_
  refine xs <| rz ?_
  refine es <| xs <| rK fun K5 RK5 hK5 gK5 => zz ?_
  rcases iK k h with ⟨k, h⟩ | ⟨k, h⟩
  · refine zz ?_
    subst hK5 gK5
    refine es <| xr ?_
    cases h
    exact en fr
  · refine zz ?_
    subst hK5 gK5
    refine es <| xr ?_
    cases h
    exact en fr
def g_ref02_Nominal (r_0 : Int) : Option (Int) :=
  ((g_ref02_Valid r_0).bind fun r7 => (if r7 then ((atI [24, 24, 25, 30, 30, 50, 60] (IntKind.u8.wrap (r_0 - 1))).bind fun y17 => (some y17)) else (some 0)))
theorem a_ref02_Nominal {I : World → Prop} (hI : Stab I) {r_0 : Int} {r : Int} (h : g_ref02_Nominal r_0 = some r) : AFun Tryz.prog I 21 [.int .u8 r_0] (.int .i64 r) := by
  have dd := dd_PD; have k := True.intro; have q := k; have rs := Tryz.results21
  unfold g_ref02_Nominal at h
  refine .en hI Tryz.func21 Tryz.ntmps21 ?_
  refine xs <| rz ?_
  refine es <| xs <| xs <| rK fun K6 RK6 hK6 gK6 => zz ?_
  obtain ⟨r7, h8, h⟩ := bs h
  refine cw (a_ref02_Valid hI h8) <| zz ?_
  subst hK6 gK6
  refine es ?_
  rcases iK k h with ⟨k, h⟩ | ⟨k, h⟩
  · refine xf <| xk <| es <| xs <| rK fun K16 RK16 hK16 gK16 => zz ?_
    obtain ⟨y17, h18, h⟩ := bind_some h
    obtain ⟨h19, h20, h21⟩ := atI_own h18
    have h21 := h21 (D.int .i64)
    simp only [List.map_cons, List.map_nil, dd] at h21
    have h20 : (IntKind.u8.wrap (r_0 - 1)) < 7 := by simpa using h20
    have q := And.intro h19 <| And.intro h20 <| And.intro @h21 q
    refine zz ?_
    subst hK16 gK16
    refine es <| xr ?_
    cases h
    exact en fr
  · refine xt <| xs <| rz ?_
    refine es <| xr <| er ?_
    cases h
    exact en fr
def g_ref08_Repertoire  : Option ((List UInt8)) :=
  (some [32, 33, 34, 35, 36, 37, 38, 39, 40, 41, 42, 43, 44, 45, 46, 47, 48, 49, 50, 51, 52, 53, 54, 55, 56, 57, 58, 59, 60, 61, 62, 63, 64, 65, 66, 67, 68, 69, 70, 71, 72, 73, 74, 75, 76, 77, 78, 79, 80, 81, 82, 83, 84, 85, 86, 87, 88, 89, 90, 91, 92, 93, 94, 95, 96, 97, 98, 99, 100, 101, 102, 103, 104, 105, 106, 107, 108, 109, 110, 111, 112, 113, 114, 115, 116, 117, 118, 119, 120, 121, 122, 123, 124, 125, 126, 194, 161, 194, 162, 194, 163, 194, 164, 194, 165, 194, 166, 194, 167, 194, 169, 194, 171, 194, 174, 194, 176, 194, 183, 194, 187, 194, 189, 194, 191, 195, 128, 195, 129, 195, 130, 195, 131, 195, 132, 195, 133, 195, 134, 195, 135, 195, 136, 195, 137, 195, 138, 195, 139, 195, 140, 195, 141, 195, 142, 195, 143, 195, 145, 195, 146, 195, 147, 195, 148, 195, 149, 195, 150, 195, 152, 195, 153, 195, 154, 195, 155, 195, 156, 195, 159, 195, 160, 195, 161, 195, 162, 195, 163, 195, 164, 195, 165, 195, 166, 195, 167, 195, 168, 195, 169, 195, 170, 195, 171, 195, 172, 195, 173, 195, 174, 195, 175, 195, 177, 195, 178, 195, 179, 195, 180, 195, 181, 195, 182, 195, 184, 195, 185, 195, 186, 195, 187, 195, 188, 197, 146, 197, 147, 226, 128, 148, 226, 128, 152, 226, 128, 153, 226, 128, 156, 226, 128, 157, 226, 128, 162, 226, 128, 166, 226, 132, 162, 226, 153, 170])
theorem a_ref08_Repertoire {I : World → Prop} (hI : Stab I)  {r : (List UInt8)} (h : g_ref08_Repertoire  = some r) : AFun Tryz.prog I 79 [] (.str r) := by
  have dd := dd_PD; have k := True.intro; have q := k; have rs := Tryz.results79
  unfold g_ref08_Repertoire at h
  refine .en hI Tryz.func79 Tryz.ntmps79 ?_
  refine xs <| rz ?_
  refine es <| xs <| rz ?_
  refine es <| xr ?_
  cases h
  exact en fr
def g_ref08_Index_s1 (r_0 : Int) (r18 : (List UInt8)) (x20 : Int × Nat) : Option (Nx (Int × Nat) (Int ⊕ Unit)) :=
  (if (decide (x20.2 < r18.length)) then (if ((runeAt r18 x20.2) == r_0) then (some (.out (.inl x20.1))) else (some (.go ((IntKind.i64.wrap (x20.1 + 1)), (x20.2 + widthAt r18 x20.2))))) else (some (.out (.inr ()))))
def g_ref08_Index (r_0 : Int) : Option (Int) :=
  (((if (decide (32 ≤ r_0)) then (some (decide (r_0 ≤ 126))) else (some false)) : Option (Bool)).bind fun v5 => (if v5 then (some (IntKind.i64.wrap (IntKind.i32.wrap (r_0 - 32)))) else ((g_ref08_Repertoire).bind fun r18 => ((iter (g_ref08_Index_s1 r_0 r18) (0, 0)).bind fun e21 => (match e21 with | Sum.inl e21 => (some e21) | Sum.inr (e21) => (some (-1)))))))
theorem a_ref08_Index {I : World → Prop} (hI : Stab I) {r_0 : Int} {r : Int} (h : g_ref08_Index r_0 = some r) : AFun Tryz.prog I 49 [.int .i32 r_0] (.int .i64 r) := by
  have dd := dd_PD; have k := True.intro; have q := k; have rs := Tryz.results49
  unfold g_ref08_Index at h
  refine .en hI Tryz.func49 Tryz.ntmps49 ?_
  refine xs <| rz ?_
  refine es <| xs ?_
  obtain ⟨v5, h8, h⟩ := bs h
  refine rb_cut (fun v5 => ⟨envL [(0, .int .i32 r_0), (11, .bool v5)], heapL [], 0, 26⟩) h8 ?_ ?_
  · clear h
    intro v5 h
    refine rK fun K6 RK6 hK6 gK6 => zz ?_
    rcases iK k h with ⟨k, h⟩ | ⟨k, h⟩
    · refine zz ?_
      subst hK6 gK6
      cases h
      exact en ⟨rfl, wk []⟩
    · refine zz ?_
      subst hK6 gK6
      cases h
      exact en ⟨rfl, wk []⟩
  · rcases iK k h with ⟨k, h⟩ | ⟨k, h⟩
    · refine xt <| xs <| rz ?_
      refine es <| xr <| er ?_
      cases h
      exact en fr
    · refine xf <| xk <| es <| xs <| rz ?_
      refine es <| xs <| xs <| rK fun K17 RK17 hK17 gK17 => zz ?_
      obtain ⟨r18, h19, h⟩ := bs h
      refine cw (a_ref08_Repertoire hI h19) <| zz ?_
      subst hK17 gK17
      refine es <| xb ?_
      obtain ⟨e21, h46, h⟩ := bs h
      refine rb_loop (fun x20 => ⟨envL [(0, .int .i32 r_0), (3, .int .i64 x20.1), (16, .ptr 0 0)], heapL [(0, .iter r18 x20.2)], 1, 26⟩) (fun w => match w with | Sum.inl _ => .ret | Sum.inr (_) => .exit 0) (fun w => match w with | Sum.inl e21 => ⟨envL [(2, .int .i64 e21)], heapL [], 0, 26⟩ | Sum.inr (e21) => ⟨envL [], heapL [], 0, 26⟩) h46 (wk [(0, some 2)]) (by intro w; rcases w with w | w <;> simp) ?_ ?_
      · clear h
        intro x20 y h
        unfold g_ref08_Index_s1 at h
        refine xs <| rK fun K36 RK36 hK36 gK36 => zz ?_
        rcases iK k h with ⟨k, h⟩ | ⟨k, h⟩
        · have k := And.intro (of_decide_eq_true k.1) k.2
          refine zz ?_
          subst hK36 gK36
          refine es <| xs <| xt <| xk <| es <| xb <| xs <| rz ?_
          refine es <| xs <| xs <| rz ?_
          refine es ?_
          rcases iK k h with ⟨k, h⟩ | ⟨k, h⟩
          · refine xt <| xs <| rz ?_
            refine es <| xr <| er <| br ?_
            cases h
            exact en ⟨rfl, wk []⟩
          · refine xf <| xk <| es <| rz ?_
            refine bn ?_
            cases h
            exact en ⟨rfl, wk []⟩
        · have k := And.intro (of_decide_eq_false k.1) k.2
          refine zz ?_
          subst hK36 gK36
          refine es <| xs <| xf <| xx <| ee ?_
          cases h
          exact en ⟨rfl, wk []⟩
      · rcases e21 with e21 | e21
        · try dsimp only at h ⊢
          refine br <| er ?_
          cases h
          exact en fr
        · try dsimp only at h ⊢
          refine bh <| es <| xs <| rz ?_
          refine es <| xr ?_
          cases h
          exact en fr
def g_ref08_Valid_s1 (s_0 : List UInt8) (x5 : Nat) : Option (Nx (Nat) (Unit ⊕ Unit)) :=
  (if (decide (x5 < s_0.length)) then ((g_ref08_Index (runeAt s_0 x5)).bind fun r32 => (if (decide (r32 < 0)) then (some (.out (.inl ()))) else (some (.go (x5 + widthAt s_0 x5))))) else (some (.out (.inr ()))))
def g_ref08_Valid (s_0 : List UInt8) : Option (Bool) :=
  ((iter (g_ref08_Valid_s1 s_0) 0).bind fun e6 => (match e6 with | Sum.inl e6 => (some false) | Sum.inr (e6) => (some true)))
theorem a_ref08_Valid {I : World → Prop} (hI : Stab I) {s_0 : List UInt8} {r : Bool} (h : g_ref08_Valid s_0 = some r) : AFun Tryz.prog I 28 [.str s_0] (.bool r) := by
  have dd := dd_PD; have k := True.intro; have q := k; have rs := Tryz.results28
  unfold g_ref08_Valid at h
  refine .en hI Tryz.func28 Tryz.ntmps28 ?_
  refine xs <| rz ?_
  refine es <| xs <| xs <| rz ?_
  refine es <| xb ?_
  obtain ⟨e6, h37, h⟩ := bs h
  refine rb_loop (fun x5 => ⟨envL [(6, .ptr 0 0)], heapL [(0, .iter s_0 x5)], 1, 13⟩) (fun w => match w with | Sum.inl _ => .ret | Sum.inr (_) => .exit 0) (fun w => match w with | Sum.inl e6 => ⟨envL [(2, .bool false)], heapL [], 0, 13⟩ | Sum.inr (e6) => ⟨envL [], heapL [], 0, 13⟩) h37 (wk [(0, some 2)]) (by intro w; rcases w with w | w <;> simp) ?_ ?_
  · clear h
    intro x5 y h
    unfold g_ref08_Valid_s1 at h
    refine xs <| rK fun K24 RK24 hK24 gK24 => zz ?_
    rcases iK k h with ⟨k, h⟩ | ⟨k, h⟩
    · have k := And.intro (of_decide_eq_true k.1) k.2
      refine zz ?_
      subst hK24 gK24
      refine es <| xs <| xt <| xk <| es <| xb <| xs <| rz ?_
      refine es <| xs <| rK fun K31 RK31 hK31 gK31 => zz ?_
      obtain ⟨r32, h33, h⟩ := bs h
      refine cw (a_ref08_Index hI h33) <| zz ?_
      subst hK31 gK31
      refine es ?_
      rcases iK k h with ⟨k, h⟩ | ⟨k, h⟩
      · refine xt <| xs <| rz ?_
        refine es <| xr <| br ?_
        cases h
        exact en ⟨rfl, wk []⟩
      · refine xf <| xk <| bn ?_
        cases h
        exact en ⟨rfl, wk []⟩
    · have k := And.intro (of_decide_eq_false k.1) k.2
      refine zz ?_
      subst hK24 gK24
      refine es <| xs <| xf <| xx <| ee ?_
      cases h
      exact en ⟨rfl, wk []⟩
  · rcases e6 with e6 | e6
    · try dsimp only at h ⊢
      refine br <| er ?_
      cases h
      exact en fr
    · try dsimp only at h ⊢
      refine bh <| es <| xs <| rz ?_
      refine es <| xr ?_
      cases h
      exact en fr
def g_ref08_runes_s1 (s_0 : List UInt8) (x7 : (List Int) × Nat) : Option (Nx ((List Int) × Nat) ((List Int))) :=
  (if (decide (x7.2 < s_0.length)) then (if (x7.1.length + 1) * 4 ≤ 140737488355328 then (some (.go ((x7.1 ++ [(runeAt s_0 x7.2)]), (x7.2 + widthAt s_0 x7.2)))) else none) else (some (.out x7.1)))
def g_ref08_runes (s_0 : List UInt8) : Option ((List Int)) :=
  ((iter (g_ref08_runes_s1 s_0) ([], 0)).bind fun e8 => (some e8))
theorem a_ref08_runes {I : World → Prop} (hI : Stab I) {s_0 : List UInt8} {r : (List Int)} (h : g_ref08_runes s_0 = some r) : AFun Tryz.prog I 50 [.str s_0] (.sl (r.map (D.int .i32))) := by
  have dd := dd_PD; have k := True.intro; have q := k; have rs := Tryz.results50
  unfold g_ref08_runes at h
  refine .en hI Tryz.func50 Tryz.ntmps50 ?_
  refine xs <| rz ?_
  refine es <| xs <| rz ?_
  refine es <| xs <| xs <| rz ?_
  refine es <| xb ?_
  obtain ⟨e8, h34, h⟩ := bs h
  refine rb_loop (fun x7 => ⟨envL [(3, .own 1 x7.1.length), (7, .ptr 0 0)], heapL [(0, .iter s_0 x7.2), (1, .vec 21 1 (x7.1.map (D.int .i32)) false)], 2, 16⟩) (fun _ => .exit 0) (fun e8 => ⟨envL [(3, .own 0 e8.length)], heapL [(0, .vec 21 1 (e8.map (D.int .i32)) false)], 1, 16⟩) h34 (wk [(0, some 3), (1, none)]) (by intro w; simp) ?_ ?_
  · clear h
    intro x7 y h
    unfold g_ref08_runes_s1 at h
    refine xs <| rK fun K27 RK27 hK27 gK27 => zz ?_
    rcases iK k h with ⟨k, h⟩ | ⟨k, h⟩
    · have k := And.intro (of_decide_eq_true k.1) k.2
      refine zz ?_
      subst hK27 gK27
      refine es <| xs <| xt <| xk <| es <| xb <| xs <| rz ?_
      refine es <| rK fun K31 RK31 hK31 gK31 => zz ?_
      obtain ⟨h32, h⟩ := ite_on h
      have h33 : x7.1.length + 1 ≤ 9223372036854775807 := by omega
      try simp only [Nat.reduceLeDiff] at h33
      have q := And.intro @h33 <| And.intro @h32 <| q
      refine zz ?_
      subst hK31 gK31
      refine bn ?_
      cases h
      exact en ⟨rfl, wk [(1, some 9)]⟩
    · have k := And.intro (of_decide_eq_false k.1) k.2
      refine zz ?_
      subst hK27 gK27
      refine es <| xs <| xf <| xx <| ee ?_
      cases h
      exact en ⟨rfl, wk [(0, some 1)]⟩
  · refine bh <| es <| xs <| rz ?_
    refine es <| xr ?_
    cases h
    exact en fr
def g_ref08_Chars (s_0 : List UInt8) : Option ((List Int)) :=
  ((g_ref08_Valid s_0).bind fun r7 => (if r7 then ((g_ref08_runes s_0).bind fun r14 => (some r14)) else (some [])))
theorem a_ref08_Chars {I : World → Prop} (hI : Stab I) {s_0 : List UInt8} {r : (List Int)} (h : g_ref08_Chars s_0 = some r) : AFun Tryz.prog I 29 [.str s_0] (.sl (r.map (D.int .i32))) := by
  have dd := dd_PD; have k := True.intro; have q := k; have rs := Tryz.results29
  unfold g_ref08_Chars at h
  refine .en hI Tryz.func29 Tryz.ntmps29 ?_
  refine xs <| rz ?_
  refine es <| xs <| xs <| rK fun K6 RK6 hK6 gK6 => zz ?_
  obtain ⟨r7, h8, h⟩ := bs h
  refine cw (a_ref08_Valid hI h8) <| zz ?_
  subst hK6 gK6
  refine es ?_
  rcases iK k h with ⟨k, h⟩ | ⟨k, h⟩
  · refine xf <| xk <| es <| xs <| rK fun K13 RK13 hK13 gK13 => zz ?_
    obtain ⟨r14, h15, h⟩ := bs h
    refine cw (a_ref08_runes hI h15) <| zz ?_
    subst hK13 gK13
    refine es <| xr ?_
    cases h
    exact en fr
  · refine xt <| xs <| rz ?_
    refine es <| xr <| er ?_
    cases h
    exact en fr
def g_ref07_digit (c_0 : Int) : Option (Bool) :=
  (if (decide (48 ≤ c_0)) then (some (decide (c_0 ≤ 57))) else (some false))
theorem a_ref07_digit {I : World → Prop} (hI : Stab I) {c_0 : Int} {r : Bool} (h : g_ref07_digit c_0 = some r) : AFun Tryz.prog I 48 [.int .u8 c_0] (.bool r) := by
  have dd := dd_PD; have k := True.intro; have q := k; have rs := Tryz.results48
  unfold g_ref07_digit at h
  refine .en hI Tryz.func48 Tryz.ntmps48 ?_
  refine xs <| rz ?_
  refine es <| xs <| rK fun K5 RK5 hK5 gK5 => zz ?_
  rcases iK k h with ⟨k, h⟩ | ⟨k, h⟩
  · refine zz ?_
    subst hK5 gK5
    refine es <| xr ?_
    cases h
    exact en fr
  · refine zz ?_
    subst hK5 gK5
    refine es <| xr ?_
    cases h
    exact en fr
def g_ref07_Name_s1 (s_0 : List UInt8) (x14 : Int) : Option (Nx (Int) (Unit ⊕ Unit)) :=
  (if (decide (x14 < (s_0.length : Int))) then ((((((atI s_0 x14).bind fun b133 => (if (decide (65 ≤ (b133.toNat : Int))) then (some (decide ((b133.toNat : Int) ≤ 90))) else (some false))) : Option (Bool)).bind fun v131 => (if v131 then (some (.go ())) else (if (x14 == 0) then (some (.out ())) else ((atI s_0 x14).bind fun b151 => ((g_ref07_digit (b151.toNat : Int)).bind fun r153 => (if r153 then (some (.go ())) else (if ((b151.toNat : Int) != 95) then (if ((b151.toNat : Int) != 45) then (some (.out ())) else (some (.go ()))) else (some (.go ()))))))))) : Option (Nx (Unit) (Unit))).bind fun w161 => match w161 with | .go v126 => (some (.go (IntKind.i64.wrap (x14 + 1)))) | .out e162 => (some (.out (.inl ())))) else (some (.out (.inr ()))))
def g_ref07_Name (s_0 : List UInt8) : Option (Bool) :=
  (((if (decide ((s_0.length : Int) < 1)) then (some true) else (some (decide (16 < (s_0.length : Int))))) : Option (Bool)).bind fun v5 => (if v5 then (some false) else ((iter (g_ref07_Name_s1 s_0) 0).bind fun e15 => (match e15 with | Sum.inl e15 => (some false) | Sum.inr (e15) => (some true)))))
theorem a_ref07_Name {I : World → Prop} (hI : Stab I) {s_0 : List UInt8} {r : Bool} (h : g_ref07_Name s_0 = some r) : AFun Tryz.prog I 25 [.str s_0] (.bool r) := by
  have dd := dd_PD; have k := True.intro; have q := k; have rs := Tryz.results25
  unfold g_ref07_Name at h
  refine .en hI Tryz.func25 Tryz.ntmps25 ?_
  refine xs <| rz ?_
  refine es <| xs ?_
  obtain ⟨v5, h8, h⟩ := bs h
  refine rb_cut (fun v5 => ⟨envL [(0, .str s_0), (12, .bool v5)], heapL [], 0, 54⟩) h8 ?_ ?_
  · clear h
    intro v5 h
    refine rK fun K6 RK6 hK6 gK6 => zz ?_
    rcases iK k h with ⟨k, h⟩ | ⟨k, h⟩
    · refine zz ?_
      subst hK6 gK6
      cases h
      exact en ⟨rfl, wk []⟩
    · refine zz ?_
      subst hK6 gK6
      cases h
      exact en ⟨rfl, wk []⟩
  · rcases iK k h with ⟨k, h⟩ | ⟨k, h⟩
    · refine xt <| xs <| rz ?_
      refine es <| xr <| er ?_
      cases h
      exact en fr
    · refine xf <| xk <| es <| xs <| xs <| rz ?_
      refine es <| xb ?_
      obtain ⟨e15, h164, h⟩ := bs h
      refine rb_loop (fun x14 => ⟨envL [(0, .str s_0), (3, .int .i64 x14)], heapL [], 0, 54⟩) (fun w => match w with | Sum.inl _ => .ret | Sum.inr (_) => .exit 0) (fun w => match w with | Sum.inl e15 => ⟨envL [(2, .bool false)], heapL [], 0, 54⟩ | Sum.inr (e15) => ⟨envL [], heapL [], 0, 54⟩) h164 (wk []) (by intro w; rcases w with w | w <;> simp) ?_ ?_
      · clear h
        intro x14 y h
        unfold g_ref07_Name_s1 at h
        refine xs <| xs <| rz ?_
        refine es ?_
        rcases iK k h with ⟨k, h⟩ | ⟨k, h⟩
        · refine xt <| xk <| es ?_
          obtain ⟨w161, h160, h⟩ := bs h
          refine rb_seg (fun v126 => ⟨envL [(0, .str s_0), (3, .int .i64 x14)], heapL [], 0, 54⟩) (fun _ => .ret) (fun e162 => ⟨envL [(2, .bool false)], heapL [], 0, 54⟩) h160 (by intro w; simp) ?_ ?_ ?_
          · clear h
            intro w161 h
            refine xb ?_
            obtain ⟨v131, h136, h⟩ := bs h
            refine rb_cut (fun v131 => ⟨envL [(0, .str s_0), (3, .int .i64 x14), (4, .bool v131)], heapL [], 0, 54⟩) h136 ?_ ?_
            · clear h
              intro v131 h
              refine rK fun K132 RK132 hK132 gK132 => zz ?_
              obtain ⟨b133, q, h⟩ := bK q h
              refine zz ?_
              rcases iK k h with ⟨k, h⟩ | ⟨k, h⟩
              · refine zz ?_
                subst hK132 gK132
                cases h
                exact en ⟨rfl, wk []⟩
              · refine zz ?_
                subst hK132 gK132
                cases h
                exact en ⟨rfl, wk []⟩
            · refine xs <| rK fun K146 RK146 hK146 gK146 => zz ?_
              rcases iK k h with ⟨k, h⟩ | ⟨k, h⟩
              · refine zz ?_
                subst hK146 gK146
                refine es <| xf <| xk <| bn ?_
                cases h
                exact en ⟨rfl, wk []⟩
              · refine zz ?_
                rcases iK k h with ⟨k, h⟩ | ⟨k, h⟩
                · refine zz ?_
                  subst hK146 gK146
                  refine es <| xt <| xs <| rz ?_
                  refine es <| xr <| br ?_
                  cases h
                  exact en ⟨rfl, wk []⟩
                · refine zz ?_
                  obtain ⟨b151, q, h⟩ := bK q h
                  refine zz ?_
                  obtain ⟨r153, h154, h⟩ := bs h
                  refine cw (a_ref07_digit hI h154) <| zz ?_
                  rcases iK k h with ⟨k, h⟩ | ⟨k, h⟩
                  · refine zz ?_
                    subst hK146 gK146
                    refine es <| xf <| xk <| bn ?_
                    cases h
                    exact en ⟨rfl, wk []⟩
                  · refine zz ?_
                    rcases iK k h with ⟨k, h⟩ | ⟨k, h⟩
                    · refine zz ?_
                      subst hK146 gK146
                      refine es ?_
                      rcases iK k h with ⟨k, h⟩ | ⟨k, h⟩
                      · refine xt <| xs <| rz ?_
                        refine es <| xr <| br ?_
                        cases h
                        exact en ⟨rfl, wk []⟩
                      · refine xf <| xk <| bn ?_
                        cases h
                        exact en ⟨rfl, wk []⟩
                    · refine zz ?_
                      subst hK146 gK146
                      refine es <| xf <| xk <| bn ?_
                      cases h
                      exact en ⟨rfl, wk []⟩
          · rintro v126 rfl
            dsimp only at h
            refine rz ?_
            cases h
            exact en ⟨rfl, wk []⟩
          · rintro e162 rfl
            dsimp only at h
            cases h
            exact en ⟨rfl, wk []⟩
        · refine xf <| xx <| ee ?_
          cases h
          exact en ⟨rfl, wk []⟩
      · rcases e15 with e15 | e15
        · try dsimp only at h ⊢
          refine br <| er ?_
          cases h
          exact en fr
        · try dsimp only at h ⊢
          refine bh <| es <| xs <| rz ?_
          refine es <| xr ?_
          cases h
          exact en fr
def g_ref07_Decimal_s1  (x64 : Int × (List UInt8)) : Option (Nx (Int × (List UInt8)) (Int × (List UInt8))) :=
  (if (decide (10 ≤ x64.1)) then ((subI ([48, 49, 50, 51, 52, 53, 54, 55, 56, 57] : List UInt8) (Int.tmod x64.1 10) (IntKind.u64.wrap ((Int.tmod x64.1 10) + 1))).bind fun z104 => (if z104.length + x64.2.length ≤ 9223372036854775807 then (some (.go ((IntKind.u64.wrap (Int.tdiv x64.1 10)), (z104 ++ x64.2)))) else none)) else (some (.out (x64.1, x64.2))))
def g_ref07_Decimal_s2  (x194 : Int × (List UInt8)) : Option (Nx (Int × (List UInt8)) (Int × (List UInt8))) :=
  (if (decide (10 ≤ x194.1)) then ((subI ([48, 49, 50, 51, 52, 53, 54, 55, 56, 57] : List UInt8) (Int.tmod x194.1 10) (IntKind.u64.wrap ((Int.tmod x194.1 10) + 1))).bind fun z234 => (if z234.length + x194.2.length ≤ 9223372036854775807 then (some (.go ((IntKind.u64.wrap (Int.tdiv x194.1 10)), (z234 ++ x194.2)))) else none)) else (some (.out (x194.1, x194.2))))
def g_ref07_Decimal (n_0 : Int) : Option ((List UInt8)) :=
  (if (decide (n_0 < 0)) then ((iter (g_ref07_Decimal_s1) ((IntKind.u64.wrap (0 - (IntKind.u64.wrap n_0))), [])).bind fun e65 => ((subI ([48, 49, 50, 51, 52, 53, 54, 55, 56, 57] : List UInt8) e65.1 (IntKind.u64.wrap (e65.1 + 1))).bind fun z128 => (if 1 + z128.length ≤ 9223372036854775807 then (if (1 + z128.length) + e65.2.length ≤ 9223372036854775807 then (some (([45] ++ z128) ++ e65.2)) else none) else none))) else ((iter (g_ref07_Decimal_s2) ((IntKind.u64.wrap n_0), [])).bind fun e195 => ((subI ([48, 49, 50, 51, 52, 53, 54, 55, 56, 57] : List UInt8) e195.1 (IntKind.u64.wrap (e195.1 + 1))).bind fun z258 => (if 0 + z258.length ≤ 9223372036854775807 then (if (0 + z258.length) + e195.2.length ≤ 9223372036854775807 then (some (([] ++ z258) ++ e195.2)) else none) else none))))
theorem a_ref07_Decimal {I : World → Prop} (hI : Stab I) {n_0 : Int} {r : (List UInt8)} (h : g_ref07_Decimal n_0 = some r) : AFun Tryz.prog I 57 [.int .i64 n_0] (.str r) := by
  have dd := dd_PD; have k := True.intro; have q := k; have rs := Tryz.results57
  unfold g_ref07_Decimal at h
  refine .en hI Tryz.func57 Tryz.ntmps57 ?_
  refine xs <| rz ?_
  refine es <| xs <| rz ?_
  refine es <| xs <| xs <| rz ?_
  refine es ?_
  rcases iK k h with ⟨k, h⟩ | ⟨k, h⟩
  · refine xt <| rz ?_
    refine es <| xs <| rz ?_
    refine es <| xs <| rz ?_
    refine es <| xs <| xb ?_
    obtain ⟨e65, h114, h⟩ := bs h
    refine rb_loop (fun x64 => ⟨envL [(3, .int .u64 x64.1), (4, .str [45]), (5, .str [48, 49, 50, 51, 52, 53, 54, 55, 56, 57]), (6, .str x64.2)], heapL [], 0, 35⟩) (fun _ => .exit 0) (fun e65 => ⟨envL [(3, .int .u64 e65.1), (4, .str [45]), (5, .str [48, 49, 50, 51, 52, 53, 54, 55, 56, 57]), (6, .str e65.2)], heapL [], 0, 35⟩) h114 (wk []) (by intro w; simp) ?_ ?_
    · clear h
      intro x64 y h
      unfold g_ref07_Decimal_s1 at h
      refine xs <| xs <| rz ?_
      refine es ?_
      rcases iK k h with ⟨k, h⟩ | ⟨k, h⟩
      · refine xt <| xk <| es <| xb <| xs <| rK fun K103 RK103 hK103 gK103 => zz ?_
        obtain ⟨z104, h105, h⟩ := bind_some h
        obtain ⟨⟨h106, h107, h108, h109⟩, h110⟩ := subI_some h105
        try simp only [List.length_cons, List.length_nil, Nat.zero_add, Nat.reduceAdd, Int.reduceToNat] at h106
        try simp only [List.length_cons, List.length_nil, Nat.zero_add, Nat.reduceAdd, Int.reduceToNat] at h107
        try simp only [List.length_cons, List.length_nil, Nat.zero_add, Nat.reduceAdd, Int.reduceToNat] at h108
        try simp only [List.length_cons, List.length_nil, Nat.zero_add, Nat.reduceAdd, Int.reduceToNat] at h109
        have q := And.intro @h106 <| And.intro @h107 <| And.intro @h108 <| And.intro @h109 <| q
        try simp -implicitDefEqProofs only [vt, vm, sevalprocAttr, dd, k, q] at h110
        have q := And.intro @h110 <| q
        refine zz ?_
        obtain ⟨h111, h⟩ := ite_on h
        have h112 : z104.length + x64.2.length ≤ 9223372036854775807 := by (try simp only [List.length_append, List.length_cons, List.length_nil]); omega
        try simp -implicitDefEqProofs only [vt, vm, sevalprocAttr, dd, k, q] at h112
        have q := And.intro @h112 <| And.intro @h111 <| q
        refine zz ?_
        subst hK103 gK103
        refine es <| rz ?_
        refine bn ?_
        cases h
        exact en ⟨rfl, wk []⟩
      · refine xf <| xx <| ee ?_
        cases h
        exact en ⟨rfl, wk []⟩
    · refine bh <| es <| xs <| rK fun K127 RK127 hK127 gK127 => zz ?_
      obtain ⟨z128, h129, h⟩ := bind_some h
      obtain ⟨⟨h130, h131, h132, h133⟩, h134⟩ := subI_some h129
      try simp only [List.length_cons, List.length_nil, Nat.zero_add, Nat.reduceAdd, Int.reduceToNat] at h130
      try simp only [List.length_cons, List.length_nil, Nat.zero_add, Nat.reduceAdd, Int.reduceToNat] at h131
      try simp only [List.length_cons, List.length_nil, Nat.zero_add, Nat.reduceAdd, Int.reduceToNat] at h132
      try simp only [List.length_cons, List.length_nil, Nat.zero_add, Nat.reduceAdd, Int.reduceToNat] at h133
      have q := And.intro @h130 <| And.intro @h131 <| And.intro @h132 <| And.intro @h133 <| q
      try simp -implicitDefEqProofs only [vt, vm, sevalprocAttr, dd, k, q] at h134
      have q := And.intro @h134 <| q
      refine zz ?_
      obtain ⟨h135, h⟩ := ite_on h
      have h136 : ([45] : List UInt8).length + z128.length ≤ 9223372036854775807 := by (try simp only [List.length_append, List.length_cons, List.length_nil]); omega
      try simp -implicitDefEqProofs only [vt, vm, sevalprocAttr, dd, k, q] at h136
      have q := And.intro @h136 <| And.intro @h135 <| q
      refine zz ?_
      obtain ⟨h137, h⟩ := ite_on h
      have h138 : ([45] ++ z128).length + e65.2.length ≤ 9223372036854775807 := by (try simp only [List.length_append, List.length_cons, List.length_nil]); omega
      try simp -implicitDefEqProofs only [vt, vm, sevalprocAttr, dd, k, q] at h138
      have q := And.intro @h138 <| And.intro @h137 <| q
      refine zz ?_
      subst hK127 gK127
      refine es <| xr ?_
      cases h
      exact en fr
  · refine xf <| xk <| es <| xs <| rz ?_
    refine es <| xs <| rz ?_
    refine es <| xs <| xb ?_
    obtain ⟨e195, h244, h⟩ := bs h
    refine rb_loop (fun x194 => ⟨envL [(3, .int .u64 x194.1), (4, .str []), (5, .str [48, 49, 50, 51, 52, 53, 54, 55, 56, 57]), (6, .str x194.2)], heapL [], 0, 35⟩) (fun _ => .exit 0) (fun e195 => ⟨envL [(3, .int .u64 e195.1), (4, .str []), (5, .str [48, 49, 50, 51, 52, 53, 54, 55, 56, 57]), (6, .str e195.2)], heapL [], 0, 35⟩) h244 (wk []) (by intro w; simp) ?_ ?_
    · clear h
      intro x194 y h
      unfold g_ref07_Decimal_s2 at h
      refine xs <| xs <| rz ?_
      refine es ?_
      rcases iK k h with ⟨k, h⟩ | ⟨k, h⟩
      · refine xt <| xk <| es <| xb <| xs <| rK fun K233 RK233 hK233 gK233 => zz ?_
        obtain ⟨z234, h235, h⟩ := bind_some h
        obtain ⟨⟨h236, h237, h238, h239⟩, h240⟩ := subI_some h235
        try simp only [List.length_cons, List.length_nil, Nat.zero_add, Nat.reduceAdd, Int.reduceToNat] at h236
        try simp only [List.length_cons, List.length_nil, Nat.zero_add, Nat.reduceAdd, Int.reduceToNat] at h237
        try simp only [List.length_cons, List.length_nil, Nat.zero_add, Nat.reduceAdd, Int.reduceToNat] at h238
        try simp only [List.length_cons, List.length_nil, Nat.zero_add, Nat.reduceAdd, Int.reduceToNat] at h239
        have q := And.intro @h236 <| And.intro @h237 <| And.intro @h238 <| And.intro @h239 <| q
        try simp -implicitDefEqProofs only [vt, vm, sevalprocAttr, dd, k, q] at h240
        have q := And.intro @h240 <| q
        refine zz ?_
        obtain ⟨h241, h⟩ := ite_on h
        have h242 : z234.length + x194.2.length ≤ 9223372036854775807 := by (try simp only [List.length_append, List.length_cons, List.length_nil]); omega
        try simp -implicitDefEqProofs only [vt, vm, sevalprocAttr, dd, k, q] at h242
        have q := And.intro @h242 <| And.intro @h241 <| q
        refine zz ?_
        subst hK233 gK233
        refine es <| rz ?_
        refine bn ?_
        cases h
        exact en ⟨rfl, wk []⟩
      · refine xf <| xx <| ee ?_
        cases h
        exact en ⟨rfl, wk []⟩
    · refine bh <| es <| xs <| rK fun K257 RK257 hK257 gK257 => zz ?_
      obtain ⟨z258, h259, h⟩ := bind_some h
      obtain ⟨⟨h260, h261, h262, h263⟩, h264⟩ := subI_some h259
      try simp only [List.length_cons, List.length_nil, Nat.zero_add, Nat.reduceAdd, Int.reduceToNat] at h260
      try simp only [List.length_cons, List.length_nil, Nat.zero_add, Nat.reduceAdd, Int.reduceToNat] at h261
      try simp only [List.length_cons, List.length_nil, Nat.zero_add, Nat.reduceAdd, Int.reduceToNat] at h262
      try simp only [List.length_cons, List.length_nil, Nat.zero_add, Nat.reduceAdd, Int.reduceToNat] at h263
      have q := And.intro @h260 <| And.intro @h261 <| And.intro @h262 <| And.intro @h263 <| q
      try simp -implicitDefEqProofs only [vt, vm, sevalprocAttr, dd, k, q] at h264
      have q := And.intro @h264 <| q
      refine zz ?_
      obtain ⟨h265, h⟩ := ite_on h
      have h266 : ([] : List UInt8).length + z258.length ≤ 9223372036854775807 := by (try simp only [List.length_append, List.length_cons, List.length_nil]); omega
      try simp -implicitDefEqProofs only [vt, vm, sevalprocAttr, dd, k, q] at h266
      have q := And.intro @h266 <| And.intro @h265 <| q
      refine zz ?_
      obtain ⟨h267, h⟩ := ite_on h
      have h268 : ([] ++ z258).length + e195.2.length ≤ 9223372036854775807 := by (try simp only [List.length_append, List.length_cons, List.length_nil]); omega
      try simp -implicitDefEqProofs only [vt, vm, sevalprocAttr, dd, k, q] at h268
      have q := And.intro @h268 <| And.intro @h267 <| q
      refine zz ?_
      subst hK257 gK257
      refine es <| xr ?_
      cases h
      exact en fr
def g_ref07_Quote_s1 (s_0 : List UInt8) (x7 : (List UInt8) × Int) : Option (Nx ((List UInt8) × Int) ((List UInt8))) :=
  (if (decide (x7.2 < (s_0.length : Int))) then ((((atI s_0 x7.2).bind fun b176 => (if ((b176.toNat : Int) == 34) then ((subI s_0 x7.2 (IntKind.i64.wrap (x7.2 + 1))).bind fun z182 => (if 1 + z182.length ≤ 9223372036854775807 then (if x7.1.length + (1 + z182.length) ≤ 9223372036854775807 then (some (x7.1 ++ ([92] ++ z182))) else none) else none)) else (if ((b176.toNat : Int) == 92) then ((subI s_0 x7.2 (IntKind.i64.wrap (x7.2 + 1))).bind fun z196 => (if 1 + z196.length ≤ 9223372036854775807 then (if x7.1.length + (1 + z196.length) ≤ 9223372036854775807 then (some (x7.1 ++ ([92] ++ z196))) else none) else none)) else (if ((b176.toNat : Int) == 10) then (if x7.1.length + 2 ≤ 9223372036854775807 then (some (x7.1 ++ [92, 110])) else none) else ((subI s_0 x7.2 (IntKind.i64.wrap (x7.2 + 1))).bind fun z214 => (if x7.1.length + z214.length ≤ 9223372036854775807 then (some (x7.1 ++ z214)) else none)))))) : Option ((List UInt8))).bind fun v171 => (some (.go (v171, (IntKind.i64.wrap (x7.2 + 1)))))) else (some (.out x7.1)))
def g_ref07_Quote (s_0 : List UInt8) : Option ((List UInt8)) :=
  ((iter (g_ref07_Quote_s1 s_0) ([34], 0)).bind fun e8 => (if e8.length + 1 ≤ 9223372036854775807 then (some (e8 ++ [34])) else none))
theorem a_ref07_Quote {I : World → Prop} (hI : Stab I) {s_0 : List UInt8} {r : (List UInt8)} (h : g_ref07_Quote s_0 = some r) : AFun Tryz.prog I 35 [.str s_0] (.str r) := by
  have dd := dd_PD; have k := True.intro; have q := k; have rs := Tryz.results35
  unfold g_ref07_Quote at h
  refine .en hI Tryz.func35 Tryz.ntmps35 ?_
  refine xs <| rz ?_
  refine es <| xs <| rz ?_
  refine es <| xs <| xs <| rz ?_
  refine es <| xb ?_
  obtain ⟨e8, h225, h⟩ := bs h
  refine rb_loop (fun x7 => ⟨envL [(0, .str s_0), (3, .str x7.1), (4, .int .i64 x7.2)], heapL [], 0, 38⟩) (fun _ => .exit 0) (fun e8 => ⟨envL [(3, .str e8)], heapL [], 0, 38⟩) h225 (wk []) (by intro w; simp) ?_ ?_
  · clear h
    intro x7 y h
    unfold g_ref07_Quote_s1 at h
    refine xs <| xs <| rz ?_
    refine es ?_
    rcases iK k h with ⟨k, h⟩ | ⟨k, h⟩
    · refine xt <| xk <| es ?_
      obtain ⟨v171, h223, h⟩ := bs h
      refine rb_cut (fun v171 => ⟨envL [(0, .str s_0), (3, .str v171), (4, .int .i64 x7.2)], heapL [], 0, 38⟩) h223 ?_ ?_
      · clear h
        intro v171 h
        refine xb <| xs <| rK fun K175 RK175 hK175 gK175 => zz ?_
        obtain ⟨b176, q, h⟩ := bK q h
        refine zz ?_
        subst hK175 gK175
        refine es <| xb <| xs <| xs <| rz ?_
        refine es ?_
        rcases iK k h with ⟨k, h⟩ | ⟨k, h⟩
        · refine xt <| xk <| es <| xt <| rK fun K181 RK181 hK181 gK181 => zz ?_
          obtain ⟨z182, h183, h⟩ := bind_some h
          obtain ⟨⟨h184, h185, h186, h187⟩, h188⟩ := subI_some h183
          have q := And.intro @h184 <| And.intro @h185 <| And.intro @h186 <| And.intro @h187 <| q
          try simp -implicitDefEqProofs only [vt, vm, sevalprocAttr, dd, k, q] at h188
          have q := And.intro @h188 <| q
          refine zz ?_
          obtain ⟨h189, h⟩ := ite_on h
          have h190 : ([92] : List UInt8).length + z182.length ≤ 9223372036854775807 := by (try simp only [List.length_append, List.length_cons, List.length_nil]); omega
          try simp -implicitDefEqProofs only [vt, vm, sevalprocAttr, dd, k, q] at h190
          have q := And.intro @h190 <| And.intro @h189 <| q
          refine zz ?_
          obtain ⟨h191, h⟩ := ite_on h
          have h192 : x7.1.length + ([92] ++ z182).length ≤ 9223372036854775807 := by (try simp only [List.length_append, List.length_cons, List.length_nil]); omega
          try simp -implicitDefEqProofs only [vt, vm, sevalprocAttr, dd, k, q] at h192
          have q := And.intro @h192 <| And.intro @h191 <| q
          refine zz ?_
          subst hK181 gK181
          refine bn <| bn ?_
          cases h
          exact en ⟨rfl, wk []⟩
        · refine xf <| rz ?_
          refine es ?_
          rcases iK k h with ⟨k, h⟩ | ⟨k, h⟩
          · refine xt <| rK fun K195 RK195 hK195 gK195 => zz ?_
            obtain ⟨z196, h197, h⟩ := bind_some h
            obtain ⟨⟨h198, h199, h200, h201⟩, h202⟩ := subI_some h197
            have q := And.intro @h198 <| And.intro @h199 <| And.intro @h200 <| And.intro @h201 <| q
            try simp -implicitDefEqProofs only [vt, vm, sevalprocAttr, dd, k, q] at h202
            have q := And.intro @h202 <| q
            refine zz ?_
            obtain ⟨h203, h⟩ := ite_on h
            have h204 : ([92] : List UInt8).length + z196.length ≤ 9223372036854775807 := by (try simp only [List.length_append, List.length_cons, List.length_nil]); omega
            try simp -implicitDefEqProofs only [vt, vm, sevalprocAttr, dd, k, q] at h204
            have q := And.intro @h204 <| And.intro @h203 <| q
            refine zz ?_
            obtain ⟨h205, h⟩ := ite_on h
            have h206 : x7.1.length + ([92] ++ z196).length ≤ 9223372036854775807 := by (try simp only [List.length_append, List.length_cons, List.length_nil]); omega
            try simp -implicitDefEqProofs only [vt, vm, sevalprocAttr, dd, k, q] at h206
            have q := And.intro @h206 <| And.intro @h205 <| q
            refine zz ?_
            subst hK195 gK195
            refine bn <| bn ?_
            cases h
            exact en ⟨rfl, wk []⟩
          · refine xf <| xs <| rz ?_
            refine es ?_
            rcases iK k h with ⟨k, h⟩ | ⟨k, h⟩
            · refine xt <| rK fun K210 RK210 hK210 gK210 => zz ?_
              obtain ⟨h211, h⟩ := ite_on h
              have h212 : x7.1.length + ([92, 110] : List UInt8).length ≤ 9223372036854775807 := by (try simp only [List.length_append, List.length_cons, List.length_nil]); omega
              try simp -implicitDefEqProofs only [vt, vm, sevalprocAttr, dd, k, q] at h212
              have q := And.intro @h212 <| And.intro @h211 <| q
              refine zz ?_
              subst hK210 gK210
              refine bn <| bn ?_
              cases h
              exact en ⟨rfl, wk []⟩
            · refine xf <| rK fun K213 RK213 hK213 gK213 => zz ?_
              obtain ⟨z214, h215, h⟩ := bind_some h
              obtain ⟨⟨h216, h217, h218, h219⟩, h220⟩ := subI_some h215
              have q := And.intro @h216 <| And.intro @h217 <| And.intro @h218 <| And.intro @h219 <| q
              try simp -implicitDefEqProofs only [vt, vm, sevalprocAttr, dd, k, q] at h220
              have q := And.intro @h220 <| q
              refine zz ?_
              obtain ⟨h221, h⟩ := ite_on h
              have h222 : x7.1.length + z214.length ≤ 9223372036854775807 := by (try simp only [List.length_append, List.length_cons, List.length_nil]); omega
              try simp -implicitDefEqProofs only [vt, vm, sevalprocAttr, dd, k, q] at h222
              have q := And.intro @h222 <| And.intro @h221 <| q
              refine zz ?_
              subst hK213 gK213
              refine bn <| bn ?_
              cases h
              exact en ⟨rfl, wk []⟩
      · refine rz ?_
        cases h
        exact en ⟨rfl, wk []⟩
    · refine xf <| xx <| ee ?_
      cases h
      exact en ⟨rfl, wk []⟩
  · refine bh <| es <| xs <| rK fun K229 RK229 hK229 gK229 => zz ?_
    obtain ⟨h230, h⟩ := ite_on h
    have h231 : e8.length + ([34] : List UInt8).length ≤ 9223372036854775807 := by (try simp only [List.length_append, List.length_cons, List.length_nil]); omega
    try simp -implicitDefEqProofs only [vt, vm, sevalprocAttr, dd, k, q] at h231
    have q := And.intro @h231 <| And.intro @h230 <| q
    refine zz ?_
    subst hK229 gK229
    refine es <| xr ?_
    cases h
    exact en fr
def g_ref07_quoted_s1 (s_0 : List UInt8) (x226 : Int × (List UInt8)) : Option (Nx (Int × (List UInt8)) (((List UInt8) × Int × Int) ⊕ Unit)) :=
  (if (decide (x226.1 < (s_0.length : Int))) then ((atI s_0 x226.1).bind fun b343 => (if ((b343.toNat : Int) == 34) then (((if (decide ((IntKind.i64.wrap (x226.1 + 1)) < (s_0.length : Int))) then ((atI s_0 (IntKind.i64.wrap (x226.1 + 1))).bind fun b355 => (some ((b355.toNat : Int) != 32))) else (some false)) : Option (Bool)).bind fun v352 => (if v352 then (some (.out (.inl ([], 0, (IntKind.i64.wrap (x226.1 + 1)))))) else (some (.out (.inl (x226.2, (IntKind.i64.wrap (x226.1 + 1)), -1)))))) else (((if (decide ((b343.toNat : Int) < 32)) then (some true) else (some ((b343.toNat : Int) == 127))) : Option (Bool)).bind fun v365 => (if v365 then (some (.out (.inl ([], 0, x226.1)))) else (if ((b343.toNat : Int) != 92) then ((subI s_0 x226.1 (IntKind.i64.wrap (x226.1 + 1))).bind fun z386 => (if x226.2.length + z386.length ≤ 9223372036854775807 then (some (.go ((IntKind.i64.wrap (x226.1 + 1)), (x226.2 ++ z386)))) else none)) else (if (decide ((s_0.length : Int) ≤ (IntKind.i64.wrap (x226.1 + 1)))) then (some (.out (.inl ([], 0, x226.1)))) else ((atI s_0 (IntKind.i64.wrap (x226.1 + 1))).bind fun b406 => (if ((b406.toNat : Int) == 34) then ((subI s_0 (IntKind.i64.wrap (x226.1 + 1)) (IntKind.i64.wrap (x226.1 + 2))).bind fun z412 => (if x226.2.length + z412.length ≤ 9223372036854775807 then (some (.go ((IntKind.i64.wrap (x226.1 + 2)), (x226.2 ++ z412)))) else none)) else (if ((b406.toNat : Int) == 92) then ((subI s_0 (IntKind.i64.wrap (x226.1 + 1)) (IntKind.i64.wrap (x226.1 + 2))).bind fun z425 => (if x226.2.length + z425.length ≤ 9223372036854775807 then (some (.go ((IntKind.i64.wrap (x226.1 + 2)), (x226.2 ++ z425)))) else none)) else (if ((b406.toNat : Int) == 110) then (if x226.2.length + 1 ≤ 9223372036854775807 then (some (.go ((IntKind.i64.wrap (x226.1 + 2)), (x226.2 ++ [10])))) else none) else (some (.out (.inl ([], 0, x226.1)))))))))))))) else (some (.out (.inr ()))))
def g_ref07_quoted (s_0 : List UInt8) (i_1 : Int) : Option ((List UInt8) × Int × Int) :=
  ((iter (g_ref07_quoted_s1 s_0) ((IntKind.i64.wrap (i_1 + 1)), [])).bind fun e227 => (match e227 with | Sum.inl e227 => (some (e227.1, e227.2.1, e227.2.2)) | Sum.inr (e227) => (some ([], 0, (s_0.length : Int)))))
theorem a_ref07_quoted {I : World → Prop} (hI : Stab I) {s_0 : List UInt8} {i_1 : Int} {r : (List UInt8) × Int × Int} (h : g_ref07_quoted s_0 i_1 = some r) : AFun Tryz.prog I 88 [.str s_0, .int .i64 i_1] (.tup [.str r.1, .int .i64 r.2.1, .int .i64 r.2.2]) := by
  have dd := dd_PD; have k := True.intro; have q := k; have rs := Tryz.results88
  unfold g_ref07_quoted at h
  refine .en hI Tryz.func88 Tryz.ntmps88 ?_
  refine xs <| rz ?_
  refine es <| xs <| rz ?_
  refine es <| xs <| rz ?_
  refine es <| xs <| xb ?_
  obtain ⟨e227, h444, h⟩ := bs h
  refine rb_loop (fun x226 => ⟨envL [(0, .str s_0), (1, .int .i64 x226.1), (7, .str x226.2)], heapL [], 0, 85⟩) (fun w => match w with | Sum.inl _ => .ret | Sum.inr (_) => .exit 0) (fun w => match w with | Sum.inl e227 => ⟨envL [(4, .str e227.1), (5, .int .i64 e227.2.1), (6, .int .i64 e227.2.2)], heapL [], 0, 85⟩ | Sum.inr (e227) => ⟨envL [(0, .str s_0)], heapL [], 0, 85⟩) h444 (wk []) (by intro w; rcases w with w | w <;> simp) ?_ ?_
  · clear h
    intro x226 y h
    unfold g_ref07_quoted_s1 at h
    refine xs <| xs <| rz ?_
    refine es ?_
    rcases iK k h with ⟨k, h⟩ | ⟨k, h⟩
    · refine xt <| xk <| es <| xb <| xs <| rK fun K342 RK342 hK342 gK342 => zz ?_
      obtain ⟨b343, q, h⟩ := bK q h
      refine zz ?_
      subst hK342 gK342
      refine es <| xs <| xs <| rz ?_
      refine es ?_
      rcases iK k h with ⟨k, h⟩ | ⟨k, h⟩
      · refine xt <| xs ?_
        obtain ⟨v352, h357, h⟩ := bs h
        refine rb_cut (fun v352 => ⟨envL [(1, .int .i64 x226.1), (7, .str x226.2), (31, .bool v352)], heapL [], 0, 85⟩) h357 ?_ ?_
        · clear h
          intro v352 h
          refine rK fun K353 RK353 hK353 gK353 => zz ?_
          rcases iK k h with ⟨k, h⟩ | ⟨k, h⟩
          · refine zz ?_
            obtain ⟨b355, q, h⟩ := bK q h
            refine zz ?_
            subst hK353 gK353
            cases h
            exact en ⟨rfl, wk []⟩
          · refine zz ?_
            subst hK353 gK353
            cases h
            exact en ⟨rfl, wk []⟩
        · rcases iK k h with ⟨k, h⟩ | ⟨k, h⟩
          · refine xt <| xs <| rz ?_
            refine es <| xr <| er <| er <| br ?_
            cases h
            exact en ⟨rfl, wk []⟩
          · refine xf <| xk <| es <| xs <| rz ?_
            refine es <| xr <| er <| br ?_
            cases h
            exact en ⟨rfl, wk []⟩
      · refine xf <| xk <| es <| xs ?_
        obtain ⟨v365, h368, h⟩ := bs h
        refine rb_cut (fun v365 => ⟨envL [(0, .str s_0), (1, .int .i64 x226.1), (7, .str x226.2), (8, .int .u8 (b343.toNat : Int)), (42, .bool v365)], heapL [], 0, 85⟩) h368 ?_ ?_
        · clear h
          intro v365 h
          refine rK fun K366 RK366 hK366 gK366 => zz ?_
          rcases iK k h with ⟨k, h⟩ | ⟨k, h⟩
          · refine zz ?_
            subst hK366 gK366
            cases h
            exact en ⟨rfl, wk []⟩
          · refine zz ?_
            subst hK366 gK366
            cases h
            exact en ⟨rfl, wk []⟩
        · rcases iK k h with ⟨k, h⟩ | ⟨k, h⟩
          · refine xt <| xs <| rz ?_
            refine es <| xr <| er <| br ?_
            cases h
            exact en ⟨rfl, wk []⟩
          · refine xf <| xk <| es <| xs <| xs <| rz ?_
            refine es ?_
            rcases iK k h with ⟨k, h⟩ | ⟨k, h⟩
            · refine xt <| xs <| rK fun K385 RK385 hK385 gK385 => zz ?_
              obtain ⟨z386, h387, h⟩ := bind_some h
              obtain ⟨⟨h388, h389, h390, h391⟩, h392⟩ := subI_some h387
              have q := And.intro @h388 <| And.intro @h389 <| And.intro @h390 <| And.intro @h391 <| q
              try simp -implicitDefEqProofs only [vt, vm, sevalprocAttr, dd, k, q] at h392
              have q := And.intro @h392 <| q
              refine zz ?_
              obtain ⟨h393, h⟩ := ite_on h
              have h394 : x226.2.length + z386.length ≤ 9223372036854775807 := by (try simp only [List.length_append, List.length_cons, List.length_nil]); omega
              try simp -implicitDefEqProofs only [vt, vm, sevalprocAttr, dd, k, q] at h394
              have q := And.intro @h394 <| And.intro @h393 <| q
              refine zz ?_
              subst hK385 gK385
              refine es <| xs <| rz ?_
              refine es <| xx <| ee <| bh ?_
              cases h
              exact en ⟨rfl, wk []⟩
            · refine xf <| xk <| es <| xs <| xs <| rz ?_
              refine es ?_
              rcases iK k h with ⟨k, h⟩ | ⟨k, h⟩
              · refine xt <| xs <| rz ?_
                refine es <| xr <| er <| br ?_
                cases h
                exact en ⟨rfl, wk []⟩
              · refine xf <| xk <| es <| xs <| xs <| rK fun K405 RK405 hK405 gK405 => zz ?_
                obtain ⟨b406, q, h⟩ := bK q h
                refine zz ?_
                subst hK405 gK405
                refine es <| xb <| xs <| xs <| rz ?_
                refine es ?_
                rcases iK k h with ⟨k, h⟩ | ⟨k, h⟩
                · refine xt <| xk <| es <| xt <| rK fun K411 RK411 hK411 gK411 => zz ?_
                  obtain ⟨z412, h413, h⟩ := bind_some h
                  obtain ⟨⟨h414, h415, h416, h417⟩, h418⟩ := subI_some h413
                  have q := And.intro @h414 <| And.intro @h415 <| And.intro @h416 <| And.intro @h417 <| q
                  try simp -implicitDefEqProofs only [vt, vm, sevalprocAttr, dd, k, q] at h418
                  have q := And.intro @h418 <| q
                  refine zz ?_
                  obtain ⟨h419, h⟩ := ite_on h
                  have h420 : x226.2.length + z412.length ≤ 9223372036854775807 := by (try simp only [List.length_append, List.length_cons, List.length_nil]); omega
                  try simp -implicitDefEqProofs only [vt, vm, sevalprocAttr, dd, k, q] at h420
                  have q := And.intro @h420 <| And.intro @h419 <| q
                  refine zz ?_
                  subst hK411 gK411
                  refine bn <| es <| rz ?_
                  refine bn ?_
                  cases h
                  exact en ⟨rfl, wk []⟩
                · refine xf <| rz ?_
                  refine es ?_
                  rcases iK k h with ⟨k, h⟩ | ⟨k, h⟩
                  · refine xt <| rK fun K424 RK424 hK424 gK424 => zz ?_
                    obtain ⟨z425, h426, h⟩ := bind_some h
                    obtain ⟨⟨h427, h428, h429, h430⟩, h431⟩ := subI_some h426
                    have q := And.intro @h427 <| And.intro @h428 <| And.intro @h429 <| And.intro @h430 <| q
                    try simp -implicitDefEqProofs only [vt, vm, sevalprocAttr, dd, k, q] at h431
                    have q := And.intro @h431 <| q
                    refine zz ?_
                    obtain ⟨h432, h⟩ := ite_on h
                    have h433 : x226.2.length + z425.length ≤ 9223372036854775807 := by (try simp only [List.length_append, List.length_cons, List.length_nil]); omega
                    try simp -implicitDefEqProofs only [vt, vm, sevalprocAttr, dd, k, q] at h433
                    have q := And.intro @h433 <| And.intro @h432 <| q
                    refine zz ?_
                    subst hK424 gK424
                    refine bn <| es <| rz ?_
                    refine bn ?_
                    cases h
                    exact en ⟨rfl, wk []⟩
                  · refine xf <| xs <| rz ?_
                    refine es ?_
                    rcases iK k h with ⟨k, h⟩ | ⟨k, h⟩
                    · refine xt <| rK fun K438 RK438 hK438 gK438 => zz ?_
                      obtain ⟨h439, h⟩ := ite_on h
                      have h440 : x226.2.length + ([10] : List UInt8).length ≤ 9223372036854775807 := by (try simp only [List.length_append, List.length_cons, List.length_nil]); omega
                      try simp -implicitDefEqProofs only [vt, vm, sevalprocAttr, dd, k, q] at h440
                      have q := And.intro @h440 <| And.intro @h439 <| q
                      refine zz ?_
                      subst hK438 gK438
                      refine bn <| es <| rz ?_
                      refine bn ?_
                      cases h
                      exact en ⟨rfl, wk []⟩
                    · refine xf <| xs <| rz ?_
                      refine es <| xr <| br <| er <| br ?_
                      cases h
                      exact en ⟨rfl, wk []⟩
    · refine xf <| xx <| ee ?_
      cases h
      exact en ⟨rfl, wk []⟩
  · rcases e227 with e227 | e227
    · try dsimp only at h ⊢
      refine br <| er ?_
      cases h
      exact en fr
    · try dsimp only at h ⊢
      refine bh <| es <| xs <| rz ?_
      refine es <| xr ?_
      cases h
      exact en fr
def g_ref07_wordByte (c_0 : Int) : Option (Bool) :=
  (if (decide (33 ≤ c_0)) then (if (decide (c_0 ≤ 126)) then (some (c_0 != 34)) else (some false)) else (some false))
theorem a_ref07_wordByte {I : World → Prop} (hI : Stab I) {c_0 : Int} {r : Bool} (h : g_ref07_wordByte c_0 = some r) : AFun Tryz.prog I 89 [.int .u8 c_0] (.bool r) := by
  have dd := dd_PD; have k := True.intro; have q := k; have rs := Tryz.results89
  unfold g_ref07_wordByte at h
  refine .en hI Tryz.func89 Tryz.ntmps89 ?_
  refine xs <| rz ?_
  refine es <| xs <| rK fun K6 RK6 hK6 gK6 => zz ?_
  rcases iK k h with ⟨k, h⟩ | ⟨k, h⟩
  · refine zz ?_
    rcases iK k h with ⟨k, h⟩ | ⟨k, h⟩
    · refine zz ?_
      subst hK6 gK6
      refine es <| xr ?_
      cases h
      exact en fr
    · refine zz ?_
      subst hK6 gK6
      refine es <| xr ?_
      cases h
      exact en fr
  · refine zz ?_
    subst hK6 gK6
    refine es <| xr ?_
    cases h
    exact en fr
def g_ref07_fields_s2 (s_0 : List UInt8) (x398 : Int) : Option (Nx (Int) (Int)) :=
  (if (decide (x398 < (s_0.length : Int))) then ((atI s_0 x398).bind fun b426 => (if ((b426.toNat : Int) == 32) then (some (.go (IntKind.i64.wrap (x398 + 1)))) else (some (.out x398)))) else (some (.out x398)))
def g_ref07_fields_s3 (s_0 : List UInt8) (x550 : Int) : Option (Nx (Int) (Int ⊕ Int)) :=
  (((if (decide (x550 < (s_0.length : Int))) then ((atI s_0 x550).bind fun b609 => (some ((b609.toNat : Int) != 32))) else (some false)) : Option (Bool)).bind fun v606 => (if v606 then ((atI s_0 x550).bind fun b619 => ((g_ref07_wordByte (b619.toNat : Int)).bind fun r621 => (if r621 then (some (.go (IntKind.i64.wrap (x550 + 1)))) else (some (.out (.inl x550)))))) else (some (.out (.inr x550)))))
def g_ref07_fields_s1 (s_0 : List UInt8) (x7 : (List T_api_Field) × Int) : Option (Nx ((List T_api_Field) × Int) ((List T_api_Field) × Int)) :=
  ((iter (g_ref07_fields_s2 s_0) x7.2).bind fun e399 => (((if (decide ((s_0.length : Int) ≤ e399)) then (some true) else ((atI s_0 e399).bind fun b438 => (some ((b438.toNat : Int) == 35)))) : Option (Bool)).bind fun v435 => (if v435 then (some (.out (x7.1, -1))) else ((atI s_0 e399).bind fun b450 => (if ((b450.toNat : Int) == 34) then ((g_ref07_quoted s_0 e399).bind fun r457 => (if (decide (0 ≤ r457.2.2)) then (some (.out ([], r457.2.2))) else (if (x7.1.length + 1) * 32 ≤ 140737488355328 then (some (.go ((x7.1 ++ [(T_api_Field.mk r457.1 (IntKind.i64.wrap (e399 + 1)) true)]), r457.2.1))) else none))) else ((iter (g_ref07_fields_s3 s_0) e399).bind fun e551 => (match e551 with | Sum.inl e551 => (some (.out ([], e551))) | Sum.inr (e551) => ((subI s_0 e399 e551).bind fun z629 => (if (x7.1.length + 1) * 32 ≤ 140737488355328 then (some (.go ((x7.1 ++ [(T_api_Field.mk z629 (IntKind.i64.wrap (e399 + 1)) false)]), e551))) else none)))))))))
def g_ref07_fields (s_0 : List UInt8) : Option ((List T_api_Field) × Int) :=
  ((iter (g_ref07_fields_s1 s_0) ([], 0)).bind fun e8 => (some (e8.1, e8.2)))
theorem a_ref07_fields {I : World → Prop} (hI : Stab I) {s_0 : List UInt8} {r : (List T_api_Field) × Int} (h : g_ref07_fields s_0 = some r) : AFun Tryz.prog I 67 [.str s_0] (.tup [.sl (r.1.map T_api_Field.d), .int .i64 r.2]) := by
  have dd := dd_PD; have k := True.intro; have q := k; have rs := Tryz.results67
  unfold g_ref07_fields at h
  refine .en hI Tryz.func67 Tryz.ntmps67 ?_
  refine xs <| rz ?_
  refine es <| xs <| rz ?_
  refine es <| xs <| rz ?_
  refine es <| xb ?_
  obtain ⟨e8, h638, h⟩ := bs h
  refine rb_loop (fun x7 => ⟨envL [(0, .str s_0), (4, .own 0 x7.1.length), (5, .int .i64 x7.2)], heapL [(0, .vec 61 3 (x7.1.map T_api_Field.d) false)], 1, 84⟩) (fun _ => .ret) (fun e8 => ⟨envL [(2, .own 0 e8.1.length), (3, .int .i64 e8.2)], heapL [(0, .vec 61 3 (e8.1.map T_api_Field.d) false)], 1, 84⟩) h638 (wk [(0, none)]) (by intro w; simp) ?_ ?_
  · clear h
    intro x7 y h
    unfold g_ref07_fields_s1 at h
    refine xb <| xs <| xb ?_
    obtain ⟨e399, h430, h⟩ := bs h
    refine rb_loop (fun x398 => ⟨envL [(0, .str s_0), (4, .own 0 x7.1.length), (5, .int .i64 x398)], heapL [(0, .vec 61 3 (x7.1.map T_api_Field.d) false)], 1, 84⟩) (fun _ => .exit 2) (fun e399 => ⟨envL [(0, .str s_0), (4, .own 0 x7.1.length), (5, .int .i64 e399)], heapL [(0, .vec 61 3 (x7.1.map T_api_Field.d) false)], 1, 84⟩) h430 (wk []) (by intro w; simp) ?_ ?_
    · clear h
      intro x398 y h
      unfold g_ref07_fields_s2 at h
      refine xs <| xs <| rK fun K424 RK424 hK424 gK424 => zz ?_
      rcases iK k h with ⟨k, h⟩ | ⟨k, h⟩
      · refine zz ?_
        obtain ⟨b426, q, h⟩ := bK q h
        refine zz ?_
        subst hK424 gK424
        refine es ?_
        rcases iK k h with ⟨k, h⟩ | ⟨k, h⟩
        · refine xt <| xk <| es <| xb <| rz ?_
          refine bn ?_
          cases h
          exact en ⟨rfl, wk []⟩
        · refine xf <| xx <| ee ?_
          cases h
          exact en ⟨rfl, wk []⟩
      · refine zz ?_
        subst hK424 gK424
        refine es <| xf <| xx <| ee ?_
        cases h
        exact en ⟨rfl, wk []⟩
    · refine bh <| es <| xs ?_
      obtain ⟨v435, h440, h⟩ := bs h
      refine rb_cut (fun v435 => ⟨envL [(0, .str s_0), (4, .own 0 x7.1.length), (5, .int .i64 e399), (31, .bool v435)], heapL [(0, .vec 61 3 (x7.1.map T_api_Field.d) false)], 1, 84⟩) h440 ?_ ?_
      · clear h
        intro v435 h
        refine rK fun K436 RK436 hK436 gK436 => zz ?_
        rcases iK k h with ⟨k, h⟩ | ⟨k, h⟩
        · refine zz ?_
          subst hK436 gK436
          cases h
          exact en ⟨rfl, wk []⟩
        · refine zz ?_
          obtain ⟨b438, q, h⟩ := bK q h
          refine zz ?_
          subst hK436 gK436
          cases h
          exact en ⟨rfl, wk []⟩
      · rcases iK k h with ⟨k, h⟩ | ⟨k, h⟩
        · refine xt <| xs <| rz ?_
          refine es <| xr <| er <| br ?_
          cases h
          exact en ⟨rfl, wk []⟩
        · refine xf <| xk <| es <| xs <| rz ?_
          refine es <| xs <| xs <| rK fun K449 RK449 hK449 gK449 => zz ?_
          obtain ⟨b450, q, h⟩ := bK q h
          refine zz ?_
          subst hK449 gK449
          refine es ?_
          rcases iK k h with ⟨k, h⟩ | ⟨k, h⟩
          · refine xt <| xs <| rK fun K456 RK456 hK456 gK456 => zz ?_
            obtain ⟨r457, h458, h⟩ := bs h
            refine cw (a_ref07_quoted hI h458) <| zz ?_
            subst hK456 gK456
            refine es <| xs <| xs <| rz ?_
            refine es ?_
            rcases iK k h with ⟨k, h⟩ | ⟨k, h⟩
            · refine xt <| xs <| rz ?_
              refine es <| xr <| er <| er <| br ?_
              cases h
              exact en ⟨rfl, wk [(0, none)]⟩
            · refine xf <| xk <| es <| xs <| rK fun K467 RK467 hK467 gK467 => zz ?_
              obtain ⟨h468, h⟩ := ite_on h
              have h469 : x7.1.length + 1 ≤ 9223372036854775807 := by omega
              try simp only [Nat.reduceLeDiff] at h469
              have q := And.intro @h469 <| And.intro @h468 <| q
              refine zz ?_
              subst hK467 gK467
              refine es <| xs <| rz ?_
              refine es <| xx <| ee <| bh ?_
              cases h
              exact en ⟨rfl, wk [(0, some 25)]⟩
          · refine xf <| xk <| es <| xs <| xb ?_
            obtain ⟨e551, h627, h⟩ := bs h
            refine rb_loop (fun x550 => ⟨envL [(0, .str s_0), (4, .own 0 x7.1.length), (5, .int .i64 x550), (6, .int .i64 e399)], heapL [(0, .vec 61 3 (x7.1.map T_api_Field.d) false)], 1, 84⟩) (fun w => match w with | Sum.inl _ => .ret | Sum.inr (_) => .exit 4) (fun w => match w with | Sum.inl e551 => ⟨envL [(2, .nils), (3, .int .i64 e551)], heapL [], 0, 84⟩ | Sum.inr (e551) => ⟨envL [(0, .str s_0), (4, .own 0 x7.1.length), (5, .int .i64 e551), (6, .int .i64 e399)], heapL [(0, .vec 61 3 (x7.1.map T_api_Field.d) false)], 1, 84⟩) h627 (wk []) (by intro w; rcases w with w | w <;> simp) ?_ ?_
            · clear h
              intro x550 y h
              unfold g_ref07_fields_s3 at h
              refine xs ?_
              obtain ⟨v606, h611, h⟩ := bs h
              refine rb_cut (fun v606 => ⟨envL [(0, .str s_0), (4, .own 0 x7.1.length), (5, .int .i64 x550), (6, .int .i64 e399), (65, .bool v606)], heapL [(0, .vec 61 3 (x7.1.map T_api_Field.d) false)], 1, 84⟩) h611 ?_ ?_
              · clear h
                intro v606 h
                refine rK fun K607 RK607 hK607 gK607 => zz ?_
                rcases iK k h with ⟨k, h⟩ | ⟨k, h⟩
                · refine zz ?_
                  obtain ⟨b609, q, h⟩ := bK q h
                  refine zz ?_
                  subst hK607 gK607
                  cases h
                  exact en ⟨rfl, wk []⟩
                · refine zz ?_
                  subst hK607 gK607
                  cases h
                  exact en ⟨rfl, wk []⟩
              · rcases iK k h with ⟨k, h⟩ | ⟨k, h⟩
                · refine xt <| xk <| es <| xb <| xs <| xs <| rK fun K618 RK618 hK618 gK618 => zz ?_
                  obtain ⟨b619, q, h⟩ := bK q h
                  refine zz ?_
                  obtain ⟨r621, h622, h⟩ := bs h
                  refine cw (a_ref07_wordByte hI h622) <| zz ?_
                  subst hK618 gK618
                  refine es ?_
                  rcases iK k h with ⟨k, h⟩ | ⟨k, h⟩
                  · refine xf <| xk <| es <| rz ?_
                    refine bn ?_
                    cases h
                    exact en ⟨rfl, wk []⟩
                  · refine xt <| xs <| rz ?_
                    refine es <| xr <| er <| br ?_
                    cases h
                    exact en ⟨rfl, wk []⟩
                · refine xf <| xx <| ee ?_
                  cases h
                  exact en ⟨rfl, wk []⟩
            · rcases e551 with e551 | e551
              · try dsimp only at h ⊢
                refine br <| er <| br ?_
                cases h
                exact en ⟨rfl, wk [(0, none)]⟩
              · try dsimp only at h ⊢
                refine bh <| es <| rK fun K628 RK628 hK628 gK628 => zz ?_
                obtain ⟨z629, h630, h⟩ := bind_some h
                obtain ⟨⟨h631, h632, h633, h634⟩, h635⟩ := subI_some h630
                have q := And.intro @h631 <| And.intro @h632 <| And.intro @h633 <| And.intro @h634 <| q
                try simp -implicitDefEqProofs only [vt, vm, sevalprocAttr, dd, k, q] at h635
                have q := And.intro @h635 <| q
                refine zz ?_
                obtain ⟨h636, h⟩ := ite_on h
                have h637 : x7.1.length + 1 ≤ 9223372036854775807 := by omega
                try simp only [Nat.reduceLeDiff] at h637
                have q := And.intro @h637 <| And.intro @h636 <| q
                refine zz ?_
                subst hK628 gK628
                refine bn ?_
                cases h
                exact en ⟨rfl, wk [(0, some 10)]⟩
  · refine br ?_
    cases h
    exact en fr
def g_ref07_Split_s1 (src_0 : List UInt8) (x16 : (List T_api_Line) × (List T_api_Diag) × Int × Int × Int) : Option (Nx ((List T_api_Line) × (List T_api_Diag) × Int × Int × Int) ((List T_api_Line) × (List T_api_Diag))) :=
  (if (decide (x16.2.2.2.2 ≤ (src_0.length : Int))) then (((((if (decide (x16.2.2.2.2 < (src_0.length : Int))) then ((atI src_0 x16.2.2.2.2).bind fun b468 => (some ((b468.toNat : Int) != 10))) else (some false)) : Option (Bool)).bind fun v465 => (if v465 then (some (x16.1, x16.2.1, x16.2.2.1, x16.2.2.2.1)) else ((subI src_0 x16.2.2.2.1 x16.2.2.2.2).bind fun z481 => (if (decide (1000 < (z481.length : Int))) then (if (x16.2.1.length + 1) * 24 ≤ 140737488355328 then (some (x16.1, (x16.2.1 ++ [(T_api_Diag.mk x16.2.2.1 1001 9)]), (IntKind.i64.wrap (x16.2.2.1 + 1)), (IntKind.i64.wrap (x16.2.2.2.2 + 1)))) else none) else ((g_ref07_fields z481).bind fun r501 => (if (decide (0 ≤ r501.2)) then (if (x16.2.1.length + 1) * 24 ≤ 140737488355328 then (some (x16.1, (x16.2.1 ++ [(T_api_Diag.mk x16.2.2.1 (IntKind.i64.wrap (r501.2 + 1)) 4)]), (IntKind.i64.wrap (x16.2.2.1 + 1)), (IntKind.i64.wrap (x16.2.2.2.2 + 1)))) else none) else (if (decide (0 < (r501.1.length : Int))) then (if (x16.1.length + 1) * 32 ≤ 140737488355328 then (some ((x16.1 ++ [(T_api_Line.mk x16.2.2.1 r501.1)]), x16.2.1, (IntKind.i64.wrap (x16.2.2.1 + 1)), (IntKind.i64.wrap (x16.2.2.2.2 + 1)))) else none) else (some (x16.1, x16.2.1, (IntKind.i64.wrap (x16.2.2.1 + 1)), (IntKind.i64.wrap (x16.2.2.2.2 + 1))))))))))) : Option ((List T_api_Line) × (List T_api_Diag) × Int × Int)).bind fun v460 => (some (.go (v460.1, v460.2.1, v460.2.2.1, v460.2.2.2, (IntKind.i64.wrap (x16.2.2.2.2 + 1)))))) else (some (.out (x16.1, x16.2.1))))
def g_ref07_Split (src_0 : List UInt8) : Option ((List T_api_Line) × (List T_api_Diag)) :=
  (if (decide (262144 < (src_0.length : Int))) then (some ([], [(T_api_Diag.mk 1 1 9)])) else ((iter (g_ref07_Split_s1 src_0) ([], [], 1, 0, 0)).bind fun e17 => ((subH e17.2 (if 50 < ((e17.2.length : Nat) : Int) then 50 else ((e17.2.length : Nat) : Int))).bind fun z534 => (some (e17.1, z534)))))
theorem a_ref07_Split {I : World → Prop} (hI : Stab I) {src_0 : List UInt8} {r : (List T_api_Line) × (List T_api_Diag)} (h : g_ref07_Split src_0 = some r) : AFun Tryz.prog I 38 [.str src_0] (.tup [.sl (r.1.map T_api_Line.d), .sl (r.2.map T_api_Diag.d)]) := by
  have dd := dd_PD; have k := True.intro; have q := k; have rs := Tryz.results38
  unfold g_ref07_Split at h
  refine .en hI Tryz.func38 Tryz.ntmps38 ?_
  refine xs <| rz ?_
  refine es <| xs <| xs <| rz ?_
  refine es ?_
  rcases iK k h with ⟨k, h⟩ | ⟨k, h⟩
  · refine xt <| xs <| rz ?_
    refine es <| xr <| er ?_
    cases h
    exact en fr
  · refine xf <| xk <| es <| xs <| rz ?_
    refine es <| xs <| rz ?_
    refine es <| xs <| rz ?_
    refine es <| xs <| xs <| rz ?_
    refine es <| xb ?_
    obtain ⟨e17, h526, h⟩ := bs h
    refine rb_loop (fun x16 => ⟨envL [(0, .str src_0), (4, .own 0 x16.1.length), (5, .own 1 x16.2.1.length), (6, .int .i64 x16.2.2.1), (7, .int .i64 x16.2.2.2.1), (8, .int .i64 x16.2.2.2.2)], heapL [(0, .vec 64 2 (x16.1.map T_api_Line.d) false), (1, .vec 40 3 (x16.2.1.map T_api_Diag.d) false)], 2, 78⟩) (fun _ => .exit 0) (fun e17 => ⟨envL [(4, .own 0 e17.1.length), (5, .own 1 e17.2.length)], heapL [(0, .vec 64 2 (e17.1.map T_api_Line.d) false), (1, .vec 40 3 (e17.2.map T_api_Diag.d) false)], 2, 78⟩) h526 (wk [(0, none), (1, none)]) (by intro w; simp) ?_ ?_
    · clear h
      intro x16 y h
      unfold g_ref07_Split_s1 at h
      refine xs <| xs <| rz ?_
      refine es ?_
      rcases iK k h with ⟨k, h⟩ | ⟨k, h⟩
      · refine xt <| xk <| es ?_
        obtain ⟨v460, h524, h⟩ := bs h
        refine rb_cut (fun v460 => ⟨envL [(0, .str src_0), (4, .own 0 v460.1.length), (5, .own 1 v460.2.1.length), (6, .int .i64 v460.2.2.1), (7, .int .i64 v460.2.2.2), (8, .int .i64 x16.2.2.2.2)], heapL [(0, .vec 64 2 (v460.1.map T_api_Line.d) false), (1, .vec 40 3 (v460.2.1.map T_api_Diag.d) false)], 2, 78⟩) h524 ?_ ?_
        · clear h
          intro v460 h
          refine xb <| xs ?_
          obtain ⟨v465, h470, h⟩ := bs h
          refine rb_cut (fun v465 => ⟨envL [(0, .str src_0), (4, .own 0 x16.1.length), (5, .own 1 x16.2.1.length), (6, .int .i64 x16.2.2.1), (7, .int .i64 x16.2.2.2.1), (8, .int .i64 x16.2.2.2.2), (32, .bool v465)], heapL [(0, .vec 64 2 (x16.1.map T_api_Line.d) false), (1, .vec 40 3 (x16.2.1.map T_api_Diag.d) false)], 2, 78⟩) h470 ?_ ?_
          · clear h
            intro v465 h
            refine rK fun K466 RK466 hK466 gK466 => zz ?_
            rcases iK k h with ⟨k, h⟩ | ⟨k, h⟩
            · refine zz ?_
              obtain ⟨b468, q, h⟩ := bK q h
              refine zz ?_
              subst hK466 gK466
              cases h
              exact en ⟨rfl, wk []⟩
            · refine zz ?_
              subst hK466 gK466
              cases h
              exact en ⟨rfl, wk []⟩
          · rcases iK k h with ⟨k, h⟩ | ⟨k, h⟩
            · refine xt <| xx <| ee <| bh ?_
              cases h
              exact en ⟨rfl, wk []⟩
            · refine xf <| xk <| es <| xs <| rK fun K480 RK480 hK480 gK480 => zz ?_
              obtain ⟨z481, h482, h⟩ := bind_some h
              obtain ⟨⟨h483, h484, h485, h486⟩, h487⟩ := subI_some h482
              have q := And.intro @h483 <| And.intro @h484 <| And.intro @h485 <| And.intro @h486 <| q
              try simp -implicitDefEqProofs only [vt, vm, sevalprocAttr, dd, k, q] at h487
              have q := And.intro @h487 <| q
              refine zz ?_
              subst hK480 gK480
              refine es <| xs <| xs <| rz ?_
              refine es ?_
              rcases iK k h with ⟨k, h⟩ | ⟨k, h⟩
              · refine xt <| rK fun K491 RK491 hK491 gK491 => zz ?_
                obtain ⟨h492, h⟩ := ite_on h
                have h493 : x16.2.1.length + 1 ≤ 9223372036854775807 := by omega
                try simp only [Nat.reduceLeDiff] at h493
                have q := And.intro @h493 <| And.intro @h492 <| q
                refine zz ?_
                subst hK491 gK491
                refine es <| xs <| rz ?_
                refine es <| rz ?_
                refine bn ?_
                cases h
                exact en ⟨rfl, wk [(1, some 14)]⟩
              · refine xf <| xs <| rK fun K500 RK500 hK500 gK500 => zz ?_
                obtain ⟨r501, h502, h⟩ := bs h
                refine cw (a_ref07_fields hI h502) <| zz ?_
                subst hK500 gK500
                refine es <| xs <| rz ?_
                refine es ?_
                rcases iK k h with ⟨k, h⟩ | ⟨k, h⟩
                · refine xt <| rK fun K506 RK506 hK506 gK506 => zz ?_
                  obtain ⟨h507, h⟩ := ite_on h
                  have h508 : x16.2.1.length + 1 ≤ 9223372036854775807 := by omega
                  try simp only [Nat.reduceLeDiff] at h508
                  have q := And.intro @h508 <| And.intro @h507 <| q
                  refine zz ?_
                  subst hK506 gK506
                  refine es <| xs <| rz ?_
                  refine es <| rz ?_
                  refine bn ?_
                  cases h
                  exact en ⟨rfl, wk [(1, some 25)]⟩
                · refine xf <| xs <| rz ?_
                  refine es ?_
                  rcases iK k h with ⟨k, h⟩ | ⟨k, h⟩
                  · refine xt <| rK fun K515 RK515 hK515 gK515 => zz ?_
                    obtain ⟨h516, h⟩ := ite_on h
                    have h517 : x16.1.length + 1 ≤ 9223372036854775807 := by omega
                    try simp only [Nat.reduceLeDiff] at h517
                    have q := And.intro @h517 <| And.intro @h516 <| q
                    refine zz ?_
                    subst hK515 gK515
                    refine es <| xs <| rz ?_
                    refine es <| rz ?_
                    refine bn ?_
                    cases h
                    exact en ⟨rfl, wk [(0, some 27)]⟩
                  · refine xf <| xk <| es <| xs <| rz ?_
                    refine es <| rz ?_
                    refine bn ?_
                    cases h
                    exact en ⟨rfl, wk []⟩
        · refine rz ?_
          cases h
          exact en ⟨rfl, wk []⟩
      · refine xf <| xx <| ee ?_
        cases h
        exact en ⟨rfl, wk []⟩
    · refine bh <| es <| xs <| rD hI fun K533 RK533 hK533 gK533 => zz ?_
      obtain ⟨z534, h535, h⟩ := bind_some h
      obtain ⟨⟨h536, h537⟩, h538⟩ := subH_some h535
      have q := And.intro @h536 <| And.intro @h537 <| q
      try simp -implicitDefEqProofs only [vt, vm, sevalprocAttr, dd, k, q] at h538
      have q := And.intro @h538 <| q
      refine zz ?_
      refine hd <| zz ?_
      subst hK533 gK533
      refine es <| xr ?_
      cases h
      exact en fr
def g_ref07_Split_z_s1 (src_0 : List UInt8) (x16 : (List T_api_Line) × Int × Int × Int) : Option (Nx ((List T_api_Line) × Int × Int × Int) ((List T_api_Line))) :=
  (if (decide (x16.2.2.2 ≤ (src_0.length : Int))) then (((if (decide (x16.2.2.2 < (src_0.length : Int))) then ((atI src_0 x16.2.2.2).bind fun b297 => (some ((b297.toNat : Int) != 10))) else (some false)) : Option (Bool)).bind fun v294 => (if v294 then (some (.go (x16.1, x16.2.1, x16.2.2.1, (IntKind.i64.wrap (x16.2.2.2 + 1))))) else ((subI src_0 x16.2.2.1 x16.2.2.2).bind fun z311 => (if (decide (1000 < (z311.length : Int))) then none else ((g_ref07_fields z311).bind fun r326 => (if (decide (0 ≤ r326.2)) then none else (if (decide (0 < (r326.1.length : Int))) then (if (x16.1.length + 1) * 32 ≤ 140737488355328 then (some (.go ((x16.1 ++ [(T_api_Line.mk x16.2.1 r326.1)]), (IntKind.i64.wrap (x16.2.1 + 1)), (IntKind.i64.wrap (x16.2.2.2 + 1)), (IntKind.i64.wrap (x16.2.2.2 + 1))))) else none) else (some (.go (x16.1, (IntKind.i64.wrap (x16.2.1 + 1)), (IntKind.i64.wrap (x16.2.2.2 + 1)), (IntKind.i64.wrap (x16.2.2.2 + 1)))))))))))) else (some (.out x16.1)))
def g_ref07_Split_z (src_0 : List UInt8) : Option ((List T_api_Line) × (List T_api_Diag)) :=
  (if (decide (262144 < (src_0.length : Int))) then none else ((iter (g_ref07_Split_z_s1 src_0) ([], 1, 0, 0)).bind fun e17 => (some (e17, []))))
theorem a_ref07_Split_z {I : World → Prop} (hI : Stab I) {src_0 : List UInt8} {r : (List T_api_Line) × (List T_api_Diag)} (h : g_ref07_Split_z src_0 = some r) : AFun Tryz.prog I 38 [.str src_0] (.tup [.sl (r.1.map T_api_Line.d), .nils]) := by
  have dd := dd_PD; have k := True.intro; have q := k; have rs := Tryz.results38
  unfold g_ref07_Split_z at h
  refine .enN hI Tryz.func38 Tryz.ntmps38 ?_
  refine xs <| rz ?_
  refine es <| xs <| xs <| rz ?_
  refine es ?_
  rcases iK k h with ⟨k, h⟩ | ⟨k, h⟩
  · refine xt <| xs <| rz ?_
    refine es <| xr <| er ?_
    cases h
  · refine xf <| xk <| es <| xs <| rz ?_
    refine es <| xs <| rz ?_
    refine es <| xs <| rz ?_
    refine es <| xs <| xs <| rz ?_
    refine es <| xb ?_
    obtain ⟨e17, h346, h⟩ := bs h
    refine rb_loop (fun x16 => ⟨envL [(0, .str src_0), (4, .own 0 x16.1.length), (5, .nils), (6, .int .i64 x16.2.1), (7, .int .i64 x16.2.2.1), (8, .int .i64 x16.2.2.2)], heapL [(0, .vec 64 2 (x16.1.map T_api_Line.d) false)], 1, 78⟩) (fun _ => .exit 0) (fun e17 => ⟨envL [(4, .own 0 e17.length), (5, .nils)], heapL [(0, .vec 64 2 (e17.map T_api_Line.d) false)], 1, 78⟩) h346 (wk [(0, none)]) (by intro w; simp) ?_ ?_
    · clear h
      intro x16 y h
      unfold g_ref07_Split_z_s1 at h
      refine xs <| xs <| rz ?_
      refine es ?_
      rcases iK k h with ⟨k, h⟩ | ⟨k, h⟩
      · refine xt <| xk <| es <| xs <| xb <| xs ?_
        obtain ⟨v294, h299, h⟩ := bs h
        refine rb_cut (fun v294 => ⟨envL [(0, .str src_0), (4, .own 0 x16.1.length), (5, .nils), (6, .int .i64 x16.2.1), (7, .int .i64 x16.2.2.1), (8, .int .i64 x16.2.2.2), (32, .bool v294)], heapL [(0, .vec 64 2 (x16.1.map T_api_Line.d) false)], 1, 78⟩) h299 ?_ ?_
        · clear h
          intro v294 h
          refine rK fun K295 RK295 hK295 gK295 => zz ?_
          rcases iK k h with ⟨k, h⟩ | ⟨k, h⟩
          · refine zz ?_
            obtain ⟨b297, q, h⟩ := bK q h
            refine zz ?_
            subst hK295 gK295
            cases h
            exact en ⟨rfl, wk []⟩
          · refine zz ?_
            subst hK295 gK295
            cases h
            exact en ⟨rfl, wk []⟩
        · rcases iK k h with ⟨k, h⟩ | ⟨k, h⟩
          · refine xt <| xx <| ee <| bh <| es <| rz ?_
            cases h
            exact en ⟨rfl, wk []⟩
          · refine xf <| xk <| es <| xs <| rK fun K310 RK310 hK310 gK310 => zz ?_
            obtain ⟨z311, h312, h⟩ := bind_some h
            obtain ⟨⟨h313, h314, h315, h316⟩, h317⟩ := subI_some h312
            have q := And.intro @h313 <| And.intro @h314 <| And.intro @h315 <| And.intro @h316 <| q
            try simp -implicitDefEqProofs only [vt, vm, sevalprocAttr, dd, k, q] at h317
            have q := And.intro @h317 <| q
            refine zz ?_
            subst hK310 gK310
            refine es <| xs <| xs <| rz ?_
            refine es ?_
            rcases iK k h with ⟨k, h⟩ | ⟨k, h⟩
            · refine xt <| rK fun K321 RK321 hK321 gK321 => zz ?_
              cases h
            · refine xf <| xs <| rK fun K325 RK325 hK325 gK325 => zz ?_
              obtain ⟨r326, h327, h⟩ := bs h
              refine cw (a_ref07_fields hI h327) <| zz ?_
              subst hK325 gK325
              refine es <| xs <| rz ?_
              refine es ?_
              rcases iK k h with ⟨k, h⟩ | ⟨k, h⟩
              · refine xt <| rK fun K331 RK331 hK331 gK331 => zz ?_
                cases h
              · refine xf <| xs <| rz ?_
                refine es ?_
                rcases iK k h with ⟨k, h⟩ | ⟨k, h⟩
                · refine xt <| rK fun K335 RK335 hK335 gK335 => zz ?_
                  obtain ⟨h336, h⟩ := ite_on h
                  have h337 : x16.1.length + 1 ≤ 9223372036854775807 := by omega
                  try simp only [Nat.reduceLeDiff] at h337
                  have q := And.intro @h337 <| And.intro @h336 <| q
                  refine zz ?_
                  subst hK335 gK335
                  refine es <| xs <| rz ?_
                  refine es <| rz ?_
                  refine bn <| es <| rz ?_
                  cases h
                  exact en ⟨rfl, wk [(0, some 26)]⟩
                · refine xf <| xk <| es <| xs <| rz ?_
                  refine es <| rz ?_
                  refine bn <| es <| rz ?_
                  cases h
                  exact en ⟨rfl, wk []⟩
      · refine xf <| xx <| ee ?_
        cases h
        exact en ⟨rfl, wk []⟩
    · refine bh <| es <| xs <| rd hI ?_
      refine es <| xr ?_
      cases h
      exact en fn
def g_ref07_Split_n (src_0 : List UInt8) : Option ((List T_api_Line) × (List T_api_Diag)) := (g_ref07_Split src_0).bind fun x => if x.2.isEmpty then ((g_ref07_Split_z src_0).bind fun l => some (l.1, [])) else some x
theorem a_ref07_Split_n {I : World → Prop} (hI : Stab I) {src_0 : List UInt8} {r : (List T_api_Line) × (List T_api_Diag)} (h : g_ref07_Split_n src_0 = some r) : AFun Tryz.prog I 38 [.str src_0] (.tup [.sl (r.1.map T_api_Line.d), nslD (r.2.map T_api_Diag.d)]) := by
  unfold g_ref07_Split_n at h
  obtain ⟨x, h0, h⟩ := bs h
  cases hx : x.2.isEmpty
  · rw [hx] at h
    cases h
    rw [nslD_f hx]
    exact a_ref07_Split hI h0
  · rw [hx, if_pos rfl] at h
    obtain ⟨l, h1, h⟩ := bs h
    cases h
    have a := a_ref07_Split_z hI h1
    exact a
def g_ref07_Scan (l_0 : T_api_Line) : Option (T_captionerref07_Scanner) :=
  (some (T_captionerref07_Scanner.mk l_0 0 0 0))
theorem a_ref07_Scan {I : World → Prop} (hI : Stab I) {H : Nat → Option Blk} {nid : Nat} {l_0 : T_api_Line} {r : T_captionerref07_Scanner} (h : g_ref07_Scan l_0 = some r) : CallOK Tryz.prog I 40 [T_api_Line.d l_0] H nid (.ptr nid 0) [(nid, some (.box none [.int .i64 r.Line.Number, .sl (r.Line.Fields.map T_api_Field.d), .int .i64 r.At, .int .i64 r.Code, .int .i64 r.Col]))] := by
  refine CallOK.intro (is := []) (css := []) (ds0 := [T_api_Line.d l_0]) (pl := []) hI Tryz.func40 rfl (by decide) (by simp [Tryz.f40]) (by kernel_rfl) rfl rfl rfl rfl (lentAll_of trivial) (by simp) ?_
  have dd := dd_PD; have k := True.intro; have q := k; have rs := Tryz.results40
  unfold g_ref07_Scan at h
  simp only [lentH, List.length_cons, List.length_nil, Nat.zero_add, Nat.reduceAdd, Tryz.ntmps40, dd_PD]
  refine xs <| rz ?_
  refine es <| xs <| rz ?_
  refine es <| xr ?_
  cases h
  exact en fp
def g_ref07_Scanner_Left (s_0 : T_captionerref07_Scanner) : Option (Int × T_captionerref07_Scanner) :=
  (if (s_0.Code != 0) then (some (0, s_0)) else (some ((IntKind.i64.wrap ((s_0.Line.Fields.length : Int) - s_0.At)), s_0)))
theorem a_ref07_Scanner_Left {I : World → Prop} (hI : Stab I) {H : Nat → Option Blk} {nid : Nat} {i0 : Nat} {p0 : Option Nat} {s_0 : T_captionerref07_Scanner} {r : Int × T_captionerref07_Scanner} (h : g_ref07_Scanner_Left s_0 = some r) (b0 : H i0 = some (.box p0 [.int .i64 s_0.Line.Number, .sl (s_0.Line.Fields.map T_api_Field.d), .int .i64 s_0.At, .int .i64 s_0.Code, .int .i64 s_0.Col])) : CallOK Tryz.prog I 72 [.ptr i0 0] H nid (.int .i64 r.1) [(i0, some (.box p0 [.int .i64 r.2.Line.Number, .sl (r.2.Line.Fields.map T_api_Field.d), .int .i64 r.2.At, .int .i64 r.2.Code, .int .i64 r.2.Col]))] := by
  refine CallOK.intro (is := [(i0, p0)]) (css := [[.int .i64 s_0.Line.Number, .sl (s_0.Line.Fields.map T_api_Field.d), .int .i64 s_0.At, .int .i64 s_0.Code, .int .i64 s_0.Col]]) (ds0 := [.ptr 0 0]) (pl := [(0, none)]) hI Tryz.func72 rfl (by decide) (by simp [Tryz.f72]) (by kernel_rfl) rfl rfl rfl rfl (lentAll_of ⟨⟨b0, rfl⟩, trivial⟩) (by simp) ?_
  have dd := dd_PD; have k := True.intro; have q := k; have rs := Tryz.results72
  unfold g_ref07_Scanner_Left at h
  simp only [lentH, List.length_cons, List.length_nil, Nat.zero_add, Nat.reduceAdd, Tryz.ntmps72, dd_PD]
  refine xs <| rz ?_
  refine es <| xs <| xs <| rz ?_
  refine es ?_
  rcases iK k h with ⟨k, h⟩ | ⟨k, h⟩
  · refine xt <| xs <| rz ?_
    refine es <| xr <| er ?_
    cases h
    exact en fp
  · refine xf <| xk <| es <| xs <| rd hI ?_
    refine es <| xr ?_
    cases h
    exact en fp
def g_ref07_Scanner_fail (s_0 : T_captionerref07_Scanner) (e_1 : Int) (column_2 : Int) : Option (T_captionerref07_Scanner) :=
  (if (s_0.Code == 0) then (some (T_captionerref07_Scanner.mk s_0.Line s_0.At e_1 column_2)) else (some s_0))
theorem a_ref07_Scanner_fail {I : World → Prop} (hI : Stab I) {H : Nat → Option Blk} {nid : Nat} {i0 : Nat} {p0 : Option Nat} {s_0 : T_captionerref07_Scanner} {e_1 : Int} {column_2 : Int} {r : T_captionerref07_Scanner} (h : g_ref07_Scanner_fail s_0 e_1 column_2 = some r) (b0 : H i0 = some (.box p0 [.int .i64 s_0.Line.Number, .sl (s_0.Line.Fields.map T_api_Field.d), .int .i64 s_0.At, .int .i64 s_0.Code, .int .i64 s_0.Col])) : CallOK Tryz.prog I 91 [.ptr i0 0, .int .i64 e_1, .int .i64 column_2] H nid (.tup []) [(i0, some (.box p0 [.int .i64 r.Line.Number, .sl (r.Line.Fields.map T_api_Field.d), .int .i64 r.At, .int .i64 r.Code, .int .i64 r.Col]))] := by
  refine CallOK.intro (is := [(i0, p0)]) (css := [[.int .i64 s_0.Line.Number, .sl (s_0.Line.Fields.map T_api_Field.d), .int .i64 s_0.At, .int .i64 s_0.Code, .int .i64 s_0.Col]]) (ds0 := [.ptr 0 0, .int .i64 e_1, .int .i64 column_2]) (pl := [(0, none)]) hI Tryz.func91 rfl (by decide) (by simp [Tryz.f91]) (by kernel_rfl) rfl rfl rfl rfl (lentAll_of ⟨⟨b0, rfl⟩, trivial⟩) (by simp) ?_
  have dd := dd_PD; have k := True.intro; have q := k; have rs := Tryz.results91
  unfold g_ref07_Scanner_fail at h
  simp only [lentH, List.length_cons, List.length_nil, Nat.zero_add, Nat.reduceAdd, Tryz.ntmps91, dd_PD]
  refine xs <| rz ?_
  refine es ?_
  rcases iK k h with ⟨k, h⟩ | ⟨k, h⟩
  · refine xt <| rz ?_
    cases h
    exact en fp
  · refine xf <| xk ?_
    cases h
    exact en fp
def g_ref07_Scanner_take (s_0 : T_captionerref07_Scanner) (quoted_1 : Bool) : Option (T_api_Field × Bool × T_captionerref07_Scanner) :=
  (if (s_0.Code != 0) then (some ((T_api_Field.mk [] 0 false), false, s_0)) else ((g_ref07_Scanner_Left s_0).bind fun r12 => (if (r12.1 == 0) then ((g_ref07_Scanner_fail r12.2 4 0).bind fun r19 => (some ((T_api_Field.mk [] 0 false), false, r19))) else ((atI r12.2.Line.Fields r12.2.At).bind fun y27 => (if (y27.Quoted == quoted_1) then (some (y27, true, (T_captionerref07_Scanner.mk r12.2.Line (IntKind.i64.wrap (r12.2.At + 1)) r12.2.Code r12.2.Col))) else ((g_ref07_Scanner_fail r12.2 4 y27.Column).bind fun r40 => (some ((T_api_Field.mk [] 0 false), false, r40))))))))
theorem a_ref07_Scanner_take {I : World → Prop} (hI : Stab I) {H : Nat → Option Blk} {nid : Nat} {i0 : Nat} {p0 : Option Nat} {s_0 : T_captionerref07_Scanner} {quoted_1 : Bool} {r : T_api_Field × Bool × T_captionerref07_Scanner} (h : g_ref07_Scanner_take s_0 quoted_1 = some r) (b0 : H i0 = some (.box p0 [.int .i64 s_0.Line.Number, .sl (s_0.Line.Fields.map T_api_Field.d), .int .i64 s_0.At, .int .i64 s_0.Code, .int .i64 s_0.Col])) : CallOK Tryz.prog I 90 [.ptr i0 0, .bool quoted_1] H nid (.tup [T_api_Field.d r.1, .bool r.2.1]) [(i0, some (.box p0 [.int .i64 r.2.2.Line.Number, .sl (r.2.2.Line.Fields.map T_api_Field.d), .int .i64 r.2.2.At, .int .i64 r.2.2.Code, .int .i64 r.2.2.Col]))] := by
  refine CallOK.intro (is := [(i0, p0)]) (css := [[.int .i64 s_0.Line.Number, .sl (s_0.Line.Fields.map T_api_Field.d), .int .i64 s_0.At, .int .i64 s_0.Code, .int .i64 s_0.Col]]) (ds0 := [.ptr 0 0, .bool quoted_1]) (pl := [(0, none)]) hI Tryz.func90 rfl (by decide) (by simp [Tryz.f90]) (by kernel_rfl) rfl rfl rfl rfl (lentAll_of ⟨⟨b0, rfl⟩, trivial⟩) (by simp) ?_
  have dd := dd_PD; have k := True.intro; have q := k; have rs := Tryz.results90
  unfold g_ref07_Scanner_take at h
  simp only [lentH, List.length_cons, List.length_nil, Nat.zero_add, Nat.reduceAdd, Tryz.ntmps90, dd_PD]
  refine xs <| rz ?_
  refine es <| xs <| xs <| rz ?_
  refine es ?_
  rcases iK k h with ⟨k, h⟩ | ⟨k, h⟩
  · refine xt <| xs <| rz ?_
    refine es <| xr <| er ?_
    cases h
    exact en fp
  · refine xf <| xk <| es <| xs <| xs <| rK fun K11 RK11 hK11 gK11 => zz ?_
    obtain ⟨r12, h13, h⟩ := bs h
    refine eW.intro (a_ref07_Scanner_Left hI (nid := 13) (i0 := 0) (p0 := (some 0)) h13 fz) fi rfl <| zz ?_
    subst hK11 gK11
    refine es ?_
    rcases iK k h with ⟨k, h⟩ | ⟨k, h⟩
    · refine xt <| xs <| rK fun K18 RK18 hK18 gK18 => zz ?_
      obtain ⟨r19, h20, h⟩ := bs h
      refine eW.intro (a_ref07_Scanner_fail hI (nid := 16) (i0 := 0) (p0 := (some 0)) h20 fz) fi rfl <| zz ?_
      subst hK18 gK18
      refine es <| xs <| rz ?_
      refine es <| xr <| er ?_
      cases h
      exact en fp
    · refine xf <| xk <| es <| xs <| rD hI fun K26 RK26 hK26 gK26 => zz ?_
      obtain ⟨y27, q, h⟩ := bK q h
      refine zz ?_
      refine hd <| zz ?_
      subst hK26 gK26
      refine es <| xs <| xs <| rz ?_
      refine es ?_
      rcases iK k h with ⟨k, h⟩ | ⟨k, h⟩
      · refine xf <| xk <| es <| xs <| rz ?_
        refine es <| xs <| rz ?_
        refine es <| xr ?_
        cases h
        exact en fp
      · refine xt <| xs <| rK fun K39 RK39 hK39 gK39 => zz ?_
        obtain ⟨r40, h41, h⟩ := bs h
        refine eW.intro (a_ref07_Scanner_fail hI (nid := 35) (i0 := 0) (p0 := (some 0)) h41 fz) fi rfl <| zz ?_
        subst hK39 gK39
        refine es <| xs <| rz ?_
        refine es <| xr <| er ?_
        cases h
        exact en fp
def g_ref07_Scanner_Choice_s1 (words_1 : List (List UInt8)) (r7 : T_api_Field × Bool × T_captionerref07_Scanner) (x14 : Int) : Option (Nx (Int) (Int ⊕ Unit)) :=
  (if (decide (x14 < (words_1.length : Int))) then ((atI words_1 x14).bind fun y89 => (if (y89 == r7.1.Text) then (some (.out (.inl x14))) else (some (.go (IntKind.i64.wrap (x14 + 1)))))) else (some (.out (.inr ()))))
def g_ref07_Scanner_Choice (s_0 : T_captionerref07_Scanner) (words_1 : List (List UInt8)) : Option (Int × T_captionerref07_Scanner) :=
  ((g_ref07_Scanner_take s_0 false).bind fun r7 => (if r7.2.1 then ((iter (g_ref07_Scanner_Choice_s1 words_1 r7) 0).bind fun e15 => (match e15 with | Sum.inl e15 => (some (e15, r7.2.2)) | Sum.inr (e15) => ((g_ref07_Scanner_fail r7.2.2 4 r7.1.Column).bind fun r102 => (some (-1, r102))))) else (some (-1, r7.2.2))))
theorem a_ref07_Scanner_Choice {I : World → Prop} (hI : Stab I) {H : Nat → Option Blk} {nid : Nat} {i0 : Nat} {p0 : Option Nat} {s_0 : T_captionerref07_Scanner} {words_1 : List (List UInt8)} {r : Int × T_captionerref07_Scanner} (h : g_ref07_Scanner_Choice s_0 words_1 = some r) (b0 : H i0 = some (.box p0 [.int .i64 s_0.Line.Number, .sl (s_0.Line.Fields.map T_api_Field.d), .int .i64 s_0.At, .int .i64 s_0.Code, .int .i64 s_0.Col])) : CallOK Tryz.prog I 68 [.ptr i0 0, .sl (words_1.map D.str)] H nid (.int .i64 r.1) [(i0, some (.box p0 [.int .i64 r.2.Line.Number, .sl (r.2.Line.Fields.map T_api_Field.d), .int .i64 r.2.At, .int .i64 r.2.Code, .int .i64 r.2.Col]))] := by
  refine CallOK.intro (is := [(i0, p0)]) (css := [[.int .i64 s_0.Line.Number, .sl (s_0.Line.Fields.map T_api_Field.d), .int .i64 s_0.At, .int .i64 s_0.Code, .int .i64 s_0.Col]]) (ds0 := [.ptr 0 0, .sl (words_1.map D.str)]) (pl := [(0, none)]) hI Tryz.func68 rfl (by decide) (by simp [Tryz.f68]) (by kernel_rfl) rfl rfl rfl rfl (lentAll_of ⟨⟨b0, rfl⟩, trivial⟩) (by simp) ?_
  have dd := dd_PD; have k := True.intro; have q := k; have rs := Tryz.results68
  unfold g_ref07_Scanner_Choice at h
  simp only [lentH, List.length_cons, List.length_nil, Nat.zero_add, Nat.reduceAdd, Tryz.ntmps68, dd_PD]
  refine xs <| rz ?_
  refine es <| xs <| rK fun K6 RK6 hK6 gK6 => zz ?_
  obtain ⟨r7, h8, h⟩ := bs h
  refine eW.intro (a_ref07_Scanner_take hI (nid := 3) (i0 := 0) (p0 := (some 0)) h8 fz) fi rfl <| zz ?_
  subst hK6 gK6
  refine es <| xs <| xs <| rz ?_
  refine es ?_
  rcases iK k h with ⟨k, h⟩ | ⟨k, h⟩
  · refine xf <| xk <| es <| xs <| xs <| rz ?_
    refine es <| xb ?_
    obtain ⟨e15, h97, h⟩ := bs h
    refine rb_loop (fun x14 => ⟨envL [(0, .ptr 0 0), (5, .ptr 1 0), (16, .sl (words_1.map D.str)), (17, .int .i64 (words_1.length : Int)), (18, .int .i64 x14)], heapL [(0, .box (some 0) [.int .i64 r7.2.2.Line.Number, .sl (r7.2.2.Line.Fields.map T_api_Field.d), .int .i64 r7.2.2.At, .int .i64 r7.2.2.Code, .int .i64 r7.2.2.Col]), (1, .box none [.str r7.1.Text, .int .i64 r7.1.Column, .bool r7.1.Quoted])], 2, 33⟩) (fun w => match w with | Sum.inl _ => .ret | Sum.inr (_) => .exit 0) (fun w => match w with | Sum.inl e15 => ⟨envL [(0, .ptr 0 0), (4, .int .i64 e15)], heapL [(0, .box (some 0) [.int .i64 r7.2.2.Line.Number, .sl (r7.2.2.Line.Fields.map T_api_Field.d), .int .i64 r7.2.2.At, .int .i64 r7.2.2.Code, .int .i64 r7.2.2.Col])], 1, 33⟩ | Sum.inr (e15) => ⟨envL [(0, .ptr 0 0), (5, .ptr 1 0)], heapL [(0, .box (some 0) [.int .i64 r7.2.2.Line.Number, .sl (r7.2.2.Line.Fields.map T_api_Field.d), .int .i64 r7.2.2.At, .int .i64 r7.2.2.Code, .int .i64 r7.2.2.Col]), (1, .box none [.str r7.1.Text, .int .i64 r7.1.Column, .bool r7.1.Quoted])], 2, 33⟩) h97 (wk [(1, some 7)]) (by intro w; rcases w with w | w <;> simp) ?_ ?_
    · clear h
      intro x14 y h
      unfold g_ref07_Scanner_Choice_s1 at h
      refine xs <| rz ?_
      refine es <| xs ?_
      rcases iK k h with ⟨k, h⟩ | ⟨k, h⟩
      · refine xt <| xk <| es <| xs <| xb <| xs <| rK fun K88 RK88 hK88 gK88 => zz ?_
        obtain ⟨y89, q, h⟩ := bK q h
        refine zz ?_
        subst hK88 gK88
        refine es <| xs <| rz ?_
        refine es ?_
        rcases iK k h with ⟨k, h⟩ | ⟨k, h⟩
        · refine xt <| xs <| rz ?_
          refine es <| xr <| br <| er ?_
          cases h
          exact en ⟨rfl, wk []⟩
        · refine xf <| xk <| bn <| es <| rz ?_
          cases h
          exact en ⟨rfl, wk []⟩
      · refine xf <| xx <| ee ?_
        cases h
        exact en ⟨rfl, wk []⟩
    · rcases e15 with e15 | e15
      · try dsimp only at h ⊢
        refine br <| er ?_
        cases h
        exact en fp
      · try dsimp only at h ⊢
        refine bh <| es <| xs <| rK fun K101 RK101 hK101 gK101 => zz ?_
        obtain ⟨r102, h103, h⟩ := bs h
        refine eW.intro (a_ref07_Scanner_fail hI (nid := 5) (i0 := 0) (p0 := (some 0)) h103 fz) fi rfl <| zz ?_
        subst hK101 gK101
        refine es <| xs <| rz ?_
        refine es <| xr ?_
        cases h
        exact en fp
  · refine xt <| xs <| rz ?_
    refine es <| xr <| er ?_
    cases h
    exact en fp
def g_ref07_Scanner_Name (s_0 : T_captionerref07_Scanner) (empty_1 : Bool) : Option ((List UInt8) × T_captionerref07_Scanner) :=
  ((g_ref07_Scanner_take s_0 false).bind fun r7 => (((if r7.2.1 then (if empty_1 then (some (r7.1.Text == ([45] : List UInt8))) else (some false)) else (some true)) : Option (Bool)).bind fun v12 => (if v12 then (some ([], r7.2.2)) else ((g_ref07_Name r7.1.Text).bind fun r24 => (if r24 then (some (r7.1.Text, r7.2.2)) else ((g_ref07_Scanner_fail r7.2.2 5 r7.1.Column).bind fun r33 => (some ([], r33))))))))
theorem a_ref07_Scanner_Name {I : World → Prop} (hI : Stab I) {H : Nat → Option Blk} {nid : Nat} {i0 : Nat} {p0 : Option Nat} {s_0 : T_captionerref07_Scanner} {empty_1 : Bool} {r : (List UInt8) × T_captionerref07_Scanner} (h : g_ref07_Scanner_Name s_0 empty_1 = some r) (b0 : H i0 = some (.box p0 [.int .i64 s_0.Line.Number, .sl (s_0.Line.Fields.map T_api_Field.d), .int .i64 s_0.At, .int .i64 s_0.Code, .int .i64 s_0.Col])) : CallOK Tryz.prog I 69 [.ptr i0 0, .bool empty_1] H nid (.str r.1) [(i0, some (.box p0 [.int .i64 r.2.Line.Number, .sl (r.2.Line.Fields.map T_api_Field.d), .int .i64 r.2.At, .int .i64 r.2.Code, .int .i64 r.2.Col]))] := by
  refine CallOK.intro (is := [(i0, p0)]) (css := [[.int .i64 s_0.Line.Number, .sl (s_0.Line.Fields.map T_api_Field.d), .int .i64 s_0.At, .int .i64 s_0.Code, .int .i64 s_0.Col]]) (ds0 := [.ptr 0 0, .bool empty_1]) (pl := [(0, none)]) hI Tryz.func69 rfl (by decide) (by simp [Tryz.f69]) (by kernel_rfl) rfl rfl rfl rfl (lentAll_of ⟨⟨b0, rfl⟩, trivial⟩) (by simp) ?_
  have dd := dd_PD; have k := True.intro; have q := k; have rs := Tryz.results69
  unfold g_ref07_Scanner_Name at h
  simp only [lentH, List.length_cons, List.length_nil, Nat.zero_add, Nat.reduceAdd, Tryz.ntmps69, dd_PD]
  refine xs <| rz ?_
  refine es <| xs <| rK fun K6 RK6 hK6 gK6 => zz ?_
  obtain ⟨r7, h8, h⟩ := bs h
  refine eW.intro (a_ref07_Scanner_take hI (nid := 3) (i0 := 0) (p0 := (some 0)) h8 fz) fi rfl <| zz ?_
  subst hK6 gK6
  refine es <| xs ?_
  obtain ⟨v12, h16, h⟩ := bs h
  refine rb_cut (fun v12 => ⟨envL [(0, .ptr 0 0), (5, .ptr 1 0), (21, .bool v12)], heapL [(0, .box (some 0) [.int .i64 r7.2.2.Line.Number, .sl (r7.2.2.Line.Fields.map T_api_Field.d), .int .i64 r7.2.2.At, .int .i64 r7.2.2.Code, .int .i64 r7.2.2.Col]), (1, .box none [.str r7.1.Text, .int .i64 r7.1.Column, .bool r7.1.Quoted])], 2, 32⟩) h16 ?_ ?_
  · clear h
    intro v12 h
    refine rK fun K13 RK13 hK13 gK13 => zz ?_
    rcases iK k h with ⟨k, h⟩ | ⟨k, h⟩
    · refine zz ?_
      rcases iK k h with ⟨k, h⟩ | ⟨k, h⟩
      · refine zz ?_
        subst hK13 gK13
        cases h
        exact en ⟨rfl, wk [(1, some 7)]⟩
      · refine zz ?_
        subst hK13 gK13
        cases h
        exact en ⟨rfl, wk [(1, some 7)]⟩
    · refine zz ?_
      subst hK13 gK13
      cases h
      exact en ⟨rfl, wk [(1, some 7)]⟩
  · rcases iK k h with ⟨k, h⟩ | ⟨k, h⟩
    · refine xt <| xs <| rz ?_
      refine es <| xr <| er ?_
      cases h
      exact en fp
    · refine xf <| xk <| es <| xs <| xs <| rK fun K23 RK23 hK23 gK23 => zz ?_
      obtain ⟨r24, h25, h⟩ := bs h
      refine cw (a_ref07_Name hI h25) <| zz ?_
      subst hK23 gK23
      refine es ?_
      rcases iK k h with ⟨k, h⟩ | ⟨k, h⟩
      · refine xf <| xk <| es <| xs <| rz ?_
        refine es <| xr ?_
        cases h
        exact en fp
      · refine xt <| xs <| rK fun K32 RK32 hK32 gK32 => zz ?_
        obtain ⟨r33, h34, h⟩ := bs h
        refine eW.intro (a_ref07_Scanner_fail hI (nid := 9) (i0 := 0) (p0 := (some 0)) h34 fz) fi rfl <| zz ?_
        subst hK32 gK32
        refine es <| xs <| rz ?_
        refine es <| xr <| er ?_
        cases h
        exact en fp
def g_ref07_Number_s1 (z19 : List UInt8) (x43 : Int) : Option (Nx (Int) (Unit ⊕ Unit)) :=
  (if (decide (x43 < (z19.length : Int))) then ((atI z19 x43).bind fun b97 => ((g_ref07_digit (b97.toNat : Int)).bind fun r99 => (if r99 then (some (.go (IntKind.i64.wrap (x43 + 1)))) else (some (.out (.inl ())))))) else (some (.out (.inr ()))))
def g_ref07_Number_s2 (z19 : List UInt8) (x115 : Int × Int) : Option (Nx (Int × Int) (Int)) :=
  (if (decide (x115.2 < (z19.length : Int))) then ((atI z19 x115.2).bind fun b134 => (some (.go ((IntKind.u64.wrap ((IntKind.u64.wrap (10 * x115.1)) + (IntKind.u64.wrap (IntKind.u8.wrap ((b134.toNat : Int) - 48))))), (IntKind.i64.wrap (x115.2 + 1)))))) else (some (.out x115.1)))
def g_ref07_Number_s3 (s_0 : List UInt8) (x182 : Int) : Option (Nx (Int) (Unit ⊕ Unit)) :=
  (if (decide (x182 < (s_0.length : Int))) then ((atI s_0 x182).bind fun b236 => ((g_ref07_digit (b236.toNat : Int)).bind fun r238 => (if r238 then (some (.go (IntKind.i64.wrap (x182 + 1)))) else (some (.out (.inl ())))))) else (some (.out (.inr ()))))
def g_ref07_Number_s4 (s_0 : List UInt8) (x254 : Int × Int) : Option (Nx (Int × Int) (Int)) :=
  (if (decide (x254.2 < (s_0.length : Int))) then ((atI s_0 x254.2).bind fun b273 => (some (.go ((IntKind.u64.wrap ((IntKind.u64.wrap (10 * x254.1)) + (IntKind.u64.wrap (IntKind.u8.wrap ((b273.toNat : Int) - 48))))), (IntKind.i64.wrap (x254.2 + 1)))))) else (some (.out x254.1)))
def g_ref07_Number (s_0 : List UInt8) (lo_1 : Int) (hi_2 : Int) : Option (Int × Int) :=
  (((if (decide (0 < (s_0.length : Int))) then ((atI s_0 0).bind fun b12 => (some ((b12.toNat : Int) == 45))) else (some false)) : Option (Bool)).bind fun v9 => (if v9 then ((subL s_0 1).bind fun z19 => (((if ((z19.length : Int) == 0) then (some true) else ((atI z19 0).bind fun b33 => (if ((b33.toNat : Int) == 48) then (if (decide (1 < (z19.length : Int))) then (some true) else (some v9)) else (some false)))) : Option (Bool)).bind fun v30 => (if v30 then (some (0, 4)) else ((iter (g_ref07_Number_s1 z19) 0).bind fun e44 => (match e44 with | Sum.inl e44 => (some (0, 4)) | Sum.inr (e44) => (if (decide (19 < (z19.length : Int))) then (some (0, 2)) else ((iter (g_ref07_Number_s2 z19) (0, 0)).bind fun e116 => (((if (decide (9223372036854775808 < e116)) then (some true) else (some false)) : Option (Bool)).bind fun v140 => (if v140 then (some (0, 2)) else (if (decide ((IntKind.i64.wrap (0 - (IntKind.i64.wrap e116))) < lo_1)) then (some (0, 2)) else (if (decide (hi_2 < (IntKind.i64.wrap (0 - (IntKind.i64.wrap e116))))) then (some (0, 2)) else (some ((IntKind.i64.wrap (0 - (IntKind.i64.wrap e116))), 0))))))))))))) else (((if ((s_0.length : Int) == 0) then (some true) else ((atI s_0 0).bind fun b172 => (if ((b172.toNat : Int) == 48) then (if (decide (1 < (s_0.length : Int))) then (some true) else (some v9)) else (some false)))) : Option (Bool)).bind fun v169 => (if v169 then (some (0, 4)) else ((iter (g_ref07_Number_s3 s_0) 0).bind fun e183 => (match e183 with | Sum.inl e183 => (some (0, 4)) | Sum.inr (e183) => (if (decide (19 < (s_0.length : Int))) then (some (0, 2)) else ((iter (g_ref07_Number_s4 s_0) (0, 0)).bind fun e255 => (((if (decide (9223372036854775808 < e255)) then (some true) else (some (e255 == 9223372036854775808))) : Option (Bool)).bind fun v279 => (if v279 then (some (0, 2)) else (if (decide ((IntKind.i64.wrap e255) < lo_1)) then (some (0, 2)) else (if (decide (hi_2 < (IntKind.i64.wrap e255))) then (some (0, 2)) else (some ((IntKind.i64.wrap e255), 0))))))))))))))
theorem a_ref07_Number {I : World → Prop} (hI : Stab I) {s_0 : List UInt8} {lo_1 : Int} {hi_2 : Int} {r : Int × Int} (h : g_ref07_Number s_0 lo_1 hi_2 = some r) : AFun Tryz.prog I 108 [.str s_0, .int .i64 lo_1, .int .i64 hi_2] (.tup [.int .i64 r.1, .int .i64 r.2]) := by
  have dd := dd_PD; have k := True.intro; have q := k; have rs := Tryz.results108
  unfold g_ref07_Number at h
  refine .en hI Tryz.func108 Tryz.ntmps108 ?_
  refine xs <| rz ?_
  refine es <| xs <| rz ?_
  refine es ?_
  obtain ⟨v9, h14, h⟩ := bs h
  refine rb_cut (fun v9 => ⟨envL [(0, .str s_0), (1, .int .i64 lo_1), (2, .int .i64 hi_2), (8, .str s_0), (9, .bool v9)], heapL [], 0, 94⟩) h14 ?_ ?_
  · clear h
    intro v9 h
    refine rK fun K10 RK10 hK10 gK10 => zz ?_
    rcases iK k h with ⟨k, h⟩ | ⟨k, h⟩
    · refine zz ?_
      obtain ⟨b12, q, h⟩ := bK q h
      refine zz ?_
      subst hK10 gK10
      cases h
      exact en ⟨rfl, wk []⟩
    · refine zz ?_
      subst hK10 gK10
      cases h
      exact en ⟨rfl, wk []⟩
  · refine xs <| xs <| rz ?_
    refine es ?_
    rcases iK k h with ⟨k, h⟩ | ⟨k, h⟩
    · refine xt <| rK fun K18 RK18 hK18 gK18 => zz ?_
      obtain ⟨z19, h20, h⟩ := bind_some h
      obtain ⟨⟨h21, h22⟩, h23⟩ := subL_some h20
      try simp only [List.length_cons, List.length_nil, Nat.zero_add, Nat.reduceAdd, Int.reduceToNat] at h22
      have q := And.intro @h22 <| q
      try simp -implicitDefEqProofs only [vt, vm, sevalprocAttr, dd, k, q] at h23
      have q := And.intro @h23 <| q
      refine zz ?_
      subst hK18 gK18
      refine es <| xs ?_
      obtain ⟨v30, h37, h⟩ := bs h
      refine rb_cut (fun v30 => ⟨envL [(1, .int .i64 lo_1), (2, .int .i64 hi_2), (8, .str z19), (9, .bool v9), (41, .bool v30)], heapL [], 0, 94⟩) h37 ?_ ?_
      · clear h
        intro v30 h
        refine rK fun K31 RK31 hK31 gK31 => zz ?_
        rcases iK k h with ⟨k, h⟩ | ⟨k, h⟩
        · refine zz ?_
          subst hK31 gK31
          cases h
          exact en ⟨rfl, wk []⟩
        · refine zz ?_
          obtain ⟨b33, q, h⟩ := bK q h
          refine zz ?_
          rcases iK k h with ⟨k, h⟩ | ⟨k, h⟩
          · refine zz ?_
            rcases iK k h with ⟨k, h⟩ | ⟨k, h⟩
            · refine zz ?_
              subst hK31 gK31
              cases h
              exact en ⟨rfl, wk []⟩
            · refine zz ?_
              subst hK31 gK31
              cases h
              exact en ⟨rfl, wk []⟩
          · refine zz ?_
            subst hK31 gK31
            cases h
            exact en ⟨rfl, wk []⟩
      · rcases iK k h with ⟨k, h⟩ | ⟨k, h⟩
        · refine xt <| xs <| rz ?_
          refine es <| xr <| er ?_
          cases h
          exact en fr
        · refine xf <| xk <| es <| xs <| xs <| rz ?_
          refine es <| xb ?_
          obtain ⟨e44, h105, h⟩ := bs h
          refine rb_loop (fun x43 => ⟨envL [(1, .int .i64 lo_1), (2, .int .i64 hi_2), (8, .str z19), (9, .bool v9), (10, .int .i64 x43)], heapL [], 0, 94⟩) (fun w => match w with | Sum.inl _ => .ret | Sum.inr (_) => .exit 0) (fun w => match w with | Sum.inl e44 => ⟨envL [(6, .int .i64 0), (7, .int .i64 4)], heapL [], 0, 94⟩ | Sum.inr (e44) => ⟨envL [(1, .int .i64 lo_1), (2, .int .i64 hi_2), (8, .str z19), (9, .bool v9)], heapL [], 0, 94⟩) h105 (wk []) (by intro w; rcases w with w | w <;> simp) ?_ ?_
          · clear h
            intro x43 y h
            unfold g_ref07_Number_s1 at h
            refine xs <| xs <| rz ?_
            refine es ?_
            rcases iK k h with ⟨k, h⟩ | ⟨k, h⟩
            · refine xt <| xk <| es <| xs <| xb <| xs <| rK fun K96 RK96 hK96 gK96 => zz ?_
              obtain ⟨b97, q, h⟩ := bK q h
              refine zz ?_
              obtain ⟨r99, h100, h⟩ := bs h
              refine cw (a_ref07_digit hI h100) <| zz ?_
              subst hK96 gK96
              refine es ?_
              rcases iK k h with ⟨k, h⟩ | ⟨k, h⟩
              · refine xf <| xk <| bn <| es <| rz ?_
                cases h
                exact en ⟨rfl, wk []⟩
              · refine xt <| xs <| rz ?_
                refine es <| xr <| br <| er ?_
                cases h
                exact en ⟨rfl, wk []⟩
            · refine xf <| xx <| ee ?_
              cases h
              exact en ⟨rfl, wk []⟩
          · rcases e44 with e44 | e44
            · try dsimp only at h ⊢
              refine br <| er ?_
              cases h
              exact en fr
            · try dsimp only at h ⊢
              refine bh <| es <| xs <| xs <| rz ?_
              refine es ?_
              rcases iK k h with ⟨k, h⟩ | ⟨k, h⟩
              · refine xt <| xs <| rz ?_
                refine es <| xr <| er ?_
                cases h
                exact en fr
              · refine xf <| xk <| es <| xs <| rz ?_
                refine es <| xs <| xs <| rz ?_
                refine es <| xb ?_
                obtain ⟨e116, h137, h⟩ := bs h
                refine rb_loop (fun x115 => ⟨envL [(1, .int .i64 lo_1), (2, .int .i64 hi_2), (8, .str z19), (9, .bool v9), (11, .int .u64 x115.1), (12, .int .i64 x115.2)], heapL [], 0, 94⟩) (fun _ => .exit 2) (fun e116 => ⟨envL [(1, .int .i64 lo_1), (2, .int .i64 hi_2), (9, .bool v9), (11, .int .u64 e116)], heapL [], 0, 94⟩) h137 (wk []) (by intro w; simp) ?_ ?_
                · clear h
                  intro x115 y h
                  unfold g_ref07_Number_s2 at h
                  refine xs <| xs <| rz ?_
                  refine es ?_
                  rcases iK k h with ⟨k, h⟩ | ⟨k, h⟩
                  · refine xt <| xk <| es <| xs <| xb <| rK fun K133 RK133 hK133 gK133 => zz ?_
                    obtain ⟨b134, q, h⟩ := bK q h
                    refine zz ?_
                    subst hK133 gK133
                    refine bn <| es <| rz ?_
                    cases h
                    exact en ⟨rfl, wk []⟩
                  · refine xf <| xx <| ee ?_
                    cases h
                    exact en ⟨rfl, wk []⟩
                · refine bh <| es <| xs ?_
                  obtain ⟨v140, h143, h⟩ := bs h
                  refine rb_cut (fun v140 => ⟨envL [(1, .int .i64 lo_1), (2, .int .i64 hi_2), (9, .bool v9), (11, .int .u64 e116), (79, .bool v140)], heapL [], 0, 94⟩) h143 ?_ ?_
                  · clear h
                    intro v140 h
                    refine rK fun K141 RK141 hK141 gK141 => zz ?_
                    rcases iK k h with ⟨k, h⟩ | ⟨k, h⟩
                    · refine zz ?_
                      subst hK141 gK141
                      cases h
                      exact en ⟨rfl, wk []⟩
                    · refine zz ?_
                      subst hK141 gK141
                      cases h
                      exact en ⟨rfl, wk []⟩
                  · rcases iK k h with ⟨k, h⟩ | ⟨k, h⟩
                    · refine xt <| xs <| rz ?_
                      refine es <| xr <| er ?_
                      cases h
                      exact en fr
                    · refine xf <| xk <| es <| xs <| rz ?_
                      refine es <| xs <| xs <| rz ?_
                      refine es <| xt <| rz ?_
                      refine es <| xs <| xs <| rK fun K154 RK154 hK154 gK154 => zz ?_
                      rcases iK k h with ⟨k, h⟩ | ⟨k, h⟩
                      · refine zz ?_
                        subst hK154 gK154
                        refine es <| xt <| xs <| rz ?_
                        refine es <| xr <| er ?_
                        cases h
                        exact en fr
                      · refine zz ?_
                        subst hK154 gK154
                        refine es ?_
                        rcases iK k h with ⟨k, h⟩ | ⟨k, h⟩
                        · refine xt <| xs <| rz ?_
                          refine es <| xr <| er ?_
                          cases h
                          exact en fr
                        · refine xf <| xk <| es <| xs <| rz ?_
                          refine es <| xr ?_
                          cases h
                          exact en fr
    · refine xf <| xk <| es <| xs ?_
      obtain ⟨v169, h176, h⟩ := bs h
      refine rb_cut (fun v169 => ⟨envL [(1, .int .i64 lo_1), (2, .int .i64 hi_2), (8, .str s_0), (9, .bool v9), (41, .bool v169)], heapL [], 0, 94⟩) h176 ?_ ?_
      · clear h
        intro v169 h
        refine rK fun K170 RK170 hK170 gK170 => zz ?_
        rcases iK k h with ⟨k, h⟩ | ⟨k, h⟩
        · refine zz ?_
          subst hK170 gK170
          cases h
          exact en ⟨rfl, wk []⟩
        · refine zz ?_
          obtain ⟨b172, q, h⟩ := bK q h
          refine zz ?_
          rcases iK k h with ⟨k, h⟩ | ⟨k, h⟩
          · refine zz ?_
            rcases iK k h with ⟨k, h⟩ | ⟨k, h⟩
            · refine zz ?_
              subst hK170 gK170
              cases h
              exact en ⟨rfl, wk []⟩
            · refine zz ?_
              subst hK170 gK170
              cases h
              exact en ⟨rfl, wk []⟩
          · refine zz ?_
            subst hK170 gK170
            cases h
            exact en ⟨rfl, wk []⟩
      · rcases iK k h with ⟨k, h⟩ | ⟨k, h⟩
        · refine xt <| xs <| rz ?_
          refine es <| xr <| er ?_
          cases h
          exact en fr
        · refine xf <| xk <| es <| xs <| xs <| rz ?_
          refine es <| xb ?_
          obtain ⟨e183, h244, h⟩ := bs h
          refine rb_loop (fun x182 => ⟨envL [(1, .int .i64 lo_1), (2, .int .i64 hi_2), (8, .str s_0), (9, .bool v9), (10, .int .i64 x182)], heapL [], 0, 94⟩) (fun w => match w with | Sum.inl _ => .ret | Sum.inr (_) => .exit 0) (fun w => match w with | Sum.inl e183 => ⟨envL [(6, .int .i64 0), (7, .int .i64 4)], heapL [], 0, 94⟩ | Sum.inr (e183) => ⟨envL [(1, .int .i64 lo_1), (2, .int .i64 hi_2), (8, .str s_0), (9, .bool v9)], heapL [], 0, 94⟩) h244 (wk []) (by intro w; rcases w with w | w <;> simp) ?_ ?_
          · clear h
            intro x182 y h
            unfold g_ref07_Number_s3 at h
            refine xs <| xs <| rz ?_
            refine es ?_
            rcases iK k h with ⟨k, h⟩ | ⟨k, h⟩
            · refine xt <| xk <| es <| xs <| xb <| xs <| rK fun K235 RK235 hK235 gK235 => zz ?_
              obtain ⟨b236, q, h⟩ := bK q h
              refine zz ?_
              obtain ⟨r238, h239, h⟩ := bs h
              refine cw (a_ref07_digit hI h239) <| zz ?_
              subst hK235 gK235
              refine es ?_
              rcases iK k h with ⟨k, h⟩ | ⟨k, h⟩
              · refine xf <| xk <| bn <| es <| rz ?_
                cases h
                exact en ⟨rfl, wk []⟩
              · refine xt <| xs <| rz ?_
                refine es <| xr <| br <| er ?_
                cases h
                exact en ⟨rfl, wk []⟩
            · refine xf <| xx <| ee ?_
              cases h
              exact en ⟨rfl, wk []⟩
          · rcases e183 with e183 | e183
            · try dsimp only at h ⊢
              refine br <| er ?_
              cases h
              exact en fr
            · try dsimp only at h ⊢
              refine bh <| es <| xs <| xs <| rz ?_
              refine es ?_
              rcases iK k h with ⟨k, h⟩ | ⟨k, h⟩
              · refine xt <| xs <| rz ?_
                refine es <| xr <| er ?_
                cases h
                exact en fr
              · refine xf <| xk <| es <| xs <| rz ?_
                refine es <| xs <| xs <| rz ?_
                refine es <| xb ?_
                obtain ⟨e255, h276, h⟩ := bs h
                refine rb_loop (fun x254 => ⟨envL [(1, .int .i64 lo_1), (2, .int .i64 hi_2), (8, .str s_0), (9, .bool v9), (11, .int .u64 x254.1), (12, .int .i64 x254.2)], heapL [], 0, 94⟩) (fun _ => .exit 2) (fun e255 => ⟨envL [(1, .int .i64 lo_1), (2, .int .i64 hi_2), (9, .bool v9), (11, .int .u64 e255)], heapL [], 0, 94⟩) h276 (wk []) (by intro w; simp) ?_ ?_
                · clear h
                  intro x254 y h
                  unfold g_ref07_Number_s4 at h
                  refine xs <| xs <| rz ?_
                  refine es ?_
                  rcases iK k h with ⟨k, h⟩ | ⟨k, h⟩
                  · refine xt <| xk <| es <| xs <| xb <| rK fun K272 RK272 hK272 gK272 => zz ?_
                    obtain ⟨b273, q, h⟩ := bK q h
                    refine zz ?_
                    subst hK272 gK272
                    refine bn <| es <| rz ?_
                    cases h
                    exact en ⟨rfl, wk []⟩
                  · refine xf <| xx <| ee ?_
                    cases h
                    exact en ⟨rfl, wk []⟩
                · refine bh <| es <| xs ?_
                  obtain ⟨v279, h282, h⟩ := bs h
                  refine rb_cut (fun v279 => ⟨envL [(1, .int .i64 lo_1), (2, .int .i64 hi_2), (9, .bool v9), (11, .int .u64 e255), (79, .bool v279)], heapL [], 0, 94⟩) h282 ?_ ?_
                  · clear h
                    intro v279 h
                    refine rK fun K280 RK280 hK280 gK280 => zz ?_
                    rcases iK k h with ⟨k, h⟩ | ⟨k, h⟩
                    · refine zz ?_
                      subst hK280 gK280
                      cases h
                      exact en ⟨rfl, wk []⟩
                    · refine zz ?_
                      subst hK280 gK280
                      cases h
                      exact en ⟨rfl, wk []⟩
                  · rcases iK k h with ⟨k, h⟩ | ⟨k, h⟩
                    · refine xt <| xs <| rz ?_
                      refine es <| xr <| er ?_
                      cases h
                      exact en fr
                    · refine xf <| xk <| es <| xs <| rz ?_
                      refine es <| xs <| xs <| rz ?_
                      refine es <| xf <| xk <| es <| xs <| xs <| rK fun K292 RK292 hK292 gK292 => zz ?_
                      rcases iK k h with ⟨k, h⟩ | ⟨k, h⟩
                      · refine zz ?_
                        subst hK292 gK292
                        refine es <| xt <| xs <| rz ?_
                        refine es <| xr <| er ?_
                        cases h
                        exact en fr
                      · refine zz ?_
                        subst hK292 gK292
                        refine es ?_
                        rcases iK k h with ⟨k, h⟩ | ⟨k, h⟩
                        · refine xt <| xs <| rz ?_
                          refine es <| xr <| er ?_
                          cases h
                          exact en fr
                        · refine xf <| xk <| es <| xs <| rz ?_
                          refine es <| xr ?_
                          cases h
                          exact en fr
def g_ref07_Scanner_Number (s_0 : T_captionerref07_Scanner) (lo_1 : Int) (hi_2 : Int) : Option (Int × T_captionerref07_Scanner) :=
  ((g_ref07_Scanner_take s_0 false).bind fun r7 => (if r7.2.1 then ((g_ref07_Number r7.1.Text lo_1 hi_2).bind fun r16 => (if (r16.2 != 0) then ((g_ref07_Scanner_fail r7.2.2 r16.2 r7.1.Column).bind fun r22 => (some (r16.1, r22))) else (some (r16.1, r7.2.2)))) else (some (0, r7.2.2))))
theorem a_ref07_Scanner_Number {I : World → Prop} (hI : Stab I) {H : Nat → Option Blk} {nid : Nat} {i0 : Nat} {p0 : Option Nat} {s_0 : T_captionerref07_Scanner} {lo_1 : Int} {hi_2 : Int} {r : Int × T_captionerref07_Scanner} (h : g_ref07_Scanner_Number s_0 lo_1 hi_2 = some r) (b0 : H i0 = some (.box p0 [.int .i64 s_0.Line.Number, .sl (s_0.Line.Fields.map T_api_Field.d), .int .i64 s_0.At, .int .i64 s_0.Code, .int .i64 s_0.Col])) : CallOK Tryz.prog I 92 [.ptr i0 0, .int .i64 lo_1, .int .i64 hi_2] H nid (.int .i64 r.1) [(i0, some (.box p0 [.int .i64 r.2.Line.Number, .sl (r.2.Line.Fields.map T_api_Field.d), .int .i64 r.2.At, .int .i64 r.2.Code, .int .i64 r.2.Col]))] := by
  refine CallOK.intro (is := [(i0, p0)]) (css := [[.int .i64 s_0.Line.Number, .sl (s_0.Line.Fields.map T_api_Field.d), .int .i64 s_0.At, .int .i64 s_0.Code, .int .i64 s_0.Col]]) (ds0 := [.ptr 0 0, .int .i64 lo_1, .int .i64 hi_2]) (pl := [(0, none)]) hI Tryz.func92 rfl (by decide) (by simp [Tryz.f92]) (by kernel_rfl) rfl rfl rfl rfl (lentAll_of ⟨⟨b0, rfl⟩, trivial⟩) (by simp) ?_
  have dd := dd_PD; have k := True.intro; have q := k; have rs := Tryz.results92
  unfold g_ref07_Scanner_Number at h
  simp only [lentH, List.length_cons, List.length_nil, Nat.zero_add, Nat.reduceAdd, Tryz.ntmps92, dd_PD]
  refine xs <| rz ?_
  refine es <| xs <| rK fun K6 RK6 hK6 gK6 => zz ?_
  obtain ⟨r7, h8, h⟩ := bs h
  refine eW.intro (a_ref07_Scanner_take hI (nid := 3) (i0 := 0) (p0 := (some 0)) h8 fz) fi rfl <| zz ?_
  subst hK6 gK6
  refine es <| xs <| xs <| rz ?_
  refine es ?_
  rcases iK k h with ⟨k, h⟩ | ⟨k, h⟩
  · refine xf <| xk <| es <| xs <| rK fun K15 RK15 hK15 gK15 => zz ?_
    obtain ⟨r16, h17, h⟩ := bs h
    refine cw (a_ref07_Number hI h17) <| zz ?_
    subst hK15 gK15
    refine es <| xs <| xs <| rz ?_
    refine es ?_
    rcases iK k h with ⟨k, h⟩ | ⟨k, h⟩
    · refine xt <| rK fun K21 RK21 hK21 gK21 => zz ?_
      obtain ⟨r22, h23, h⟩ := bs h
      refine eW.intro (a_ref07_Scanner_fail hI (nid := 28) (i0 := 0) (p0 := (some 0)) h23 fz) fi rfl <| zz ?_
      subst hK21 gK21
      refine es <| xs <| rz ?_
      refine es <| xr ?_
      cases h
      exact en fp
    · refine xf <| xk <| es <| xs <| rz ?_
      refine es <| xr ?_
      cases h
      exact en fp
  · refine xt <| xs <| rz ?_
    refine es <| xr <| er ?_
    cases h
    exact en fp
def g_ref07_Scanner_Quoted (s_0 : T_captionerref07_Scanner) : Option ((List UInt8) × T_captionerref07_Scanner) :=
  ((g_ref07_Scanner_take s_0 true).bind fun r7 => (some (r7.1.Text, r7.2.2)))
theorem a_ref07_Scanner_Quoted {I : World → Prop} (hI : Stab I) {H : Nat → Option Blk} {nid : Nat} {i0 : Nat} {p0 : Option Nat} {s_0 : T_captionerref07_Scanner} {r : (List UInt8) × T_captionerref07_Scanner} (h : g_ref07_Scanner_Quoted s_0 = some r) (b0 : H i0 = some (.box p0 [.int .i64 s_0.Line.Number, .sl (s_0.Line.Fields.map T_api_Field.d), .int .i64 s_0.At, .int .i64 s_0.Code, .int .i64 s_0.Col])) : CallOK Tryz.prog I 71 [.ptr i0 0] H nid (.str r.1) [(i0, some (.box p0 [.int .i64 r.2.Line.Number, .sl (r.2.Line.Fields.map T_api_Field.d), .int .i64 r.2.At, .int .i64 r.2.Code, .int .i64 r.2.Col]))] := by
  refine CallOK.intro (is := [(i0, p0)]) (css := [[.int .i64 s_0.Line.Number, .sl (s_0.Line.Fields.map T_api_Field.d), .int .i64 s_0.At, .int .i64 s_0.Code, .int .i64 s_0.Col]]) (ds0 := [.ptr 0 0]) (pl := [(0, none)]) hI Tryz.func71 rfl (by decide) (by simp [Tryz.f71]) (by kernel_rfl) rfl rfl rfl rfl (lentAll_of ⟨⟨b0, rfl⟩, trivial⟩) (by simp) ?_
  have dd := dd_PD; have k := True.intro; have q := k; have rs := Tryz.results71
  unfold g_ref07_Scanner_Quoted at h
  simp only [lentH, List.length_cons, List.length_nil, Nat.zero_add, Nat.reduceAdd, Tryz.ntmps71, dd_PD]
  refine xs <| rz ?_
  refine es <| xs <| rK fun K6 RK6 hK6 gK6 => zz ?_
  obtain ⟨r7, h8, h⟩ := bs h
  refine eW.intro (a_ref07_Scanner_take hI (nid := 3) (i0 := 0) (p0 := (some 0)) h8 fz) fi rfl <| zz ?_
  subst hK6 gK6
  refine es <| xs <| rz ?_
  refine es <| xr ?_
  cases h
  exact en fp
def g_ref07_Scanner_End (s_0 : T_captionerref07_Scanner) : Option (T_api_Diag × Bool × T_captionerref07_Scanner) :=
  (if (s_0.Code != 0) then (some ((T_api_Diag.mk s_0.Line.Number s_0.Col s_0.Code), true, s_0)) else ((g_ref07_Scanner_Left s_0).bind fun r14 => (if (decide (0 < r14.1)) then ((atI r14.2.Line.Fields r14.2.At).bind fun y21 => (some ((T_api_Diag.mk r14.2.Line.Number y21.Column 4), true, r14.2))) else (some ((T_api_Diag.mk 0 0 0), false, r14.2)))))
theorem a_ref07_Scanner_End {I : World → Prop} (hI : Stab I) {H : Nat → Option Blk} {nid : Nat} {i0 : Nat} {p0 : Option Nat} {s_0 : T_captionerref07_Scanner} {r : T_api_Diag × Bool × T_captionerref07_Scanner} (h : g_ref07_Scanner_End s_0 = some r) (b0 : H i0 = some (.box p0 [.int .i64 s_0.Line.Number, .sl (s_0.Line.Fields.map T_api_Field.d), .int .i64 s_0.At, .int .i64 s_0.Code, .int .i64 s_0.Col])) : CallOK Tryz.prog I 42 [.ptr i0 0] H nid (.tup [T_api_Diag.d r.1, .bool r.2.1]) [(i0, some (.box p0 [.int .i64 r.2.2.Line.Number, .sl (r.2.2.Line.Fields.map T_api_Field.d), .int .i64 r.2.2.At, .int .i64 r.2.2.Code, .int .i64 r.2.2.Col]))] := by
  refine CallOK.intro (is := [(i0, p0)]) (css := [[.int .i64 s_0.Line.Number, .sl (s_0.Line.Fields.map T_api_Field.d), .int .i64 s_0.At, .int .i64 s_0.Code, .int .i64 s_0.Col]]) (ds0 := [.ptr 0 0]) (pl := [(0, none)]) hI Tryz.func42 rfl (by decide) (by simp [Tryz.f42]) (by kernel_rfl) rfl rfl rfl rfl (lentAll_of ⟨⟨b0, rfl⟩, trivial⟩) (by simp) ?_
  have dd := dd_PD; have k := True.intro; have q := k; have rs := Tryz.results42
  unfold g_ref07_Scanner_End at h
  simp only [lentH, List.length_cons, List.length_nil, Nat.zero_add, Nat.reduceAdd, Tryz.ntmps42, dd_PD]
  refine xs <| rz ?_
  refine es <| xs <| xs <| rz ?_
  refine es <| xf <| xk <| es <| xs <| xs <| rz ?_
  refine es ?_
  rcases iK k h with ⟨k, h⟩ | ⟨k, h⟩
  · refine xt <| xs <| rD hI fun K9 RK9 hK9 gK9 => zz ?_
    refine hd <| zz ?_
    subst hK9 gK9
    refine es <| xr <| er ?_
    cases h
    exact en fp
  · refine xf <| xk <| es <| xs <| xs <| rK fun K13 RK13 hK13 gK13 => zz ?_
    obtain ⟨r14, h15, h⟩ := bs h
    refine eW.intro (a_ref07_Scanner_Left hI (nid := 11) (i0 := 0) (p0 := (some 0)) h15 fz) fi rfl <| zz ?_
    subst hK13 gK13
    refine es ?_
    rcases iK k h with ⟨k, h⟩ | ⟨k, h⟩
    · refine xt <| xs <| rD hI fun K20 RK20 hK20 gK20 => zz ?_
      obtain ⟨y21, q, h⟩ := bK q h
      refine zz ?_
      refine hd <| zz ?_
      subst hK20 gK20
      refine es <| xr <| er ?_
      cases h
      exact en fp
    · refine xf <| xk <| es <| xs <| rz ?_
      refine es <| xr ?_
      cases h
      exact en fp
end Go.Proofs.YtedhognhhcihpaaGreatDoor
namespace Go.Proofs.YtedhognhhcihpaaGreatDoor
open Go.RowKit
set_option maxRecDepth 100000
set_option maxHeartbeats 10000000
theorem dd_PE : (∀ x, T_api_Profile.d x = .agg [.str x.Name, .int .i64 x.Reading, .int .i64 x.MinFrames, .int .i64 x.MaxFrames, .int .i64 x.MinGap, .int .i64 x.ShotBefore, .int .i64 x.ShotAfter, .int .i64 x.Rows, .int .i64 x.Cols, .str x.Forbidden, .int .i64 x.SafeTop, .int .i64 x.SafeBottom, .int .i64 x.SafeLeft, .int .i64 x.SafeRight]) ∧ (∀ x, T_api_Diag.d x = .agg [.int .i64 x.Line, .int .i64 x.Column, .int .i64 x.Code]) ∧ (∀ x, T_api_Field.d x = .agg [.str x.Text, .int .i64 x.Column, .bool x.Quoted]) ∧ (∀ x, T_api_Line.d x = .agg [.int .i64 x.Number, .sl (x.Fields.map T_api_Field.d)]) ∧ (∀ x, T_captionerref07_Scanner.d x = .agg [.int .i64 x.Line.Number, .sl (x.Line.Fields.map T_api_Field.d), .int .i64 x.At, .int .i64 x.Code, .int .i64 x.Col]) := ⟨fun _ => rfl, fun _ => rfl, fun _ => rfl, fun _ => rfl, fun _ => rfl⟩
def g_ref39_Standard (rate_0 : Int) : Option (T_api_Profile × Int) :=
  ((g_ref02_Nominal rate_0).bind fun r7 => (if (r7 == 0) then (some ((T_api_Profile.mk [] 0 0 0 0 0 0 0 0 [] 0 0 0 0), 13)) else (some ((T_api_Profile.mk [83, 84, 65, 78, 68, 65, 82, 68] 1700 (IntKind.i64.wrap (Int.tdiv (IntKind.i64.wrap (r7 * 5)) 6)) (IntKind.i64.wrap (7 * r7)) 2 (IntKind.i64.wrap (Int.tdiv r7 2)) (IntKind.i64.wrap (Int.tdiv r7 2)) 2 32 [] 1 0 0 0), 0))))
theorem a_ref39_Standard {I : World → Prop} (hI : Stab I) {rate_0 : Int} {r : T_api_Profile × Int} (h : g_ref39_Standard rate_0 = some r) : AFun Tryz.prog I 10 [.int .u8 rate_0] (.tup [T_api_Profile.d r.1, .int .i64 r.2]) := by
  have dd := dd_PE; have k := True.intro; have q := k; have rs := Tryz.results10
  unfold g_ref39_Standard at h
  refine .en hI Tryz.func10 Tryz.ntmps10 ?_
  refine xs <| rz ?_
  refine es <| xs <| rK fun K6 RK6 hK6 gK6 => zz ?_
  obtain ⟨r7, h8, h⟩ := bs h
  refine cw (a_ref02_Nominal hI h8) <| zz ?_
  subst hK6 gK6
  refine es <| xs <| xs <| rz ?_
  refine es ?_
  rcases iK k h with ⟨k, h⟩ | ⟨k, h⟩
  · refine xt <| xs <| rz ?_
    refine es <| xr <| er ?_
    cases h
    exact en fr
  · refine xf <| xk <| es <| xs <| rz ?_
    refine es <| xr ?_
    cases h
    exact en fr
def g_ref39_within (n_0 : Int) (lo_1 : Int) (hi_2 : Int) : Option (Bool) :=
  (if (decide (lo_1 ≤ n_0)) then (some (decide (n_0 ≤ hi_2))) else (some false))
theorem a_ref39_within {I : World → Prop} (hI : Stab I) {n_0 : Int} {lo_1 : Int} {hi_2 : Int} {r : Bool} (h : g_ref39_within n_0 lo_1 hi_2 = some r) : AFun Tryz.prog I 26 [.int .i64 n_0, .int .i64 lo_1, .int .i64 hi_2] (.bool r) := by
  have dd := dd_PE; have k := True.intro; have q := k; have rs := Tryz.results26
  unfold g_ref39_within at h
  refine .en hI Tryz.func26 Tryz.ntmps26 ?_
  refine xs <| rz ?_
  refine es <| xs <| rK fun K5 RK5 hK5 gK5 => zz ?_
  rcases iK k h with ⟨k, h⟩ | ⟨k, h⟩
  · refine zz ?_
    subst hK5 gK5
    refine es <| xr ?_
    cases h
    exact en fr
  · refine zz ?_
    subst hK5 gK5
    refine es <| xr ?_
    cases h
    exact en fr
def g_ref39_inside (n_0 : Int) (lo_1 : Int) (hi_2 : Int) : Option (Bool) :=
  (if (decide (lo_1 ≤ n_0)) then (some (decide (n_0 ≤ hi_2))) else (some false))
theorem a_ref39_inside {I : World → Prop} (hI : Stab I) {n_0 : Int} {lo_1 : Int} {hi_2 : Int} {r : Bool} (h : g_ref39_inside n_0 lo_1 hi_2 = some r) : AFun Tryz.prog I 27 [.int .i64 n_0, .int .i64 lo_1, .int .i64 hi_2] (.bool r) := by
  have dd := dd_PE; have k := True.intro; have q := k; have rs := Tryz.results27
  unfold g_ref39_inside at h
  refine .en hI Tryz.func27 Tryz.ntmps27 ?_
  refine xs <| rz ?_
  refine es <| xs <| rK fun K5 RK5 hK5 gK5 => zz ?_
  rcases iK k h with ⟨k, h⟩ | ⟨k, h⟩
  · refine zz ?_
    subst hK5 gK5
    refine es <| xr ?_
    cases h
    exact en fr
  · refine zz ?_
    subst hK5 gK5
    refine es <| xr ?_
    cases h
    exact en fr
def g_ref39_Check_s1 (r112 : (List Int)) (x116 : Int) : Option (Nx (Int) (Unit ⊕ Unit)) :=
  (if (decide (x116 < (r112.length : Int))) then ((atI r112 x116).bind fun y170 => ((atI r112 (IntKind.i64.wrap (x116 - 1))).bind fun y172 => (if (decide (y170 ≤ y172)) then (some (.out (.inl ()))) else (some (.go (IntKind.i64.wrap (x116 + 1))))))) else (some (.out (.inr ()))))
def g_ref39_Check (p_0 : T_api_Profile) : Option (Int) :=
  ((g_ref07_Name p_0.Name).bind fun r7 => (if r7 then ((((g_ref39_within p_0.Reading 1 10000).bind fun r30 => (if r30 then ((g_ref39_within p_0.MinFrames 1 5184000).bind fun r33 => (if r33 then ((g_ref39_within p_0.MaxFrames 1 5184000).bind fun r36 => (if r36 then ((g_ref39_within p_0.MinGap 0 1000).bind fun r39 => (if r39 then ((g_ref39_within p_0.ShotBefore 0 1000).bind fun r42 => (if r42 then ((g_ref39_within p_0.ShotAfter 0 1000).bind fun r45 => (some (!r45))) else (some true))) else (some true))) else (some true))) else (some true))) else (some true))) : Option (Bool)).bind fun v28 => (if v28 then (some 2) else ((((g_ref39_inside p_0.Rows 1 4).bind fun r73 => (if r73 then ((g_ref39_inside p_0.Cols 1 32).bind fun r76 => (if r76 then ((g_ref39_inside p_0.SafeTop 0 31).bind fun r79 => (if r79 then ((g_ref39_inside p_0.SafeBottom 0 31).bind fun r82 => (if r82 then ((g_ref39_inside p_0.SafeLeft 0 31).bind fun r85 => (if r85 then ((g_ref39_inside p_0.SafeRight 0 31).bind fun r88 => (if r88 then (if (decide (14 < (IntKind.i64.wrap (p_0.SafeTop + p_0.SafeBottom)))) then (some true) else (some (decide (31 < (IntKind.i64.wrap (p_0.SafeLeft + p_0.SafeRight)))))) else (some true))) else (some true))) else (some true))) else (some true))) else (some true))) else (some true))) : Option (Bool)).bind fun v71 => (if v71 then (some 2) else (if (decide (p_0.MaxFrames < p_0.MinFrames)) then (some 8) else ((g_ref08_Valid p_0.Forbidden).bind fun r105 => (if r105 then ((g_ref08_Chars p_0.Forbidden).bind fun r112 => ((iter (g_ref39_Check_s1 r112) 1).bind fun e117 => (match e117 with | Sum.inl e117 => (some 8) | Sum.inr (e117) => (some 0)))) else (some 10)))))))) else (some 5)))
theorem a_ref39_Check {I : World → Prop} (hI : Stab I) {p_0 : T_api_Profile} {r : Int} (h : g_ref39_Check p_0 = some r) : AFun Tryz.prog I 12 [T_api_Profile.d p_0] (.int .i64 r) := by
  have dd := dd_PE; have k := True.intro; have q := k; have rs := Tryz.results12
  unfold g_ref39_Check at h
  refine .en hI Tryz.func12 Tryz.ntmps12 ?_
  refine xs <| rz ?_
  refine es <| xs <| xs <| rK fun K6 RK6 hK6 gK6 => zz ?_
  obtain ⟨r7, h8, h⟩ := bs h
  refine cw (a_ref07_Name hI h8) <| zz ?_
  subst hK6 gK6
  refine es ?_
  rcases iK k h with ⟨k, h⟩ | ⟨k, h⟩
  · refine xf <| xk <| es <| xs ?_
    obtain ⟨v28, h47, h⟩ := bs h
    refine rb_cut (fun v28 => ⟨envL [(1, .ptr 0 0), (42, .bool v28)], heapL [(0, .box none [.str p_0.Name, .int .i64 p_0.Reading, .int .i64 p_0.MinFrames, .int .i64 p_0.MaxFrames, .int .i64 p_0.MinGap, .int .i64 p_0.ShotBefore, .int .i64 p_0.ShotAfter, .int .i64 p_0.Rows, .int .i64 p_0.Cols, .str p_0.Forbidden, .int .i64 p_0.SafeTop, .int .i64 p_0.SafeBottom, .int .i64 p_0.SafeLeft, .int .i64 p_0.SafeRight])], 1, 121⟩) h47 ?_ ?_
    · clear h
      intro v28 h
      refine rK fun K29 RK29 hK29 gK29 => zz ?_
      obtain ⟨r30, h31, h⟩ := bs h
      refine cw (a_ref39_within hI h31) <| zz ?_
      rcases iK k h with ⟨k, h⟩ | ⟨k, h⟩
      · refine zz ?_
        obtain ⟨r33, h34, h⟩ := bs h
        refine cw (a_ref39_within hI h34) <| zz ?_
        rcases iK k h with ⟨k, h⟩ | ⟨k, h⟩
        · refine zz ?_
          obtain ⟨r36, h37, h⟩ := bs h
          refine cw (a_ref39_within hI h37) <| zz ?_
          rcases iK k h with ⟨k, h⟩ | ⟨k, h⟩
          · refine zz ?_
            obtain ⟨r39, h40, h⟩ := bs h
            refine cw (a_ref39_within hI h40) <| zz ?_
            rcases iK k h with ⟨k, h⟩ | ⟨k, h⟩
            · refine zz ?_
              obtain ⟨r42, h43, h⟩ := bs h
              refine cw (a_ref39_within hI h43) <| zz ?_
              rcases iK k h with ⟨k, h⟩ | ⟨k, h⟩
              · refine zz ?_
                obtain ⟨r45, h46, h⟩ := bs h
                refine cw (a_ref39_within hI h46) <| zz ?_
                subst hK29 gK29
                cases h
                exact en ⟨rfl, wk []⟩
              · refine zz ?_
                subst hK29 gK29
                cases h
                exact en ⟨rfl, wk []⟩
            · refine zz ?_
              subst hK29 gK29
              cases h
              exact en ⟨rfl, wk []⟩
          · refine zz ?_
            subst hK29 gK29
            cases h
            exact en ⟨rfl, wk []⟩
        · refine zz ?_
          subst hK29 gK29
          cases h
          exact en ⟨rfl, wk []⟩
      · refine zz ?_
        subst hK29 gK29
        cases h
        exact en ⟨rfl, wk []⟩
    · rcases iK k h with ⟨k, h⟩ | ⟨k, h⟩
      · refine xt <| xs <| rz ?_
        refine es <| xr <| er ?_
        cases h
        exact en fr
      · refine xf <| xk <| es <| xs ?_
        obtain ⟨v71, h92, h⟩ := bs h
        refine rb_cut (fun v71 => ⟨envL [(1, .ptr 0 0), (92, .bool v71)], heapL [(0, .box none [.str p_0.Name, .int .i64 p_0.Reading, .int .i64 p_0.MinFrames, .int .i64 p_0.MaxFrames, .int .i64 p_0.MinGap, .int .i64 p_0.ShotBefore, .int .i64 p_0.ShotAfter, .int .i64 p_0.Rows, .int .i64 p_0.Cols, .str p_0.Forbidden, .int .i64 p_0.SafeTop, .int .i64 p_0.SafeBottom, .int .i64 p_0.SafeLeft, .int .i64 p_0.SafeRight])], 1, 121⟩) h92 ?_ ?_
        · clear h
          intro v71 h
          refine rK fun K72 RK72 hK72 gK72 => zz ?_
          obtain ⟨r73, h74, h⟩ := bs h
          refine cw (a_ref39_inside hI h74) <| zz ?_
          rcases iK k h with ⟨k, h⟩ | ⟨k, h⟩
          · refine zz ?_
            obtain ⟨r76, h77, h⟩ := bs h
            refine cw (a_ref39_inside hI h77) <| zz ?_
            rcases iK k h with ⟨k, h⟩ | ⟨k, h⟩
            · refine zz ?_
              obtain ⟨r79, h80, h⟩ := bs h
              refine cw (a_ref39_inside hI h80) <| zz ?_
              rcases iK k h with ⟨k, h⟩ | ⟨k, h⟩
              · refine zz ?_
                obtain ⟨r82, h83, h⟩ := bs h
                refine cw (a_ref39_inside hI h83) <| zz ?_
                rcases iK k h with ⟨k, h⟩ | ⟨k, h⟩
                · refine zz ?_
                  obtain ⟨r85, h86, h⟩ := bs h
                  refine cw (a_ref39_inside hI h86) <| zz ?_
                  rcases iK k h with ⟨k, h⟩ | ⟨k, h⟩
                  · refine zz ?_
                    obtain ⟨r88, h89, h⟩ := bs h
                    refine cw (a_ref39_inside hI h89) <| zz ?_
                    rcases iK k h with ⟨k, h⟩ | ⟨k, h⟩
                    · refine zz ?_
                      rcases iK k h with ⟨k, h⟩ | ⟨k, h⟩
                      · refine zz ?_
                        subst hK72 gK72
                        cases h
                        exact en ⟨rfl, wk []⟩
                      · refine zz ?_
                        subst hK72 gK72
                        cases h
                        exact en ⟨rfl, wk []⟩
                    · refine zz ?_
                      subst hK72 gK72
                      cases h
                      exact en ⟨rfl, wk []⟩
                  · refine zz ?_
                    subst hK72 gK72
                    cases h
                    exact en ⟨rfl, wk []⟩
                · refine zz ?_
                  subst hK72 gK72
                  cases h
                  exact en ⟨rfl, wk []⟩
              · refine zz ?_
                subst hK72 gK72
                cases h
                exact en ⟨rfl, wk []⟩
            · refine zz ?_
              subst hK72 gK72
              cases h
              exact en ⟨rfl, wk []⟩
          · refine zz ?_
            subst hK72 gK72
            cases h
            exact en ⟨rfl, wk []⟩
        · rcases iK k h with ⟨k, h⟩ | ⟨k, h⟩
          · refine xt <| xs <| rz ?_
            refine es <| xr <| er ?_
            cases h
            exact en fr
          · refine xf <| xk <| es <| xs <| xs <| rz ?_
            refine es ?_
            rcases iK k h with ⟨k, h⟩ | ⟨k, h⟩
            · refine xt <| xs <| rz ?_
              refine es <| xr <| er ?_
              cases h
              exact en fr
            · refine xf <| xk <| es <| xs <| xs <| rK fun K104 RK104 hK104 gK104 => zz ?_
              obtain ⟨r105, h106, h⟩ := bs h
              refine cw (a_ref08_Valid hI h106) <| zz ?_
              subst hK104 gK104
              refine es ?_
              rcases iK k h with ⟨k, h⟩ | ⟨k, h⟩
              · refine xf <| xk <| es <| xs <| rK fun K111 RK111 hK111 gK111 => zz ?_
                obtain ⟨r112, h113, h⟩ := bs h
                refine cw (a_ref08_Chars hI h113) <| zz ?_
                subst hK111 gK111
                refine es <| xs <| xs <| rz ?_
                refine es <| xb ?_
                obtain ⟨e117, h178, h⟩ := bs h
                refine rb_loop (fun x116 => ⟨envL [(3, .sl (r112.map (D.int .i32))), (4, .int .i64 x116)], heapL [], 0, 121⟩) (fun w => match w with | Sum.inl _ => .ret | Sum.inr (_) => .exit 0) (fun w => match w with | Sum.inl e117 => ⟨envL [(2, .int .i64 8)], heapL [], 0, 121⟩ | Sum.inr (e117) => ⟨envL [], heapL [], 0, 121⟩) h178 (wk []) (by intro w; rcases w with w | w <;> simp) ?_ ?_
                · clear h
                  intro x116 y h
                  unfold g_ref39_Check_s1 at h
                  refine xs <| xs <| rz ?_
                  refine es ?_
                  rcases iK k h with ⟨k, h⟩ | ⟨k, h⟩
                  · refine xt <| xk <| es <| xs <| xb <| xs <| rD hI fun K169 RK169 hK169 gK169 => zz ?_
                    obtain ⟨y170, q, h⟩ := bK q h
                    refine zz ?_
                    obtain ⟨y172, q, h⟩ := bK q h
                    refine zz ?_
                    subst hK169 gK169
                    refine es ?_
                    rcases iK k h with ⟨k, h⟩ | ⟨k, h⟩
                    · refine xt <| xs <| rz ?_
                      refine es <| xr <| br <| er ?_
                      cases h
                      exact en ⟨rfl, wk []⟩
                    · refine xf <| xk <| bn <| es <| rz ?_
                      cases h
                      exact en ⟨rfl, wk []⟩
                  · refine xf <| xx <| ee ?_
                    cases h
                    exact en ⟨rfl, wk []⟩
                · rcases e117 with e117 | e117
                  · try dsimp only at h ⊢
                    refine br <| er ?_
                    cases h
                    exact en fr
                  · try dsimp only at h ⊢
                    refine bh <| es <| xs <| rz ?_
                    refine es <| xr ?_
                    cases h
                    exact en fr
              · refine xt <| xs <| rz ?_
                refine es <| xr <| er ?_
                cases h
                exact en fr
  · refine xt <| xs <| rz ?_
    refine es <| xr <| er ?_
    cases h
    exact en fr
def g_ref39_line_s1 (l_1 : List Int) (x5 : (List UInt8) × Int) : Option (Nx ((List UInt8) × Int) ((List UInt8))) :=
  (if (decide (x5.2 < (l_1.length : Int))) then ((atI l_1 x5.2).bind fun y59 => ((g_ref07_Decimal y59).bind fun r62 => (if 1 + r62.length ≤ 9223372036854775807 then (if x5.1.length + (1 + r62.length) ≤ 9223372036854775807 then (some (.go ((x5.1 ++ ([32] ++ r62)), (IntKind.i64.wrap (x5.2 + 1))))) else none) else none))) else (some (.out x5.1)))
def g_ref39_line (word_0 : List UInt8) (l_1 : List Int) : Option ((List UInt8)) :=
  ((iter (g_ref39_line_s1 l_1) (word_0, 0)).bind fun e6 => (if e6.length + 1 ≤ 9223372036854775807 then (some (e6 ++ [10])) else none))
theorem a_ref39_line {I : World → Prop} (hI : Stab I) {word_0 : List UInt8} {l_1 : List Int} {r : (List UInt8)} (h : g_ref39_line word_0 l_1 = some r) : AFun Tryz.prog I 34 [.str word_0, .sl (l_1.map (D.int .i64))] (.str r) := by
  have dd := dd_PE; have k := True.intro; have q := k; have rs := Tryz.results34
  unfold g_ref39_line at h
  refine .en hI Tryz.func34 Tryz.ntmps34 ?_
  refine xs <| rz ?_
  refine es <| xs <| xs <| rz ?_
  refine es <| xb ?_
  obtain ⟨e6, h69, h⟩ := bs h
  refine rb_loop (fun x5 => ⟨envL [(0, .str x5.1), (7, .sl (l_1.map (D.int .i64))), (8, .int .i64 (l_1.length : Int)), (9, .int .i64 x5.2)], heapL [], 0, 21⟩) (fun _ => .exit 0) (fun e6 => ⟨envL [(0, .str e6)], heapL [], 0, 21⟩) h69 (wk []) (by intro w; simp) ?_ ?_
  · clear h
    intro x5 y h
    unfold g_ref39_line_s1 at h
    refine xs <| rz ?_
    refine es <| xs ?_
    rcases iK k h with ⟨k, h⟩ | ⟨k, h⟩
    · refine xt <| xk <| es <| xs <| xb <| xs <| rK fun K58 RK58 hK58 gK58 => zz ?_
      obtain ⟨y59, q, h⟩ := bK q h
      refine zz ?_
      subst hK58 gK58
      refine es <| rK fun K61 RK61 hK61 gK61 => zz ?_
      obtain ⟨r62, h63, h⟩ := bs h
      refine cw (a_ref07_Decimal hI h63) <| zz ?_
      obtain ⟨h64, h⟩ := ite_on h
      have h65 : ([32] : List UInt8).length + r62.length ≤ 9223372036854775807 := by (try simp only [List.length_append, List.length_cons, List.length_nil]); omega
      try simp -implicitDefEqProofs only [vt, vm, sevalprocAttr, dd, k, q] at h65
      have q := And.intro @h65 <| And.intro @h64 <| q
      refine zz ?_
      obtain ⟨h66, h⟩ := ite_on h
      have h67 : x5.1.length + ([32] ++ r62).length ≤ 9223372036854775807 := by (try simp only [List.length_append, List.length_cons, List.length_nil]); omega
      try simp -implicitDefEqProofs only [vt, vm, sevalprocAttr, dd, k, q] at h67
      have q := And.intro @h67 <| And.intro @h66 <| q
      refine zz ?_
      subst hK61 gK61
      refine bn <| es <| rz ?_
      cases h
      exact en ⟨rfl, wk []⟩
    · refine xf <| xx <| ee ?_
      cases h
      exact en ⟨rfl, wk []⟩
  · refine bh <| es <| xs <| rK fun K73 RK73 hK73 gK73 => zz ?_
    obtain ⟨h74, h⟩ := ite_on h
    have h75 : e6.length + ([10] : List UInt8).length ≤ 9223372036854775807 := by (try simp only [List.length_append, List.length_cons, List.length_nil]); omega
    try simp -implicitDefEqProofs only [vt, vm, sevalprocAttr, dd, k, q] at h75
    have q := And.intro @h75 <| And.intro @h74 <| q
    refine zz ?_
    subst hK73 gK73
    refine es <| xr ?_
    cases h
    exact en fr
def g_ref39_Text (p_0 : T_api_Profile) : Option ((List UInt8) × Int) :=
  ((g_ref39_Check p_0).bind fun r7 => (if (r7 != 0) then (some ([], r7)) else (if 8 + p_0.Name.length ≤ 9223372036854775807 then (if (8 + p_0.Name.length) + 1 ≤ 9223372036854775807 then ((g_ref39_line [82, 69, 65, 68, 73, 78, 71] [p_0.Reading]).bind fun r40 => (if ((8 + p_0.Name.length) + 1) + r40.length ≤ 9223372036854775807 then ((g_ref39_line [70, 82, 65, 77, 69, 83] [p_0.MinFrames, p_0.MaxFrames]).bind fun r44 => (if (((8 + p_0.Name.length) + 1) + r40.length) + r44.length ≤ 9223372036854775807 then ((g_ref39_line [71, 65, 80] [p_0.MinGap]).bind fun r48 => (if ((((8 + p_0.Name.length) + 1) + r40.length) + r44.length) + r48.length ≤ 9223372036854775807 then ((g_ref39_line [83, 72, 79, 84, 83] [p_0.ShotBefore, p_0.ShotAfter]).bind fun r52 => (if (((((8 + p_0.Name.length) + 1) + r40.length) + r44.length) + r48.length) + r52.length ≤ 9223372036854775807 then ((g_ref39_line [83, 73, 90, 69] [p_0.Rows, p_0.Cols]).bind fun r66 => ((g_ref39_line [83, 65, 70, 69] [p_0.SafeTop, p_0.SafeBottom, p_0.SafeLeft, p_0.SafeRight]).bind fun r68 => (if r66.length + r68.length ≤ 9223372036854775807 then (if ((((((8 + p_0.Name.length) + 1) + r40.length) + r44.length) + r48.length) + r52.length) + (r66.length + r68.length) ≤ 9223372036854775807 then (if (((((((8 + p_0.Name.length) + 1) + r40.length) + r44.length) + r48.length) + r52.length) + (r66.length + r68.length)) + 10 ≤ 9223372036854775807 then ((g_ref07_Quote p_0.Forbidden).bind fun r86 => (if ((((((((8 + p_0.Name.length) + 1) + r40.length) + r44.length) + r48.length) + r52.length) + (r66.length + r68.length)) + 10) + r86.length ≤ 9223372036854775807 then (if (((((((((8 + p_0.Name.length) + 1) + r40.length) + r44.length) + r48.length) + r52.length) + (r66.length + r68.length)) + 10) + r86.length) + 1 ≤ 9223372036854775807 then (some ((((((((((([80, 82, 79, 70, 73, 76, 69, 32] ++ p_0.Name) ++ [10]) ++ r40) ++ r44) ++ r48) ++ r52) ++ (r66 ++ r68)) ++ [70, 79, 82, 66, 73, 68, 68, 69, 78, 32]) ++ r86) ++ [10]), 0)) else none) else none)) else none) else none) else none))) else none)) else none)) else none)) else none)) else none) else none)))
theorem a_ref39_Text {I : World → Prop} (hI : Stab I) {p_0 : T_api_Profile} {r : (List UInt8) × Int} (h : g_ref39_Text p_0 = some r) : AFun Tryz.prog I 14 [T_api_Profile.d p_0] (.tup [.str r.1, .int .i64 r.2]) := by
  have dd := dd_PE; have k := True.intro; have q := k; have rs := Tryz.results14
  unfold g_ref39_Text at h
  refine .en hI Tryz.func14 Tryz.ntmps14 ?_
  refine xs <| rz ?_
  refine es <| xs <| xs <| rK fun K6 RK6 hK6 gK6 => zz ?_
  obtain ⟨r7, h8, h⟩ := bs h
  refine cw (a_ref39_Check hI h8) <| zz ?_
  subst hK6 gK6
  refine es <| xs <| rz ?_
  refine es ?_
  rcases iK k h with ⟨k, h⟩ | ⟨k, h⟩
  · refine xt <| xs <| rz ?_
    refine es <| xr <| er ?_
    cases h
    exact en fr
  · refine xf <| xk <| es <| xs <| rP hI fun K35 hK35 => rgP_cons <| zq ?_
    refine sP.light rfl fd <| rgP_cons <| zq ?_
    refine sP.foot (.cell 0 0 1) (fun _ => FootOK.ld rfl rfl rfl (by kernel_rfl) (by decide)) fd (by first | exact .inl (by first | rfl | decide) | exact .inr (by kernel_rfl)) <| rgP_cons <| zq ?_
    obtain ⟨h36, h⟩ := ite_on h
    have h37 : ([80, 82, 79, 70, 73, 76, 69, 32] : List UInt8).length + p_0.Name.length ≤ 9223372036854775807 := by (try simp only [List.length_append, List.length_cons, List.length_nil]); omega
    try simp -implicitDefEqProofs only [vt, vm, sevalprocAttr, dd, k, q] at h37
    have q := And.intro @h37 <| And.intro @h36 <| q
    refine zq ?_
    refine sP.light rfl fd <| rgP_cons <| zq ?_
    obtain ⟨h38, h⟩ := ite_on h
    have h39 : ([80, 82, 79, 70, 73, 76, 69, 32] ++ p_0.Name).length + ([10] : List UInt8).length ≤ 9223372036854775807 := by (try simp only [List.length_append, List.length_cons, List.length_nil]); omega
    try simp -implicitDefEqProofs only [vt, vm, sevalprocAttr, dd, k, q] at h39
    have q := And.intro @h39 <| And.intro @h38 <| q
    refine zq ?_
    refine sP.light rfl fd <| rgP_cons <| zq ?_
    refine sP.light rfl fd <| rgP_cons <| zq ?_
    refine sP.foot (.cell 0 1 1) (fun _ => FootOK.ld rfl rfl rfl (by kernel_rfl) (by decide)) fd (by first | exact .inl (by first | rfl | decide) | exact .inr (by kernel_rfl)) <| rgP_cons <| zq ?_
    refine sP.foot (.ids []) (fun hN => FootOK.idsB [] (by rfl) rfl hN) fd (by first | exact .inl (by first | rfl | decide) | exact .inr (by kernel_rfl)) <| rgP_cons <| zq ?_
    obtain ⟨r40, h41, h⟩ := bs h
    refine cP.intro (a_ref39_line hI h41) fi (.ids [14]) (fun hN => FootOK.idsB [14] (by rfl) rfl hN) fd (by first | exact .inl (by first | rfl | decide) | exact .inr (by kernel_rfl)) <| rgP_cons <| zq ?_
    obtain ⟨h42, h⟩ := ite_on h
    have h43 : (([80, 82, 79, 70, 73, 76, 69, 32] ++ p_0.Name) ++ [10]).length + r40.length ≤ 9223372036854775807 := by (try simp only [List.length_append, List.length_cons, List.length_nil]); omega
    try simp -implicitDefEqProofs only [vt, vm, sevalprocAttr, dd, k, q] at h43
    have q := And.intro @h43 <| And.intro @h42 <| q
    refine zq ?_
    refine sP.light rfl fd <| rgP_cons <| zq ?_
    refine sP.light rfl fd <| rgP_cons <| zq ?_
    refine sP.foot (.cell 0 2 1) (fun _ => FootOK.ld rfl rfl rfl (by kernel_rfl) (by decide)) fd (by first | exact .inl (by first | rfl | decide) | exact .inr (by kernel_rfl)) <| rgP_cons <| zq ?_
    refine sP.light rfl fd <| rgP_cons <| zq ?_
    refine sP.foot (.cell 0 3 1) (fun _ => FootOK.ld rfl rfl rfl (by kernel_rfl) (by decide)) fd (by first | exact .inl (by first | rfl | decide) | exact .inr (by kernel_rfl)) <| rgP_cons <| zq ?_
    refine sP.foot (.ids []) (fun hN => FootOK.idsB [] (by rfl) rfl hN) fd (by first | exact .inl (by first | rfl | decide) | exact .inr (by kernel_rfl)) <| rgP_cons <| zq ?_
    obtain ⟨r44, h45, h⟩ := bs h
    refine cP.intro (a_ref39_line hI h45) fi (.ids [21]) (fun hN => FootOK.idsB [21] (by rfl) rfl hN) fd (by first | exact .inl (by first | rfl | decide) | exact .inr (by kernel_rfl)) <| rgP_cons <| zq ?_
    obtain ⟨h46, h⟩ := ite_on h
    have h47 : ((([80, 82, 79, 70, 73, 76, 69, 32] ++ p_0.Name) ++ [10]) ++ r40).length + r44.length ≤ 9223372036854775807 := by (try simp only [List.length_append, List.length_cons, List.length_nil]); omega
    try simp -implicitDefEqProofs only [vt, vm, sevalprocAttr, dd, k, q] at h47
    have q := And.intro @h47 <| And.intro @h46 <| q
    refine zq ?_
    refine sP.light rfl fd <| rgP_cons <| zq ?_
    refine sP.light rfl fd <| rgP_cons <| zq ?_
    refine sP.foot (.cell 0 4 1) (fun _ => FootOK.ld rfl rfl rfl (by kernel_rfl) (by decide)) fd (by first | exact .inl (by first | rfl | decide) | exact .inr (by kernel_rfl)) <| rgP_cons <| zq ?_
    refine sP.foot (.ids []) (fun hN => FootOK.idsB [] (by rfl) rfl hN) fd (by first | exact .inl (by first | rfl | decide) | exact .inr (by kernel_rfl)) <| rgP_cons <| zq ?_
    obtain ⟨r48, h49, h⟩ := bs h
    refine cP.intro (a_ref39_line hI h49) fi (.ids [26]) (fun hN => FootOK.idsB [26] (by rfl) rfl hN) fd (by first | exact .inl (by first | rfl | decide) | exact .inr (by kernel_rfl)) <| rgP_cons <| zq ?_
    obtain ⟨h50, h⟩ := ite_on h
    have h51 : (((([80, 82, 79, 70, 73, 76, 69, 32] ++ p_0.Name) ++ [10]) ++ r40) ++ r44).length + r48.length ≤ 9223372036854775807 := by (try simp only [List.length_append, List.length_cons, List.length_nil]); omega
    try simp -implicitDefEqProofs only [vt, vm, sevalprocAttr, dd, k, q] at h51
    have q := And.intro @h51 <| And.intro @h50 <| q
    refine zq ?_
    refine sP.light rfl fd <| rgP_cons <| zq ?_
    refine sP.light rfl fd <| rgP_cons <| zq ?_
    refine sP.foot (.cell 0 5 1) (fun _ => FootOK.ld rfl rfl rfl (by kernel_rfl) (by decide)) fd (by first | exact .inl (by first | rfl | decide) | exact .inr (by kernel_rfl)) <| rgP_cons <| zq ?_
    refine sP.light rfl fd <| rgP_cons <| zq ?_
    refine sP.foot (.cell 0 6 1) (fun _ => FootOK.ld rfl rfl rfl (by kernel_rfl) (by decide)) fd (by first | exact .inl (by first | rfl | decide) | exact .inr (by kernel_rfl)) <| rgP_cons <| zq ?_
    refine sP.foot (.ids []) (fun hN => FootOK.idsB [] (by rfl) rfl hN) fd (by first | exact .inl (by first | rfl | decide) | exact .inr (by kernel_rfl)) <| rgP_cons <| zq ?_
    obtain ⟨r52, h53, h⟩ := bs h
    refine cP.intro (a_ref39_line hI h53) fi (.ids [33]) (fun hN => FootOK.idsB [33] (by rfl) rfl hN) fd (by first | exact .inl (by first | rfl | decide) | exact .inr (by kernel_rfl)) <| rgP_cons <| zq ?_
    obtain ⟨h54, h⟩ := ite_on h
    have h55 : ((((([80, 82, 79, 70, 73, 76, 69, 32] ++ p_0.Name) ++ [10]) ++ r40) ++ r44) ++ r48).length + r52.length ≤ 9223372036854775807 := by (try simp only [List.length_append, List.length_cons, List.length_nil]); omega
    try simp -implicitDefEqProofs only [vt, vm, sevalprocAttr, dd, k, q] at h55
    have q := And.intro @h55 <| And.intro @h54 <| q
    refine zq ?_
    refine sP.light rfl fd <| rgP_cons <| zq ?_
    refine sP.light rfl fd <| zq ?_
    refine rgP_nil fk ?_
    subst hK35
    refine es <| xs <| rP hI fun K65 hK65 => rgP_cons <| zq ?_
    refine sP.light rfl fd <| rgP_cons <| zq ?_
    refine sP.light rfl fd <| rgP_cons <| zq ?_
    refine sP.foot (.cell 0 7 1) (fun _ => FootOK.ld rfl rfl rfl (by kernel_rfl) (by decide)) fd (by first | exact .inl (by first | rfl | decide) | exact .inr (by kernel_rfl)) <| rgP_cons <| zq ?_
    refine sP.light rfl fd <| rgP_cons <| zq ?_
    refine sP.foot (.cell 0 8 1) (fun _ => FootOK.ld rfl rfl rfl (by kernel_rfl) (by decide)) fd (by first | exact .inl (by first | rfl | decide) | exact .inr (by kernel_rfl)) <| rgP_cons <| zq ?_
    refine sP.foot (.ids []) (fun hN => FootOK.idsB [] (by rfl) rfl hN) fd (by first | exact .inl (by first | rfl | decide) | exact .inr (by kernel_rfl)) <| rgP_cons <| zq ?_
    obtain ⟨r66, h67, h⟩ := bs h
    refine cP.intro (a_ref39_line hI h67) fi (.ids [42]) (fun hN => FootOK.idsB [42] (by rfl) rfl hN) fd (by first | exact .inl (by first | rfl | decide) | exact .inr (by kernel_rfl)) <| rgP_cons <| zq ?_
    refine sP.light rfl fd <| rgP_cons <| zq ?_
    refine sP.foot (.cell 0 10 1) (fun _ => FootOK.ld rfl rfl rfl (by kernel_rfl) (by decide)) fd (by first | exact .inl (by first | rfl | decide) | exact .inr (by kernel_rfl)) <| rgP_cons <| zq ?_
    refine sP.light rfl fd <| rgP_cons <| zq ?_
    refine sP.foot (.cell 0 11 1) (fun _ => FootOK.ld rfl rfl rfl (by kernel_rfl) (by decide)) fd (by first | exact .inl (by first | rfl | decide) | exact .inr (by kernel_rfl)) <| rgP_cons <| zq ?_
    refine sP.light rfl fd <| rgP_cons <| zq ?_
    refine sP.foot (.cell 0 12 1) (fun _ => FootOK.ld rfl rfl rfl (by kernel_rfl) (by decide)) fd (by first | exact .inl (by first | rfl | decide) | exact .inr (by kernel_rfl)) <| rgP_cons <| zq ?_
    refine sP.light rfl fd <| rgP_cons <| zq ?_
    refine sP.foot (.cell 0 13 1) (fun _ => FootOK.ld rfl rfl rfl (by kernel_rfl) (by decide)) fd (by first | exact .inl (by first | rfl | decide) | exact .inr (by kernel_rfl)) <| rgP_cons <| zq ?_
    refine sP.foot (.ids []) (fun hN => FootOK.idsB [] (by rfl) rfl hN) fd (by first | exact .inl (by first | rfl | decide) | exact .inr (by kernel_rfl)) <| rgP_cons <| zq ?_
    obtain ⟨r68, h69, h⟩ := bs h
    refine cP.intro (a_ref39_line hI h69) fi (.ids [52]) (fun hN => FootOK.idsB [52] (by rfl) rfl hN) fd (by first | exact .inl (by first | rfl | decide) | exact .inr (by kernel_rfl)) <| rgP_cons <| zq ?_
    obtain ⟨h70, h⟩ := ite_on h
    have h71 : r66.length + r68.length ≤ 9223372036854775807 := by (try simp only [List.length_append, List.length_cons, List.length_nil]); omega
    try simp -implicitDefEqProofs only [vt, vm, sevalprocAttr, dd, k, q] at h71
    have q := And.intro @h71 <| And.intro @h70 <| q
    refine zq ?_
    refine sP.light rfl fd <| rgP_cons <| zq ?_
    obtain ⟨h72, h⟩ := ite_on h
    have h73 : (((((([80, 82, 79, 70, 73, 76, 69, 32] ++ p_0.Name) ++ [10]) ++ r40) ++ r44) ++ r48) ++ r52).length + (r66 ++ r68).length ≤ 9223372036854775807 := by (try simp only [List.length_append, List.length_cons, List.length_nil]); omega
    try simp -implicitDefEqProofs only [vt, vm, sevalprocAttr, dd, k, q] at h73
    have q := And.intro @h73 <| And.intro @h72 <| q
    refine zq ?_
    refine sP.light rfl fd <| rgP_cons <| zq ?_
    refine sP.light rfl fd <| zq ?_
    refine rgP_nil fk ?_
    subst hK65
    refine es <| xs <| rK fun K83 RK83 hK83 gK83 => zz ?_
    obtain ⟨h84, h⟩ := ite_on h
    have h85 : ((((((([80, 82, 79, 70, 73, 76, 69, 32] ++ p_0.Name) ++ [10]) ++ r40) ++ r44) ++ r48) ++ r52) ++ (r66 ++ r68)).length + ([70, 79, 82, 66, 73, 68, 68, 69, 78, 32] : List UInt8).length ≤ 9223372036854775807 := by (try simp only [List.length_append, List.length_cons, List.length_nil]); omega
    try simp -implicitDefEqProofs only [vt, vm, sevalprocAttr, dd, k, q] at h85
    have q := And.intro @h85 <| And.intro @h84 <| q
    refine zz ?_
    obtain ⟨r86, h87, h⟩ := bs h
    refine cw (a_ref07_Quote hI h87) <| zz ?_
    obtain ⟨h88, h⟩ := ite_on h
    have h89 : (((((((([80, 82, 79, 70, 73, 76, 69, 32] ++ p_0.Name) ++ [10]) ++ r40) ++ r44) ++ r48) ++ r52) ++ (r66 ++ r68)) ++ [70, 79, 82, 66, 73, 68, 68, 69, 78, 32]).length + r86.length ≤ 9223372036854775807 := by (try simp only [List.length_append, List.length_cons, List.length_nil]); omega
    try simp -implicitDefEqProofs only [vt, vm, sevalprocAttr, dd, k, q] at h89
    have q := And.intro @h89 <| And.intro @h88 <| q
    refine zz ?_
    obtain ⟨h90, h⟩ := ite_on h
    have h91 : ((((((((([80, 82, 79, 70, 73, 76, 69, 32] ++ p_0.Name) ++ [10]) ++ r40) ++ r44) ++ r48) ++ r52) ++ (r66 ++ r68)) ++ [70, 79, 82, 66, 73, 68, 68, 69, 78, 32]) ++ r86).length + ([10] : List UInt8).length ≤ 9223372036854775807 := by (try simp only [List.length_append, List.length_cons, List.length_nil]); omega
    try simp -implicitDefEqProofs only [vt, vm, sevalprocAttr, dd, k, q] at h91
    have q := And.intro @h91 <| And.intro @h90 <| q
    refine zz ?_
    subst hK83 gK83
    refine es <| xr ?_
    cases h
    exact en fr
def g_ref39_one (d_0 : T_api_Diag) : Option (T_api_Profile × (List T_api_Diag)) :=
  (some ((T_api_Profile.mk [] 0 0 0 0 0 0 0 0 [] 0 0 0 0), [d_0]))
theorem a_ref39_one {I : World → Prop} (hI : Stab I) {d_0 : T_api_Diag} {r : T_api_Profile × (List T_api_Diag)} (h : g_ref39_one d_0 = some r) : AFun Tryz.prog I 39 [T_api_Diag.d d_0] (.tup [T_api_Profile.d r.1, .sl (r.2.map T_api_Diag.d)]) := by
  have dd := dd_PE; have k := True.intro; have q := k; have rs := Tryz.results39
  unfold g_ref39_one at h
  refine .en hI Tryz.func39 Tryz.ntmps39 ?_
  refine xs <| rz ?_
  refine es <| xs <| rP hI fun K4 hK4 => rgP_cons <| zq ?_
  refine sP.light rfl fd <| rgP_cons <| zq ?_
  refine sP.foot (.cell 0 0 3) (fun _ => FootOK.ld rfl rfl rfl (by kernel_rfl) (by decide)) fd (by first | exact .inl (by first | rfl | decide) | exact .inr (by kernel_rfl)) <| rgP_cons <| zq ?_
  refine sP.foot (.ids []) (fun hN => FootOK.idsB [] (by rfl) rfl hN) fd (by first | exact .inl (by first | rfl | decide) | exact .inr (by kernel_rfl)) <| rgP_cons <| zq ?_
  refine sP.pat 1 0 14 rfl rfl rfl <| rgP_cons <| zq ?_
  refine sP.light rfl fd <| zq ?_
  refine rgP_nil fk ?_
  subst hK4
  refine es <| xr ?_
  cases h
  exact en fr
def g_ref39_num (s_0 : T_captionerref07_Scanner) : Option (Int × T_captionerref07_Scanner) :=
  ((g_ref07_Scanner_Number s_0 0 5184000).bind fun r7 => (some (r7.1, r7.2)))
theorem a_ref39_num {I : World → Prop} (hI : Stab I) {H : Nat → Option Blk} {nid : Nat} {i0 : Nat} {p0 : Option Nat} {s_0 : T_captionerref07_Scanner} {r : Int × T_captionerref07_Scanner} (h : g_ref39_num s_0 = some r) (b0 : H i0 = some (.box p0 [.int .i64 s_0.Line.Number, .sl (s_0.Line.Fields.map T_api_Field.d), .int .i64 s_0.At, .int .i64 s_0.Code, .int .i64 s_0.Col])) : CallOK Tryz.prog I 70 [.ptr i0 0] H nid (.int .i64 r.1) [(i0, some (.box p0 [.int .i64 r.2.Line.Number, .sl (r.2.Line.Fields.map T_api_Field.d), .int .i64 r.2.At, .int .i64 r.2.Code, .int .i64 r.2.Col]))] := by
  refine CallOK.intro (is := [(i0, p0)]) (css := [[.int .i64 s_0.Line.Number, .sl (s_0.Line.Fields.map T_api_Field.d), .int .i64 s_0.At, .int .i64 s_0.Code, .int .i64 s_0.Col]]) (ds0 := [.ptr 0 0]) (pl := [(0, none)]) hI Tryz.func70 rfl (by decide) (by simp [Tryz.f70]) (by kernel_rfl) rfl rfl rfl rfl (lentAll_of ⟨⟨b0, rfl⟩, trivial⟩) (by simp) ?_
  have dd := dd_PE; have k := True.intro; have q := k; have rs := Tryz.results70
  unfold g_ref39_num at h
  simp only [lentH, List.length_cons, List.length_nil, Nat.zero_add, Nat.reduceAdd, Tryz.ntmps70, dd_PE]
  refine xs <| rz ?_
  refine es <| xs <| rK fun K6 RK6 hK6 gK6 => zz ?_
  obtain ⟨r7, h8, h⟩ := bs h
  refine eW.intro (a_ref07_Scanner_Number hI (nid := 3) (i0 := 0) (p0 := (some 0)) h8 fz) fi rfl <| zz ?_
  subst hK6 gK6
  refine es <| xr ?_
  cases h
  exact en fp
def g_ref39_take (s_0 : T_captionerref07_Scanner) (i_1 : Int) (p_2 : T_api_Profile) : Option (T_captionerref07_Scanner × T_api_Profile) :=
  ((subI ([[80, 82, 79, 70, 73, 76, 69], [82, 69, 65, 68, 73, 78, 71], [70, 82, 65, 77, 69, 83], [71, 65, 80], [83, 72, 79, 84, 83], [83, 73, 90, 69], [83, 65, 70, 69], [70, 79, 82, 66, 73, 68, 68, 69, 78]] : List (List UInt8)) i_1 (IntKind.i64.wrap (i_1 + 1))).bind fun z15 => ((g_ref07_Scanner_Choice s_0 z15).bind fun r23 => (if (i_1 == 0) then ((g_ref07_Scanner_Name r23.2 false).bind fun r31 => (some (r31.2, (T_api_Profile.mk r31.1 p_2.Reading p_2.MinFrames p_2.MaxFrames p_2.MinGap p_2.ShotBefore p_2.ShotAfter p_2.Rows p_2.Cols p_2.Forbidden p_2.SafeTop p_2.SafeBottom p_2.SafeLeft p_2.SafeRight)))) else (if (i_1 == 1) then ((g_ref39_num r23.2).bind fun r37 => (some (r37.2, (T_api_Profile.mk p_2.Name r37.1 p_2.MinFrames p_2.MaxFrames p_2.MinGap p_2.ShotBefore p_2.ShotAfter p_2.Rows p_2.Cols p_2.Forbidden p_2.SafeTop p_2.SafeBottom p_2.SafeLeft p_2.SafeRight)))) else (if (i_1 == 2) then ((g_ref39_num r23.2).bind fun r46 => ((g_ref39_num r46.2).bind fun r49 => (some (r49.2, (T_api_Profile.mk p_2.Name p_2.Reading r46.1 r49.1 p_2.MinGap p_2.ShotBefore p_2.ShotAfter p_2.Rows p_2.Cols p_2.Forbidden p_2.SafeTop p_2.SafeBottom p_2.SafeLeft p_2.SafeRight))))) else (if (i_1 == 3) then ((g_ref39_num r23.2).bind fun r55 => (some (r55.2, (T_api_Profile.mk p_2.Name p_2.Reading p_2.MinFrames p_2.MaxFrames r55.1 p_2.ShotBefore p_2.ShotAfter p_2.Rows p_2.Cols p_2.Forbidden p_2.SafeTop p_2.SafeBottom p_2.SafeLeft p_2.SafeRight)))) else (if (i_1 == 4) then ((g_ref39_num r23.2).bind fun r64 => ((g_ref39_num r64.2).bind fun r67 => (some (r67.2, (T_api_Profile.mk p_2.Name p_2.Reading p_2.MinFrames p_2.MaxFrames p_2.MinGap r64.1 r67.1 p_2.Rows p_2.Cols p_2.Forbidden p_2.SafeTop p_2.SafeBottom p_2.SafeLeft p_2.SafeRight))))) else (if (i_1 == 5) then ((g_ref39_num r23.2).bind fun r76 => ((g_ref39_num r76.2).bind fun r79 => (some (r79.2, (T_api_Profile.mk p_2.Name p_2.Reading p_2.MinFrames p_2.MaxFrames p_2.MinGap p_2.ShotBefore p_2.ShotAfter r76.1 r79.1 p_2.Forbidden p_2.SafeTop p_2.SafeBottom p_2.SafeLeft p_2.SafeRight))))) else (if (i_1 == 6) then ((g_ref39_num r23.2).bind fun r88 => ((g_ref39_num r88.2).bind fun r94 => ((g_ref39_num r94.2).bind fun r100 => ((g_ref39_num r100.2).bind fun r103 => (some (r103.2, (T_api_Profile.mk p_2.Name p_2.Reading p_2.MinFrames p_2.MaxFrames p_2.MinGap p_2.ShotBefore p_2.ShotAfter p_2.Rows p_2.Cols p_2.Forbidden r88.1 r94.1 r100.1 r103.1))))))) else (if (i_1 == 7) then ((g_ref07_Scanner_Quoted r23.2).bind fun r109 => (some (r109.2, (T_api_Profile.mk p_2.Name p_2.Reading p_2.MinFrames p_2.MaxFrames p_2.MinGap p_2.ShotBefore p_2.ShotAfter p_2.Rows p_2.Cols r109.1 p_2.SafeTop p_2.SafeBottom p_2.SafeLeft p_2.SafeRight)))) else (some (r23.2, p_2))))))))))))
theorem a_ref39_take {I : World → Prop} (hI : Stab I) {H : Nat → Option Blk} {nid : Nat} {i0 i1 : Nat} {p0 p1 : Option Nat} {s_0 : T_captionerref07_Scanner} {i_1 : Int} {p_2 : T_api_Profile} {r : T_captionerref07_Scanner × T_api_Profile} (h : g_ref39_take s_0 i_1 p_2 = some r) (b0 : H i0 = some (.box p0 [.int .i64 s_0.Line.Number, .sl (s_0.Line.Fields.map T_api_Field.d), .int .i64 s_0.At, .int .i64 s_0.Code, .int .i64 s_0.Col])) (b1 : H i1 = some (.box p1 [.str p_2.Name, .int .i64 p_2.Reading, .int .i64 p_2.MinFrames, .int .i64 p_2.MaxFrames, .int .i64 p_2.MinGap, .int .i64 p_2.ShotBefore, .int .i64 p_2.ShotAfter, .int .i64 p_2.Rows, .int .i64 p_2.Cols, .str p_2.Forbidden, .int .i64 p_2.SafeTop, .int .i64 p_2.SafeBottom, .int .i64 p_2.SafeLeft, .int .i64 p_2.SafeRight])) (hne : [i0, i1].Nodup) : CallOK Tryz.prog I 41 [.ptr i0 0, .int .i64 i_1, .ptr i1 0] H nid (.tup []) [(i0, some (.box p0 [.int .i64 r.1.Line.Number, .sl (r.1.Line.Fields.map T_api_Field.d), .int .i64 r.1.At, .int .i64 r.1.Code, .int .i64 r.1.Col])), (i1, some (.box p1 [.str r.2.Name, .int .i64 r.2.Reading, .int .i64 r.2.MinFrames, .int .i64 r.2.MaxFrames, .int .i64 r.2.MinGap, .int .i64 r.2.ShotBefore, .int .i64 r.2.ShotAfter, .int .i64 r.2.Rows, .int .i64 r.2.Cols, .str r.2.Forbidden, .int .i64 r.2.SafeTop, .int .i64 r.2.SafeBottom, .int .i64 r.2.SafeLeft, .int .i64 r.2.SafeRight]))] := by
  refine CallOK.intro (is := [(i0, p0), (i1, p1)]) (css := [[.int .i64 s_0.Line.Number, .sl (s_0.Line.Fields.map T_api_Field.d), .int .i64 s_0.At, .int .i64 s_0.Code, .int .i64 s_0.Col], [.str p_2.Name, .int .i64 p_2.Reading, .int .i64 p_2.MinFrames, .int .i64 p_2.MaxFrames, .int .i64 p_2.MinGap, .int .i64 p_2.ShotBefore, .int .i64 p_2.ShotAfter, .int .i64 p_2.Rows, .int .i64 p_2.Cols, .str p_2.Forbidden, .int .i64 p_2.SafeTop, .int .i64 p_2.SafeBottom, .int .i64 p_2.SafeLeft, .int .i64 p_2.SafeRight]]) (ds0 := [.ptr 0 0, .int .i64 i_1, .ptr 1 0]) (pl := [(0, none), (2, none)]) hI Tryz.func41 rfl (by decide) (by simp [Tryz.f41]) (by kernel_rfl) rfl rfl rfl rfl (lentAll_of ⟨⟨b0, rfl⟩, ⟨⟨b1, rfl⟩, trivial⟩⟩) hne ?_
  have dd := dd_PE; have k := True.intro; have q := k; have rs := Tryz.results41
  unfold g_ref39_take at h
  simp only [lentH, List.length_cons, List.length_nil, Nat.zero_add, Nat.reduceAdd, Tryz.ntmps41, dd_PE]
  refine xs <| rz ?_
  refine es <| xs <| rK fun K14 RK14 hK14 gK14 => zz ?_
  obtain ⟨z15, h16, h⟩ := bind_some h
  obtain ⟨⟨h17, h18, h19, h20⟩, h21⟩ := subI_some h16
  try simp only [List.length_cons, List.length_nil, Nat.zero_add, Nat.reduceAdd, Int.reduceToNat] at h17
  try simp only [List.length_cons, List.length_nil, Nat.zero_add, Nat.reduceAdd, Int.reduceToNat] at h18
  try simp only [List.length_cons, List.length_nil, Nat.zero_add, Nat.reduceAdd, Int.reduceToNat] at h19
  try simp only [List.length_cons, List.length_nil, Nat.zero_add, Nat.reduceAdd, Int.reduceToNat] at h20
  have q := And.intro @h17 <| And.intro @h18 <| And.intro @h19 <| And.intro @h20 <| q
  have h22 := congrArg (List.map D.str) h21
  simp only [List.map_take, List.map_drop, List.map_cons, List.map_nil] at h22
  have k := And.intro h22 k
  try simp -implicitDefEqProofs only [vt, vm, sevalprocAttr, dd, k, q] at h21
  have q := And.intro @h21 <| q
  refine zz ?_
  obtain ⟨r23, h24, h⟩ := bs h
  refine eW.intro (a_ref07_Scanner_Choice hI (nid := 10) (i0 := 0) (p0 := (some 0)) h24 fz) fi rfl <| zz ?_
  subst hK14 gK14
  refine es <| xs <| rz ?_
  refine es <| xb <| xs <| rz ?_
  refine es ?_
  rcases iK k h with ⟨k, h⟩ | ⟨k, h⟩
  · refine xt <| rK fun K30 RK30 hK30 gK30 => zz ?_
    obtain ⟨r31, h32, h⟩ := bs h
    refine eW.intro (a_ref07_Scanner_Name hI (nid := 16) (i0 := 0) (p0 := (some 0)) h32 fz) fi rfl <| zz ?_
    subst hK30 gK30
    refine bn ?_
    cases h
    exact en fp
  · refine xf <| xs <| rz ?_
    refine es ?_
    rcases iK k h with ⟨k, h⟩ | ⟨k, h⟩
    · refine xt <| rK fun K36 RK36 hK36 gK36 => zz ?_
      obtain ⟨r37, h38, h⟩ := bs h
      refine eW.intro (a_ref39_num hI (nid := 18) (i0 := 0) (p0 := (some 0)) h38 fz) fi rfl <| zz ?_
      subst hK36 gK36
      refine bn ?_
      cases h
      exact en fp
    · refine xf <| xs <| rz ?_
      refine es ?_
      rcases iK k h with ⟨k, h⟩ | ⟨k, h⟩
      · refine xt <| xs <| rK fun K45 RK45 hK45 gK45 => zz ?_
        obtain ⟨r46, h47, h⟩ := bs h
        refine eW.intro (a_ref39_num hI (nid := 20) (i0 := 0) (p0 := (some 0)) h47 fz) fi rfl <| zz ?_
        subst hK45 gK45
        refine es <| rK fun K48 RK48 hK48 gK48 => zz ?_
        obtain ⟨r49, h50, h⟩ := bs h
        refine eW.intro (a_ref39_num hI (nid := 26) (i0 := 0) (p0 := (some 0)) h50 fz) fi rfl <| zz ?_
        subst hK48 gK48
        refine bn ?_
        cases h
        exact en fp
      · refine xf <| xs <| rz ?_
        refine es ?_
        rcases iK k h with ⟨k, h⟩ | ⟨k, h⟩
        · refine xt <| rK fun K54 RK54 hK54 gK54 => zz ?_
          obtain ⟨r55, h56, h⟩ := bs h
          refine eW.intro (a_ref39_num hI (nid := 22) (i0 := 0) (p0 := (some 0)) h56 fz) fi rfl <| zz ?_
          subst hK54 gK54
          refine bn ?_
          cases h
          exact en fp
        · refine xf <| xs <| rz ?_
          refine es ?_
          rcases iK k h with ⟨k, h⟩ | ⟨k, h⟩
          · refine xt <| xs <| rK fun K63 RK63 hK63 gK63 => zz ?_
            obtain ⟨r64, h65, h⟩ := bs h
            refine eW.intro (a_ref39_num hI (nid := 24) (i0 := 0) (p0 := (some 0)) h65 fz) fi rfl <| zz ?_
            subst hK63 gK63
            refine es <| rK fun K66 RK66 hK66 gK66 => zz ?_
            obtain ⟨r67, h68, h⟩ := bs h
            refine eW.intro (a_ref39_num hI (nid := 30) (i0 := 0) (p0 := (some 0)) h68 fz) fi rfl <| zz ?_
            subst hK66 gK66
            refine bn ?_
            cases h
            exact en fp
          · refine xf <| xs <| rz ?_
            refine es ?_
            rcases iK k h with ⟨k, h⟩ | ⟨k, h⟩
            · refine xt <| xs <| rK fun K75 RK75 hK75 gK75 => zz ?_
              obtain ⟨r76, h77, h⟩ := bs h
              refine eW.intro (a_ref39_num hI (nid := 26) (i0 := 0) (p0 := (some 0)) h77 fz) fi rfl <| zz ?_
              subst hK75 gK75
              refine es <| rK fun K78 RK78 hK78 gK78 => zz ?_
              obtain ⟨r79, h80, h⟩ := bs h
              refine eW.intro (a_ref39_num hI (nid := 32) (i0 := 0) (p0 := (some 0)) h80 fz) fi rfl <| zz ?_
              subst hK78 gK78
              refine bn ?_
              cases h
              exact en fp
            · refine xf <| xs <| rz ?_
              refine es ?_
              rcases iK k h with ⟨k, h⟩ | ⟨k, h⟩
              · refine xt <| xs <| rK fun K87 RK87 hK87 gK87 => zz ?_
                obtain ⟨r88, h89, h⟩ := bs h
                refine eW.intro (a_ref39_num hI (nid := 28) (i0 := 0) (p0 := (some 0)) h89 fz) fi rfl <| zz ?_
                subst hK87 gK87
                refine es <| xs <| rK fun K93 RK93 hK93 gK93 => zz ?_
                obtain ⟨r94, h95, h⟩ := bs h
                refine eW.intro (a_ref39_num hI (nid := 34) (i0 := 0) (p0 := (some 0)) h95 fz) fi rfl <| zz ?_
                subst hK93 gK93
                refine es <| xs <| rK fun K99 RK99 hK99 gK99 => zz ?_
                obtain ⟨r100, h101, h⟩ := bs h
                refine eW.intro (a_ref39_num hI (nid := 40) (i0 := 0) (p0 := (some 0)) h101 fz) fi rfl <| zz ?_
                subst hK99 gK99
                refine es <| rK fun K102 RK102 hK102 gK102 => zz ?_
                obtain ⟨r103, h104, h⟩ := bs h
                refine eW.intro (a_ref39_num hI (nid := 46) (i0 := 0) (p0 := (some 0)) h104 fz) fi rfl <| zz ?_
                subst hK102 gK102
                refine bn ?_
                cases h
                exact en fp
              · refine xf <| xs <| rz ?_
                refine es ?_
                rcases iK k h with ⟨k, h⟩ | ⟨k, h⟩
                · refine xt <| rK fun K108 RK108 hK108 gK108 => zz ?_
                  obtain ⟨r109, h110, h⟩ := bs h
                  refine eW.intro (a_ref07_Scanner_Quoted hI (nid := 30) (i0 := 0) (p0 := (some 0)) h110 fz) fi rfl <| zz ?_
                  subst hK108 gK108
                  refine bn ?_
                  cases h
                  exact en fp
                · refine xf <| xk <| bn ?_
                  cases h
                  exact en fp
def g_ref39_Parse_s1 (r7 : (List T_api_Line) × (List T_api_Diag)) (x15 : Int × (List UInt8) × Int × Int × Int × Int × Int × Int × Int × Int × (List UInt8) × Int × Int × Int × Int) : Option (Nx (Int × (List UInt8) × Int × Int × Int × Int × Int × Int × Int × Int × (List UInt8) × Int × Int × Int × Int) (((List UInt8) × Int × Int × Int × Int × Int × Int × Int × Int × (List UInt8) × Int × Int × Int × Int × (List T_api_Diag)) ⊕ ((List UInt8) × Int × Int × Int × Int × Int × Int × Int × Int × (List UInt8) × Int × Int × Int × Int))) :=
  (if (decide (x15.1 < 8)) then (if (x15.1 == (r7.1.length : Int)) then (if (decide (0 < x15.1)) then ((atI r7.1 (IntKind.i64.wrap (x15.1 - 1))).bind fun y322 => ((g_ref39_one (T_api_Diag.mk (IntKind.i64.wrap (y322.Number + 1)) 1 4)).bind fun r328 => (some (.out (.inl (r328.1.Name, r328.1.Reading, r328.1.MinFrames, r328.1.MaxFrames, r328.1.MinGap, r328.1.ShotBefore, r328.1.ShotAfter, r328.1.Rows, r328.1.Cols, r328.1.Forbidden, r328.1.SafeTop, r328.1.SafeBottom, r328.1.SafeLeft, r328.1.SafeRight, r328.2)))))) else ((g_ref39_one (T_api_Diag.mk 1 1 4)).bind fun r334 => (some (.out (.inl (r334.1.Name, r334.1.Reading, r334.1.MinFrames, r334.1.MaxFrames, r334.1.MinGap, r334.1.ShotBefore, r334.1.ShotAfter, r334.1.Rows, r334.1.Cols, r334.1.Forbidden, r334.1.SafeTop, r334.1.SafeBottom, r334.1.SafeLeft, r334.1.SafeRight, r334.2)))))) else ((atI r7.1 x15.1).bind fun y342 => ((g_ref07_Scan y342).bind fun r344 => ((g_ref39_take r344 x15.1 (T_api_Profile.mk x15.2.1 x15.2.2.1 x15.2.2.2.1 x15.2.2.2.2.1 x15.2.2.2.2.2.1 x15.2.2.2.2.2.2.1 x15.2.2.2.2.2.2.2.1 x15.2.2.2.2.2.2.2.2.1 x15.2.2.2.2.2.2.2.2.2.1 x15.2.2.2.2.2.2.2.2.2.2.1 x15.2.2.2.2.2.2.2.2.2.2.2.1 x15.2.2.2.2.2.2.2.2.2.2.2.2.1 x15.2.2.2.2.2.2.2.2.2.2.2.2.2.1 x15.2.2.2.2.2.2.2.2.2.2.2.2.2.2)).bind fun r350 => ((g_ref07_Scanner_End r350.1).bind fun r356 => (if r356.2.1 then ((g_ref39_one r356.1).bind fun r365 => (some (.out (.inl (r365.1.Name, r365.1.Reading, r365.1.MinFrames, r365.1.MaxFrames, r365.1.MinGap, r365.1.ShotBefore, r365.1.ShotAfter, r365.1.Rows, r365.1.Cols, r365.1.Forbidden, r365.1.SafeTop, r365.1.SafeBottom, r365.1.SafeLeft, r365.1.SafeRight, r365.2))))) else (some (.go ((IntKind.i64.wrap (x15.1 + 1)), r350.2.Name, r350.2.Reading, r350.2.MinFrames, r350.2.MaxFrames, r350.2.MinGap, r350.2.ShotBefore, r350.2.ShotAfter, r350.2.Rows, r350.2.Cols, r350.2.Forbidden, r350.2.SafeTop, r350.2.SafeBottom, r350.2.SafeLeft, r350.2.SafeRight))))))))) else (some (.out (.inr (x15.2.1, x15.2.2.1, x15.2.2.2.1, x15.2.2.2.2.1, x15.2.2.2.2.2.1, x15.2.2.2.2.2.2.1, x15.2.2.2.2.2.2.2.1, x15.2.2.2.2.2.2.2.2.1, x15.2.2.2.2.2.2.2.2.2.1, x15.2.2.2.2.2.2.2.2.2.2.1, x15.2.2.2.2.2.2.2.2.2.2.2.1, x15.2.2.2.2.2.2.2.2.2.2.2.2.1, x15.2.2.2.2.2.2.2.2.2.2.2.2.2.1, x15.2.2.2.2.2.2.2.2.2.2.2.2.2.2)))))
def g_ref39_Parse (src_0 : List UInt8) : Option (T_api_Profile × (List T_api_Diag)) :=
  ((g_ref07_Split_n src_0).bind fun r7 => (if r7.2.isEmpty then ((iter (g_ref39_Parse_s1 r7) (0, [], 0, 0, 0, 0, 0, 0, 0, 0, [], 0, 0, 0, 0)).bind fun e16 => (match e16 with | Sum.inl e16 => (some ((T_api_Profile.mk e16.1 e16.2.1 e16.2.2.1 e16.2.2.2.1 e16.2.2.2.2.1 e16.2.2.2.2.2.1 e16.2.2.2.2.2.2.1 e16.2.2.2.2.2.2.2.1 e16.2.2.2.2.2.2.2.2.1 e16.2.2.2.2.2.2.2.2.2.1 e16.2.2.2.2.2.2.2.2.2.2.1 e16.2.2.2.2.2.2.2.2.2.2.2.1 e16.2.2.2.2.2.2.2.2.2.2.2.2.1 e16.2.2.2.2.2.2.2.2.2.2.2.2.2.1), e16.2.2.2.2.2.2.2.2.2.2.2.2.2.2)) | Sum.inr (e16) => (if (decide (8 < (r7.1.length : Int))) then ((atI r7.1 8).bind fun y380 => ((atI y380.Fields 0).bind fun y382 => ((g_ref39_one (T_api_Diag.mk y380.Number y382.Column 4)).bind fun r384 => (some (r384.1, r384.2))))) else ((g_ref39_Check (T_api_Profile.mk e16.1 e16.2.1 e16.2.2.1 e16.2.2.2.1 e16.2.2.2.2.1 e16.2.2.2.2.2.1 e16.2.2.2.2.2.2.1 e16.2.2.2.2.2.2.2.1 e16.2.2.2.2.2.2.2.2.1 e16.2.2.2.2.2.2.2.2.2.1 e16.2.2.2.2.2.2.2.2.2.2.1 e16.2.2.2.2.2.2.2.2.2.2.2.1 e16.2.2.2.2.2.2.2.2.2.2.2.2.1 e16.2.2.2.2.2.2.2.2.2.2.2.2.2)).bind fun r390 => (if (r390 != 0) then ((atI r7.1 0).bind fun y401 => ((g_ref39_one (T_api_Diag.mk y401.Number 1 r390)).bind fun r403 => (some (r403.1, r403.2)))) else (some ((T_api_Profile.mk e16.1 e16.2.1 e16.2.2.1 e16.2.2.2.1 e16.2.2.2.2.1 e16.2.2.2.2.2.1 e16.2.2.2.2.2.2.1 e16.2.2.2.2.2.2.2.1 e16.2.2.2.2.2.2.2.2.1 e16.2.2.2.2.2.2.2.2.2.1 e16.2.2.2.2.2.2.2.2.2.2.1 e16.2.2.2.2.2.2.2.2.2.2.2.1 e16.2.2.2.2.2.2.2.2.2.2.2.2.1 e16.2.2.2.2.2.2.2.2.2.2.2.2.2), []))))))) else (some ((T_api_Profile.mk [] 0 0 0 0 0 0 0 0 [] 0 0 0 0), r7.2))))
theorem a_ref39_Parse {I : World → Prop} (hI : Stab I) {src_0 : List UInt8} {r : T_api_Profile × (List T_api_Diag)} (h : g_ref39_Parse src_0 = some r) : AFun Tryz.prog I 16 [.str src_0] (.tup [T_api_Profile.d r.1, .sl (r.2.map T_api_Diag.d)]) := by
  have dd := dd_PE; have k := True.intro; have q := k; have rs := Tryz.results16
  unfold g_ref39_Parse at h
  refine .en hI Tryz.func16 Tryz.ntmps16 ?_
  refine xs <| rz ?_
  refine es <| xs <| rK fun K6 RK6 hK6 gK6 => zz ?_
  obtain ⟨r7, h8, h⟩ := bs h
  refine cw (a_ref07_Split_n hI h8) ?_
  rcases iK k h with ⟨k, h⟩ | ⟨k, h⟩
  · have q := And.intro (nslD_t (f := T_api_Diag.d) k.1) q
    refine zz ?_
    subst hK6 gK6
    refine es <| xs <| xs <| rz ?_
    refine es <| xf <| xk <| es <| xs <| rz ?_
    refine es <| xs <| xs <| rz ?_
    refine es <| xb ?_
    obtain ⟨e16, h368, h⟩ := bs h
    refine rb_loop (fun x15 => ⟨envL [(2, .ptr 0 0), (4, .sl (r7.1.map T_api_Line.d)), (6, .ptr 1 0), (23, .int .i64 x15.1)], heapL [(0, .box none [.str [], .int .i64 0, .int .i64 0, .int .i64 0, .int .i64 0, .int .i64 0, .int .i64 0, .int .i64 0, .int .i64 0, .str [], .int .i64 0, .int .i64 0, .int .i64 0, .int .i64 0]), (1, .box none [.str x15.2.1, .int .i64 x15.2.2.1, .int .i64 x15.2.2.2.1, .int .i64 x15.2.2.2.2.1, .int .i64 x15.2.2.2.2.2.1, .int .i64 x15.2.2.2.2.2.2.1, .int .i64 x15.2.2.2.2.2.2.2.1, .int .i64 x15.2.2.2.2.2.2.2.2.1, .int .i64 x15.2.2.2.2.2.2.2.2.2.1, .str x15.2.2.2.2.2.2.2.2.2.2.1, .int .i64 x15.2.2.2.2.2.2.2.2.2.2.2.1, .int .i64 x15.2.2.2.2.2.2.2.2.2.2.2.2.1, .int .i64 x15.2.2.2.2.2.2.2.2.2.2.2.2.2.1, .int .i64 x15.2.2.2.2.2.2.2.2.2.2.2.2.2.2])], 2, 96⟩) (fun w => match w with | Sum.inl _ => .ret | Sum.inr (_) => .exit 0) (fun w => match w with | Sum.inl e16 => ⟨envL [(2, .ptr 0 0), (3, .sl (e16.2.2.2.2.2.2.2.2.2.2.2.2.2.2.map T_api_Diag.d))], heapL [(0, .box none [.str e16.1, .int .i64 e16.2.1, .int .i64 e16.2.2.1, .int .i64 e16.2.2.2.1, .int .i64 e16.2.2.2.2.1, .int .i64 e16.2.2.2.2.2.1, .int .i64 e16.2.2.2.2.2.2.1, .int .i64 e16.2.2.2.2.2.2.2.1, .int .i64 e16.2.2.2.2.2.2.2.2.1, .str e16.2.2.2.2.2.2.2.2.2.1, .int .i64 e16.2.2.2.2.2.2.2.2.2.2.1, .int .i64 e16.2.2.2.2.2.2.2.2.2.2.2.1, .int .i64 e16.2.2.2.2.2.2.2.2.2.2.2.2.1, .int .i64 e16.2.2.2.2.2.2.2.2.2.2.2.2.2.1])], 1, 96⟩ | Sum.inr (e16) => ⟨envL [(2, .ptr 0 0), (4, .sl (r7.1.map T_api_Line.d)), (6, .ptr 1 0)], heapL [(0, .box none [.str [], .int .i64 0, .int .i64 0, .int .i64 0, .int .i64 0, .int .i64 0, .int .i64 0, .int .i64 0, .int .i64 0, .str [], .int .i64 0, .int .i64 0, .int .i64 0, .int .i64 0]), (1, .box none [.str e16.1, .int .i64 e16.2.1, .int .i64 e16.2.2.1, .int .i64 e16.2.2.2.1, .int .i64 e16.2.2.2.2.1, .int .i64 e16.2.2.2.2.2.1, .int .i64 e16.2.2.2.2.2.2.1, .int .i64 e16.2.2.2.2.2.2.2.1, .int .i64 e16.2.2.2.2.2.2.2.2.1, .str e16.2.2.2.2.2.2.2.2.2.1, .int .i64 e16.2.2.2.2.2.2.2.2.2.2.1, .int .i64 e16.2.2.2.2.2.2.2.2.2.2.2.1, .int .i64 e16.2.2.2.2.2.2.2.2.2.2.2.2.1, .int .i64 e16.2.2.2.2.2.2.2.2.2.2.2.2.2])], 2, 96⟩) h368 (wk [(1, some 12)]) (by intro w; rcases w with w | w <;> simp) ?_ ?_
    · clear h
      intro x15 y h
      unfold g_ref39_Parse_s1 at h
      refine xs <| rz ?_
      refine es <| xs ?_
      rcases iK k h with ⟨k, h⟩ | ⟨k, h⟩
      · refine xt <| xk <| es <| xs <| xb <| xs <| rz ?_
        refine es <| xs <| xs <| rz ?_
        refine es ?_
        rcases iK k h with ⟨k, h⟩ | ⟨k, h⟩
        · refine xt <| xs <| rz ?_
          refine es <| xs <| xs <| rz ?_
          refine es ?_
          rcases iK k h with ⟨k, h⟩ | ⟨k, h⟩
          · refine xt <| rK fun K321 RK321 hK321 gK321 => zz ?_
            obtain ⟨y322, q, h⟩ := bK q h
            refine zz ?_
            subst hK321 gK321
            refine es <| xs <| rK fun K327 RK327 hK327 gK327 => zz ?_
            obtain ⟨r328, h329, h⟩ := bs h
            refine cw (a_ref39_one hI h329) <| zz ?_
            subst hK327 gK327
            refine es <| xr <| er <| br <| er ?_
            cases h
            exact en ⟨rfl, wk []⟩
          · refine xf <| xk <| es <| xs <| rK fun K333 RK333 hK333 gK333 => zz ?_
            obtain ⟨r334, h335, h⟩ := bs h
            refine cw (a_ref39_one hI h335) <| zz ?_
            subst hK333 gK333
            refine es <| xr <| er <| br <| er ?_
            cases h
            exact en ⟨rfl, wk []⟩
        · refine xf <| xk <| es <| xs <| rK fun K341 RK341 hK341 gK341 => zz ?_
          obtain ⟨y342, q, h⟩ := bK q h
          refine zz ?_
          obtain ⟨r344, h345, h⟩ := bs h
          refine cW.introE (a_ref07_Scan hI (nid := 13) h345) fz rfl <| zz ?_
          subst hK341 gK341
          refine es <| xs <| rK fun K349 RK349 hK349 gK349 => zz ?_
          obtain ⟨r350, h351, h⟩ := bs h
          refine eW.intro (a_ref39_take hI (nid := 17) (i0 := 13) (p0 := none) (i1 := 1) (p1 := none) h351 fz fz (by decide)) fi rfl <| zz ?_
          subst hK349 gK349
          refine es <| xs <| rK fun K355 RK355 hK355 gK355 => zz ?_
          obtain ⟨r356, h357, h⟩ := bs h
          refine eW.intro (a_ref07_Scanner_End hI (nid := 19) (i0 := 13) (p0 := none) h357 fz) fi rfl <| zz ?_
          subst hK355 gK355
          refine es <| xs <| rz ?_
          refine es ?_
          rcases iK k h with ⟨k, h⟩ | ⟨k, h⟩
          · refine xt <| xs <| rK fun K364 RK364 hK364 gK364 => zz ?_
            obtain ⟨r365, h366, h⟩ := bs h
            refine cw (a_ref39_one hI h366) <| zz ?_
            subst hK364 gK364
            refine es <| xr <| br <| er ?_
            cases h
            exact en ⟨rfl, wk []⟩
          · refine xf <| xk <| bn <| es <| rz ?_
            cases h
            exact en ⟨rfl, wk []⟩
      · refine xf <| xx <| ee ?_
        cases h
        exact en ⟨rfl, wk []⟩
    · rcases e16 with e16 | e16
      · try dsimp only at h ⊢
        refine br <| er ?_
        cases h
        exact en fr
      · try dsimp only at h ⊢
        refine bh <| es <| xs <| xs <| rz ?_
        refine es ?_
        rcases iK k h with ⟨k, h⟩ | ⟨k, h⟩
        · refine xt <| xs <| rD hI fun K379 RK379 hK379 gK379 => zz ?_
          obtain ⟨y380, q, h⟩ := bK q h
          refine zz ?_
          obtain ⟨y382, q, h⟩ := bK q h
          refine zz ?_
          obtain ⟨r384, h385, h⟩ := bs h
          refine cd (a_ref39_one hI h385) <| zz ?_
          refine hd <| zz ?_
          subst hK379 gK379
          refine es <| xr <| er ?_
          cases h
          exact en fr
        · refine xf <| xk <| es <| xs <| xs <| rK fun K389 RK389 hK389 gK389 => zz ?_
          obtain ⟨r390, h391, h⟩ := bs h
          refine cw (a_ref39_Check hI h391) <| zz ?_
          subst hK389 gK389
          refine es <| xs <| rz ?_
          refine es ?_
          rcases iK k h with ⟨k, h⟩ | ⟨k, h⟩
          · refine xt <| xs <| rK fun K400 RK400 hK400 gK400 => zz ?_
            obtain ⟨y401, q, h⟩ := bK q h
            refine zz ?_
            obtain ⟨r403, h404, h⟩ := bs h
            refine cw (a_ref39_one hI h404) <| zz ?_
            subst hK400 gK400
            refine es <| xr <| er ?_
            cases h
            exact en fr
          · refine xf <| xk <| es <| xs <| rz ?_
            refine es <| xr ?_
            cases h
            exact en fr
  · have q := And.intro (nslD_f (f := T_api_Diag.d) k.1) q
    have k := And.intro (nsl_len k.1) k
    refine zz ?_
    subst hK6 gK6
    refine es <| xs <| xs <| rz ?_
    refine es <| xt <| xs <| rz ?_
    refine es <| xr <| er ?_
    cases h
    exact en fr
def g_slices_Equal_api_Diag_api_Diag_s1 (s1_0 : List T_api_Diag) (s2_1 : List T_api_Diag) (x10 : Int) : Option (Nx (Int) (Unit ⊕ Unit)) :=
  (if (decide (x10 < (s1_0.length : Int))) then ((atI s1_0 x10).bind fun y74 => ((atI s2_1 x10).bind fun y76 => (if ((y74.Line == y76.Line) && ((y74.Column == y76.Column) && (y74.Code == y76.Code))) then (some (.go (IntKind.i64.wrap (x10 + 1)))) else (some (.out (.inl ())))))) else (some (.out (.inr ()))))
def g_slices_Equal_api_Diag_api_Diag (s1_0 : List T_api_Diag) (s2_1 : List T_api_Diag) : Option (Bool) :=
  (if ((s1_0.length : Int) != (s2_1.length : Int)) then (some false) else ((iter (g_slices_Equal_api_Diag_api_Diag_s1 s1_0 s2_1) 0).bind fun e11 => (match e11 with | Sum.inl e11 => (some false) | Sum.inr (e11) => (some true))))
theorem a_slices_Equal_api_Diag_api_Diag {I : World → Prop} (hI : Stab I) {s1_0 : List T_api_Diag} {s2_1 : List T_api_Diag} {r : Bool} (h : g_slices_Equal_api_Diag_api_Diag s1_0 s2_1 = some r) : AFun Tryz.prog I 17 [.sl (s1_0.map T_api_Diag.d), .sl (s2_1.map T_api_Diag.d)] (.bool r) := by
  have dd := dd_PE; have k := True.intro; have q := k; have rs := Tryz.results17
  unfold g_slices_Equal_api_Diag_api_Diag at h
  refine .en hI Tryz.func17 Tryz.ntmps17 ?_
  refine xs <| rz ?_
  refine es <| xs <| xs <| rz ?_
  refine es ?_
  rcases iK k h with ⟨k, h⟩ | ⟨k, h⟩
  · refine xt <| xs <| rz ?_
    refine es <| xr <| er ?_
    cases h
    exact en fr
  · refine xf <| xk <| es <| xs <| xs <| rz ?_
    refine es <| xb ?_
    obtain ⟨e11, h82, h⟩ := bs h
    refine rb_loop (fun x10 => ⟨envL [(0, .sl (s1_0.map T_api_Diag.d)), (1, .sl (s2_1.map T_api_Diag.d)), (12, .int .i64 (s1_0.length : Int)), (13, .int .i64 x10)], heapL [], 0, 26⟩) (fun w => match w with | Sum.inl _ => .ret | Sum.inr (_) => .exit 0) (fun w => match w with | Sum.inl e11 => ⟨envL [(4, .bool false)], heapL [], 0, 26⟩ | Sum.inr (e11) => ⟨envL [], heapL [], 0, 26⟩) h82 (wk []) (by intro w; rcases w with w | w <;> simp) ?_ ?_
    · clear h
      intro x10 y h
      unfold g_slices_Equal_api_Diag_api_Diag_s1 at h
      refine xs <| rz ?_
      refine es <| xs ?_
      rcases iK k h with ⟨k, h⟩ | ⟨k, h⟩
      · refine xt <| xk <| es <| xs <| xb <| xs <| rz ?_
        refine es <| xs <| rD hI fun K73 RK73 hK73 gK73 => zz ?_
        obtain ⟨y74, q, h⟩ := bK q h
        refine zz ?_
        obtain ⟨y76, q, h⟩ := bK q h
        refine zz ?_
        subst hK73 gK73
        refine es ?_
        rcases iK k h with ⟨k, h⟩ | ⟨k, h⟩
        · refine xf <| xk <| bn <| es <| rz ?_
          cases h
          exact en ⟨rfl, wk []⟩
        · refine xt <| xs <| rz ?_
          refine es <| xr <| br <| er ?_
          cases h
          exact en ⟨rfl, wk []⟩
      · refine xf <| xx <| ee ?_
        cases h
        exact en ⟨rfl, wk []⟩
    · rcases e11 with e11 | e11
      · try dsimp only at h ⊢
        refine br <| er ?_
        cases h
        exact en fr
      · try dsimp only at h ⊢
        refine bh <| es <| xs <| rz ?_
        refine es <| xr ?_
        cases h
        exact en fr
def g_law39_awake  : Option (Bool) :=
  ((g_profile_Standard 3).bind fun r7 => ((g_profile_Text r7.1).bind fun r13 => ((g_profile_Parse [80, 82, 79, 70, 73, 76, 69, 32, 88, 10, 10, 82, 69, 65, 68, 73, 78, 71, 32, 48, 10, 70, 82, 65, 77, 69, 83, 32, 49, 10]).bind fun r19 => (if (r7.2 == 0) then (if (r13.2 == 0) then (if (r13.1 == ([80, 82, 79, 70, 73, 76, 69, 32, 83, 84, 65, 78, 68, 65, 82, 68, 10, 82, 69, 65, 68, 73, 78, 71, 32, 49, 55, 48, 48, 10, 70, 82, 65, 77, 69, 83, 32, 50, 48, 32, 49, 55, 53, 10, 71, 65, 80, 32, 50, 10, 83, 72, 79, 84, 83, 32, 49, 50, 32, 49, 50, 10, 83, 73, 90, 69, 32, 50, 32, 51, 50, 10, 83, 65, 70, 69, 32, 49, 32, 48, 32, 48, 32, 48, 10, 70, 79, 82, 66, 73, 68, 68, 69, 78, 32, 34, 34, 10] : List UInt8)) then (if (r7.1.MinFrames == 20) then ((g_slices_Equal_api_Diag_api_Diag r19.2 [(T_api_Diag.mk 4 0 4)]).bind fun r33 => (some r33)) else (some false)) else (some false)) else (some false)) else (some false)))))
theorem a_law39_awake {I : World → Prop} (hI : Stab I) (hPIv : ∀ w, I w → PIv w) (hShp : ∀ w, I w → Shp w) (hTab : ∀ w, I w → Tab w) (hU8T : ∀ w, I w → U8T w)  {r : Bool} (h : g_law39_awake  = some r) : AFun Tryz.prog I 7 [] (.bool r) := by
  have dd := dd_PE; have k := True.intro; have q := k; have rs := Tryz.results7
  unfold g_law39_awake at h
  refine .en hI Tryz.func7 Tryz.ntmps7 ?_
  refine xs <| rz ?_
  refine es <| xs <| rK fun K6 RK6 hK6 gK6 => zz ?_
  obtain ⟨r7, h8, h⟩ := bs h
  refine cw (a_profile_Standard hI h8) <| zz ?_
  subst hK6 gK6
  refine es <| xs <| rK fun K12 RK12 hK12 gK12 => zz ?_
  obtain ⟨r13, h14, h⟩ := bs h
  refine cw (a_profile_Text hI hTab hU8T h14) <| zz ?_
  subst hK12 gK12
  refine es <| xs <| rK fun K18 RK18 hK18 gK18 => zz ?_
  obtain ⟨r19, h20, h⟩ := bs h
  refine cw (a_profile_Parse hI hPIv hShp hU8T h20) <| zz ?_
  subst hK18 gK18
  refine es <| xs <| rK fun K28 RK28 hK28 gK28 => zz ?_
  rcases iK k h with ⟨k, h⟩ | ⟨k, h⟩
  · refine zz ?_
    rcases iK k h with ⟨k, h⟩ | ⟨k, h⟩
    · refine zz ?_
      rcases iK k h with ⟨k, h⟩ | ⟨k, h⟩
      · refine zz ?_
        rcases iK k h with ⟨k, h⟩ | ⟨k, h⟩
        · refine zz ?_
          obtain ⟨r33, h34, h⟩ := bs h
          refine cw (a_slices_Equal_api_Diag_api_Diag hI h34) <| zz ?_
          subst hK28 gK28
          refine es <| xr ?_
          cases h
          exact en fr
        · refine zz ?_
          subst hK28 gK28
          refine es <| xr ?_
          cases h
          exact en fr
      · refine zz ?_
        subst hK28 gK28
        refine es <| xr ?_
        cases h
        exact en fr
    · refine zz ?_
      subst hK28 gK28
      refine es <| xr ?_
      cases h
      exact en fr
  · refine zz ?_
    subst hK28 gK28
    refine es <| xr ?_
    cases h
    exact en fr
def g_law39_small (p_0 : T_api_Profile) : Option (T_api_Profile) :=
  ((subH p_0.Name (if 40 < (p_0.Name.length : Int) then 40 else (p_0.Name.length : Int))).bind fun z15 => ((subH p_0.Forbidden (if 40 < (p_0.Forbidden.length : Int) then 40 else (p_0.Forbidden.length : Int))).bind fun z20 => (some (T_api_Profile.mk z15 p_0.Reading p_0.MinFrames p_0.MaxFrames p_0.MinGap p_0.ShotBefore p_0.ShotAfter p_0.Rows p_0.Cols z20 p_0.SafeTop p_0.SafeBottom p_0.SafeLeft p_0.SafeRight))))
theorem a_law39_small {I : World → Prop} (hI : Stab I) {p_0 : T_api_Profile} {r : T_api_Profile} (h : g_law39_small p_0 = some r) : AFun Tryz.prog I 8 [T_api_Profile.d p_0] (T_api_Profile.d r) := by
  have dd := dd_PE; have k := True.intro; have q := k; have rs := Tryz.results8
  unfold g_law39_small at h
  refine .en hI Tryz.func8 Tryz.ntmps8 ?_
  refine xs <| rz ?_
  refine es <| xs <| rP hI fun K14 hK14 => rgP_cons <| zq ?_
  refine sP.light rfl fd <| rgP_cons <| zq ?_
  refine sP.foot (.cell 0 0 1) (fun _ => FootOK.ld rfl rfl rfl (by kernel_rfl) (by decide)) fd (by first | exact .inl (by first | rfl | decide) | exact .inr (by kernel_rfl)) <| rgP_cons <| zq ?_
  refine sP.light rfl fd <| rgP_cons <| zq ?_
  refine sP.foot (.cell 0 0 1) (fun _ => FootOK.ld rfl rfl rfl (by kernel_rfl) (by decide)) fd (by first | exact .inl (by first | rfl | decide) | exact .inr (by kernel_rfl)) <| rgP_cons <| zq ?_
  refine sP.light rfl fd <| rgP_cons <| zq ?_
  refine sP.light rfl fd <| rgP_cons <| zq ?_
  obtain ⟨z15, h16, h⟩ := bind_some h
  obtain ⟨⟨h17, h18⟩, h19⟩ := subH_some h16
  have q := And.intro @h17 <| And.intro @h18 <| q
  try simp -implicitDefEqProofs only [vt, vm, sevalprocAttr, dd, k, q] at h19
  have q := And.intro @h19 <| q
  refine zq ?_
  refine sP.foot (.ids []) (fun hN => FootOK.idsB [] (by rfl) rfl hN) fd (by first | exact .inl (by first | rfl | decide) | exact .inr (by kernel_rfl)) <| rgP_cons <| zq ?_
  refine sP.light rfl fd <| rgP_cons <| zq ?_
  refine sP.foot (.cell 0 9 1) (fun _ => FootOK.ld rfl rfl rfl (by kernel_rfl) (by decide)) fd (by first | exact .inl (by first | rfl | decide) | exact .inr (by kernel_rfl)) <| rgP_cons <| zq ?_
  refine sP.light rfl fd <| rgP_cons <| zq ?_
  refine sP.foot (.cell 0 9 1) (fun _ => FootOK.ld rfl rfl rfl (by kernel_rfl) (by decide)) fd (by first | exact .inl (by first | rfl | decide) | exact .inr (by kernel_rfl)) <| rgP_cons <| zq ?_
  refine sP.light rfl fd <| rgP_cons <| zq ?_
  refine sP.light rfl fd <| rgP_cons <| zq ?_
  obtain ⟨z20, h21, h⟩ := bind_some h
  obtain ⟨⟨h22, h23⟩, h24⟩ := subH_some h21
  have q := And.intro @h22 <| And.intro @h23 <| q
  try simp -implicitDefEqProofs only [vt, vm, sevalprocAttr, dd, k, q] at h24
  have q := And.intro @h24 <| q
  refine zq ?_
  refine sP.foot (.ids []) (fun hN => FootOK.idsB [] (by rfl) rfl hN) fd (by first | exact .inl (by first | rfl | decide) | exact .inr (by kernel_rfl)) <| rgP_cons <| zq ?_
  refine sP.light rfl fd <| rgP_cons <| zq ?_
  refine sP.pat 0 0 1 rfl rfl rfl <| rgP_cons <| zq ?_
  refine sP.light rfl fd <| rgP_cons <| zq ?_
  refine sP.pat 0 9 1 rfl rfl rfl <| zq ?_
  refine rgP_nil fk ?_
  subst hK14
  refine es <| xs <| rz ?_
  refine es <| xr ?_
  cases h
  exact en fr
def g_law39_ProfileChecks (p_0 : T_api_Profile) (rate_1 : Int) : Option (Bool) :=
  ((g_law39_awake).bind fun r7 => (if r7 then ((g_law39_small p_0).bind fun r14 => ((g_profile_Standard rate_1).bind fun r20 => ((g_ref39_Standard rate_1).bind fun r26 => ((g_profile_Check r14).bind fun r40 => ((g_ref39_Check r14).bind fun r42 => (if (r40 == r42) then (if ((r20.1.Name == r26.1.Name) && ((r20.1.Reading == r26.1.Reading) && ((r20.1.MinFrames == r26.1.MinFrames) && ((r20.1.MaxFrames == r26.1.MaxFrames) && ((r20.1.MinGap == r26.1.MinGap) && ((r20.1.ShotBefore == r26.1.ShotBefore) && ((r20.1.ShotAfter == r26.1.ShotAfter) && ((r20.1.Rows == r26.1.Rows) && ((r20.1.Cols == r26.1.Cols) && ((r20.1.Forbidden == r26.1.Forbidden) && ((r20.1.SafeTop == r26.1.SafeTop) && ((r20.1.SafeBottom == r26.1.SafeBottom) && ((r20.1.SafeLeft == r26.1.SafeLeft) && (r20.1.SafeRight == r26.1.SafeRight)))))))))))))) then (if (r20.2 == r26.2) then (if (r20.2 != 0) then (some true) else ((g_profile_Check r20.1).bind fun r48 => (some (r48 == 0)))) else (some false)) else (some false)) else (some false))))))) else (some false)))
theorem a_law39_ProfileChecks {I : World → Prop} (hI : Stab I) (hPIv : ∀ w, I w → PIv w) (hShp : ∀ w, I w → Shp w) (hTab : ∀ w, I w → Tab w) (hU8T : ∀ w, I w → U8T w) {p_0 : T_api_Profile} {rate_1 : Int} {r : Bool} (h : g_law39_ProfileChecks p_0 rate_1 = some r) : AFun Tryz.prog I 3 [T_api_Profile.d p_0, .int .u8 rate_1] (.bool r) := by
  have dd := dd_PE; have k := True.intro; have q := k; have rs := Tryz.results3
  unfold g_law39_ProfileChecks at h
  refine .en hI Tryz.func3 Tryz.ntmps3 ?_
  refine xs <| rz ?_
  refine es <| xs <| xs <| rK fun K6 RK6 hK6 gK6 => zz ?_
  obtain ⟨r7, h8, h⟩ := bs h
  refine cw (a_law39_awake hI hPIv hShp hTab hU8T h8) <| zz ?_
  subst hK6 gK6
  refine es ?_
  rcases iK k h with ⟨k, h⟩ | ⟨k, h⟩
  · refine xf <| xk <| es <| xs <| rK fun K13 RK13 hK13 gK13 => zz ?_
    obtain ⟨r14, h15, h⟩ := bs h
    refine cw (a_law39_small hI h15) <| zz ?_
    subst hK13 gK13
    refine es <| xs <| rK fun K19 RK19 hK19 gK19 => zz ?_
    obtain ⟨r20, h21, h⟩ := bs h
    refine cw (a_profile_Standard hI h21) <| zz ?_
    subst hK19 gK19
    refine es <| xs <| rK fun K25 RK25 hK25 gK25 => zz ?_
    obtain ⟨r26, h27, h⟩ := bs h
    refine cw (a_ref39_Standard hI h27) <| zz ?_
    subst hK25 gK25
    refine es <| xs <| rD hI fun K39 RK39 hK39 gK39 => zz ?_
    obtain ⟨r40, h41, h⟩ := bs h
    refine cd (a_profile_Check hI hU8T h41) <| zz ?_
    obtain ⟨r42, h43, h⟩ := bs h
    refine cd (a_ref39_Check hI h43) <| zz ?_
    rcases iK k h with ⟨k, h⟩ | ⟨k, h⟩
    · refine zz ?_
      rcases iK k h with ⟨k, h⟩ | ⟨k, h⟩
      · refine zz ?_
        rcases iK k h with ⟨k, h⟩ | ⟨k, h⟩
        · refine zz ?_
          rcases iK k h with ⟨k, h⟩ | ⟨k, h⟩
          · refine zz ?_
            subst hK39 gK39
            refine es <| xr ?_
            cases h
            exact en fr
          · refine zz ?_
            obtain ⟨r48, h49, h⟩ := bs h
            refine cd (a_profile_Check hI hU8T h49) <| zz ?_
            subst hK39 gK39
            refine es <| xr ?_
            cases h
            exact en fr
        · refine zz ?_
          subst hK39 gK39
          refine es <| xr ?_
          cases h
          exact en fr
      · refine zz ?_
        subst hK39 gK39
        refine es <| xr ?_
        cases h
        exact en fr
    · refine zz ?_
      subst hK39 gK39
      refine es <| xr ?_
      cases h
      exact en fr
  · refine xt <| xs <| rz ?_
    refine es <| xr <| er ?_
    cases h
    exact en fr
def g_law39_ProfileTexts (p_0 : T_api_Profile) : Option (Bool) :=
  ((g_law39_awake).bind fun r7 => (if r7 then ((g_law39_small p_0).bind fun r14 => ((g_profile_Text r14).bind fun r20 => ((g_ref39_Text r14).bind fun r26 => (((if (r20.1 == r26.1) then (some (r20.2 != r26.2)) else (some true)) : Option (Bool)).bind fun v30 => (if v30 then (some false) else (if (r20.2 != 0) then (some (r20.1 == ([] : List UInt8))) else ((g_profile_Parse r20.1).bind fun r46 => (if ((r46.2.length : Int) == 0) then (some ((r46.1.Name == r14.Name) && ((r46.1.Reading == r14.Reading) && ((r46.1.MinFrames == r14.MinFrames) && ((r46.1.MaxFrames == r14.MaxFrames) && ((r46.1.MinGap == r14.MinGap) && ((r46.1.ShotBefore == r14.ShotBefore) && ((r46.1.ShotAfter == r14.ShotAfter) && ((r46.1.Rows == r14.Rows) && ((r46.1.Cols == r14.Cols) && ((r46.1.Forbidden == r14.Forbidden) && ((r46.1.SafeTop == r14.SafeTop) && ((r46.1.SafeBottom == r14.SafeBottom) && ((r46.1.SafeLeft == r14.SafeLeft) && (r46.1.SafeRight == r14.SafeRight))))))))))))))) else (some false))))))))) else (some false)))
theorem a_law39_ProfileTexts {I : World → Prop} (hI : Stab I) (hPIv : ∀ w, I w → PIv w) (hShp : ∀ w, I w → Shp w) (hTab : ∀ w, I w → Tab w) (hU8T : ∀ w, I w → U8T w) {p_0 : T_api_Profile} {r : Bool} (h : g_law39_ProfileTexts p_0 = some r) : AFun Tryz.prog I 4 [T_api_Profile.d p_0] (.bool r) := by
  have dd := dd_PE; have k := True.intro; have q := k; have rs := Tryz.results4
  unfold g_law39_ProfileTexts at h
  refine .en hI Tryz.func4 Tryz.ntmps4 ?_
  refine xs <| rz ?_
  refine es <| xs <| xs <| rK fun K6 RK6 hK6 gK6 => zz ?_
  obtain ⟨r7, h8, h⟩ := bs h
  refine cw (a_law39_awake hI hPIv hShp hTab hU8T h8) <| zz ?_
  subst hK6 gK6
  refine es ?_
  rcases iK k h with ⟨k, h⟩ | ⟨k, h⟩
  · refine xf <| xk <| es <| xs <| rK fun K13 RK13 hK13 gK13 => zz ?_
    obtain ⟨r14, h15, h⟩ := bs h
    refine cw (a_law39_small hI h15) <| zz ?_
    subst hK13 gK13
    refine es <| xs <| rK fun K19 RK19 hK19 gK19 => zz ?_
    obtain ⟨r20, h21, h⟩ := bs h
    refine cw (a_profile_Text hI hTab hU8T h21) <| zz ?_
    subst hK19 gK19
    refine es <| xs <| rK fun K25 RK25 hK25 gK25 => zz ?_
    obtain ⟨r26, h27, h⟩ := bs h
    refine cw (a_ref39_Text hI h27) <| zz ?_
    subst hK25 gK25
    refine es <| xs ?_
    obtain ⟨v30, h33, h⟩ := bs h
    refine rb_cut (fun v30 => ⟨envL [(1, .ptr 0 0), (3, .str r20.1), (4, .int .i64 r20.2), (30, .bool v30)], heapL [(0, .box none [.str r14.Name, .int .i64 r14.Reading, .int .i64 r14.MinFrames, .int .i64 r14.MaxFrames, .int .i64 r14.MinGap, .int .i64 r14.ShotBefore, .int .i64 r14.ShotAfter, .int .i64 r14.Rows, .int .i64 r14.Cols, .str r14.Forbidden, .int .i64 r14.SafeTop, .int .i64 r14.SafeBottom, .int .i64 r14.SafeLeft, .int .i64 r14.SafeRight])], 1, 48⟩) h33 ?_ ?_
    · clear h
      intro v30 h
      refine rK fun K31 RK31 hK31 gK31 => zz ?_
      rcases iK k h with ⟨k, h⟩ | ⟨k, h⟩
      · refine zz ?_
        subst hK31 gK31
        cases h
        exact en ⟨rfl, wk []⟩
      · refine zz ?_
        subst hK31 gK31
        cases h
        exact en ⟨rfl, wk []⟩
    · rcases iK k h with ⟨k, h⟩ | ⟨k, h⟩
      · refine xt <| xs <| rz ?_
        refine es <| xr <| er ?_
        cases h
        exact en fr
      · refine xf <| xk <| es <| xs <| xs <| rz ?_
        refine es ?_
        rcases iK k h with ⟨k, h⟩ | ⟨k, h⟩
        · refine xt <| xs <| rz ?_
          refine es <| xr <| er ?_
          cases h
          exact en fr
        · refine xf <| xk <| es <| xs <| rK fun K45 RK45 hK45 gK45 => zz ?_
          obtain ⟨r46, h47, h⟩ := bs h
          refine cw (a_profile_Parse hI hPIv hShp hU8T h47) <| zz ?_
          subst hK45 gK45
          refine es <| xs <| rK fun K50 RK50 hK50 gK50 => zz ?_
          rcases iK k h with ⟨k, h⟩ | ⟨k, h⟩
          · refine zz ?_
            subst hK50 gK50
            refine es <| xr ?_
            cases h
            exact en fr
          · refine zz ?_
            subst hK50 gK50
            refine es <| xr ?_
            cases h
            exact en fr
  · refine xt <| xs <| rz ?_
    refine es <| xr <| er ?_
    cases h
    exact en fr
def g_law39_ProfileParses (src_0 : List UInt8) : Option (Bool) :=
  ((g_law39_awake).bind fun r7 => (if r7 then ((subH src_0 (if 500 < (src_0.length : Int) then 500 else (src_0.length : Int))).bind fun z17 => ((g_profile_Parse z17).bind fun r26 => ((g_ref39_Parse z17).bind fun r32 => (if ((r26.1.Name == r32.1.Name) && ((r26.1.Reading == r32.1.Reading) && ((r26.1.MinFrames == r32.1.MinFrames) && ((r26.1.MaxFrames == r32.1.MaxFrames) && ((r26.1.MinGap == r32.1.MinGap) && ((r26.1.ShotBefore == r32.1.ShotBefore) && ((r26.1.ShotAfter == r32.1.ShotAfter) && ((r26.1.Rows == r32.1.Rows) && ((r26.1.Cols == r32.1.Cols) && ((r26.1.Forbidden == r32.1.Forbidden) && ((r26.1.SafeTop == r32.1.SafeTop) && ((r26.1.SafeBottom == r32.1.SafeBottom) && ((r26.1.SafeLeft == r32.1.SafeLeft) && (r26.1.SafeRight == r32.1.SafeRight)))))))))))))) then ((g_slices_Equal_api_Diag_api_Diag r26.2 r32.2).bind fun r40 => (some r40)) else (some false))))) else (some false)))
theorem a_law39_ProfileParses {I : World → Prop} (hI : Stab I) (hPIv : ∀ w, I w → PIv w) (hShp : ∀ w, I w → Shp w) (hTab : ∀ w, I w → Tab w) (hU8T : ∀ w, I w → U8T w) {src_0 : List UInt8} {r : Bool} (h : g_law39_ProfileParses src_0 = some r) : AFun Tryz.prog I 5 [.str src_0] (.bool r) := by
  have dd := dd_PE; have k := True.intro; have q := k; have rs := Tryz.results5
  unfold g_law39_ProfileParses at h
  refine .en hI Tryz.func5 Tryz.ntmps5 ?_
  refine xs <| rz ?_
  refine es <| xs <| xs <| rK fun K6 RK6 hK6 gK6 => zz ?_
  obtain ⟨r7, h8, h⟩ := bs h
  refine cw (a_law39_awake hI hPIv hShp hTab hU8T h8) <| zz ?_
  subst hK6 gK6
  refine es ?_
  rcases iK k h with ⟨k, h⟩ | ⟨k, h⟩
  · refine xf <| xk <| es <| xs <| rK fun K16 RK16 hK16 gK16 => zz ?_
    obtain ⟨z17, h18, h⟩ := bind_some h
    obtain ⟨⟨h19, h20⟩, h21⟩ := subH_some h18
    have q := And.intro @h19 <| And.intro @h20 <| q
    try simp -implicitDefEqProofs only [vt, vm, sevalprocAttr, dd, k, q] at h21
    have q := And.intro @h21 <| q
    refine zz ?_
    subst hK16 gK16
    refine es <| xs <| rK fun K25 RK25 hK25 gK25 => zz ?_
    obtain ⟨r26, h27, h⟩ := bs h
    refine cw (a_profile_Parse hI hPIv hShp hU8T h27) <| zz ?_
    subst hK25 gK25
    refine es <| xs <| rK fun K31 RK31 hK31 gK31 => zz ?_
    obtain ⟨r32, h33, h⟩ := bs h
    refine cw (a_ref39_Parse hI h33) <| zz ?_
    subst hK31 gK31
    refine es <| xs <| rK fun K38 RK38 hK38 gK38 => zz ?_
    rcases iK k h with ⟨k, h⟩ | ⟨k, h⟩
    · refine zz ?_
      obtain ⟨r40, h41, h⟩ := bs h
      refine cw (a_slices_Equal_api_Diag_api_Diag hI h41) <| zz ?_
      subst hK38 gK38
      refine es <| xr ?_
      cases h
      exact en fr
    · refine zz ?_
      subst hK38 gK38
      refine es <| xr ?_
      cases h
      exact en fr
  · refine xt <| xs <| rz ?_
    refine es <| xr <| er ?_
    cases h
    exact en fr
end Go.Proofs.YtedhognhhcihpaaGreatDoor
