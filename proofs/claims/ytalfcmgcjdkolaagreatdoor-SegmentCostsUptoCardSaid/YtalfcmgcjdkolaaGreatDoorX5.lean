/- Texts of one proof, put together (EE, EG, EF, EH, S1, S2, S3, S5, S4, S6). No condition but those that each theorem states. -/
import Derived.Test.YtalfcmgcjdkolaaGreatDoorX4
import Derived.Lib.ValidLaws
import Derived.Lib.SlTrimSet
import Derived.Lib.Bytealg
set_option linter.unusedSimpArgs false
set_option linter.unusedVariables false
namespace Go.Proofs.YtalfcmgcjdkolaaGreatDoor
open Go.RowKit
set_option maxRecDepth 100000
set_option maxHeartbeats 10000000
theorem dd_EE : (∀ x, A_Span.d x = .agg [.int .i64 x.In, .int .i64 x.Out]) := fun _ => rfl
def g_ref02_Valid (r_0 : Int) : Option (Bool) :=
 (if (decide (1 ≤ r_0)) then (some (decide (r_0 ≤ 7))) else (some false))
theorem a_ref02_Valid {I : World → Prop} (hI : Stab I) {r_0 : Int} {r : Bool} (h : g_ref02_Valid r_0 = some r) : AFun Tryz.prog I 43 [.int .u8 r_0] (.bool r) := by
 have dd := And.intro dd_EE <| And.intro dd_EB <| And.intro dd_EA <| And.intro dd_EC dd_ED; have k := True.intro; have q := k; have rs := Tryz.results43
 unfold g_ref02_Valid at h
 refine .en hI Tryz.func43 Tryz.ntmps43 ?_
 refine xs <| rz ?_
 refine es <| xs <| rK fun K5 RK5 hK5 gK5 => zz ?_
 obtain ⟨k,h⟩|⟨k,h⟩:=iK k h
 ·refine zz ?_
  subst hK5 gK5
  refine es <| xr ?_
  cases h
  exact en fr
 ·refine zz ?_
  subst hK5 gK5
  refine es <| xr ?_
  cases h
  exact en fr
def g_ref08_Repertoire  : Option ((List UInt8)) :=
 (some [32, 33, 34, 35, 36, 37, 38, 39, 40, 41, 42, 43, 44, 45, 46, 47, 48, 49, 50, 51, 52, 53, 54, 55, 56, 57, 58, 59, 60, 61, 62, 63, 64, 65, 66, 67, 68, 69, 70, 71, 72, 73, 74, 75, 76, 77, 78, 79, 80, 81, 82, 83, 84, 85, 86, 87, 88, 89, 90, 91, 92, 93, 94, 95, 96, 97, 98, 99, 100, 101, 102, 103, 104, 105, 106, 107, 108, 109, 110, 111, 112, 113, 114, 115, 116, 117, 118, 119, 120, 121, 122, 123, 124, 125, 126, 194, 161, 194, 162, 194, 163, 194, 164, 194, 165, 194, 166, 194, 167, 194, 169, 194, 171, 194, 174, 194, 176, 194, 183, 194, 187, 194, 189, 194, 191, 195, 128, 195, 129, 195, 130, 195, 131, 195, 132, 195, 133, 195, 134, 195, 135, 195, 136, 195, 137, 195, 138, 195, 139, 195, 140, 195, 141, 195, 142, 195, 143, 195, 145, 195, 146, 195, 147, 195, 148, 195, 149, 195, 150, 195, 152, 195, 153, 195, 154, 195, 155, 195, 156, 195, 159, 195, 160, 195, 161, 195, 162, 195, 163, 195, 164, 195, 165, 195, 166, 195, 167, 195, 168, 195, 169, 195, 170, 195, 171, 195, 172, 195, 173, 195, 174, 195, 175, 195, 177, 195, 178, 195, 179, 195, 180, 195, 181, 195, 182, 195, 184, 195, 185, 195, 186, 195, 187, 195, 188, 197, 146, 197, 147, 226, 128, 148, 226, 128, 152, 226, 128, 153, 226, 128, 156, 226, 128, 157, 226, 128, 162, 226, 128, 166, 226, 132, 162, 226, 153, 170])
theorem a_ref08_Repertoire {I : World → Prop} (hI : Stab I)  {r : (List UInt8)} (h : g_ref08_Repertoire  = some r) : AFun Tryz.prog I 159 [] (.str r) := by
 have dd := And.intro dd_EE <| And.intro dd_EB <| And.intro dd_EA <| And.intro dd_EC dd_ED; have k := True.intro; have q := k; have rs := Tryz.results159
 unfold g_ref08_Repertoire at h
 refine .en hI Tryz.func159 Tryz.ntmps159 ?_
 refine xs <| rz ?_
 refine es <| xs <| rz ?_
 refine es <| xr ?_
 cases h
 exact en fr
def g_ref08_Index_s1 (r_0 : Int) (r18 : (List UInt8)) (x20 : Int × Nat) : Option (Nx (Int × Nat) (Int ⊕ Unit)) :=
 (if (decide (x20.2 < r18.length)) then (if ((runeAt r18 x20.2) == r_0) then (some (.out (.inl x20.1))) else (some (.go ((IntKind.i64.wrap (x20.1 + 1)), (x20.2 + widthAt r18 x20.2))))) else (some (.out (.inr ()))))
def g_ref08_Index (r_0 : Int) : Option (Int) :=
 (((if (decide (32 ≤ r_0)) then (some (decide (r_0 ≤ 126))) else (some false)) : Option (Bool)).bind fun v5 => (if v5 then (some (IntKind.i64.wrap (IntKind.i32.wrap (r_0 - 32)))) else ((g_ref08_Repertoire).bind fun r18 => ((iter (g_ref08_Index_s1 r_0 r18) (0, 0)).bind fun e21 => (match e21 with | Sum.inl e21 => (some e21) | Sum.inr (e21) => (some (-1)))))))
theorem a_ref08_Index {I : World → Prop} (hI : Stab I) {r_0 : Int} {r : Int} (h : g_ref08_Index r_0 = some r) : AFun Tryz.prog I 128 [.int .i32 r_0] (.int .i64 r) := by
 have dd := And.intro dd_EE <| And.intro dd_EB <| And.intro dd_EA <| And.intro dd_EC dd_ED; have k := True.intro; have q := k; have rs := Tryz.results128
 unfold g_ref08_Index at h
 refine .en hI Tryz.func128 Tryz.ntmps128 ?_
 refine xs <| rz ?_
 refine es <| xs ?_
 obtain ⟨v5, h8, h⟩ := bs h
 refine rb_cut (fun v5 => ⟨envL [(0, .int .i32 r_0), (11, .bool v5)], heapL [], 0, 26⟩) h8 ?_ ?_
 ·clear h
  intro v5 h
  refine rK fun K6 RK6 hK6 gK6 => zz ?_
  obtain ⟨k,h⟩|⟨k,h⟩:=iK k h
  ·refine zz ?_
   subst hK6 gK6
   cases h
   exact en ⟨rfl, wk []⟩
  ·refine zz ?_
   subst hK6 gK6
   cases h
   exact en ⟨rfl, wk []⟩
 ·obtain ⟨k,h⟩|⟨k,h⟩:=iK k h
  ·refine xt <| xs <| rz ?_
   refine es <| xr <| er ?_
   cases h
   exact en fr
  ·refine xf <| xk <| es <| xs <| rz ?_
   refine es <| xs <| xs <| rK fun K17 RK17 hK17 gK17 => zz ?_
   obtain ⟨r18, h19, h⟩ := bs h
   refine cw (a_ref08_Repertoire hI h19) <| zz ?_
   subst hK17 gK17
   refine es <| xb ?_
   obtain ⟨e21, h46, h⟩ := bs h
   refine rb_loop (fun x20 => ⟨envL [(0, .int .i32 r_0), (3, .int .i64 x20.1), (16, .ptr 0 0)], heapL [(0, .iter r18 x20.2)], 1, 26⟩) (fun w => match w with | Sum.inl _ => .ret | Sum.inr (_) => .exit 0) (fun w => match w with | Sum.inl e21 => ⟨envL [(2, .int .i64 e21)], heapL [], 0, 26⟩ | Sum.inr (e21) => ⟨envL [], heapL [], 0, 26⟩) h46 (wk [(0, some 2)]) (by intro w; rcases w with w | w <;> simp) ?_ ?_
   ·clear h
    intro x20 y h
    unfold g_ref08_Index_s1 at h
    refine xs <| rK fun K36 RK36 hK36 gK36 => zz ?_
    obtain ⟨k,h⟩|⟨k,h⟩:=iK k h
    ·have k := And.intro (of_decide_eq_true k.1) k.2
     refine zz ?_
     subst hK36 gK36
     refine es <| xs <| xt <| xk <| es <| xb <| xs <| rz ?_
     refine es <| xs <| xs <| rz ?_
     refine es ?_
     obtain ⟨k,h⟩|⟨k,h⟩:=iK k h
     ·refine xt <| xs <| rz ?_
      refine es <| xr <| er <| br ?_
      cases h
      exact en ⟨rfl, wk []⟩
     ·refine xf <| xk <| es <| rz ?_
      refine bn ?_
      cases h
      exact en ⟨rfl, wk []⟩
    ·have k := And.intro (of_decide_eq_false k.1) k.2
     refine zz ?_
     subst hK36 gK36
     refine es <| xs <| xf <| xx <| ee ?_
     cases h
     exact en ⟨rfl, wk []⟩
   ·rcases e21 with e21 | e21
    ·try dsimp only at h ⊢
     refine br <| er ?_
     cases h
     exact en fr
    ·try dsimp only at h ⊢
     refine bh <| es <| xs <| rz ?_
     refine es <| xr ?_
     cases h
     exact en fr
def g_ref08_Valid_s1 (s_0 : List UInt8) (x5 : Nat) : Option (Nx (Nat) (Unit ⊕ Unit)) :=
 (if (decide (x5 < s_0.length)) then ((g_ref08_Index (runeAt s_0 x5)).bind fun r32 => (if (decide (r32 < 0)) then (some (.out (.inl ()))) else (some (.go (x5 + widthAt s_0 x5))))) else (some (.out (.inr ()))))
def g_ref08_Valid (s_0 : List UInt8) : Option (Bool) :=
 ((iter (g_ref08_Valid_s1 s_0) 0).bind fun e6 => (match e6 with | Sum.inl e6 => (some false) | Sum.inr (e6) => (some true)))
theorem a_ref08_Valid {I : World → Prop} (hI : Stab I) {s_0 : List UInt8} {r : Bool} (h : g_ref08_Valid s_0 = some r) : AFun Tryz.prog I 75 [.str s_0] (.bool r) := by
 have dd := And.intro dd_EE <| And.intro dd_EB <| And.intro dd_EA <| And.intro dd_EC dd_ED; have k := True.intro; have q := k; have rs := Tryz.results75
 unfold g_ref08_Valid at h
 refine .en hI Tryz.func75 Tryz.ntmps75 ?_
 refine xs <| rz ?_
 refine es <| xs <| xs <| rz ?_
 refine es <| xb ?_
 obtain ⟨e6, h37, h⟩ := bs h
 refine rb_loop (fun x5 => ⟨envL [(6, .ptr 0 0)], heapL [(0, .iter s_0 x5)], 1, 13⟩) (fun w => match w with | Sum.inl _ => .ret | Sum.inr (_) => .exit 0) (fun w => match w with | Sum.inl e6 => ⟨envL [(2, .bool false)], heapL [], 0, 13⟩ | Sum.inr (e6) => ⟨envL [], heapL [], 0, 13⟩) h37 (wk [(0, some 2)]) (by intro w; rcases w with w | w <;> simp) ?_ ?_
 ·clear h
  intro x5 y h
  unfold g_ref08_Valid_s1 at h
  refine xs <| rK fun K24 RK24 hK24 gK24 => zz ?_
  obtain ⟨k,h⟩|⟨k,h⟩:=iK k h
  ·have k := And.intro (of_decide_eq_true k.1) k.2
   refine zz ?_
   subst hK24 gK24
   refine es <| xs <| xt <| xk <| es <| xb <| xs <| rz ?_
   refine es <| xs <| rK fun K31 RK31 hK31 gK31 => zz ?_
   obtain ⟨r32, h33, h⟩ := bs h
   refine cw (a_ref08_Index hI h33) <| zz ?_
   subst hK31 gK31
   refine es ?_
   obtain ⟨k,h⟩|⟨k,h⟩:=iK k h
   ·refine xt <| xs <| rz ?_
    refine es <| xr <| br ?_
    cases h
    exact en ⟨rfl, wk []⟩
   ·refine xf <| xk <| bn ?_
    cases h
    exact en ⟨rfl, wk []⟩
  ·have k := And.intro (of_decide_eq_false k.1) k.2
   refine zz ?_
   subst hK24 gK24
   refine es <| xs <| xf <| xx <| ee ?_
   cases h
   exact en ⟨rfl, wk []⟩
 ·rcases e6 with e6 | e6
  ·try dsimp only at h ⊢
   refine br <| er ?_
   cases h
   exact en fr
  ·try dsimp only at h ⊢
   refine bh <| es <| xs <| rz ?_
   refine es <| xr ?_
   cases h
   exact en fr
def g_ref38_word_s1 (w_0 : A_Word) (x10 : Int) : Option (Nx (Int) (Unit ⊕ Unit)) :=
 (if (decide (x10 < (w_0.Text.length : Int))) then ((atI w_0.Text x10).bind fun b72 => (if ((b72.toNat : Int) == 32) then (some (.out (.inl ()))) else (some (.go (IntKind.i64.wrap (x10 + 1)))))) else (some (.out (.inr ()))))
def g_ref38_word (w_0 : A_Word) (ahead_1 : Int) : Option (Int) :=
 (if (w_0.Text == ([] : List UInt8)) then (some 4) else ((iter (g_ref38_word_s1 w_0) 0).bind fun e11 => (match e11 with | Sum.inl e11 => (some 4) | Sum.inr (e11) => ((g_ref08_Valid w_0.Text).bind fun r108 => (if r108 then (((if (decide (w_0.Span.In < 0)) then (some true) else (if (decide (w_0.Span.Out ≤ w_0.Span.In)) then (some true) else (some (decide (5184000 < w_0.Span.Out))))) : Option (Bool)).bind fun v114 => (if v114 then (some 2) else (if (decide (w_0.Span.In < ahead_1)) then (some 8) else (some 0)))) else (some 10))))))
theorem a_ref38_word {I : World → Prop} (hI : Stab I) {w_0 : A_Word} {ahead_1 : Int} {r : Int} (h : g_ref38_word w_0 ahead_1 = some r) : AFun Tryz.prog I 44 [A_Word.d w_0, .int .i64 ahead_1] (.int .i64 r) := by
 have dd := And.intro dd_EE <| And.intro dd_EB <| And.intro dd_EA <| And.intro dd_EC dd_ED; have k := True.intro; have q := k; have rs := Tryz.results44
 unfold g_ref38_word at h
 refine .en hI Tryz.func44 Tryz.ntmps44 ?_
 refine xs <| rz ?_
 refine es <| xs <| xs <| rz ?_
 refine es ?_
 obtain ⟨k,h⟩|⟨k,h⟩:=iK k h
 ·refine xt <| xs <| rz ?_
  refine es <| xr <| er ?_
  cases h
  exact en fr
 ·refine xf <| xk <| es <| xs <| xs <| rz ?_
  refine es <| xb ?_
  obtain ⟨e11, h78, h⟩ := bs h
  refine rb_loop (fun x10 => ⟨envL [(1, .int .i64 ahead_1), (2, .ptr 0 0), (5, .int .i64 x10)], heapL [(0, .box none [.str w_0.Text, .int .i64 w_0.Span.In, .int .i64 w_0.Span.Out])], 1, 52⟩) (fun w => match w with | Sum.inl _ => .ret | Sum.inr (_) => .exit 0) (fun w => match w with | Sum.inl e11 => ⟨envL [(4, .int .i64 4)], heapL [], 0, 52⟩ | Sum.inr (e11) => ⟨envL [(1, .int .i64 ahead_1), (2, .ptr 0 0)], heapL [(0, .box none [.str w_0.Text, .int .i64 w_0.Span.In, .int .i64 w_0.Span.Out])], 1, 52⟩) h78 (wk []) (by intro w; rcases w with w | w <;> simp) ?_ ?_
  ·clear h
   intro x10 y h
   unfold g_ref38_word_s1 at h
   refine xs <| xs <| rz ?_
   refine es ?_
   obtain ⟨k,h⟩|⟨k,h⟩:=iK k h
   ·refine xt <| xk <| es <| xs <| xb <| xs <| rK fun K71 RK71 hK71 gK71 => zz ?_
    obtain ⟨b72, q, h⟩ := bK q h
    refine zz ?_
    subst hK71 gK71
    refine es ?_
    obtain ⟨k,h⟩|⟨k,h⟩:=iK k h
    ·refine xt <| xs <| rz ?_
     refine es <| xr <| br <| er ?_
     cases h
     exact en ⟨rfl, wk []⟩
    ·refine xf <| xk <| bn <| es <| rz ?_
     cases h
     exact en ⟨rfl, wk []⟩
   ·refine xf <| xx <| ee ?_
    cases h
    exact en ⟨rfl, wk []⟩
  ·rcases e11 with e11 | e11
   ·try dsimp only at h ⊢
    refine br <| er ?_
    cases h
    exact en fr
   ·try dsimp only at h ⊢
    refine bh <| es <| xs <| xb <| xs <| rK fun K107 RK107 hK107 gK107 => zz ?_
    obtain ⟨r108, h109, h⟩ := bs h
    refine cw (a_ref08_Valid hI h109) <| zz ?_
    subst hK107 gK107
    refine es ?_
    obtain ⟨k,h⟩|⟨k,h⟩:=iK k h
    ·refine xf ?_
     obtain ⟨v114, h118, h⟩ := bs h
     refine rb_cut (fun v114 => ⟨envL [(1, .int .i64 ahead_1), (2, .ptr 0 0), (26, .bool v114)], heapL [(0, .box none [.str w_0.Text, .int .i64 w_0.Span.In, .int .i64 w_0.Span.Out])], 1, 52⟩) h118 ?_ ?_
     ·clear h
      intro v114 h
      refine rK fun K115 RK115 hK115 gK115 => zz ?_
      obtain ⟨k,h⟩|⟨k,h⟩:=iK k h
      ·refine zz ?_
       subst hK115 gK115
       cases h
       exact en ⟨rfl, wk []⟩
      ·refine zz ?_
       obtain ⟨k,h⟩|⟨k,h⟩:=iK k h
       ·refine zz ?_
        subst hK115 gK115
        cases h
        exact en ⟨rfl, wk []⟩
       ·refine zz ?_
        subst hK115 gK115
        cases h
        exact en ⟨rfl, wk []⟩
     ·obtain ⟨k,h⟩|⟨k,h⟩:=iK k h
      ·refine xt <| xs <| rz ?_
       refine es <| xr <| br <| er ?_
       cases h
       exact en fr
      ·refine xf <| xs <| rz ?_
       refine es ?_
       obtain ⟨k,h⟩|⟨k,h⟩:=iK k h
       ·refine xt <| xs <| rz ?_
        refine es <| xr <| br <| er ?_
        cases h
        exact en fr
       ·refine xf <| xk <| bn <| es <| xs <| rz ?_
        refine es <| xr ?_
        cases h
        exact en fr
    ·refine xt <| xs <| rz ?_
     refine es <| xr <| br <| er ?_
     cases h
     exact en fr
def g_ref37_Check_s1 (l_0 : List Int) (x10 : Int) : Option (Nx (Int) (Int ⊕ Unit)) :=
 (if (decide (x10 < (l_0.length : Int))) then ((atI l_0 x10).bind fun y104 => (((if (decide (y104 < 1)) then (some true) else (some (decide (5184000 < y104)))) : Option (Bool)).bind fun v108 => (if v108 then (some (.out (.inl 2))) else (if (decide (0 < x10)) then ((atI l_0 (IntKind.i64.wrap (x10 - 1))).bind fun y121 => (if (decide (y104 ≤ y121)) then (some (.out (.inl 8))) else (some (.go (IntKind.i64.wrap (x10 + 1)))))) else (some (.go (IntKind.i64.wrap (x10 + 1)))))))) else (some (.out (.inr ()))))
def g_ref37_Check (l_0 : List Int) : Option (Int) :=
 (if (decide (400 < (l_0.length : Int))) then (some 9) else ((iter (g_ref37_Check_s1 l_0) 0).bind fun e11 => (match e11 with | Sum.inl e11 => (some e11) | Sum.inr (e11) => (some 0))))
theorem a_ref37_Check {I : World → Prop} (hI : Stab I) {l_0 : List Int} {r : Int} (h : g_ref37_Check l_0 = some r) : AFun Tryz.prog I 45 [.sl (l_0.map (D.int .i64))] (.int .i64 r) := by
 have dd := And.intro dd_EE <| And.intro dd_EB <| And.intro dd_EA <| And.intro dd_EC dd_ED; have k := True.intro; have q := k; have rs := Tryz.results45
 unfold g_ref37_Check at h
 refine .en hI Tryz.func45 Tryz.ntmps45 ?_
 refine xs <| rz ?_
 refine es <| xs <| xs <| rz ?_
 refine es ?_
 obtain ⟨k,h⟩|⟨k,h⟩:=iK k h
 ·refine xt <| xs <| rz ?_
  refine es <| xr <| er ?_
  cases h
  exact en fr
 ·refine xf <| xk <| es <| xs <| xs <| rz ?_
  refine es <| xb ?_
  obtain ⟨e11, h128, h⟩ := bs h
  refine rb_loop (fun x10 => ⟨envL [(0, .sl (l_0.map (D.int .i64))), (8, .sl (l_0.map (D.int .i64))), (9, .int .i64 (l_0.length : Int)), (10, .int .i64 x10)], heapL [], 0, 33⟩) (fun w => match w with | Sum.inl _ => .ret | Sum.inr (_) => .exit 0) (fun w => match w with | Sum.inl e11 => ⟨envL [(2, .int .i64 e11)], heapL [], 0, 33⟩ | Sum.inr (e11) => ⟨envL [], heapL [], 0, 33⟩) h128 (wk []) (by intro w; rcases w with w | w <;> simp) ?_ ?_
  ·clear h
   intro x10 y h
   unfold g_ref37_Check_s1 at h
   refine xs <| rz ?_
   refine es <| xs ?_
   obtain ⟨k,h⟩|⟨k,h⟩:=iK k h
   ·refine xt <| xk <| es <| xs <| xb <| xs <| rK fun K103 RK103 hK103 gK103 => zz ?_
    obtain ⟨y104, q, h⟩ := bK q h
    refine zz ?_
    subst hK103 gK103
    refine es <| xs ?_
    obtain ⟨v108, h111, h⟩ := bs h
    refine rb_cut (fun v108 => ⟨envL [(0, .sl (l_0.map (D.int .i64))), (3, .int .i64 x10), (4, .int .i64 y104), (8, .sl (l_0.map (D.int .i64))), (9, .int .i64 (l_0.length : Int)), (10, .int .i64 x10), (20, .bool v108)], heapL [], 0, 33⟩) h111 ?_ ?_
    ·clear h
     intro v108 h
     refine rK fun K109 RK109 hK109 gK109 => zz ?_
     obtain ⟨k,h⟩|⟨k,h⟩:=iK k h
     ·refine zz ?_
      subst hK109 gK109
      cases h
      exact en ⟨rfl, wk []⟩
     ·refine zz ?_
      subst hK109 gK109
      cases h
      exact en ⟨rfl, wk []⟩
    ·obtain ⟨k,h⟩|⟨k,h⟩:=iK k h
     ·refine xt <| xs <| rz ?_
      refine es <| xr <| er <| br <| er ?_
      cases h
      exact en ⟨rfl, wk []⟩
     ·refine xf <| xk <| es <| xs <| rK fun K119 RK119 hK119 gK119 => zz ?_
      obtain ⟨k,h⟩|⟨k,h⟩:=iK k h
      ·refine zz ?_
       obtain ⟨y121, q, h⟩ := bK q h
       refine zz ?_
       subst hK119 gK119
       refine es ?_
       obtain ⟨k,h⟩|⟨k,h⟩:=iK k h
       ·refine xt <| xs <| rz ?_
        refine es <| xr <| br <| er ?_
        cases h
        exact en ⟨rfl, wk []⟩
       ·refine xf <| xk <| bn <| es <| rz ?_
        cases h
        exact en ⟨rfl, wk []⟩
      ·refine zz ?_
       subst hK119 gK119
       refine es <| xf <| xk <| bn <| es <| rz ?_
       cases h
       exact en ⟨rfl, wk []⟩
   ·refine xf <| xx <| ee ?_
    cases h
    exact en ⟨rfl, wk []⟩
  ·rcases e11 with e11 | e11
   ·try dsimp only at h ⊢
    refine br <| er ?_
    cases h
    exact en fr
   ·try dsimp only at h ⊢
    refine bh <| es <| xs <| rz ?_
    refine es <| xr ?_
    cases h
    exact en fr
def g_ref35_Check_s1 (r7 : (List Int)) (x9 : Int) : Option (Nx (Int) (Unit ⊕ Unit)) :=
 (if (decide (x9 < (r7.length : Int))) then ((atI r7 x9).bind fun y69 => (if (decide (y69 < 0)) then (some (.out (.inl ()))) else (if (decide (1000000 < y69)) then (some (.out (.inl ()))) else (some (.go (IntKind.i64.wrap (x9 + 1))))))) else (some (.out (.inr ()))))
def g_ref35_Check_s2 (t_0 : A_Pn) (x84 : Int) : Option (Nx (Int) (Unit ⊕ Unit)) :=
 (if (decide (x84 < 6)) then (((if x84 == 0 then (if (IntKind.i64.wrap (x84 - 1)) == 0 then none else (if (IntKind.i64.wrap (x84 - 1)) == 1 then none else (if (IntKind.i64.wrap (x84 - 1)) == 2 then none else (if (IntKind.i64.wrap (x84 - 1)) == 3 then none else (if (IntKind.i64.wrap (x84 - 1)) == 4 then none else (if (IntKind.i64.wrap (x84 - 1)) == 5 then none else none)))))) else (if x84 == 1 then (if (IntKind.i64.wrap (x84 - 1)) == 0 then (if (decide (t_0.Sg.a0 < t_0.Sg.a1)) then (some (.out ())) else (some (.go ()))) else (if (IntKind.i64.wrap (x84 - 1)) == 1 then none else (if (IntKind.i64.wrap (x84 - 1)) == 2 then none else (if (IntKind.i64.wrap (x84 - 1)) == 3 then none else (if (IntKind.i64.wrap (x84 - 1)) == 4 then none else (if (IntKind.i64.wrap (x84 - 1)) == 5 then none else none)))))) else (if x84 == 2 then (if (IntKind.i64.wrap (x84 - 1)) == 0 then none else (if (IntKind.i64.wrap (x84 - 1)) == 1 then (if (decide (t_0.Sg.a1 < t_0.Sg.a2)) then (some (.out ())) else (some (.go ()))) else (if (IntKind.i64.wrap (x84 - 1)) == 2 then none else (if (IntKind.i64.wrap (x84 - 1)) == 3 then none else (if (IntKind.i64.wrap (x84 - 1)) == 4 then none else (if (IntKind.i64.wrap (x84 - 1)) == 5 then none else none)))))) else (if x84 == 3 then (if (IntKind.i64.wrap (x84 - 1)) == 0 then none else (if (IntKind.i64.wrap (x84 - 1)) == 1 then none else (if (IntKind.i64.wrap (x84 - 1)) == 2 then (if (decide (t_0.Sg.a2 < t_0.Sg.a3)) then (some (.out ())) else (some (.go ()))) else (if (IntKind.i64.wrap (x84 - 1)) == 3 then none else (if (IntKind.i64.wrap (x84 - 1)) == 4 then none else (if (IntKind.i64.wrap (x84 - 1)) == 5 then none else none)))))) else (if x84 == 4 then (if (IntKind.i64.wrap (x84 - 1)) == 0 then none else (if (IntKind.i64.wrap (x84 - 1)) == 1 then none else (if (IntKind.i64.wrap (x84 - 1)) == 2 then none else (if (IntKind.i64.wrap (x84 - 1)) == 3 then (if (decide (t_0.Sg.a3 < t_0.Sg.a4)) then (some (.out ())) else (some (.go ()))) else (if (IntKind.i64.wrap (x84 - 1)) == 4 then none else (if (IntKind.i64.wrap (x84 - 1)) == 5 then none else none)))))) else (if x84 == 5 then (if (IntKind.i64.wrap (x84 - 1)) == 0 then none else (if (IntKind.i64.wrap (x84 - 1)) == 1 then none else (if (IntKind.i64.wrap (x84 - 1)) == 2 then none else (if (IntKind.i64.wrap (x84 - 1)) == 3 then none else (if (IntKind.i64.wrap (x84 - 1)) == 4 then (if (decide (t_0.Sg.a4 < t_0.Sg.a5)) then (some (.out ())) else (some (.go ()))) else (if (IntKind.i64.wrap (x84 - 1)) == 5 then none else none)))))) else none)))))) : Option (Nx (Unit) (Unit))).bind fun w503 => match w503 with | .go v400 => (some (.go (IntKind.i64.wrap (x84 + 1)))) | .out e504 => (some (.out (.inl ())))) else (some (.out (.inr ()))))
def g_ref35_Check (t_0 : A_Pn) : Option (Int) :=
 ((g_ref35_numbers t_0).bind fun r7 => ((iter (g_ref35_Check_s1 r7) 0).bind fun e10 => (match e10 with | Sum.inl e10 => (some 2) | Sum.inr (e10) => ((iter (g_ref35_Check_s2 t_0) 1).bind fun e85 => (match e85 with | Sum.inl e85 => (some 8) | Sum.inr (e85) => (some 0))))))
theorem a_ref35_Check {I : World → Prop} (hI : Stab I) {t_0 : A_Pn} {r : Int} (h : g_ref35_Check t_0 = some r) : AFun Tryz.prog I 46 [A_Pn.d t_0] (.int .i64 r) := by
 have dd := And.intro dd_EE <| And.intro dd_EB <| And.intro dd_EA <| And.intro dd_EC dd_ED; have k := True.intro; have q := k; have rs := Tryz.results46
 unfold g_ref35_Check at h
 refine .en hI Tryz.func46 Tryz.ntmps46 ?_
 refine xs <| rz ?_
 refine es <| xs <| xs <| rK fun K6 RK6 hK6 gK6 => zz ?_
 obtain ⟨r7, h8, h⟩ := bs h
 refine cw (a_ref35_numbers hI h8) <| zz ?_
 subst hK6 gK6
 refine es <| xb ?_
 obtain ⟨e10, h81, h⟩ := bs h
 refine rb_loop (fun x9 => ⟨envL [(1, .iptr [.int .i64 t_0.Sg.a0, .int .i64 t_0.Sg.a1, .int .i64 t_0.Sg.a2, .int .i64 t_0.Sg.a3, .int .i64 t_0.Sg.a4, .int .i64 t_0.Sg.a5, .int .i64 t_0.Rgd, .int .i64 t_0.Row, .int .i64 t_0.Event, .int .i64 t_0.Fast, .int .i64 t_0.Gap, .int .i64 t_0.Shot]), (7, .sl (r7.map (D.int .i64))), (8, .int .i64 (r7.length : Int)), (9, .int .i64 x9)], heapL [], 0, 34⟩) (fun w => match w with | Sum.inl _ => .ret | Sum.inr (_) => .exit 0) (fun w => match w with | Sum.inl e10 => ⟨envL [(2, .int .i64 2)], heapL [], 0, 34⟩ | Sum.inr (e10) => ⟨envL [(1, .iptr [.int .i64 t_0.Sg.a0, .int .i64 t_0.Sg.a1, .int .i64 t_0.Sg.a2, .int .i64 t_0.Sg.a3, .int .i64 t_0.Sg.a4, .int .i64 t_0.Sg.a5, .int .i64 t_0.Rgd, .int .i64 t_0.Row, .int .i64 t_0.Event, .int .i64 t_0.Fast, .int .i64 t_0.Gap, .int .i64 t_0.Shot])], heapL [], 0, 34⟩) h81 (wk []) (by intro w; rcases w with w | w <;> simp) ?_ ?_
 ·clear h
  intro x9 y h
  unfold g_ref35_Check_s1 at h
  refine xs <| rz ?_
  refine es <| xs ?_
  obtain ⟨k,h⟩|⟨k,h⟩:=iK k h
  ·refine xt <| xk <| es <| xs <| xb <| xs <| rK fun K68 RK68 hK68 gK68 => zz ?_
   obtain ⟨y69, q, h⟩ := bK q h
   refine zz ?_
   subst hK68 gK68
   refine es <| xs <| rK fun K73 RK73 hK73 gK73 => zz ?_
   obtain ⟨k,h⟩|⟨k,h⟩:=iK k h
   ·refine zz ?_
    subst hK73 gK73
    refine es <| xt <| xs <| rz ?_
    refine es <| xr <| br <| er ?_
    cases h
    exact en ⟨rfl, wk []⟩
   ·refine zz ?_
    subst hK73 gK73
    refine es ?_
    obtain ⟨k,h⟩|⟨k,h⟩:=iK k h
    ·refine xt <| xs <| rz ?_
     refine es <| xr <| br <| er ?_
     cases h
     exact en ⟨rfl, wk []⟩
    ·refine xf <| xk <| bn <| es <| rz ?_
     cases h
     exact en ⟨rfl, wk []⟩
  ·refine xf <| xx <| ee ?_
   cases h
   exact en ⟨rfl, wk []⟩
 ·rcases e10 with e10 | e10
  ·try dsimp only at h ⊢
   refine br <| er ?_
   cases h
   exact en fr
  ·try dsimp only at h ⊢
   refine bh <| es <| xs <| xs <| rz ?_
   refine es <| xb ?_
   obtain ⟨e85, h506, h⟩ := bs h
   refine rb_loop (fun x84 => ⟨envL [(1, .iptr [.int .i64 t_0.Sg.a0, .int .i64 t_0.Sg.a1, .int .i64 t_0.Sg.a2, .int .i64 t_0.Sg.a3, .int .i64 t_0.Sg.a4, .int .i64 t_0.Sg.a5, .int .i64 t_0.Rgd, .int .i64 t_0.Row, .int .i64 t_0.Event, .int .i64 t_0.Fast, .int .i64 t_0.Gap, .int .i64 t_0.Shot]), (5, .int .i64 x84)], heapL [], 0, 34⟩) (fun w => match w with | Sum.inl _ => .ret | Sum.inr (_) => .exit 2) (fun w => match w with | Sum.inl e85 => ⟨envL [(2, .int .i64 8)], heapL [], 0, 34⟩ | Sum.inr (e85) => ⟨envL [], heapL [], 0, 34⟩) h506 (wk []) (by intro w; rcases w with w | w <;> simp) ?_ ?_
   ·clear h
    intro x84 y h
    unfold g_ref35_Check_s2 at h
    refine xs <| xs <| rz ?_
    refine es ?_
    obtain ⟨k,h⟩|⟨k,h⟩:=iK k h
    ·refine xt <| xk <| es ?_
     obtain ⟨w503, h502, h⟩ := bs h
     refine rb_seg (fun v400 => ⟨envL [(1, .iptr [.int .i64 t_0.Sg.a0, .int .i64 t_0.Sg.a1, .int .i64 t_0.Sg.a2, .int .i64 t_0.Sg.a3, .int .i64 t_0.Sg.a4, .int .i64 t_0.Sg.a5, .int .i64 t_0.Rgd, .int .i64 t_0.Row, .int .i64 t_0.Event, .int .i64 t_0.Fast, .int .i64 t_0.Gap, .int .i64 t_0.Shot]), (5, .int .i64 x84)], heapL [], 0, 34⟩) (fun _ => .ret) (fun e504 => ⟨envL [(2, .int .i64 8)], heapL [], 0, 34⟩) h502 (by intro w; simp) ?_ ?_ ?_
     ·clear h
      intro w503 h
      refine xb <| xs <| rD hI fun K444 RK444 hK444 gK444 => zz ?_
      rcases ite_or h with ⟨k445, h⟩ | ⟨_, h⟩
      ·have k := And.intro (eq_of_beq k445) k
       refine zz ?_
       rcases ite_or h with ⟨k446, h⟩ | ⟨_, h⟩
       ·have k := And.intro (eq_of_beq k446) k
        cases h
       ·rcases ite_or h with ⟨k447, h⟩ | ⟨_, h⟩
        ·have k := And.intro (eq_of_beq k447) k
         cases h
        ·rcases ite_or h with ⟨k448, h⟩ | ⟨_, h⟩
         ·have k := And.intro (eq_of_beq k448) k
          cases h
         ·rcases ite_or h with ⟨k449, h⟩ | ⟨_, h⟩
          ·have k := And.intro (eq_of_beq k449) k
           cases h
          ·rcases ite_or h with ⟨k450, h⟩ | ⟨_, h⟩
           ·have k := And.intro (eq_of_beq k450) k
            cases h
           ·rcases ite_or h with ⟨k451, h⟩ | ⟨_, h⟩
            ·have k := And.intro (eq_of_beq k451) k
             cases h
            ·cases h
      ·rcases ite_or h with ⟨k452, h⟩ | ⟨_, h⟩
       ·have k := And.intro (eq_of_beq k452) k
        refine zz ?_
        rcases ite_or h with ⟨k453, h⟩ | ⟨_, h⟩
        ·have k := And.intro (eq_of_beq k453) k
         have k := And.intro (show IntKind.i64.wrap 0 = 0 from by decide) k
         refine zz ?_
         subst hK444 gK444
         refine es ?_
         obtain ⟨k,h⟩|⟨k,h⟩:=iK k h
         ·refine xt <| xs <| rz ?_
          refine es <| xr <| br ?_
          cases h
          exact en ⟨rfl, wk []⟩
         ·refine xf <| xk <| bn ?_
          cases h
          exact en ⟨rfl, wk []⟩
        ·rcases ite_or h with ⟨k457, h⟩ | ⟨_, h⟩
         ·have k := And.intro (eq_of_beq k457) k
          cases h
         ·rcases ite_or h with ⟨k458, h⟩ | ⟨_, h⟩
          ·have k := And.intro (eq_of_beq k458) k
           cases h
          ·rcases ite_or h with ⟨k459, h⟩ | ⟨_, h⟩
           ·have k := And.intro (eq_of_beq k459) k
            cases h
           ·rcases ite_or h with ⟨k460, h⟩ | ⟨_, h⟩
            ·have k := And.intro (eq_of_beq k460) k
             cases h
            ·rcases ite_or h with ⟨k461, h⟩ | ⟨_, h⟩
             ·have k := And.intro (eq_of_beq k461) k
              cases h
             ·cases h
       ·rcases ite_or h with ⟨k462, h⟩ | ⟨_, h⟩
        ·have k := And.intro (eq_of_beq k462) k
         refine zz ?_
         rcases ite_or h with ⟨k463, h⟩ | ⟨_, h⟩
         ·have k := And.intro (eq_of_beq k463) k
          cases h
         ·rcases ite_or h with ⟨k464, h⟩ | ⟨_, h⟩
          ·have k := And.intro (eq_of_beq k464) k
           have k := And.intro (show IntKind.i64.wrap 1 = 1 from by decide) k
           refine zz ?_
           subst hK444 gK444
           refine es ?_
           obtain ⟨k,h⟩|⟨k,h⟩:=iK k h
           ·refine xt <| xs <| rz ?_
            refine es <| xr <| br ?_
            cases h
            exact en ⟨rfl, wk []⟩
           ·refine xf <| xk <| bn ?_
            cases h
            exact en ⟨rfl, wk []⟩
          ·rcases ite_or h with ⟨k468, h⟩ | ⟨_, h⟩
           ·have k := And.intro (eq_of_beq k468) k
            cases h
           ·rcases ite_or h with ⟨k469, h⟩ | ⟨_, h⟩
            ·have k := And.intro (eq_of_beq k469) k
             cases h
            ·rcases ite_or h with ⟨k470, h⟩ | ⟨_, h⟩
             ·have k := And.intro (eq_of_beq k470) k
              cases h
             ·rcases ite_or h with ⟨k471, h⟩ | ⟨_, h⟩
              ·have k := And.intro (eq_of_beq k471) k
               cases h
              ·cases h
        ·rcases ite_or h with ⟨k472, h⟩ | ⟨_, h⟩
         ·have k := And.intro (eq_of_beq k472) k
          refine zz ?_
          rcases ite_or h with ⟨k473, h⟩ | ⟨_, h⟩
          ·have k := And.intro (eq_of_beq k473) k
           cases h
          ·rcases ite_or h with ⟨k474, h⟩ | ⟨_, h⟩
           ·have k := And.intro (eq_of_beq k474) k
            cases h
           ·rcases ite_or h with ⟨k475, h⟩ | ⟨_, h⟩
            ·have k := And.intro (eq_of_beq k475) k
             have k := And.intro (show IntKind.i64.wrap 2 = 2 from by decide) k
             refine zz ?_
             subst hK444 gK444
             refine es ?_
             obtain ⟨k,h⟩|⟨k,h⟩:=iK k h
             ·refine xt <| xs <| rz ?_
              refine es <| xr <| br ?_
              cases h
              exact en ⟨rfl, wk []⟩
             ·refine xf <| xk <| bn ?_
              cases h
              exact en ⟨rfl, wk []⟩
            ·rcases ite_or h with ⟨k479, h⟩ | ⟨_, h⟩
             ·have k := And.intro (eq_of_beq k479) k
              cases h
             ·rcases ite_or h with ⟨k480, h⟩ | ⟨_, h⟩
              ·have k := And.intro (eq_of_beq k480) k
               cases h
              ·rcases ite_or h with ⟨k481, h⟩ | ⟨_, h⟩
               ·have k := And.intro (eq_of_beq k481) k
                cases h
               ·cases h
         ·rcases ite_or h with ⟨k482, h⟩ | ⟨_, h⟩
          ·have k := And.intro (eq_of_beq k482) k
           refine zz ?_
           rcases ite_or h with ⟨k483, h⟩ | ⟨_, h⟩
           ·have k := And.intro (eq_of_beq k483) k
            cases h
           ·rcases ite_or h with ⟨k484, h⟩ | ⟨_, h⟩
            ·have k := And.intro (eq_of_beq k484) k
             cases h
            ·rcases ite_or h with ⟨k485, h⟩ | ⟨_, h⟩
             ·have k := And.intro (eq_of_beq k485) k
              cases h
             ·rcases ite_or h with ⟨k486, h⟩ | ⟨_, h⟩
              ·have k := And.intro (eq_of_beq k486) k
               have k := And.intro (show IntKind.i64.wrap 3 = 3 from by decide) k
               refine zz ?_
               subst hK444 gK444
               refine es ?_
               obtain ⟨k,h⟩|⟨k,h⟩:=iK k h
               ·refine xt <| xs <| rz ?_
                refine es <| xr <| br ?_
                cases h
                exact en ⟨rfl, wk []⟩
               ·refine xf <| xk <| bn ?_
                cases h
                exact en ⟨rfl, wk []⟩
              ·rcases ite_or h with ⟨k490, h⟩ | ⟨_, h⟩
               ·have k := And.intro (eq_of_beq k490) k
                cases h
               ·rcases ite_or h with ⟨k491, h⟩ | ⟨_, h⟩
                ·have k := And.intro (eq_of_beq k491) k
                 cases h
                ·cases h
          ·rcases ite_or h with ⟨k492, h⟩ | ⟨_, h⟩
           ·have k := And.intro (eq_of_beq k492) k
            refine zz ?_
            rcases ite_or h with ⟨k493, h⟩ | ⟨_, h⟩
            ·have k := And.intro (eq_of_beq k493) k
             cases h
            ·rcases ite_or h with ⟨k494, h⟩ | ⟨_, h⟩
             ·have k := And.intro (eq_of_beq k494) k
              cases h
             ·rcases ite_or h with ⟨k495, h⟩ | ⟨_, h⟩
              ·have k := And.intro (eq_of_beq k495) k
               cases h
              ·rcases ite_or h with ⟨k496, h⟩ | ⟨_, h⟩
               ·have k := And.intro (eq_of_beq k496) k
                cases h
               ·rcases ite_or h with ⟨k497, h⟩ | ⟨_, h⟩
                ·have k := And.intro (eq_of_beq k497) k
                 have k := And.intro (show IntKind.i64.wrap 4 = 4 from by decide) k
                 refine zz ?_
                 subst hK444 gK444
                 refine es ?_
                 obtain ⟨k,h⟩|⟨k,h⟩:=iK k h
                 ·refine xt <| xs <| rz ?_
                  refine es <| xr <| br ?_
                  cases h
                  exact en ⟨rfl, wk []⟩
                 ·refine xf <| xk <| bn ?_
                  cases h
                  exact en ⟨rfl, wk []⟩
                ·rcases ite_or h with ⟨k501, h⟩ | ⟨_, h⟩
                 ·have k := And.intro (eq_of_beq k501) k
                  cases h
                 ·cases h
           ·cases h
     ·rintro v400 rfl
      dsimp only at h
      refine rz ?_
      cases h
      exact en ⟨rfl, wk []⟩
     ·rintro e504 rfl
      dsimp only at h
      cases h
      exact en ⟨rfl, wk []⟩
    ·refine xf <| xx <| ee ?_
     cases h
     exact en ⟨rfl, wk []⟩
   ·rcases e85 with e85 | e85
    ·try dsimp only at h ⊢
     refine br <| er ?_
     cases h
     exact en fr
    ·try dsimp only at h ⊢
     refine bh <| es <| xs <| rz ?_
     refine es <| xr ?_
     cases h
     exact en fr
def g_ref07_digit (c_0 : Int) : Option (Bool) :=
 (if (decide (48 ≤ c_0)) then (some (decide (c_0 ≤ 57))) else (some false))
theorem a_ref07_digit {I : World → Prop} (hI : Stab I) {c_0 : Int} {r : Bool} (h : g_ref07_digit c_0 = some r) : AFun Tryz.prog I 132 [.int .u8 c_0] (.bool r) := by
 have dd := And.intro dd_EE <| And.intro dd_EB <| And.intro dd_EA <| And.intro dd_EC dd_ED; have k := True.intro; have q := k; have rs := Tryz.results132
 unfold g_ref07_digit at h
 refine .en hI Tryz.func132 Tryz.ntmps132 ?_
 refine xs <| rz ?_
 refine es <| xs <| rK fun K5 RK5 hK5 gK5 => zz ?_
 obtain ⟨k,h⟩|⟨k,h⟩:=iK k h
 ·refine zz ?_
  subst hK5 gK5
  refine es <| xr ?_
  cases h
  exact en fr
 ·refine zz ?_
  subst hK5 gK5
  refine es <| xr ?_
  cases h
  exact en fr
def g_ref07_Name_s1 (s_0 : List UInt8) (x14 : Int) : Option (Nx (Int) (Unit ⊕ Unit)) :=
 (if (decide (x14 < (s_0.length : Int))) then ((((((atI s_0 x14).bind fun b133 => (if (decide (65 ≤ (b133.toNat : Int))) then (some (decide ((b133.toNat : Int) ≤ 90))) else (some false))) : Option (Bool)).bind fun v131 => (if v131 then (some (.go ())) else (if (x14 == 0) then (some (.out ())) else ((atI s_0 x14).bind fun b151 => ((g_ref07_digit (b151.toNat : Int)).bind fun r153 => (if r153 then (some (.go ())) else (if ((b151.toNat : Int) != 95) then (if ((b151.toNat : Int) != 45) then (some (.out ())) else (some (.go ()))) else (some (.go ()))))))))) : Option (Nx (Unit) (Unit))).bind fun w161 => match w161 with | .go v126 => (some (.go (IntKind.i64.wrap (x14 + 1)))) | .out e162 => (some (.out (.inl ())))) else (some (.out (.inr ()))))
def g_ref07_Name (s_0 : List UInt8) : Option (Bool) :=
 (((if (decide ((s_0.length : Int) < 1)) then (some true) else (some (decide (16 < (s_0.length : Int))))) : Option (Bool)).bind fun v5 => (if v5 then (some false) else ((iter (g_ref07_Name_s1 s_0) 0).bind fun e15 => (match e15 with | Sum.inl e15 => (some false) | Sum.inr (e15) => (some true)))))
theorem a_ref07_Name {I : World → Prop} (hI : Stab I) {s_0 : List UInt8} {r : Bool} (h : g_ref07_Name s_0 = some r) : AFun Tryz.prog I 87 [.str s_0] (.bool r) := by
 have dd := And.intro dd_EE <| And.intro dd_EB <| And.intro dd_EA <| And.intro dd_EC dd_ED; have k := True.intro; have q := k; have rs := Tryz.results87
 unfold g_ref07_Name at h
 refine .en hI Tryz.func87 Tryz.ntmps87 ?_
 refine xs <| rz ?_
 refine es <| xs ?_
 obtain ⟨v5, h8, h⟩ := bs h
 refine rb_cut (fun v5 => ⟨envL [(0, .str s_0), (12, .bool v5)], heapL [], 0, 54⟩) h8 ?_ ?_
 ·clear h
  intro v5 h
  refine rK fun K6 RK6 hK6 gK6 => zz ?_
  obtain ⟨k,h⟩|⟨k,h⟩:=iK k h
  ·refine zz ?_
   subst hK6 gK6
   cases h
   exact en ⟨rfl, wk []⟩
  ·refine zz ?_
   subst hK6 gK6
   cases h
   exact en ⟨rfl, wk []⟩
 ·obtain ⟨k,h⟩|⟨k,h⟩:=iK k h
  ·refine xt <| xs <| rz ?_
   refine es <| xr <| er ?_
   cases h
   exact en fr
  ·refine xf <| xk <| es <| xs <| xs <| rz ?_
   refine es <| xb ?_
   obtain ⟨e15, h164, h⟩ := bs h
   refine rb_loop (fun x14 => ⟨envL [(0, .str s_0), (3, .int .i64 x14)], heapL [], 0, 54⟩) (fun w => match w with | Sum.inl _ => .ret | Sum.inr (_) => .exit 0) (fun w => match w with | Sum.inl e15 => ⟨envL [(2, .bool false)], heapL [], 0, 54⟩ | Sum.inr (e15) => ⟨envL [], heapL [], 0, 54⟩) h164 (wk []) (by intro w; rcases w with w | w <;> simp) ?_ ?_
   ·clear h
    intro x14 y h
    unfold g_ref07_Name_s1 at h
    refine xs <| xs <| rz ?_
    refine es ?_
    obtain ⟨k,h⟩|⟨k,h⟩:=iK k h
    ·refine xt <| xk <| es ?_
     obtain ⟨w161, h160, h⟩ := bs h
     refine rb_seg (fun v126 => ⟨envL [(0, .str s_0), (3, .int .i64 x14)], heapL [], 0, 54⟩) (fun _ => .ret) (fun e162 => ⟨envL [(2, .bool false)], heapL [], 0, 54⟩) h160 (by intro w; simp) ?_ ?_ ?_
     ·clear h
      intro w161 h
      refine xb ?_
      obtain ⟨v131, h136, h⟩ := bs h
      refine rb_cut (fun v131 => ⟨envL [(0, .str s_0), (3, .int .i64 x14), (4, .bool v131)], heapL [], 0, 54⟩) h136 ?_ ?_
      ·clear h
       intro v131 h
       refine rK fun K132 RK132 hK132 gK132 => zz ?_
       obtain ⟨b133, q, h⟩ := bK q h
       refine zz ?_
       obtain ⟨k,h⟩|⟨k,h⟩:=iK k h
       ·refine zz ?_
        subst hK132 gK132
        cases h
        exact en ⟨rfl, wk []⟩
       ·refine zz ?_
        subst hK132 gK132
        cases h
        exact en ⟨rfl, wk []⟩
      ·refine xs <| rK fun K146 RK146 hK146 gK146 => zz ?_
       obtain ⟨k,h⟩|⟨k,h⟩:=iK k h
       ·refine zz ?_
        subst hK146 gK146
        refine es <| xf <| xk <| bn ?_
        cases h
        exact en ⟨rfl, wk []⟩
       ·refine zz ?_
        obtain ⟨k,h⟩|⟨k,h⟩:=iK k h
        ·refine zz ?_
         subst hK146 gK146
         refine es <| xt <| xs <| rz ?_
         refine es <| xr <| br ?_
         cases h
         exact en ⟨rfl, wk []⟩
        ·refine zz ?_
         obtain ⟨b151, q, h⟩ := bK q h
         refine zz ?_
         obtain ⟨r153, h154, h⟩ := bs h
         refine cw (a_ref07_digit hI h154) <| zz ?_
         obtain ⟨k,h⟩|⟨k,h⟩:=iK k h
         ·refine zz ?_
          subst hK146 gK146
          refine es <| xf <| xk <| bn ?_
          cases h
          exact en ⟨rfl, wk []⟩
         ·refine zz ?_
          obtain ⟨k,h⟩|⟨k,h⟩:=iK k h
          ·refine zz ?_
           subst hK146 gK146
           refine es ?_
           obtain ⟨k,h⟩|⟨k,h⟩:=iK k h
           ·refine xt <| xs <| rz ?_
            refine es <| xr <| br ?_
            cases h
            exact en ⟨rfl, wk []⟩
           ·refine xf <| xk <| bn ?_
            cases h
            exact en ⟨rfl, wk []⟩
          ·refine zz ?_
           subst hK146 gK146
           refine es <| xf <| xk <| bn ?_
           cases h
           exact en ⟨rfl, wk []⟩
     ·rintro v126 rfl
      dsimp only at h
      refine rz ?_
      cases h
      exact en ⟨rfl, wk []⟩
     ·rintro e162 rfl
      dsimp only at h
      cases h
      exact en ⟨rfl, wk []⟩
    ·refine xf <| xx <| ee ?_
     cases h
     exact en ⟨rfl, wk []⟩
   ·rcases e15 with e15 | e15
    ·try dsimp only at h ⊢
     refine br <| er ?_
     cases h
     exact en fr
    ·try dsimp only at h ⊢
     refine bh <| es <| xs <| rz ?_
     refine es <| xr ?_
     cases h
     exact en fr
def g_ref39_within (n_0 : Int) (lo_1 : Int) (hi_2 : Int) : Option (Bool) :=
 (if (decide (lo_1 ≤ n_0)) then (some (decide (n_0 ≤ hi_2))) else (some false))
theorem a_ref39_within {I : World → Prop} (hI : Stab I) {n_0 : Int} {lo_1 : Int} {hi_2 : Int} {r : Bool} (h : g_ref39_within n_0 lo_1 hi_2 = some r) : AFun Tryz.prog I 88 [.int .i64 n_0, .int .i64 lo_1, .int .i64 hi_2] (.bool r) := by
 have dd := And.intro dd_EE <| And.intro dd_EB <| And.intro dd_EA <| And.intro dd_EC dd_ED; have k := True.intro; have q := k; have rs := Tryz.results88
 unfold g_ref39_within at h
 refine .en hI Tryz.func88 Tryz.ntmps88 ?_
 refine xs <| rz ?_
 refine es <| xs <| rK fun K5 RK5 hK5 gK5 => zz ?_
 obtain ⟨k,h⟩|⟨k,h⟩:=iK k h
 ·refine zz ?_
  subst hK5 gK5
  refine es <| xr ?_
  cases h
  exact en fr
 ·refine zz ?_
  subst hK5 gK5
  refine es <| xr ?_
  cases h
  exact en fr
def g_ref39_inside (n_0 : Int) (lo_1 : Int) (hi_2 : Int) : Option (Bool) :=
 (if (decide (lo_1 ≤ n_0)) then (some (decide (n_0 ≤ hi_2))) else (some false))
theorem a_ref39_inside {I : World → Prop} (hI : Stab I) {n_0 : Int} {lo_1 : Int} {hi_2 : Int} {r : Bool} (h : g_ref39_inside n_0 lo_1 hi_2 = some r) : AFun Tryz.prog I 89 [.int .i64 n_0, .int .i64 lo_1, .int .i64 hi_2] (.bool r) := by
 have dd := And.intro dd_EE <| And.intro dd_EB <| And.intro dd_EA <| And.intro dd_EC dd_ED; have k := True.intro; have q := k; have rs := Tryz.results89
 unfold g_ref39_inside at h
 refine .en hI Tryz.func89 Tryz.ntmps89 ?_
 refine xs <| rz ?_
 refine es <| xs <| rK fun K5 RK5 hK5 gK5 => zz ?_
 obtain ⟨k,h⟩|⟨k,h⟩:=iK k h
 ·refine zz ?_
  subst hK5 gK5
  refine es <| xr ?_
  cases h
  exact en fr
 ·refine zz ?_
  subst hK5 gK5
  refine es <| xr ?_
  cases h
  exact en fr
def g_ref08_runes_s1 (s_0 : List UInt8) (x7 : (List Int) × Nat) : Option (Nx ((List Int) × Nat) ((List Int))) :=
 (if (decide (x7.2 < s_0.length)) then (if (x7.1.length + 1) * 4 ≤ 140737488355328 then (some (.go ((x7.1 ++ [(runeAt s_0 x7.2)]), (x7.2 + widthAt s_0 x7.2)))) else none) else (some (.out x7.1)))
def g_ref08_runes (s_0 : List UInt8) : Option ((List Int)) :=
 ((iter (g_ref08_runes_s1 s_0) ([], 0)).bind fun e8 => (some e8))
theorem a_ref08_runes {I : World → Prop} (hI : Stab I) {s_0 : List UInt8} {r : (List Int)} (h : g_ref08_runes s_0 = some r) : AFun Tryz.prog I 76 [.str s_0] (.sl (r.map (D.int .i32))) := by
 have dd := And.intro dd_EE <| And.intro dd_EB <| And.intro dd_EA <| And.intro dd_EC dd_ED; have k := True.intro; have q := k; have rs := Tryz.results76
 unfold g_ref08_runes at h
 refine .en hI Tryz.func76 Tryz.ntmps76 ?_
 refine xs <| rz ?_
 refine es <| xs <| rz ?_
 refine es <| xs <| xs <| rz ?_
 refine es <| xb ?_
 obtain ⟨e8, h34, h⟩ := bs h
 refine rb_loop (fun x7 => ⟨envL [(3, .own 1 x7.1.length), (7, .ptr 0 0)], heapL [(0, .iter s_0 x7.2), (1, .vec 21 1 (x7.1.map (D.int .i32)) false)], 2, 16⟩) (fun _ => .exit 0) (fun e8 => ⟨envL [(3, .own 0 e8.length)], heapL [(0, .vec 21 1 (e8.map (D.int .i32)) false)], 1, 16⟩) h34 (wk [(0, some 3), (1, none)]) (by intro w; simp) ?_ ?_
 ·clear h
  intro x7 y h
  unfold g_ref08_runes_s1 at h
  refine xs <| rK fun K27 RK27 hK27 gK27 => zz ?_
  obtain ⟨k,h⟩|⟨k,h⟩:=iK k h
  ·have k := And.intro (of_decide_eq_true k.1) k.2
   refine zz ?_
   subst hK27 gK27
   refine es <| xs <| xt <| xk <| es <| xb <| xs <| rz ?_
   refine es <| rK fun K31 RK31 hK31 gK31 => zz ?_
   obtain ⟨h32, h⟩ := ite_on h
   have h33 : x7.1.length + 1 ≤ 9223372036854775807 := by omega
   try simp only [Nat.reduceLeDiff] at h33
   have q := And.intro @h33 <| And.intro @h32 <| q
   refine zz ?_
   subst hK31 gK31
   refine bn ?_
   cases h
   exact en ⟨rfl, wk [(1, some 9)]⟩
  ·have k := And.intro (of_decide_eq_false k.1) k.2
   refine zz ?_
   subst hK27 gK27
   refine es <| xs <| xf <| xx <| ee ?_
   cases h
   exact en ⟨rfl, wk [(0, some 1)]⟩
 ·refine bh <| es <| xs <| rz ?_
  refine es <| xr ?_
  cases h
  exact en fr
def g_ref08_Chars (s_0 : List UInt8) : Option ((List Int)) :=
 ((g_ref08_Valid s_0).bind fun r7 => (if r7 then ((g_ref08_runes s_0).bind fun r14 => (some r14)) else (some [])))
theorem a_ref08_Chars {I : World → Prop} (hI : Stab I) {s_0 : List UInt8} {r : (List Int)} (h : g_ref08_Chars s_0 = some r) : AFun Tryz.prog I 90 [.str s_0] (.sl (r.map (D.int .i32))) := by
 have dd := And.intro dd_EE <| And.intro dd_EB <| And.intro dd_EA <| And.intro dd_EC dd_ED; have k := True.intro; have q := k; have rs := Tryz.results90
 unfold g_ref08_Chars at h
 refine .en hI Tryz.func90 Tryz.ntmps90 ?_
 refine xs <| rz ?_
 refine es <| xs <| xs <| rK fun K6 RK6 hK6 gK6 => zz ?_
 obtain ⟨r7, h8, h⟩ := bs h
 refine cw (a_ref08_Valid hI h8) <| zz ?_
 subst hK6 gK6
 refine es ?_
 obtain ⟨k,h⟩|⟨k,h⟩:=iK k h
 ·refine xf <| xk <| es <| xs <| rK fun K13 RK13 hK13 gK13 => zz ?_
  obtain ⟨r14, h15, h⟩ := bs h
  refine cw (a_ref08_runes hI h15) <| zz ?_
  subst hK13 gK13
  refine es <| xr ?_
  cases h
  exact en fr
 ·refine xt <| xs <| rz ?_
  refine es <| xr <| er ?_
  cases h
  exact en fr
def g_ref39_Check_s1 (r112 : (List Int)) (x116 : Int) : Option (Nx (Int) (Unit ⊕ Unit)) :=
 (if (decide (x116 < (r112.length : Int))) then ((atI r112 x116).bind fun y170 => ((atI r112 (IntKind.i64.wrap (x116 - 1))).bind fun y172 => (if (decide (y170 ≤ y172)) then (some (.out (.inl ()))) else (some (.go (IntKind.i64.wrap (x116 + 1))))))) else (some (.out (.inr ()))))
def g_ref39_Check (p_0 : A_Pf) : Option (Int) :=
 ((g_ref07_Name p_0.Name).bind fun r7 => (if r7 then ((((g_ref39_within p_0.Reading 1 10000).bind fun r30 => (if r30 then ((g_ref39_within p_0.MnF 1 5184000).bind fun r33 => (if r33 then ((g_ref39_within p_0.MxF 1 5184000).bind fun r36 => (if r36 then ((g_ref39_within p_0.MnG 0 1000).bind fun r39 => (if r39 then ((g_ref39_within p_0.ShB 0 1000).bind fun r42 => (if r42 then ((g_ref39_within p_0.ShA 0 1000).bind fun r45 => (some (!r45))) else (some true))) else (some true))) else (some true))) else (some true))) else (some true))) : Option (Bool)).bind fun v28 => (if v28 then (some 2) else ((((g_ref39_inside p_0.Rows 1 4).bind fun r73 => (if r73 then ((g_ref39_inside p_0.Cols 1 32).bind fun r76 => (if r76 then ((g_ref39_inside p_0.SfT 0 31).bind fun r79 => (if r79 then ((g_ref39_inside p_0.SfB 0 31).bind fun r82 => (if r82 then ((g_ref39_inside p_0.SfL 0 31).bind fun r85 => (if r85 then ((g_ref39_inside p_0.SfR 0 31).bind fun r88 => (if r88 then (if (decide (14 < (IntKind.i64.wrap (p_0.SfT + p_0.SfB)))) then (some true) else (some (decide (31 < (IntKind.i64.wrap (p_0.SfL + p_0.SfR)))))) else (some true))) else (some true))) else (some true))) else (some true))) else (some true))) else (some true))) : Option (Bool)).bind fun v71 => (if v71 then (some 2) else (if (decide (p_0.MxF < p_0.MnF)) then (some 8) else ((g_ref08_Valid p_0.Fbd).bind fun r105 => (if r105 then ((g_ref08_Chars p_0.Fbd).bind fun r112 => ((iter (g_ref39_Check_s1 r112) 1).bind fun e117 => (match e117 with | Sum.inl e117 => (some 8) | Sum.inr (e117) => (some 0)))) else (some 10)))))))) else (some 5)))
theorem a_ref39_Check {I : World → Prop} (hI : Stab I) {p_0 : A_Pf} {r : Int} (h : g_ref39_Check p_0 = some r) : AFun Tryz.prog I 47 [A_Pf.d p_0] (.int .i64 r) := by
 have dd := And.intro dd_EE <| And.intro dd_EB <| And.intro dd_EA <| And.intro dd_EC dd_ED; have k := True.intro; have q := k; have rs := Tryz.results47
 unfold g_ref39_Check at h
 refine .en hI Tryz.func47 Tryz.ntmps47 ?_
 refine xs <| rz ?_
 refine es <| xs <| xs <| rK fun K6 RK6 hK6 gK6 => zz ?_
 obtain ⟨r7, h8, h⟩ := bs h
 refine cw (a_ref07_Name hI h8) <| zz ?_
 subst hK6 gK6
 refine es ?_
 obtain ⟨k,h⟩|⟨k,h⟩:=iK k h
 ·refine xf <| xk <| es <| xs ?_
  obtain ⟨v28, h47, h⟩ := bs h
  refine rb_cut (fun v28 => ⟨envL [(1, .ptr 0 0), (42, .bool v28)], heapL [(0, .box none [.str p_0.Name, .int .i64 p_0.Reading, .int .i64 p_0.MnF, .int .i64 p_0.MxF, .int .i64 p_0.MnG, .int .i64 p_0.ShB, .int .i64 p_0.ShA, .int .i64 p_0.Rows, .int .i64 p_0.Cols, .str p_0.Fbd, .int .i64 p_0.SfT, .int .i64 p_0.SfB, .int .i64 p_0.SfL, .int .i64 p_0.SfR])], 1, 121⟩) h47 ?_ ?_
  ·clear h
   intro v28 h
   refine rK fun K29 RK29 hK29 gK29 => zz ?_
   obtain ⟨r30, h31, h⟩ := bs h
   refine cw (a_ref39_within hI h31) <| zz ?_
   obtain ⟨k,h⟩|⟨k,h⟩:=iK k h
   ·refine zz ?_
    obtain ⟨r33, h34, h⟩ := bs h
    refine cw (a_ref39_within hI h34) <| zz ?_
    obtain ⟨k,h⟩|⟨k,h⟩:=iK k h
    ·refine zz ?_
     obtain ⟨r36, h37, h⟩ := bs h
     refine cw (a_ref39_within hI h37) <| zz ?_
     obtain ⟨k,h⟩|⟨k,h⟩:=iK k h
     ·refine zz ?_
      obtain ⟨r39, h40, h⟩ := bs h
      refine cw (a_ref39_within hI h40) <| zz ?_
      obtain ⟨k,h⟩|⟨k,h⟩:=iK k h
      ·refine zz ?_
       obtain ⟨r42, h43, h⟩ := bs h
       refine cw (a_ref39_within hI h43) <| zz ?_
       obtain ⟨k,h⟩|⟨k,h⟩:=iK k h
       ·refine zz ?_
        obtain ⟨r45, h46, h⟩ := bs h
        refine cw (a_ref39_within hI h46) <| zz ?_
        subst hK29 gK29
        cases h
        exact en ⟨rfl, wk []⟩
       ·refine zz ?_
        subst hK29 gK29
        cases h
        exact en ⟨rfl, wk []⟩
      ·refine zz ?_
       subst hK29 gK29
       cases h
       exact en ⟨rfl, wk []⟩
     ·refine zz ?_
      subst hK29 gK29
      cases h
      exact en ⟨rfl, wk []⟩
    ·refine zz ?_
     subst hK29 gK29
     cases h
     exact en ⟨rfl, wk []⟩
   ·refine zz ?_
    subst hK29 gK29
    cases h
    exact en ⟨rfl, wk []⟩
  ·obtain ⟨k,h⟩|⟨k,h⟩:=iK k h
   ·refine xt <| xs <| rz ?_
    refine es <| xr <| er ?_
    cases h
    exact en fr
   ·refine xf <| xk <| es <| xs ?_
    obtain ⟨v71, h92, h⟩ := bs h
    refine rb_cut (fun v71 => ⟨envL [(1, .ptr 0 0), (92, .bool v71)], heapL [(0, .box none [.str p_0.Name, .int .i64 p_0.Reading, .int .i64 p_0.MnF, .int .i64 p_0.MxF, .int .i64 p_0.MnG, .int .i64 p_0.ShB, .int .i64 p_0.ShA, .int .i64 p_0.Rows, .int .i64 p_0.Cols, .str p_0.Fbd, .int .i64 p_0.SfT, .int .i64 p_0.SfB, .int .i64 p_0.SfL, .int .i64 p_0.SfR])], 1, 121⟩) h92 ?_ ?_
    ·clear h
     intro v71 h
     refine rK fun K72 RK72 hK72 gK72 => zz ?_
     obtain ⟨r73, h74, h⟩ := bs h
     refine cw (a_ref39_inside hI h74) <| zz ?_
     obtain ⟨k,h⟩|⟨k,h⟩:=iK k h
     ·refine zz ?_
      obtain ⟨r76, h77, h⟩ := bs h
      refine cw (a_ref39_inside hI h77) <| zz ?_
      obtain ⟨k,h⟩|⟨k,h⟩:=iK k h
      ·refine zz ?_
       obtain ⟨r79, h80, h⟩ := bs h
       refine cw (a_ref39_inside hI h80) <| zz ?_
       obtain ⟨k,h⟩|⟨k,h⟩:=iK k h
       ·refine zz ?_
        obtain ⟨r82, h83, h⟩ := bs h
        refine cw (a_ref39_inside hI h83) <| zz ?_
        obtain ⟨k,h⟩|⟨k,h⟩:=iK k h
        ·refine zz ?_
         obtain ⟨r85, h86, h⟩ := bs h
         refine cw (a_ref39_inside hI h86) <| zz ?_
         obtain ⟨k,h⟩|⟨k,h⟩:=iK k h
         ·refine zz ?_
          obtain ⟨r88, h89, h⟩ := bs h
          refine cw (a_ref39_inside hI h89) <| zz ?_
          obtain ⟨k,h⟩|⟨k,h⟩:=iK k h
          ·refine zz ?_
           obtain ⟨k,h⟩|⟨k,h⟩:=iK k h
           ·refine zz ?_
            subst hK72 gK72
            cases h
            exact en ⟨rfl, wk []⟩
           ·refine zz ?_
            subst hK72 gK72
            cases h
            exact en ⟨rfl, wk []⟩
          ·refine zz ?_
           subst hK72 gK72
           cases h
           exact en ⟨rfl, wk []⟩
         ·refine zz ?_
          subst hK72 gK72
          cases h
          exact en ⟨rfl, wk []⟩
        ·refine zz ?_
         subst hK72 gK72
         cases h
         exact en ⟨rfl, wk []⟩
       ·refine zz ?_
        subst hK72 gK72
        cases h
        exact en ⟨rfl, wk []⟩
      ·refine zz ?_
       subst hK72 gK72
       cases h
       exact en ⟨rfl, wk []⟩
     ·refine zz ?_
      subst hK72 gK72
      cases h
      exact en ⟨rfl, wk []⟩
    ·obtain ⟨k,h⟩|⟨k,h⟩:=iK k h
     ·refine xt <| xs <| rz ?_
      refine es <| xr <| er ?_
      cases h
      exact en fr
     ·refine xf <| xk <| es <| xs <| xs <| rz ?_
      refine es ?_
      obtain ⟨k,h⟩|⟨k,h⟩:=iK k h
      ·refine xt <| xs <| rz ?_
       refine es <| xr <| er ?_
       cases h
       exact en fr
      ·refine xf <| xk <| es <| xs <| xs <| rK fun K104 RK104 hK104 gK104 => zz ?_
       obtain ⟨r105, h106, h⟩ := bs h
       refine cw (a_ref08_Valid hI h106) <| zz ?_
       subst hK104 gK104
       refine es ?_
       obtain ⟨k,h⟩|⟨k,h⟩:=iK k h
       ·refine xf <| xk <| es <| xs <| rK fun K111 RK111 hK111 gK111 => zz ?_
        obtain ⟨r112, h113, h⟩ := bs h
        refine cw (a_ref08_Chars hI h113) <| zz ?_
        subst hK111 gK111
        refine es <| xs <| xs <| rz ?_
        refine es <| xb ?_
        obtain ⟨e117, h178, h⟩ := bs h
        refine rb_loop (fun x116 => ⟨envL [(3, .sl (r112.map (D.int .i32))), (4, .int .i64 x116)], heapL [], 0, 121⟩) (fun w => match w with | Sum.inl _ => .ret | Sum.inr (_) => .exit 0) (fun w => match w with | Sum.inl e117 => ⟨envL [(2, .int .i64 8)], heapL [], 0, 121⟩ | Sum.inr (e117) => ⟨envL [], heapL [], 0, 121⟩) h178 (wk []) (by intro w; rcases w with w | w <;> simp) ?_ ?_
        ·clear h
         intro x116 y h
         unfold g_ref39_Check_s1 at h
         refine xs <| xs <| rz ?_
         refine es ?_
         obtain ⟨k,h⟩|⟨k,h⟩:=iK k h
         ·refine xt <| xk <| es <| xs <| xb <| xs <| rD hI fun K169 RK169 hK169 gK169 => zz ?_
          obtain ⟨y170, q, h⟩ := bK q h
          refine zz ?_
          obtain ⟨y172, q, h⟩ := bK q h
          refine zz ?_
          subst hK169 gK169
          refine es ?_
          obtain ⟨k,h⟩|⟨k,h⟩:=iK k h
          ·refine xt <| xs <| rz ?_
           refine es <| xr <| br <| er ?_
           cases h
           exact en ⟨rfl, wk []⟩
          ·refine xf <| xk <| bn <| es <| rz ?_
           cases h
           exact en ⟨rfl, wk []⟩
         ·refine xf <| xx <| ee ?_
          cases h
          exact en ⟨rfl, wk []⟩
        ·rcases e117 with e117 | e117
         ·try dsimp only at h ⊢
          refine br <| er ?_
          cases h
          exact en fr
         ·try dsimp only at h ⊢
          refine bh <| es <| xs <| rz ?_
          refine es <| xr ?_
          cases h
          exact en fr
       ·refine xt <| xs <| rz ?_
        refine es <| xr <| er ?_
        cases h
        exact en fr
 ·refine xt <| xs <| rz ?_
  refine es <| xr <| er ?_
  cases h
  exact en fr
def g_ref38_Check_s1 (s_0 : A_Sh) (x43 : Int × Int) : Option (Nx (Int × Int) (Int ⊕ Unit)) :=
 (if (decide (x43.2 < (s_0.Words.length : Int))) then ((atI s_0.Words x43.2).bind fun y153 => ((g_ref38_word y153 x43.1).bind fun r159 => (if (r159 != 0) then (some (.out (.inl r159))) else (some (.go (y153.Span.Out, (IntKind.i64.wrap (x43.2 + 1)))))))) else (some (.out (.inr ()))))
def g_ref38_Check (s_0 : A_Sh) : Option (Int) :=
 ((g_ref02_Valid s_0.Rate).bind fun r26 => (if r26 then (if (decide (200 < (s_0.Words.length : Int))) then (some 9) else (if ((s_0.Words.length : Int) == 0) then (some 6) else ((iter (g_ref38_Check_s1 s_0) (0, 0)).bind fun e44 => (match e44 with | Sum.inl e44 => (some e44) | Sum.inr (e44) => ((g_ref37_Check s_0.Shots).bind fun r173 => (if (r173 != 0) then (some r173) else ((g_ref35_Check s_0.Table).bind fun r184 => (if (r184 != 0) then (some r184) else ((g_ref39_Check s_0.House).bind fun r195 => (some r195)))))))))) else (some 13)))
theorem a_ref38_Check {I : World → Prop} (hI : Stab I) {s_0 : A_Sh} {r : Int} (h : g_ref38_Check s_0 = some r) : AFun Tryz.prog I 14 [A_Sh.d s_0] (.int .i64 r) := by
 have dd := And.intro dd_EE <| And.intro dd_EB <| And.intro dd_EA <| And.intro dd_EC dd_ED; have k := True.intro; have q := k; have rs := Tryz.results14
 unfold g_ref38_Check at h
 refine .en hI Tryz.func14 Tryz.ntmps14 ?_
 refine xs <| rz ?_
 refine es <| xs <| xb <| xs <| rK fun K25 RK25 hK25 gK25 => zz ?_
 obtain ⟨r26, h27, h⟩ := bs h
 refine cw (a_ref02_Valid hI h27) <| zz ?_
 subst hK25 gK25
 refine es ?_
 obtain ⟨k,h⟩|⟨k,h⟩:=iK k h
 ·refine xf <| xs <| rz ?_
  refine es ?_
  obtain ⟨k,h⟩|⟨k,h⟩:=iK k h
  ·refine xt <| xs <| rz ?_
   refine es <| xr <| br <| er ?_
   cases h
   exact en fr
  ·refine xf <| xs <| rz ?_
   refine es ?_
   obtain ⟨k,h⟩|⟨k,h⟩:=iK k h
   ·refine xt <| xs <| rz ?_
    refine es <| xr <| br <| er ?_
    cases h
    exact en fr
   ·refine xf <| xk <| bn <| es <| xs <| rz ?_
    refine es <| xs <| xs <| rz ?_
    refine es <| xb ?_
    obtain ⟨e44, h168, h⟩ := bs h
    refine rb_loop (fun x43 => ⟨envL [(1, .ptr 0 0), (3, .int .i64 x43.1), (25, .sl (s_0.Words.map A_Word.d)), (26, .int .i64 (s_0.Words.length : Int)), (27, .int .i64 x43.2)], heapL [(0, .box none [.int .u8 s_0.Rate, .sl (s_0.Words.map A_Word.d), .sl (s_0.Shots.map (D.int .i64)), .int .i64 s_0.Table.Sg.a0, .int .i64 s_0.Table.Sg.a1, .int .i64 s_0.Table.Sg.a2, .int .i64 s_0.Table.Sg.a3, .int .i64 s_0.Table.Sg.a4, .int .i64 s_0.Table.Sg.a5, .int .i64 s_0.Table.Rgd, .int .i64 s_0.Table.Row, .int .i64 s_0.Table.Event, .int .i64 s_0.Table.Fast, .int .i64 s_0.Table.Gap, .int .i64 s_0.Table.Shot, .str s_0.House.Name, .int .i64 s_0.House.Reading, .int .i64 s_0.House.MnF, .int .i64 s_0.House.MxF, .int .i64 s_0.House.MnG, .int .i64 s_0.House.ShB, .int .i64 s_0.House.ShA, .int .i64 s_0.House.Rows, .int .i64 s_0.House.Cols, .str s_0.House.Fbd, .int .i64 s_0.House.SfT, .int .i64 s_0.House.SfB, .int .i64 s_0.House.SfL, .int .i64 s_0.House.SfR])], 1, 56⟩) (fun w => match w with | Sum.inl _ => .ret | Sum.inr (_) => .exit 1) (fun w => match w with | Sum.inl e44 => ⟨envL [(2, .int .i64 e44)], heapL [], 0, 56⟩ | Sum.inr (e44) => ⟨envL [(1, .ptr 0 0)], heapL [(0, .box none [.int .u8 s_0.Rate, .sl (s_0.Words.map A_Word.d), .sl (s_0.Shots.map (D.int .i64)), .int .i64 s_0.Table.Sg.a0, .int .i64 s_0.Table.Sg.a1, .int .i64 s_0.Table.Sg.a2, .int .i64 s_0.Table.Sg.a3, .int .i64 s_0.Table.Sg.a4, .int .i64 s_0.Table.Sg.a5, .int .i64 s_0.Table.Rgd, .int .i64 s_0.Table.Row, .int .i64 s_0.Table.Event, .int .i64 s_0.Table.Fast, .int .i64 s_0.Table.Gap, .int .i64 s_0.Table.Shot, .str s_0.House.Name, .int .i64 s_0.House.Reading, .int .i64 s_0.House.MnF, .int .i64 s_0.House.MxF, .int .i64 s_0.House.MnG, .int .i64 s_0.House.ShB, .int .i64 s_0.House.ShA, .int .i64 s_0.House.Rows, .int .i64 s_0.House.Cols, .str s_0.House.Fbd, .int .i64 s_0.House.SfT, .int .i64 s_0.House.SfB, .int .i64 s_0.House.SfL, .int .i64 s_0.House.SfR])], 1, 56⟩) h168 (wk []) (by intro w; rcases w with w | w <;> simp) ?_ ?_
    ·clear h
     intro x43 y h
     unfold g_ref38_Check_s1 at h
     refine xs <| rz ?_
     refine es <| xs ?_
     obtain ⟨k,h⟩|⟨k,h⟩:=iK k h
     ·refine xt <| xk <| es <| xs <| xb <| xs <| rK fun K152 RK152 hK152 gK152 => zz ?_
      obtain ⟨y153, q, h⟩ := bK q h
      refine zz ?_
      subst hK152 gK152
      refine es <| xs <| xs <| rK fun K158 RK158 hK158 gK158 => zz ?_
      obtain ⟨r159, h160, h⟩ := bs h
      refine cw (a_ref38_word hI h160) <| zz ?_
      subst hK158 gK158
      refine es <| xs <| rz ?_
      refine es ?_
      obtain ⟨k,h⟩|⟨k,h⟩:=iK k h
      ·refine xt <| xs <| rz ?_
       refine es <| xr <| er <| br <| er ?_
       cases h
       exact en ⟨rfl, wk []⟩
      ·refine xf <| xk <| es <| rz ?_
       refine bn <| es <| rz ?_
       cases h
       exact en ⟨rfl, wk []⟩
     ·refine xf <| xx <| ee ?_
      cases h
      exact en ⟨rfl, wk []⟩
    ·rcases e44 with e44 | e44
     ·try dsimp only at h ⊢
      refine br <| er ?_
      cases h
      exact en fr
     ·try dsimp only at h ⊢
      refine bh <| es <| xs <| xs <| rK fun K172 RK172 hK172 gK172 => zz ?_
      obtain ⟨r173, h174, h⟩ := bs h
      refine cw (a_ref37_Check hI h174) <| zz ?_
      subst hK172 gK172
      refine es <| xs <| rz ?_
      refine es ?_
      obtain ⟨k,h⟩|⟨k,h⟩:=iK k h
      ·refine xt <| xs <| rz ?_
       refine es <| xr <| er ?_
       cases h
       exact en fr
      ·refine xf <| xk <| es <| xs <| xs <| rK fun K183 RK183 hK183 gK183 => zz ?_
       obtain ⟨r184, h185, h⟩ := bs h
       refine cw (a_ref35_Check hI h185) <| zz ?_
       subst hK183 gK183
       refine es <| xs <| rz ?_
       refine es ?_
       obtain ⟨k,h⟩|⟨k,h⟩:=iK k h
       ·refine xt <| xs <| rz ?_
        refine es <| xr <| er ?_
        cases h
        exact en fr
       ·refine xf <| xk <| es <| xs <| rK fun K194 RK194 hK194 gK194 => zz ?_
        obtain ⟨r195, h196, h⟩ := bs h
        refine cw (a_ref39_Check hI h196) <| zz ?_
        subst hK194 gK194
        refine es <| xr ?_
        cases h
        exact en fr
 ·refine xt <| xs <| rz ?_
  refine es <| xr <| br <| er ?_
  cases h
  exact en fr
def g_ref34_Words_s1 (s_0 : List UInt8) (x9 : Int × Int × (List (List UInt8))) : Option (Nx (Int × Int × (List (List UInt8))) ((List (List UInt8)))) :=
 (if (decide (x9.2.1 ≤ (s_0.length : Int))) then (((if (x9.2.1 == (s_0.length : Int)) then (some true) else ((atI s_0 x9.2.1).bind fun b112 => (if ((b112.toNat : Int) == 32) then (some true) else (some ((b112.toNat : Int) == 10))))) : Option (Bool)).bind fun v109 => (if v109 then (if (decide (x9.1 < x9.2.1)) then ((subI s_0 x9.1 x9.2.1).bind fun z121 => (if (x9.2.2.length + 1) * 16 ≤ 140737488355328 then (some (.go ((IntKind.i64.wrap (x9.2.1 + 1)), (IntKind.i64.wrap (x9.2.1 + 1)), (x9.2.2 ++ [z121])))) else none)) else (some (.go ((IntKind.i64.wrap (x9.2.1 + 1)), (IntKind.i64.wrap (x9.2.1 + 1)), x9.2.2)))) else (some (.go (x9.1, (IntKind.i64.wrap (x9.2.1 + 1)), x9.2.2))))) else (some (.out x9.2.2)))
def g_ref34_Words (s_0 : List UInt8) : Option ((List (List UInt8))) :=
 ((iter (g_ref34_Words_s1 s_0) (0, 0, [])).bind fun e10 => (some e10))
theorem a_ref34_Words {I : World → Prop} (hI : Stab I) {s_0 : List UInt8} {r : (List (List UInt8))} (h : g_ref34_Words s_0 = some r) : AFun Tryz.prog I 158 [.str s_0] (.sl (r.map D.str)) := by
 have dd := And.intro dd_EE <| And.intro dd_EB <| And.intro dd_EA <| And.intro dd_EC dd_ED; have k := True.intro; have q := k; have rs := Tryz.results158
 unfold g_ref34_Words at h
 refine .en hI Tryz.func158 Tryz.ntmps158 ?_
 refine xs <| rz ?_
 refine es <| xs <| rz ?_
 refine es <| xs <| rz ?_
 refine es <| xs <| xs <| rz ?_
 refine es <| xb ?_
 obtain ⟨e10, h135, h⟩ := bs h
 refine rb_loop (fun x9 => ⟨envL [(0, .str s_0), (3, .own 0 x9.2.2.length), (4, .int .i64 x9.1), (5, .int .i64 x9.2.1)], heapL [(0, .vec 9 1 (x9.2.2.map D.str) false)], 1, 42⟩) (fun _ => .exit 0) (fun e10 => ⟨envL [(3, .own 0 e10.length)], heapL [(0, .vec 9 1 (e10.map D.str) false)], 1, 42⟩) h135 (wk [(0, some 1)]) (by intro w; simp) ?_ ?_
 ·clear h
  intro x9 y h
  unfold g_ref34_Words_s1 at h
  refine xs <| xs <| rz ?_
  refine es ?_
  obtain ⟨k,h⟩|⟨k,h⟩:=iK k h
  ·refine xt <| xk <| es <| xs <| xb ?_
   obtain ⟨v109, h115, h⟩ := bs h
   refine rb_cut (fun v109 => ⟨envL [(0, .str s_0), (3, .own 0 x9.2.2.length), (4, .int .i64 x9.1), (5, .int .i64 x9.2.1), (28, .bool v109)], heapL [(0, .vec 9 1 (x9.2.2.map D.str) false)], 1, 42⟩) h115 ?_ ?_
   ·clear h
    intro v109 h
    refine rK fun K110 RK110 hK110 gK110 => zz ?_
    obtain ⟨k,h⟩|⟨k,h⟩:=iK k h
    ·refine zz ?_
     subst hK110 gK110
     cases h
     exact en ⟨rfl, wk []⟩
    ·refine zz ?_
     obtain ⟨b112, q, h⟩ := bK q h
     refine zz ?_
     obtain ⟨k,h⟩|⟨k,h⟩:=iK k h
     ·refine zz ?_
      subst hK110 gK110
      cases h
      exact en ⟨rfl, wk []⟩
     ·refine zz ?_
      subst hK110 gK110
      cases h
      exact en ⟨rfl, wk []⟩
   ·obtain ⟨k,h⟩|⟨k,h⟩:=iK k h
    ·refine xt <| xs <| xs <| rz ?_
     refine es ?_
     obtain ⟨k,h⟩|⟨k,h⟩:=iK k h
     ·refine xt <| rK fun K120 RK120 hK120 gK120 => zz ?_
      obtain ⟨z121, h122, h⟩ := bind_some h
      obtain ⟨⟨h123, h124, h125, h126⟩, h127⟩ := subI_some h122
      have q := And.intro @h123 <| And.intro @h124 <| And.intro @h125 <| And.intro @h126 <| q
      try simp -implicitDefEqProofs only [vt, vm, sevalprocAttr, dd, k, q] at h127
      have q := And.intro @h127 <| q
      refine zz ?_
      obtain ⟨h128, h⟩ := ite_on h
      have h129 : x9.2.2.length + 1 ≤ 9223372036854775807 := by omega
      try simp only [Nat.reduceLeDiff] at h129
      have q := And.intro @h129 <| And.intro @h128 <| q
      refine zz ?_
      subst hK120 gK120
      refine es <| rz ?_
      refine bn <| es <| rz ?_
      cases h
      exact en ⟨rfl, wk [(0, some 10)]⟩
     ·refine xf <| xk <| es <| rz ?_
      refine bn <| es <| rz ?_
      cases h
      exact en ⟨rfl, wk []⟩
    ·refine xf <| xk <| bn <| es <| rz ?_
     cases h
     exact en ⟨rfl, wk []⟩
  ·refine xf <| xx <| ee ?_
   cases h
   exact en ⟨rfl, wk []⟩
 ·refine bh <| es <| xs <| rz ?_
  refine es <| xr ?_
  cases h
  exact en fr
def g_ref34_among_s1 (word_1 : List UInt8) (r7 : (List (List UInt8))) (x9 : Int) : Option (Nx (Int) (Unit ⊕ Unit)) :=
 (if (decide (x9 < (r7.length : Int))) then ((atI r7 x9).bind fun y57 => (if (y57 == word_1) then (some (.out (.inl ()))) else (some (.go (IntKind.i64.wrap (x9 + 1)))))) else (some (.out (.inr ()))))
def g_ref34_among (list_0 : List UInt8) (word_1 : List UInt8) : Option (Bool) :=
 ((g_ref34_Words list_0).bind fun r7 => ((iter (g_ref34_among_s1 word_1 r7) 0).bind fun e10 => (match e10 with | Sum.inl e10 => (some true) | Sum.inr (e10) => (some false))))
theorem a_ref34_among {I : World → Prop} (hI : Stab I) {list_0 : List UInt8} {word_1 : List UInt8} {r : Bool} (h : g_ref34_among list_0 word_1 = some r) : AFun Tryz.prog I 122 [.str list_0, .str word_1] (.bool r) := by
 have dd := And.intro dd_EE <| And.intro dd_EB <| And.intro dd_EA <| And.intro dd_EC dd_ED; have k := True.intro; have q := k; have rs := Tryz.results122
 unfold g_ref34_among at h
 refine .en hI Tryz.func122 Tryz.ntmps122 ?_
 refine xs <| rz ?_
 refine es <| xs <| xs <| rK fun K6 RK6 hK6 gK6 => zz ?_
 obtain ⟨r7, h8, h⟩ := bs h
 refine cw (a_ref34_Words hI h8) <| zz ?_
 subst hK6 gK6
 refine es <| xb ?_
 obtain ⟨e10, h65, h⟩ := bs h
 refine rb_loop (fun x9 => ⟨envL [(1, .str word_1), (8, .sl (r7.map D.str)), (9, .int .i64 (r7.length : Int)), (10, .int .i64 x9)], heapL [], 0, 18⟩) (fun w => match w with | Sum.inl _ => .ret | Sum.inr (_) => .exit 0) (fun w => match w with | Sum.inl e10 => ⟨envL [(4, .bool true)], heapL [], 0, 18⟩ | Sum.inr (e10) => ⟨envL [], heapL [], 0, 18⟩) h65 (wk []) (by intro w; rcases w with w | w <;> simp) ?_ ?_
 ·clear h
  intro x9 y h
  unfold g_ref34_among_s1 at h
  refine xs <| rz ?_
  refine es <| xs ?_
  obtain ⟨k,h⟩|⟨k,h⟩:=iK k h
  ·refine xt <| xk <| es <| xs <| xb <| xs <| rK fun K56 RK56 hK56 gK56 => zz ?_
   obtain ⟨y57, q, h⟩ := bK q h
   refine zz ?_
   subst hK56 gK56
   refine es <| xs <| rz ?_
   refine es ?_
   obtain ⟨k,h⟩|⟨k,h⟩:=iK k h
   ·refine xt <| xs <| rz ?_
    refine es <| xr <| br <| er ?_
    cases h
    exact en ⟨rfl, wk []⟩
   ·refine xf <| xk <| bn <| es <| rz ?_
    cases h
    exact en ⟨rfl, wk []⟩
  ·refine xf <| xx <| ee ?_
   cases h
   exact en ⟨rfl, wk []⟩
 ·rcases e10 with e10 | e10
  ·try dsimp only at h ⊢
   refine br <| er ?_
   cases h
   exact en fr
  ·try dsimp only at h ⊢
   refine bh <| es <| xs <| rz ?_
   refine es <| xr ?_
   cases h
   exact en fr
def g_ref34_Sg_s1  (x54 : (List UInt8)) : Option (Nx ((List UInt8)) ((List UInt8))) :=
 (((if (decide (0 < (x54.length : Int))) then ((atI x54 (IntKind.i64.wrap ((x54.length : Int) - 1))).bind fun b89 => (if ((b89.toNat : Int) == 34) then (some true) else (if ((b89.toNat : Int) == 39) then (some true) else (if ((b89.toNat : Int) == 41) then (some true) else (some ((b89.toNat : Int) == 93)))))) else (some false)) : Option (Bool)).bind fun v86 => (if v86 then ((subH x54 (IntKind.i64.wrap ((x54.length : Int) - 1))).bind fun z97 => (some (.go z97))) else (some (.out x54))))
def g_ref34_Sg (word_0 : List UInt8) (next_1 : List UInt8) : Option (Int) :=
 ((iter (g_ref34_Sg_s1) word_0).bind fun e55 => (if (decide (0 < (e55.length : Int))) then ((atI e55 (IntKind.i64.wrap ((e55.length : Int) - 1))).bind fun b109 => (((if ((b109.toNat : Int) == 46) then (some true) else (if ((b109.toNat : Int) == 33) then (some true) else (some ((b109.toNat : Int) == 63)))) : Option (Bool)).bind fun v167 => (if v167 then (some 5) else (((if ((b109.toNat : Int) == 58) then (some true) else (if ((b109.toNat : Int) == 59) then (some true) else (some (word_0 == ([45] : List UInt8))))) : Option (Bool)).bind fun v178 => (if v178 then (some 4) else (if ((b109.toNat : Int) == 44) then (some 3) else ((g_ref34_small word_0).bind fun r197 => ((g_ref34_among [97, 32, 97, 110, 32, 116, 104, 101, 32, 111, 102, 32, 116, 111, 32, 105, 110, 32, 111, 110, 32, 97, 116, 32, 98, 121, 32, 102, 111, 114, 32, 102, 114, 111, 109, 32, 119, 105, 116, 104, 32, 109, 121, 32, 121, 111, 117, 114, 32, 104, 105, 115, 32, 104, 101, 114, 32, 105, 116, 115, 32, 111, 117, 114, 32, 116, 104, 101, 105, 114, 32, 110, 111] r197).bind fun r199 => (if r199 then (some 0) else ((g_ref34_small next_1).bind fun r210 => ((g_ref34_among [97, 110, 100, 32, 98, 117, 116, 32, 111, 114, 32, 98, 101, 99, 97, 117, 115, 101, 32, 116, 104, 97, 116, 32, 119, 104, 105, 99, 104, 32, 119, 104, 111, 32, 119, 104, 101, 110, 32, 105, 102, 32, 119, 104, 105, 108, 101, 32, 115, 111, 32, 97, 115] r210).bind fun r212 => (if r212 then (some 2) else (some 1))))))))))))) else (if (word_0 == ([45] : List UInt8)) then (some 4) else ((g_ref34_small word_0).bind fun r269 => ((g_ref34_among [97, 32, 97, 110, 32, 116, 104, 101, 32, 111, 102, 32, 116, 111, 32, 105, 110, 32, 111, 110, 32, 97, 116, 32, 98, 121, 32, 102, 111, 114, 32, 102, 114, 111, 109, 32, 119, 105, 116, 104, 32, 109, 121, 32, 121, 111, 117, 114, 32, 104, 105, 115, 32, 104, 101, 114, 32, 105, 116, 115, 32, 111, 117, 114, 32, 116, 104, 101, 105, 114, 32, 110, 111] r269).bind fun r271 => (if r271 then (some 0) else ((g_ref34_small next_1).bind fun r282 => ((g_ref34_among [97, 110, 100, 32, 98, 117, 116, 32, 111, 114, 32, 98, 101, 99, 97, 117, 115, 101, 32, 116, 104, 97, 116, 32, 119, 104, 105, 99, 104, 32, 119, 104, 111, 32, 119, 104, 101, 110, 32, 105, 102, 32, 119, 104, 105, 108, 101, 32, 115, 111, 32, 97, 115] r282).bind fun r284 => (if r284 then (some 2) else (some 1))))))))))
theorem a_ref34_Sg {I : World → Prop} (hI : Stab I) {word_0 : List UInt8} {next_1 : List UInt8} {r : Int} (h : g_ref34_Sg word_0 next_1 = some r) : AFun Tryz.prog I 70 [.str word_0, .str next_1] (.int .i64 r) := by
 have dd := And.intro dd_EE <| And.intro dd_EB <| And.intro dd_EA <| And.intro dd_EC dd_ED; have k := True.intro; have q := k; have rs := Tryz.results70
 unfold g_ref34_Sg at h
 refine .en hI Tryz.func70 Tryz.ntmps70 ?_
 refine xs <| rz ?_
 refine es <| xs <| rz ?_
 refine es <| xs <| xb ?_
 obtain ⟨e55, h102, h⟩ := bs h
 refine rb_loop (fun x54 => ⟨envL [(0, .str word_0), (1, .str next_1), (5, .str x54)], heapL [], 0, 89⟩) (fun _ => .exit 0) (fun e55 => ⟨envL [(0, .str word_0), (1, .str next_1), (5, .str e55)], heapL [], 0, 89⟩) h102 (wk []) (by intro w; simp) ?_ ?_
 ·clear h
  intro x54 y h
  unfold g_ref34_Sg_s1 at h
  refine xs ?_
  obtain ⟨v86, h94, h⟩ := bs h
  refine rb_cut (fun v86 => ⟨envL [(0, .str word_0), (1, .str next_1), (5, .str x54), (42, .bool v86)], heapL [], 0, 89⟩) h94 ?_ ?_
  ·clear h
   intro v86 h
   refine rK fun K87 RK87 hK87 gK87 => zz ?_
   obtain ⟨k,h⟩|⟨k,h⟩:=iK k h
   ·refine zz ?_
    obtain ⟨b89, q, h⟩ := bK q h
    refine zz ?_
    obtain ⟨k,h⟩|⟨k,h⟩:=iK k h
    ·refine zz ?_
     subst hK87 gK87
     cases h
     exact en ⟨rfl, wk []⟩
    ·refine zz ?_
     obtain ⟨k,h⟩|⟨k,h⟩:=iK k h
     ·refine zz ?_
      subst hK87 gK87
      cases h
      exact en ⟨rfl, wk []⟩
     ·refine zz ?_
      obtain ⟨k,h⟩|⟨k,h⟩:=iK k h
      ·refine zz ?_
       subst hK87 gK87
       cases h
       exact en ⟨rfl, wk []⟩
      ·refine zz ?_
       subst hK87 gK87
       cases h
       exact en ⟨rfl, wk []⟩
   ·refine zz ?_
    subst hK87 gK87
    cases h
    exact en ⟨rfl, wk []⟩
  ·obtain ⟨k,h⟩|⟨k,h⟩:=iK k h
   ·refine xt <| xk <| es <| xb <| rK fun K96 RK96 hK96 gK96 => zz ?_
    obtain ⟨z97, h98, h⟩ := bind_some h
    obtain ⟨⟨h99, h100⟩, h101⟩ := subH_some h98
    have q := And.intro @h99 <| And.intro @h100 <| q
    try simp -implicitDefEqProofs only [vt, vm, sevalprocAttr, dd, k, q] at h101
    have q := And.intro @h101 <| q
    refine zz ?_
    subst hK96 gK96
    refine bn ?_
    cases h
    exact en ⟨rfl, wk []⟩
   ·refine xf <| xx <| ee ?_
    cases h
    exact en ⟨rfl, wk []⟩
 ·refine bh <| es <| xs <| rz ?_
  refine es <| xs <| xs <| rz ?_
  refine es ?_
  obtain ⟨k,h⟩|⟨k,h⟩:=iK k h
  ·refine xt <| rK fun K108 RK108 hK108 gK108 => zz ?_
   obtain ⟨b109, q, h⟩ := bK q h
   refine zz ?_
   subst hK108 gK108
   refine es <| xs <| xb ?_
   obtain ⟨v167, h171, h⟩ := bs h
   refine rb_cut (fun v167 => ⟨envL [(0, .str word_0), (1, .str next_1), (6, .int .u8 (b109.toNat : Int)), (56, .bool v167)], heapL [], 0, 89⟩) h171 ?_ ?_
   ·clear h
    intro v167 h
    refine rK fun K168 RK168 hK168 gK168 => zz ?_
    obtain ⟨k,h⟩|⟨k,h⟩:=iK k h
    ·refine zz ?_
     subst hK168 gK168
     cases h
     exact en ⟨rfl, wk []⟩
    ·refine zz ?_
     obtain ⟨k,h⟩|⟨k,h⟩:=iK k h
     ·refine zz ?_
      subst hK168 gK168
      cases h
      exact en ⟨rfl, wk []⟩
     ·refine zz ?_
      subst hK168 gK168
      cases h
      exact en ⟨rfl, wk []⟩
   ·obtain ⟨k,h⟩|⟨k,h⟩:=iK k h
    ·refine xt <| xs <| rz ?_
     refine es <| xr <| br <| er ?_
     cases h
     exact en fr
    ·refine xf ?_
     obtain ⟨v178, h182, h⟩ := bs h
     refine rb_cut (fun v178 => ⟨envL [(0, .str word_0), (1, .str next_1), (6, .int .u8 (b109.toNat : Int)), (67, .bool v178)], heapL [], 0, 89⟩) h182 ?_ ?_
     ·clear h
      intro v178 h
      refine rK fun K179 RK179 hK179 gK179 => zz ?_
      obtain ⟨k,h⟩|⟨k,h⟩:=iK k h
      ·refine zz ?_
       subst hK179 gK179
       cases h
       exact en ⟨rfl, wk []⟩
      ·refine zz ?_
       obtain ⟨k,h⟩|⟨k,h⟩:=iK k h
       ·refine zz ?_
        subst hK179 gK179
        cases h
        exact en ⟨rfl, wk []⟩
       ·refine zz ?_
        subst hK179 gK179
        cases h
        exact en ⟨rfl, wk []⟩
     ·obtain ⟨k,h⟩|⟨k,h⟩:=iK k h
      ·refine xt <| xs <| rz ?_
       refine es <| xr <| br <| er ?_
       cases h
       exact en fr
      ·refine xf <| xs <| rz ?_
       refine es ?_
       obtain ⟨k,h⟩|⟨k,h⟩:=iK k h
       ·refine xt <| xs <| rz ?_
        refine es <| xr <| br <| er ?_
        cases h
        exact en fr
       ·refine xf <| xs <| rK fun K196 RK196 hK196 gK196 => zz ?_
        obtain ⟨r197, h198, h⟩ := bs h
        refine cw (a_ref34_small I hI word_0 h198) <| zz ?_
        obtain ⟨r199, h200, h⟩ := bs h
        refine cw (a_ref34_among hI h200) <| zz ?_
        subst hK196 gK196
        refine es ?_
        obtain ⟨k,h⟩|⟨k,h⟩:=iK k h
        ·refine xt <| xs <| rz ?_
         refine es <| xr <| br <| er ?_
         cases h
         exact en fr
        ·refine xf <| xs <| rK fun K209 RK209 hK209 gK209 => zz ?_
         obtain ⟨r210, h211, h⟩ := bs h
         refine cw (a_ref34_small I hI next_1 h211) <| zz ?_
         obtain ⟨r212, h213, h⟩ := bs h
         refine cw (a_ref34_among hI h213) <| zz ?_
         subst hK209 gK209
         refine es ?_
         obtain ⟨k,h⟩|⟨k,h⟩:=iK k h
         ·refine xt <| xs <| rz ?_
          refine es <| xr <| br <| er ?_
          cases h
          exact en fr
         ·refine xf <| xk <| bn <| es <| xs <| rz ?_
          refine es <| xr ?_
          cases h
          exact en fr
  ·refine xf <| xk <| es <| xs <| xb <| xs <| rz ?_
   refine es <| xf <| xs <| rz ?_
   refine es ?_
   obtain ⟨k,h⟩|⟨k,h⟩:=iK k h
   ·refine xt <| xs <| rz ?_
    refine es <| xr <| br <| er ?_
    cases h
    exact en fr
   ·refine xf <| xs <| rz ?_
    refine es <| xf <| xs <| rK fun K268 RK268 hK268 gK268 => zz ?_
    obtain ⟨r269, h270, h⟩ := bs h
    refine cw (a_ref34_small I hI word_0 h270) <| zz ?_
    obtain ⟨r271, h272, h⟩ := bs h
    refine cw (a_ref34_among hI h272) <| zz ?_
    subst hK268 gK268
    refine es ?_
    obtain ⟨k,h⟩|⟨k,h⟩:=iK k h
    ·refine xt <| xs <| rz ?_
     refine es <| xr <| br <| er ?_
     cases h
     exact en fr
    ·refine xf <| xs <| rK fun K281 RK281 hK281 gK281 => zz ?_
     obtain ⟨r282, h283, h⟩ := bs h
     refine cw (a_ref34_small I hI next_1 h283) <| zz ?_
     obtain ⟨r284, h285, h⟩ := bs h
     refine cw (a_ref34_among hI h285) <| zz ?_
     subst hK281 gK281
     refine es ?_
     obtain ⟨k,h⟩|⟨k,h⟩:=iK k h
     ·refine xt <| xs <| rz ?_
      refine es <| xr <| br <| er ?_
      cases h
      exact en fr
     ·refine xf <| xk <| bn <| es <| xs <| rz ?_
      refine es <| xr ?_
      cases h
      exact en fr
def g_ref38_paragraph_s1 (s_0 : A_Sh) (to_2 : Int) (x7 : Int × (List A_Token)) : Option (Nx (Int × (List A_Token)) ((List A_Token))) :=
 (if (decide (x7.1 < to_2)) then (if (decide ((IntKind.i64.wrap (x7.1 + 1)) < (s_0.Words.length : Int))) then ((atI s_0.Words x7.1).bind fun y161 => ((atI s_0.Words (IntKind.i64.wrap (x7.1 + 1))).bind fun y163 => ((g_ref34_Sg y161.Text y163.Text).bind fun r165 => (if (x7.2.length + 1) * 24 ≤ 140737488355328 then (some (.go ((IntKind.i64.wrap (x7.1 + 1)), (x7.2 ++ [(A_Token.mk y161.Text r165)])))) else none)))) else ((atI s_0.Words x7.1).bind fun y172 => (if (x7.2.length + 1) * 24 ≤ 140737488355328 then (some (.go ((IntKind.i64.wrap (x7.1 + 1)), (x7.2 ++ [(A_Token.mk y172.Text 5)])))) else none))) else (some (.out x7.2)))
def g_ref38_paragraph (s_0 : A_Sh) (from_1 : Int) (to_2 : Int) : Option (A_Pg) :=
 ((iter (g_ref38_paragraph_s1 s_0 to_2) (from_1, [])).bind fun e8 => (some (A_Pg.mk e8 s_0.House.Cols s_0.House.Rows s_0.Table)))
theorem a_ref38_paragraph {I : World → Prop} (hI : Stab I) {s_0 : A_Sh} {from_1 : Int} {to_2 : Int} {r : A_Pg} (h : g_ref38_paragraph s_0 from_1 to_2 = some r) : AFun Tryz.prog I 31 [A_Sh.d s_0, .int .i64 from_1, .int .i64 to_2] (A_Pg.d r) := by
 have dd := And.intro dd_EE <| And.intro dd_EB <| And.intro dd_EA <| And.intro dd_EC dd_ED; have k := True.intro; have q := k; have rs := Tryz.results31
 unfold g_ref38_paragraph at h
 refine .en hI Tryz.func31 Tryz.ntmps31 ?_
 refine xs <| rz ?_
 refine es <| xs <| rz ?_
 refine es <| xs <| xs <| rz ?_
 refine es <| xb ?_
 obtain ⟨e8, h177, h⟩ := bs h
 refine rb_loop (fun x7 => ⟨envL [(2, .int .i64 to_2), (3, .ptr 0 0), (6, .ptr 1 0), (7, .ptr 2 0), (8, .int .i64 x7.1)], heapL [(0, .box none [.int .u8 s_0.Rate, .sl (s_0.Words.map A_Word.d), .sl (s_0.Shots.map (D.int .i64)), .int .i64 s_0.Table.Sg.a0, .int .i64 s_0.Table.Sg.a1, .int .i64 s_0.Table.Sg.a2, .int .i64 s_0.Table.Sg.a3, .int .i64 s_0.Table.Sg.a4, .int .i64 s_0.Table.Sg.a5, .int .i64 s_0.Table.Rgd, .int .i64 s_0.Table.Row, .int .i64 s_0.Table.Event, .int .i64 s_0.Table.Fast, .int .i64 s_0.Table.Gap, .int .i64 s_0.Table.Shot, .str s_0.House.Name, .int .i64 s_0.House.Reading, .int .i64 s_0.House.MnF, .int .i64 s_0.House.MxF, .int .i64 s_0.House.MnG, .int .i64 s_0.House.ShB, .int .i64 s_0.House.ShA, .int .i64 s_0.House.Rows, .int .i64 s_0.House.Cols, .str s_0.House.Fbd, .int .i64 s_0.House.SfT, .int .i64 s_0.House.SfB, .int .i64 s_0.House.SfL, .int .i64 s_0.House.SfR]), (1, .box none [.nils, .int .i64 0, .int .i64 0, .int .i64 0, .int .i64 0, .int .i64 0, .int .i64 0, .int .i64 0, .int .i64 0, .int .i64 0, .int .i64 0, .int .i64 0, .int .i64 0, .int .i64 0, .int .i64 0]), (2, .box none [.own 3 x7.2.length, .int .i64 s_0.House.Cols, .int .i64 s_0.House.Rows, .int .i64 s_0.Table.Sg.a0, .int .i64 s_0.Table.Sg.a1, .int .i64 s_0.Table.Sg.a2, .int .i64 s_0.Table.Sg.a3, .int .i64 s_0.Table.Sg.a4, .int .i64 s_0.Table.Sg.a5, .int .i64 s_0.Table.Rgd, .int .i64 s_0.Table.Row, .int .i64 s_0.Table.Event, .int .i64 s_0.Table.Fast, .int .i64 s_0.Table.Gap, .int .i64 s_0.Table.Shot]), (3, .vec 90 2 (x7.2.map A_Token.d) false)], 4, 59⟩) (fun _ => .exit 0) (fun e8 => ⟨envL [(6, .ptr 0 0), (7, .ptr 1 0)], heapL [(0, .box none [.nils, .int .i64 0, .int .i64 0, .int .i64 0, .int .i64 0, .int .i64 0, .int .i64 0, .int .i64 0, .int .i64 0, .int .i64 0, .int .i64 0, .int .i64 0, .int .i64 0, .int .i64 0, .int .i64 0]), (1, .box none [.own 2 e8.length, .int .i64 s_0.House.Cols, .int .i64 s_0.House.Rows, .int .i64 s_0.Table.Sg.a0, .int .i64 s_0.Table.Sg.a1, .int .i64 s_0.Table.Sg.a2, .int .i64 s_0.Table.Sg.a3, .int .i64 s_0.Table.Sg.a4, .int .i64 s_0.Table.Sg.a5, .int .i64 s_0.Table.Rgd, .int .i64 s_0.Table.Row, .int .i64 s_0.Table.Event, .int .i64 s_0.Table.Fast, .int .i64 s_0.Table.Gap, .int .i64 s_0.Table.Shot]), (2, .vec 90 2 (e8.map A_Token.d) false)], 3, 59⟩) h177 (wk [(2, some 11), (3, none)]) (by intro w; simp) ?_ ?_
 ·clear h
  intro x7 y h
  unfold g_ref38_paragraph_s1 at h
  refine xs <| xs <| rz ?_
  refine es ?_
  obtain ⟨k,h⟩|⟨k,h⟩:=iK k h
  ·refine xt <| xk <| es <| xs <| xb <| xs <| rz ?_
   refine es <| xs <| xs <| rz ?_
   refine es ?_
   obtain ⟨k,h⟩|⟨k,h⟩:=iK k h
   ·refine xt <| rD hI fun K160 RK160 hK160 gK160 => zz ?_
    obtain ⟨y161, q, h⟩ := bK q h
    refine zz ?_
    obtain ⟨y163, q, h⟩ := bK q h
    refine zz ?_
    obtain ⟨r165, h166, h⟩ := bs h
    refine cd (a_ref34_Sg hI h166) <| zz ?_
    subst hK160 gK160
    refine es <| rD hI fun K167 RK167 hK167 gK167 => zz ?_
    obtain ⟨h168, h⟩ := ite_on h
    have h169 : x7.2.length + 1 ≤ 9223372036854775807 := by omega
    try simp only [Nat.reduceLeDiff] at h169
    have q := And.intro @h169 <| And.intro @h168 <| q
    refine zz ?_
    refine hd <| zz ?_
    refine hd <| zz ?_
    subst hK167 gK167
    refine bn <| es <| rz ?_
    cases h
    exact en ⟨rfl, wk [(3, some 40)]⟩
   ·refine xf <| xk <| es <| rD hI fun K171 RK171 hK171 gK171 => zz ?_
    obtain ⟨y172, q, h⟩ := bK q h
    refine zz ?_
    obtain ⟨h174, h⟩ := ite_on h
    have h175 : x7.2.length + 1 ≤ 9223372036854775807 := by omega
    try simp only [Nat.reduceLeDiff] at h175
    have q := And.intro @h175 <| And.intro @h174 <| q
    refine zz ?_
    refine hd <| zz ?_
    refine hd <| zz ?_
    subst hK171 gK171
    refine bn <| es <| rz ?_
    cases h
    exact en ⟨rfl, wk [(3, some 25)]⟩
  ·refine xf <| xx <| ee ?_
   cases h
   exact en ⟨rfl, wk [(0, some 1), (1, some 2), (2, some 3)]⟩
 ·refine bh <| es <| xs <| rz ?_
  refine es <| xr ?_
  cases h
  exact en fr
def g_ref34_Check_s2 (y325 : A_Token) (x334 : Int) : Option (Nx (Int) (Unit ⊕ Unit)) :=
 (if (decide (x334 < (y325.Text.length : Int))) then ((atI y325.Text x334).bind fun b396 => (if ((b396.toNat : Int) == 32) then (some (.out (.inl ()))) else (some (.go (IntKind.i64.wrap (x334 + 1)))))) else (some (.out (.inr ()))))
def g_ref34_Check_s1 (l_0 : List A_Token) (x10 : Int) : Option (Nx (Int) (Int ⊕ Unit)) :=
 (if (decide (x10 < (l_0.length : Int))) then ((atI l_0 x10).bind fun y325 => (if (y325.Text == ([] : List UInt8)) then (some (.out (.inl 4))) else ((iter (g_ref34_Check_s2 y325) 0).bind fun e335 => (match e335 with | Sum.inl e335 => (some (.out (.inl 4))) | Sum.inr (e335) => ((g_ref08_Valid y325.Text).bind fun r407 => (if r407 then (if (decide (y325.Sg < 0)) then (some (.out (.inl 2))) else (if (decide (5 < y325.Sg)) then (some (.out (.inl 2))) else (some (.go (IntKind.i64.wrap (x10 + 1)))))) else (some (.out (.inl 10))))))))) else (some (.out (.inr ()))))
def g_ref34_Check (l_0 : List A_Token) : Option (Int) :=
 (if (decide (200 < (l_0.length : Int))) then (some 9) else ((iter (g_ref34_Check_s1 l_0) 0).bind fun e11 => (match e11 with | Sum.inl e11 => (some e11) | Sum.inr (e11) => (some 0))))
theorem a_ref34_Check {I : World → Prop} (hI : Stab I) {l_0 : List A_Token} {r : Int} (h : g_ref34_Check l_0 = some r) : AFun Tryz.prog I 124 [.sl (l_0.map A_Token.d)] (.int .i64 r) := by
 have dd := And.intro dd_EE <| And.intro dd_EB <| And.intro dd_EA <| And.intro dd_EC dd_ED; have k := True.intro; have q := k; have rs := Tryz.results124
 unfold g_ref34_Check at h
 refine .en hI Tryz.func124 Tryz.ntmps124 ?_
 refine xs <| rz ?_
 refine es <| xs <| xs <| rz ?_
 refine es ?_
 obtain ⟨k,h⟩|⟨k,h⟩:=iK k h
 ·refine xt <| xs <| rz ?_
  refine es <| xr <| er ?_
  cases h
  exact en fr
 ·refine xf <| xk <| es <| xs <| xs <| rz ?_
  refine es <| xb ?_
  obtain ⟨e11, h422, h⟩ := bs h
  refine rb_loop (fun x10 => ⟨envL [(9, .sl (l_0.map A_Token.d)), (10, .int .i64 (l_0.length : Int)), (11, .int .i64 x10)], heapL [], 0, 43⟩) (fun w => match w with | Sum.inl _ => .ret | Sum.inr (_) => .exit 0) (fun w => match w with | Sum.inl e11 => ⟨envL [(2, .int .i64 e11)], heapL [], 0, 43⟩ | Sum.inr (e11) => ⟨envL [], heapL [], 0, 43⟩) h422 (wk []) (by intro w; rcases w with w | w <;> simp) ?_ ?_
  ·clear h
   intro x10 y h
   unfold g_ref34_Check_s1 at h
   refine xs <| rz ?_
   refine es <| xs ?_
   obtain ⟨k,h⟩|⟨k,h⟩:=iK k h
   ·refine xt <| xk <| es <| xs <| xb <| xs <| rK fun K324 RK324 hK324 gK324 => zz ?_
    obtain ⟨y325, q, h⟩ := bK q h
    refine zz ?_
    subst hK324 gK324
    refine es <| xs <| xs <| rz ?_
    refine es ?_
    obtain ⟨k,h⟩|⟨k,h⟩:=iK k h
    ·refine xt <| xs <| rz ?_
     refine es <| xr <| er <| br <| er ?_
     cases h
     exact en ⟨rfl, wk []⟩
    ·refine xf <| xk <| es <| xs <| xs <| rz ?_
     refine es <| xb ?_
     obtain ⟨e335, h402, h⟩ := bs h
     refine rb_loop (fun x334 => ⟨envL [(4, .ptr 0 0), (5, .int .i64 x334), (9, .sl (l_0.map A_Token.d)), (10, .int .i64 (l_0.length : Int)), (11, .int .i64 x10)], heapL [(0, .box none [.str y325.Text, .int .i64 y325.Sg])], 1, 43⟩) (fun w => match w with | Sum.inl _ => .ret | Sum.inr (_) => .exit 2) (fun w => match w with | Sum.inl e335 => ⟨envL [(2, .int .i64 4)], heapL [], 0, 43⟩ | Sum.inr (e335) => ⟨envL [(4, .ptr 0 0), (9, .sl (l_0.map A_Token.d)), (10, .int .i64 (l_0.length : Int)), (11, .int .i64 x10)], heapL [(0, .box none [.str y325.Text, .int .i64 y325.Sg])], 1, 43⟩) h402 (wk [(0, some 3)]) (by intro w; rcases w with w | w <;> simp) ?_ ?_
     ·clear h
      intro x334 y h
      unfold g_ref34_Check_s2 at h
      refine xs <| xs <| rz ?_
      refine es ?_
      obtain ⟨k,h⟩|⟨k,h⟩:=iK k h
      ·refine xt <| xk <| es <| xs <| xb <| xs <| rK fun K395 RK395 hK395 gK395 => zz ?_
       obtain ⟨b396, q, h⟩ := bK q h
       refine zz ?_
       subst hK395 gK395
       refine es ?_
       obtain ⟨k,h⟩|⟨k,h⟩:=iK k h
       ·refine xt <| xs <| rz ?_
        refine es <| xr <| br <| er ?_
        cases h
        exact en ⟨rfl, wk []⟩
       ·refine xf <| xk <| bn <| es <| rz ?_
        cases h
        exact en ⟨rfl, wk []⟩
      ·refine xf <| xx <| ee ?_
       cases h
       exact en ⟨rfl, wk []⟩
     ·rcases e335 with e335 | e335
      ·try dsimp only at h ⊢
       refine br <| er <| br <| er ?_
       cases h
       exact en ⟨rfl, wk []⟩
      ·try dsimp only at h ⊢
       refine bh <| es <| xs <| xs <| rK fun K406 RK406 hK406 gK406 => zz ?_
       obtain ⟨r407, h408, h⟩ := bs h
       refine cw (a_ref08_Valid hI h408) <| zz ?_
       subst hK406 gK406
       refine es ?_
       obtain ⟨k,h⟩|⟨k,h⟩:=iK k h
       ·refine xf <| xk <| es <| xs <| rK fun K412 RK412 hK412 gK412 => zz ?_
        obtain ⟨k,h⟩|⟨k,h⟩:=iK k h
        ·refine zz ?_
         subst hK412 gK412
         refine es <| xt <| xs <| rz ?_
         refine es <| xr <| br <| er ?_
         cases h
         exact en ⟨rfl, wk []⟩
        ·refine zz ?_
         subst hK412 gK412
         refine es ?_
         obtain ⟨k,h⟩|⟨k,h⟩:=iK k h
         ·refine xt <| xs <| rz ?_
          refine es <| xr <| br <| er ?_
          cases h
          exact en ⟨rfl, wk []⟩
         ·refine xf <| xk <| bn <| es <| rz ?_
          cases h
          exact en ⟨rfl, wk []⟩
       ·refine xt <| xs <| rz ?_
        refine es <| xr <| er <| br <| er ?_
        cases h
        exact en ⟨rfl, wk []⟩
   ·refine xf <| xx <| ee ?_
    cases h
    exact en ⟨rfl, wk []⟩
  ·rcases e11 with e11 | e11
   ·try dsimp only at h ⊢
    refine br <| er ?_
    cases h
    exact en fr
   ·try dsimp only at h ⊢
    refine bh <| es <| xs <| rz ?_
    refine es <| xr ?_
    cases h
    exact en fr
def g_ref36_Check (p_0 : A_Pg) : Option (Int) :=
 ((g_ref34_Check p_0.Tokens).bind fun r7 => (if (r7 != 0) then (some r7) else (if ((p_0.Tokens.length : Int) == 0) then (some 6) else (((if (decide (p_0.Width < 1)) then (some true) else (if (decide (32 < p_0.Width)) then (some true) else (if (decide (p_0.Rows < 1)) then (some true) else (some (decide (4 < p_0.Rows)))))) : Option (Bool)).bind fun v45 => (if v45 then (some 2) else ((g_ref35_Check p_0.Table).bind fun r58 => (some r58)))))))
theorem a_ref36_Check {I : World → Prop} (hI : Stab I) {p_0 : A_Pg} {r : Int} (h : g_ref36_Check p_0 = some r) : AFun Tryz.prog I 71 [A_Pg.d p_0] (.int .i64 r) := by
 have dd := And.intro dd_EE <| And.intro dd_EB <| And.intro dd_EA <| And.intro dd_EC dd_ED; have k := True.intro; have q := k; have rs := Tryz.results71
 unfold g_ref36_Check at h
 refine .en hI Tryz.func71 Tryz.ntmps71 ?_
 refine xs <| rz ?_
 refine es <| xs <| xs <| rK fun K6 RK6 hK6 gK6 => zz ?_
 obtain ⟨r7, h8, h⟩ := bs h
 refine cw (a_ref34_Check hI h8) <| zz ?_
 subst hK6 gK6
 refine es <| xs <| rz ?_
 refine es ?_
 obtain ⟨k,h⟩|⟨k,h⟩:=iK k h
 ·refine xt <| xs <| rz ?_
  refine es <| xr <| er ?_
  cases h
  exact en fr
 ·refine xf <| xk <| es <| xs <| xb <| xs <| rz ?_
  refine es ?_
  obtain ⟨k,h⟩|⟨k,h⟩:=iK k h
  ·refine xt <| xs <| rz ?_
   refine es <| xr <| br <| er ?_
   cases h
   exact en fr
  ·refine xf ?_
   obtain ⟨v45, h50, h⟩ := bs h
   refine rb_cut (fun v45 => ⟨envL [(1, .ptr 0 0), (15, .bool v45)], heapL [(0, .box none [.sl (p_0.Tokens.map A_Token.d), .int .i64 p_0.Width, .int .i64 p_0.Rows, .int .i64 p_0.Table.Sg.a0, .int .i64 p_0.Table.Sg.a1, .int .i64 p_0.Table.Sg.a2, .int .i64 p_0.Table.Sg.a3, .int .i64 p_0.Table.Sg.a4, .int .i64 p_0.Table.Sg.a5, .int .i64 p_0.Table.Rgd, .int .i64 p_0.Table.Row, .int .i64 p_0.Table.Event, .int .i64 p_0.Table.Fast, .int .i64 p_0.Table.Gap, .int .i64 p_0.Table.Shot])], 1, 37⟩) h50 ?_ ?_
   ·clear h
    intro v45 h
    refine rK fun K46 RK46 hK46 gK46 => zz ?_
    obtain ⟨k,h⟩|⟨k,h⟩:=iK k h
    ·refine zz ?_
     subst hK46 gK46
     cases h
     exact en ⟨rfl, wk []⟩
    ·refine zz ?_
     obtain ⟨k,h⟩|⟨k,h⟩:=iK k h
     ·refine zz ?_
      subst hK46 gK46
      cases h
      exact en ⟨rfl, wk []⟩
     ·refine zz ?_
      obtain ⟨k,h⟩|⟨k,h⟩:=iK k h
      ·refine zz ?_
       subst hK46 gK46
       cases h
       exact en ⟨rfl, wk []⟩
      ·refine zz ?_
       subst hK46 gK46
       cases h
       exact en ⟨rfl, wk []⟩
   ·obtain ⟨k,h⟩|⟨k,h⟩:=iK k h
    ·refine xt <| xs <| rz ?_
     refine es <| xr <| br <| er ?_
     cases h
     exact en fr
    ·refine xf <| xk <| bn <| es <| xs <| rK fun K57 RK57 hK57 gK57 => zz ?_
     obtain ⟨r58, h59, h⟩ := bs h
     refine cw (a_ref35_Check hI h59) <| zz ?_
     subst hK57 gK57
     refine es <| xr ?_
     cases h
     exact en fr
def g_ref08_Len (s_0 : List UInt8) : Option (Int) :=
 ((g_ref08_Valid s_0).bind fun r7 => (if r7 then ((g_ref08_runes s_0).bind fun r14 => (some (r14.length : Int))) else (some (-1))))
theorem a_ref08_Len {I : World → Prop} (hI : Stab I) {s_0 : List UInt8} {r : Int} (h : g_ref08_Len s_0 = some r) : AFun Tryz.prog I 33 [.str s_0] (.int .i64 r) := by
 have dd := And.intro dd_EE <| And.intro dd_EB <| And.intro dd_EA <| And.intro dd_EC dd_ED; have k := True.intro; have q := k; have rs := Tryz.results33
 unfold g_ref08_Len at h
 refine .en hI Tryz.func33 Tryz.ntmps33 ?_
 refine xs <| rz ?_
 refine es <| xs <| xs <| rK fun K6 RK6 hK6 gK6 => zz ?_
 obtain ⟨r7, h8, h⟩ := bs h
 refine cw (a_ref08_Valid hI h8) <| zz ?_
 subst hK6 gK6
 refine es ?_
 obtain ⟨k,h⟩|⟨k,h⟩:=iK k h
 ·refine xf <| xk <| es <| xs <| rK fun K13 RK13 hK13 gK13 => zz ?_
  obtain ⟨r14, h15, h⟩ := bs h
  refine cw (a_ref08_runes hI h15) <| zz ?_
  subst hK13 gK13
  refine es <| xr ?_
  cases h
  exact en fr
 ·refine xt <| xs <| rz ?_
  refine es <| xr <| er ?_
  cases h
  exact en fr
def g_ref34_Len_s1 (l_0 : List A_Token) (from_1 : Int) (to_2 : Int) (x18 : Int × Int) : Option (Nx (Int × Int) (Int)) :=
 (if (decide (x18.2 < to_2)) then (if (decide (from_1 < x18.2)) then ((atI l_0 x18.2).bind fun y75 => ((g_ref08_Len y75.Text).bind fun r77 => (some (.go ((IntKind.i64.wrap ((IntKind.i64.wrap (x18.1 + 1)) + r77)), (IntKind.i64.wrap (x18.2 + 1))))))) else ((atI l_0 x18.2).bind fun y81 => ((g_ref08_Len y81.Text).bind fun r83 => (some (.go ((IntKind.i64.wrap (x18.1 + r83)), (IntKind.i64.wrap (x18.2 + 1)))))))) else (some (.out x18.1)))
def g_ref34_Len (l_0 : List A_Token) (from_1 : Int) (to_2 : Int) : Option (Int) :=
 (((if (decide (from_1 < 0)) then (some true) else (if (decide (to_2 < from_1)) then (some true) else (some (decide ((l_0.length : Int) < to_2))))) : Option (Bool)).bind fun v6 => (if v6 then (some 0) else ((iter (g_ref34_Len_s1 l_0 from_1 to_2) (0, from_1)).bind fun e19 => (some e19))))
theorem a_ref34_Len {I : World → Prop} (hI : Stab I) {l_0 : List A_Token} {from_1 : Int} {to_2 : Int} {r : Int} (h : g_ref34_Len l_0 from_1 to_2 = some r) : AFun Tryz.prog I 125 [.sl (l_0.map A_Token.d), .int .i64 from_1, .int .i64 to_2] (.int .i64 r) := by
 have dd := And.intro dd_EE <| And.intro dd_EB <| And.intro dd_EA <| And.intro dd_EC dd_ED; have k := True.intro; have q := k; have rs := Tryz.results125
 unfold g_ref34_Len at h
 refine .en hI Tryz.func125 Tryz.ntmps125 ?_
 refine xs <| rz ?_
 refine es <| xs ?_
 obtain ⟨v6, h10, h⟩ := bs h
 refine rb_cut (fun v6 => ⟨envL [(0, .sl (l_0.map A_Token.d)), (1, .int .i64 from_1), (2, .int .i64 to_2), (21, .bool v6)], heapL [], 0, 42⟩) h10 ?_ ?_
 ·clear h
  intro v6 h
  refine rK fun K7 RK7 hK7 gK7 => zz ?_
  obtain ⟨k,h⟩|⟨k,h⟩:=iK k h
  ·refine zz ?_
   subst hK7 gK7
   cases h
   exact en ⟨rfl, wk []⟩
  ·refine zz ?_
   obtain ⟨k,h⟩|⟨k,h⟩:=iK k h
   ·refine zz ?_
    subst hK7 gK7
    cases h
    exact en ⟨rfl, wk []⟩
   ·refine zz ?_
    subst hK7 gK7
    cases h
    exact en ⟨rfl, wk []⟩
 ·obtain ⟨k,h⟩|⟨k,h⟩:=iK k h
  ·refine xt <| xs <| rz ?_
   refine es <| xr <| er ?_
   cases h
   exact en fr
  ·refine xf <| xk <| es <| xs <| rz ?_
   refine es <| xs <| xs <| rz ?_
   refine es <| xb ?_
   obtain ⟨e19, h86, h⟩ := bs h
   refine rb_loop (fun x18 => ⟨envL [(0, .sl (l_0.map A_Token.d)), (1, .int .i64 from_1), (2, .int .i64 to_2), (7, .int .i64 x18.1), (8, .int .i64 x18.2)], heapL [], 0, 42⟩) (fun _ => .exit 0) (fun e19 => ⟨envL [(7, .int .i64 e19)], heapL [], 0, 42⟩) h86 (wk []) (by intro w; simp) ?_ ?_
   ·clear h
    intro x18 y h
    unfold g_ref34_Len_s1 at h
    refine xs <| xs <| rz ?_
    refine es ?_
    obtain ⟨k,h⟩|⟨k,h⟩:=iK k h
    ·refine xt <| xk <| es <| xs <| xb <| xs <| xs <| rz ?_
     refine es ?_
     obtain ⟨k,h⟩|⟨k,h⟩:=iK k h
     ·refine xt <| rz ?_
      refine es <| rK fun K74 RK74 hK74 gK74 => zz ?_
      obtain ⟨y75, q, h⟩ := bK q h
      refine zz ?_
      obtain ⟨r77, h78, h⟩ := bs h
      refine cw (a_ref08_Len hI h78) <| zz ?_
      subst hK74 gK74
      refine bn <| es <| rz ?_
      cases h
      exact en ⟨rfl, wk []⟩
     ·refine xf <| xk <| es <| rK fun K80 RK80 hK80 gK80 => zz ?_
      obtain ⟨y81, q, h⟩ := bK q h
      refine zz ?_
      obtain ⟨r83, h84, h⟩ := bs h
      refine cw (a_ref08_Len hI h84) <| zz ?_
      subst hK80 gK80
      refine bn <| es <| rz ?_
      cases h
      exact en ⟨rfl, wk []⟩
    ·refine xf <| xx <| ee ?_
     cases h
     exact en ⟨rfl, wk []⟩
   ·refine bh <| es <| xs <| rz ?_
    refine es <| xr ?_
    cases h
    exact en fr
def g_ref36_Fits (p_0 : A_Pg) (i_1 : Int) (j_2 : Int) : Option (Bool) :=
 ((g_ref34_Len p_0.Tokens i_1 j_2).bind fun r7 => (some (decide (r7 ≤ p_0.Width))))
theorem a_ref36_Fits {I : World → Prop} (hI : Stab I) {p_0 : A_Pg} {i_1 : Int} {j_2 : Int} {r : Bool} (h : g_ref36_Fits p_0 i_1 j_2 = some r) : AFun Tryz.prog I 73 [A_Pg.d p_0, .int .i64 i_1, .int .i64 j_2] (.bool r) := by
 have dd := And.intro dd_EE <| And.intro dd_EB <| And.intro dd_EA <| And.intro dd_EC dd_ED; have k := True.intro; have q := k; have rs := Tryz.results73
 unfold g_ref36_Fits at h
 refine .en hI Tryz.func73 Tryz.ntmps73 ?_
 refine xs <| rz ?_
 refine es <| xs <| rD hI fun K6 RK6 hK6 gK6 => zz ?_
 obtain ⟨r7, h8, h⟩ := bs h
 refine cd (a_ref34_Len hI h8) <| zz ?_
 subst hK6 gK6
 refine es <| xr ?_
 cases h
 exact en fr
def g_ref35_within (n_0 : Int) (lo_1 : Int) (hi_2 : Int) : Option (Bool) :=
 (if (decide (lo_1 ≤ n_0)) then (some (decide (n_0 ≤ hi_2))) else (some false))
theorem a_ref35_within {I : World → Prop} (hI : Stab I) {n_0 : Int} {lo_1 : Int} {hi_2 : Int} {r : Bool} (h : g_ref35_within n_0 lo_1 hi_2 = some r) : AFun Tryz.prog I 79 [.int .i64 n_0, .int .i64 lo_1, .int .i64 hi_2] (.bool r) := by
 have dd := And.intro dd_EE <| And.intro dd_EB <| And.intro dd_EA <| And.intro dd_EC dd_ED; have k := True.intro; have q := k; have rs := Tryz.results79
 unfold g_ref35_within at h
 refine .en hI Tryz.func79 Tryz.ntmps79 ?_
 refine xs <| rz ?_
 refine es <| xs <| rK fun K5 RK5 hK5 gK5 => zz ?_
 obtain ⟨k,h⟩|⟨k,h⟩:=iK k h
 ·refine zz ?_
  subst hK5 gK5
  refine es <| xr ?_
  cases h
  exact en fr
 ·refine zz ?_
  subst hK5 gK5
  refine es <| xr ?_
  cases h
  exact en fr
def g_ref35_Aim (total_0 : Int) (width_1 : Int) : Option (Int × Int) :=
 ((((g_ref35_within total_0 1 10000).bind fun r11 => (if r11 then ((g_ref35_within width_1 1 32).bind fun r14 => (some (!r14))) else (some true))) : Option (Bool)).bind fun v9 => (if v9 then (some (0, 2)) else (if ¬ width_1 = 0 then (if ¬ (IntKind.i64.wrap (Int.tdiv (IntKind.i64.wrap ((IntKind.i64.wrap (total_0 + width_1)) - 1)) width_1)) = 0 then (some ((IntKind.i64.wrap (Int.tdiv (IntKind.i64.wrap ((IntKind.i64.wrap (total_0 + (IntKind.i64.wrap (Int.tdiv (IntKind.i64.wrap ((IntKind.i64.wrap (total_0 + width_1)) - 1)) width_1)))) - 1)) (IntKind.i64.wrap (Int.tdiv (IntKind.i64.wrap ((IntKind.i64.wrap (total_0 + width_1)) - 1)) width_1)))), 0)) else none) else none)))
theorem a_ref35_Aim {I : World → Prop} (hI : Stab I) {total_0 : Int} {width_1 : Int} {r : Int × Int} (h : g_ref35_Aim total_0 width_1 = some r) : AFun Tryz.prog I 126 [.int .i64 total_0, .int .i64 width_1] (.tup [.int .i64 r.1, .int .i64 r.2]) := by
 have dd := And.intro dd_EE <| And.intro dd_EB <| And.intro dd_EA <| And.intro dd_EC dd_ED; have k := True.intro; have q := k; have rs := Tryz.results126
 unfold g_ref35_Aim at h
 refine .en hI Tryz.func126 Tryz.ntmps126 ?_
 refine xs <| rz ?_
 refine es <| xs ?_
 obtain ⟨v9, h16, h⟩ := bs h
 refine rb_cut (fun v9 => ⟨envL [(0, .int .i64 total_0), (1, .int .i64 width_1), (14, .bool v9)], heapL [], 0, 27⟩) h16 ?_ ?_
 ·clear h
  intro v9 h
  refine rK fun K10 RK10 hK10 gK10 => zz ?_
  obtain ⟨r11, h12, h⟩ := bs h
  refine cw (a_ref35_within hI h12) <| zz ?_
  obtain ⟨k,h⟩|⟨k,h⟩:=iK k h
  ·refine zz ?_
   obtain ⟨r14, h15, h⟩ := bs h
   refine cw (a_ref35_within hI h15) <| zz ?_
   subst hK10 gK10
   cases h
   exact en ⟨rfl, wk []⟩
  ·refine zz ?_
   subst hK10 gK10
   cases h
   exact en ⟨rfl, wk []⟩
 ·obtain ⟨k,h⟩|⟨k,h⟩:=iK k h
  ·refine xt <| xs <| rz ?_
   refine es <| xr <| er ?_
   cases h
   exact en fr
  ·refine xf <| xk <| es <| xs <| rK fun K21 RK21 hK21 gK21 => zz ?_
   obtain ⟨q, h⟩ := oK q h
   refine zz ?_
   subst hK21 gK21
   refine es <| xs <| rK fun K23 RK23 hK23 gK23 => zz ?_
   obtain ⟨q, h⟩ := oK q h
   refine zz ?_
   subst hK23 gK23
   refine es <| xr ?_
   cases h
   exact en fr
def g_ref35_Row (t_0 : A_Pn) (aim_1 : Int) (length_2 : Int) (strength_3 : Int) : Option (Int × Int) :=
 ((g_ref35_Check t_0).bind fun r7 => (if (r7 != 0) then (some (0, r7)) else ((((g_ref35_within aim_1 1 32).bind fun r25 => (if r25 then ((g_ref35_within length_2 1 32).bind fun r28 => (if r28 then ((g_ref35_within strength_3 (-1) 5).bind fun r31 => (some (!r31))) else (some true))) else (some true))) : Option (Bool)).bind fun v23 => (if v23 then (some (0, 2)) else (if (decide ((IntKind.i64.wrap (aim_1 - length_2)) < 0)) then (if (decide (0 ≤ strength_3)) then (if strength_3 == 0 then (some ((IntKind.i64.wrap ((IntKind.i64.wrap (t_0.Row + (IntKind.i64.wrap (t_0.Rgd * (IntKind.i64.wrap (0 - (IntKind.i64.wrap (aim_1 - length_2)))))))) + t_0.Sg.a0)), 0)) else (if strength_3 == 1 then (some ((IntKind.i64.wrap ((IntKind.i64.wrap (t_0.Row + (IntKind.i64.wrap (t_0.Rgd * (IntKind.i64.wrap (0 - (IntKind.i64.wrap (aim_1 - length_2)))))))) + t_0.Sg.a1)), 0)) else (if strength_3 == 2 then (some ((IntKind.i64.wrap ((IntKind.i64.wrap (t_0.Row + (IntKind.i64.wrap (t_0.Rgd * (IntKind.i64.wrap (0 - (IntKind.i64.wrap (aim_1 - length_2)))))))) + t_0.Sg.a2)), 0)) else (if strength_3 == 3 then (some ((IntKind.i64.wrap ((IntKind.i64.wrap (t_0.Row + (IntKind.i64.wrap (t_0.Rgd * (IntKind.i64.wrap (0 - (IntKind.i64.wrap (aim_1 - length_2)))))))) + t_0.Sg.a3)), 0)) else (if strength_3 == 4 then (some ((IntKind.i64.wrap ((IntKind.i64.wrap (t_0.Row + (IntKind.i64.wrap (t_0.Rgd * (IntKind.i64.wrap (0 - (IntKind.i64.wrap (aim_1 - length_2)))))))) + t_0.Sg.a4)), 0)) else (if strength_3 == 5 then (some ((IntKind.i64.wrap ((IntKind.i64.wrap (t_0.Row + (IntKind.i64.wrap (t_0.Rgd * (IntKind.i64.wrap (0 - (IntKind.i64.wrap (aim_1 - length_2)))))))) + t_0.Sg.a5)), 0)) else none)))))) else (some ((IntKind.i64.wrap (t_0.Row + (IntKind.i64.wrap (t_0.Rgd * (IntKind.i64.wrap (0 - (IntKind.i64.wrap (aim_1 - length_2)))))))), 0))) else (if (decide (0 ≤ strength_3)) then (if strength_3 == 0 then (some ((IntKind.i64.wrap ((IntKind.i64.wrap (t_0.Row + (IntKind.i64.wrap (t_0.Rgd * (IntKind.i64.wrap (aim_1 - length_2)))))) + t_0.Sg.a0)), 0)) else (if strength_3 == 1 then (some ((IntKind.i64.wrap ((IntKind.i64.wrap (t_0.Row + (IntKind.i64.wrap (t_0.Rgd * (IntKind.i64.wrap (aim_1 - length_2)))))) + t_0.Sg.a1)), 0)) else (if strength_3 == 2 then (some ((IntKind.i64.wrap ((IntKind.i64.wrap (t_0.Row + (IntKind.i64.wrap (t_0.Rgd * (IntKind.i64.wrap (aim_1 - length_2)))))) + t_0.Sg.a2)), 0)) else (if strength_3 == 3 then (some ((IntKind.i64.wrap ((IntKind.i64.wrap (t_0.Row + (IntKind.i64.wrap (t_0.Rgd * (IntKind.i64.wrap (aim_1 - length_2)))))) + t_0.Sg.a3)), 0)) else (if strength_3 == 4 then (some ((IntKind.i64.wrap ((IntKind.i64.wrap (t_0.Row + (IntKind.i64.wrap (t_0.Rgd * (IntKind.i64.wrap (aim_1 - length_2)))))) + t_0.Sg.a4)), 0)) else (if strength_3 == 5 then (some ((IntKind.i64.wrap ((IntKind.i64.wrap (t_0.Row + (IntKind.i64.wrap (t_0.Rgd * (IntKind.i64.wrap (aim_1 - length_2)))))) + t_0.Sg.a5)), 0)) else none)))))) else (some ((IntKind.i64.wrap (t_0.Row + (IntKind.i64.wrap (t_0.Rgd * (IntKind.i64.wrap (aim_1 - length_2)))))), 0))))))))
theorem a_ref35_Row {I : World → Prop} (hI : Stab I) {t_0 : A_Pn} {aim_1 : Int} {length_2 : Int} {strength_3 : Int} {r : Int × Int} (h : g_ref35_Row t_0 aim_1 length_2 strength_3 = some r) : AFun Tryz.prog I 127 [A_Pn.d t_0, .int .i64 aim_1, .int .i64 length_2, .int .i64 strength_3] (.tup [.int .i64 r.1, .int .i64 r.2]) := by
 have dd := And.intro dd_EE <| And.intro dd_EB <| And.intro dd_EA <| And.intro dd_EC dd_ED; have k := True.intro; have q := k; have rs := Tryz.results127
 unfold g_ref35_Row at h
 refine .en hI Tryz.func127 Tryz.ntmps127 ?_
 refine xs <| rz ?_
 refine es <| xs <| xs <| rK fun K6 RK6 hK6 gK6 => zz ?_
 obtain ⟨r7, h8, h⟩ := bs h
 refine cw (a_ref35_Check hI h8) <| zz ?_
 subst hK6 gK6
 refine es <| xs <| rz ?_
 refine es ?_
 obtain ⟨k,h⟩|⟨k,h⟩:=iK k h
 ·refine xt <| xs <| rz ?_
  refine es <| xr <| er ?_
  cases h
  exact en fr
 ·refine xf <| xk <| es <| xs ?_
  obtain ⟨v23, h33, h⟩ := bs h
  refine rb_cut (fun v23 => ⟨envL [(1, .int .i64 aim_1), (2, .int .i64 length_2), (3, .int .i64 strength_3), (4, .iptr [.int .i64 t_0.Sg.a0, .int .i64 t_0.Sg.a1, .int .i64 t_0.Sg.a2, .int .i64 t_0.Sg.a3, .int .i64 t_0.Sg.a4, .int .i64 t_0.Sg.a5, .int .i64 t_0.Rgd, .int .i64 t_0.Row, .int .i64 t_0.Event, .int .i64 t_0.Fast, .int .i64 t_0.Gap, .int .i64 t_0.Shot]), (30, .bool v23)], heapL [], 0, 54⟩) h33 ?_ ?_
  ·clear h
   intro v23 h
   refine rK fun K24 RK24 hK24 gK24 => zz ?_
   obtain ⟨r25, h26, h⟩ := bs h
   refine cw (a_ref35_within hI h26) <| zz ?_
   obtain ⟨k,h⟩|⟨k,h⟩:=iK k h
   ·refine zz ?_
    obtain ⟨r28, h29, h⟩ := bs h
    refine cw (a_ref35_within hI h29) <| zz ?_
    obtain ⟨k,h⟩|⟨k,h⟩:=iK k h
    ·refine zz ?_
     obtain ⟨r31, h32, h⟩ := bs h
     refine cw (a_ref35_within hI h32) <| zz ?_
     subst hK24 gK24
     cases h
     exact en ⟨rfl, wk []⟩
    ·refine zz ?_
     subst hK24 gK24
     cases h
     exact en ⟨rfl, wk []⟩
   ·refine zz ?_
    subst hK24 gK24
    cases h
    exact en ⟨rfl, wk []⟩
  ·obtain ⟨k,h⟩|⟨k,h⟩:=iK k h
   ·refine xt <| xs <| rz ?_
    refine es <| xr <| er ?_
    cases h
    exact en fr
   ·refine xf <| xk <| es <| xs <| rz ?_
    refine es <| xs <| xs <| rz ?_
    refine es ?_
    obtain ⟨k,h⟩|⟨k,h⟩:=iK k h
    ·refine xt <| rz ?_
     refine es <| xs <| rz ?_
     refine es <| xs <| xs <| rz ?_
     refine es ?_
     obtain ⟨k,h⟩|⟨k,h⟩:=iK k h
     ·refine xt <| rK fun K48 RK48 hK48 gK48 => zz ?_
      rcases ite_or h with ⟨k49, h⟩ | ⟨_, h⟩
      ·have k := And.intro (eq_of_beq k49) k
       refine zz ?_
       subst hK48 gK48
       refine es <| xs <| rz ?_
       refine es <| xr ?_
       cases h
       exact en fr
      ·rcases ite_or h with ⟨k52, h⟩ | ⟨_, h⟩
       ·have k := And.intro (eq_of_beq k52) k
        refine zz ?_
        subst hK48 gK48
        refine es <| xs <| rz ?_
        refine es <| xr ?_
        cases h
        exact en fr
       ·rcases ite_or h with ⟨k55, h⟩ | ⟨_, h⟩
        ·have k := And.intro (eq_of_beq k55) k
         refine zz ?_
         subst hK48 gK48
         refine es <| xs <| rz ?_
         refine es <| xr ?_
         cases h
         exact en fr
        ·rcases ite_or h with ⟨k58, h⟩ | ⟨_, h⟩
         ·have k := And.intro (eq_of_beq k58) k
          refine zz ?_
          subst hK48 gK48
          refine es <| xs <| rz ?_
          refine es <| xr ?_
          cases h
          exact en fr
         ·rcases ite_or h with ⟨k61, h⟩ | ⟨_, h⟩
          ·have k := And.intro (eq_of_beq k61) k
           refine zz ?_
           subst hK48 gK48
           refine es <| xs <| rz ?_
           refine es <| xr ?_
           cases h
           exact en fr
          ·rcases ite_or h with ⟨k64, h⟩ | ⟨_, h⟩
           ·have k := And.intro (eq_of_beq k64) k
            refine zz ?_
            subst hK48 gK48
            refine es <| xs <| rz ?_
            refine es <| xr ?_
            cases h
            exact en fr
           ·cases h
     ·refine xf <| xk <| es <| xs <| rz ?_
      refine es <| xr ?_
      cases h
      exact en fr
    ·refine xf <| xk <| es <| xs <| rz ?_
     refine es <| xs <| xs <| rz ?_
     refine es ?_
     obtain ⟨k,h⟩|⟨k,h⟩:=iK k h
     ·refine xt <| rK fun K74 RK74 hK74 gK74 => zz ?_
      rcases ite_or h with ⟨k75, h⟩ | ⟨_, h⟩
      ·have k := And.intro (eq_of_beq k75) k
       refine zz ?_
       subst hK74 gK74
       refine es <| xs <| rz ?_
       refine es <| xr ?_
       cases h
       exact en fr
      ·rcases ite_or h with ⟨k78, h⟩ | ⟨_, h⟩
       ·have k := And.intro (eq_of_beq k78) k
        refine zz ?_
        subst hK74 gK74
        refine es <| xs <| rz ?_
        refine es <| xr ?_
        cases h
        exact en fr
       ·rcases ite_or h with ⟨k81, h⟩ | ⟨_, h⟩
        ·have k := And.intro (eq_of_beq k81) k
         refine zz ?_
         subst hK74 gK74
         refine es <| xs <| rz ?_
         refine es <| xr ?_
         cases h
         exact en fr
        ·rcases ite_or h with ⟨k84, h⟩ | ⟨_, h⟩
         ·have k := And.intro (eq_of_beq k84) k
          refine zz ?_
          subst hK74 gK74
          refine es <| xs <| rz ?_
          refine es <| xr ?_
          cases h
          exact en fr
         ·rcases ite_or h with ⟨k87, h⟩ | ⟨_, h⟩
          ·have k := And.intro (eq_of_beq k87) k
           refine zz ?_
           subst hK74 gK74
           refine es <| xs <| rz ?_
           refine es <| xr ?_
           cases h
           exact en fr
          ·rcases ite_or h with ⟨k90, h⟩ | ⟨_, h⟩
           ·have k := And.intro (eq_of_beq k90) k
            refine zz ?_
            subst hK74 gK74
            refine es <| xs <| rz ?_
            refine es <| xr ?_
            cases h
            exact en fr
           ·cases h
     ·refine xf <| xk <| es <| xs <| rz ?_
      refine es <| xr ?_
      cases h
      exact en fr
def g_ref36_row (p_0 : A_Pg) (i_1 : Int) (j_2 : Int) : Option (Int) :=
 ((g_ref34_Len p_0.Tokens 0 (p_0.Tokens.length : Int)).bind fun r9 => ((g_ref35_Aim r9 p_0.Width).bind fun r11 => (if (decide (j_2 < (p_0.Tokens.length : Int))) then ((atI p_0.Tokens (IntKind.i64.wrap (j_2 - 1))).bind fun y19 => ((g_ref34_Len p_0.Tokens i_1 j_2).bind fun r27 => ((g_ref35_Row p_0.Table r11.1 r27 y19.Sg).bind fun r29 => (some r29.1)))) else ((g_ref34_Len p_0.Tokens i_1 j_2).bind fun r39 => ((g_ref35_Row p_0.Table r11.1 r39 (-1)).bind fun r41 => (some r41.1))))))
theorem a_ref36_row {I : World → Prop} (hI : Stab I) {p_0 : A_Pg} {i_1 : Int} {j_2 : Int} {r : Int} (h : g_ref36_row p_0 i_1 j_2 = some r) : AFun Tryz.prog I 74 [A_Pg.d p_0, .int .i64 i_1, .int .i64 j_2] (.int .i64 r) := by
 have dd := And.intro dd_EE <| And.intro dd_EB <| And.intro dd_EA <| And.intro dd_EC dd_ED; have k := True.intro; have q := k; have rs := Tryz.results74
 unfold g_ref36_row at h
 refine .en hI Tryz.func74 Tryz.ntmps74 ?_
 refine xs <| rz ?_
 refine es <| xs <| rD hI fun K8 RK8 hK8 gK8 => zz ?_
 obtain ⟨r9, h10, h⟩ := bs h
 refine cd (a_ref34_Len hI h10) <| zz ?_
 obtain ⟨r11, h12, h⟩ := bs h
 refine cd (a_ref35_Aim hI h12) <| zz ?_
 subst hK8 gK8
 refine es <| xs <| rz ?_
 refine es <| xs <| xs <| rz ?_
 refine es ?_
 obtain ⟨k,h⟩|⟨k,h⟩:=iK k h
 ·refine xt <| rK fun K18 RK18 hK18 gK18 => zz ?_
  obtain ⟨y19, q, h⟩ := bK q h
  refine zz ?_
  subst hK18 gK18
  refine es <| xs <| rD hI fun K26 RK26 hK26 gK26 => zz ?_
  obtain ⟨r27, h28, h⟩ := bs h
  refine cd (a_ref34_Len hI h28) <| zz ?_
  obtain ⟨r29, h30, h⟩ := bs h
  refine cd (a_ref35_Row hI h30) <| zz ?_
  subst hK26 gK26
  refine es <| xs <| rz ?_
  refine es <| xr ?_
  cases h
  exact en fr
 ·refine xf <| xk <| es <| xs <| rD hI fun K38 RK38 hK38 gK38 => zz ?_
  obtain ⟨r39, h40, h⟩ := bs h
  refine cd (a_ref34_Len hI h40) <| zz ?_
  obtain ⟨r41, h42, h⟩ := bs h
  refine cd (a_ref35_Row hI h42) <| zz ?_
  subst hK38 gK38
  refine es <| xs <| rz ?_
  refine es <| xr ?_
  cases h
  exact en fr
def g_ref36_potentials_s3 (p_0 : A_Pg) (x23 : Int × (List Int)) (x5613 : Int × (List Int)) (x6545 : Int × Int) : Option (Nx (Int × Int) (Int)) :=
 (((if (decide (x6545.2 ≤ (p_0.Tokens.length : Int))) then (if (decide (x23.1 < p_0.Rows)) then ((g_ref36_Fits p_0 x5613.1 x6545.2).bind fun r6668 => (some r6668)) else (some false)) else (some false)) : Option (Bool)).bind fun v6664 => (if v6664 then ((((atI x5613.2 (IntKind.i64.wrap ((IntKind.i64.wrap ((IntKind.i64.wrap (x23.1 + 1)) * (IntKind.i64.wrap ((p_0.Tokens.length : Int) + 1)))) + x6545.2))).bind fun y6696 => (if (decide (y6696 < 0)) then (some x6545.1) else ((g_ref36_row p_0 x5613.1 x6545.2).bind fun r6704 => (if (decide (x6545.1 < 0)) then (some (IntKind.i64.wrap (r6704 + y6696))) else (if (decide ((IntKind.i64.wrap (r6704 + y6696)) < x6545.1)) then (some (IntKind.i64.wrap (r6704 + y6696))) else (some x6545.1)))))) : Option (Int)).bind fun v6692 => (some (.go (v6692, (IntKind.i64.wrap (x6545.2 + 1)))))) else (some (.out x6545.1))))
def g_ref36_potentials_s2 (p_0 : A_Pg) (x23 : Int × (List Int)) (x5613 : Int × (List Int)) : Option (Nx (Int × (List Int)) ((List Int))) :=
 (if (decide (0 ≤ x5613.1)) then ((iter (g_ref36_potentials_s3 p_0 x23 x5613) (-1, (IntKind.i64.wrap (x5613.1 + 1)))).bind fun e6546 => ((atI x5613.2 (IntKind.i64.wrap ((IntKind.i64.wrap (x23.1 * (IntKind.i64.wrap ((p_0.Tokens.length : Int) + 1)))) + x5613.1))).bind fun y6717 => ((setI x5613.2 (IntKind.i64.wrap ((IntKind.i64.wrap (x23.1 * (IntKind.i64.wrap ((p_0.Tokens.length : Int) + 1)))) + x5613.1)) e6546).bind fun m6718 => (some (.go ((IntKind.i64.wrap (x5613.1 - 1)), m6718)))))) else (some (.out x5613.2)))
def g_ref36_potentials_s1 (p_0 : A_Pg) (x23 : Int × (List Int)) : Option (Nx (Int × (List Int)) ((List Int))) :=
 (if (decide (0 ≤ x23.1)) then ((iter (g_ref36_potentials_s2 p_0 x23) ((IntKind.i64.wrap ((p_0.Tokens.length : Int) - 1)), x23.2)).bind fun e5614 => (some (.go ((IntKind.i64.wrap (x23.1 - 1)), e5614)))) else (some (.out x23.2)))
def g_ref36_potentials (p_0 : A_Pg) : Option ((List Int)) :=
 ((mkI 8 (IntKind.i64.wrap ((IntKind.i64.wrap (p_0.Rows + 1)) * (IntKind.i64.wrap ((p_0.Tokens.length : Int) + 1)))) (0 : Int)).bind fun m14 => ((iter (g_ref36_potentials_s1 p_0) (p_0.Rows, m14)).bind fun e24 => (some e24)))
theorem a_ref36_potentials {I : World → Prop} (hI : Stab I) {p_0 : A_Pg} {r : (List Int)} (h : g_ref36_potentials p_0 = some r) : AFun Tryz.prog I 72 [A_Pg.d p_0] (.sl (r.map (D.int .i64))) := by
 have dd := And.intro dd_EE <| And.intro dd_EB <| And.intro dd_EA <| And.intro dd_EC dd_ED; have k := True.intro; have q := k; have rs := Tryz.results72
 unfold g_ref36_potentials at h
 refine .en hI Tryz.func72 Tryz.ntmps72 ?_
 refine xs <| rz ?_
 refine es <| xs <| rz ?_
 refine es <| xs <| rK fun K13 RK13 hK13 gK13 => zz ?_
 obtain ⟨m14, h15, h⟩ := bind_some h
 obtain ⟨h16, h17, h18, h19, h20⟩ := mkI_some h15
 have h20 := h20 (D.int .i64)
 try simp only [sevalprocAttr, List.map_nil, Int.toNat_natCast, dd] at h19 h20
 have q := And.intro @h16 <| And.intro @h17 <| And.intro @h18 <| And.intro @h19 <| And.intro @h20 <| q
 refine zz ?_
 subst hK13 gK13
 refine es <| xs <| xs <| rz ?_
 refine es <| xb ?_
 obtain ⟨e24, h6727, h⟩ := bs h
 refine rb_loop (fun x23 => ⟨envL [(1, .ptr 0 0), (3, .int .i64 (p_0.Tokens.length : Int)), (4, .own 1 x23.2.length), (5, .int .i64 x23.1)], heapL [(0, .box none [.sl (p_0.Tokens.map A_Token.d), .int .i64 p_0.Width, .int .i64 p_0.Rows, .int .i64 p_0.Table.Sg.a0, .int .i64 p_0.Table.Sg.a1, .int .i64 p_0.Table.Sg.a2, .int .i64 p_0.Table.Sg.a3, .int .i64 p_0.Table.Sg.a4, .int .i64 p_0.Table.Sg.a5, .int .i64 p_0.Table.Rgd, .int .i64 p_0.Table.Row, .int .i64 p_0.Table.Event, .int .i64 p_0.Table.Fast, .int .i64 p_0.Table.Gap, .int .i64 p_0.Table.Shot]), (1, .vec 2 1 (x23.2.map (D.int .i64)) false)], 2, 88⟩) (fun _ => .exit 0) (fun e24 => ⟨envL [(4, .own 0 e24.length)], heapL [(0, .vec 2 1 (e24.map (D.int .i64)) false)], 1, 88⟩) h6727 (wk [(1, some 12)]) (by intro w; simp) ?_ ?_
 ·clear h
  intro x23 y h
  unfold g_ref36_potentials_s1 at h
  refine xs <| xs <| rz ?_
  refine es ?_
  obtain ⟨k,h⟩|⟨k,h⟩:=iK k h
  ·refine xt <| xk <| es <| xs <| xb <| xs <| rz ?_
   refine es <| xb ?_
   obtain ⟨e5614, h6725, h⟩ := bs h
   refine rb_loop (fun x5613 => ⟨envL [(1, .ptr 0 0), (3, .int .i64 (p_0.Tokens.length : Int)), (4, .own 1 x5613.2.length), (5, .int .i64 x23.1), (6, .int .i64 x5613.1)], heapL [(0, .box none [.sl (p_0.Tokens.map A_Token.d), .int .i64 p_0.Width, .int .i64 p_0.Rows, .int .i64 p_0.Table.Sg.a0, .int .i64 p_0.Table.Sg.a1, .int .i64 p_0.Table.Sg.a2, .int .i64 p_0.Table.Sg.a3, .int .i64 p_0.Table.Sg.a4, .int .i64 p_0.Table.Sg.a5, .int .i64 p_0.Table.Rgd, .int .i64 p_0.Table.Row, .int .i64 p_0.Table.Event, .int .i64 p_0.Table.Fast, .int .i64 p_0.Table.Gap, .int .i64 p_0.Table.Shot]), (1, .vec 2 1 (x5613.2.map (D.int .i64)) false)], 2, 88⟩) (fun _ => .exit 2) (fun e5614 => ⟨envL [(1, .ptr 0 0), (3, .int .i64 (p_0.Tokens.length : Int)), (4, .own 1 e5614.length), (5, .int .i64 x23.1)], heapL [(0, .box none [.sl (p_0.Tokens.map A_Token.d), .int .i64 p_0.Width, .int .i64 p_0.Rows, .int .i64 p_0.Table.Sg.a0, .int .i64 p_0.Table.Sg.a1, .int .i64 p_0.Table.Sg.a2, .int .i64 p_0.Table.Sg.a3, .int .i64 p_0.Table.Sg.a4, .int .i64 p_0.Table.Sg.a5, .int .i64 p_0.Table.Rgd, .int .i64 p_0.Table.Row, .int .i64 p_0.Table.Event, .int .i64 p_0.Table.Fast, .int .i64 p_0.Table.Gap, .int .i64 p_0.Table.Shot]), (1, .vec 2 1 (e5614.map (D.int .i64)) false)], 2, 88⟩) h6725 (wk []) (by intro w; simp) ?_ ?_
   ·clear h
    intro x5613 y h
    unfold g_ref36_potentials_s2 at h
    refine xs <| xs <| rz ?_
    refine es ?_
    obtain ⟨k,h⟩|⟨k,h⟩:=iK k h
    ·refine xt <| xk <| es <| xs <| xb <| xs <| rz ?_
     refine es <| xs <| xs <| rz ?_
     refine es <| xb ?_
     obtain ⟨e6546, h6715, h⟩ := bs h
     refine rb_loop (fun x6545 => ⟨envL [(1, .ptr 0 0), (3, .int .i64 (p_0.Tokens.length : Int)), (4, .own 1 x5613.2.length), (5, .int .i64 x23.1), (6, .int .i64 x5613.1), (7, .int .i64 x6545.1), (8, .int .i64 x6545.2)], heapL [(0, .box none [.sl (p_0.Tokens.map A_Token.d), .int .i64 p_0.Width, .int .i64 p_0.Rows, .int .i64 p_0.Table.Sg.a0, .int .i64 p_0.Table.Sg.a1, .int .i64 p_0.Table.Sg.a2, .int .i64 p_0.Table.Sg.a3, .int .i64 p_0.Table.Sg.a4, .int .i64 p_0.Table.Sg.a5, .int .i64 p_0.Table.Rgd, .int .i64 p_0.Table.Row, .int .i64 p_0.Table.Event, .int .i64 p_0.Table.Fast, .int .i64 p_0.Table.Gap, .int .i64 p_0.Table.Shot]), (1, .vec 2 1 (x5613.2.map (D.int .i64)) false)], 2, 88⟩) (fun _ => .exit 4) (fun e6546 => ⟨envL [(1, .ptr 0 0), (3, .int .i64 (p_0.Tokens.length : Int)), (4, .own 1 x5613.2.length), (5, .int .i64 x23.1), (6, .int .i64 x5613.1), (7, .int .i64 e6546)], heapL [(0, .box none [.sl (p_0.Tokens.map A_Token.d), .int .i64 p_0.Width, .int .i64 p_0.Rows, .int .i64 p_0.Table.Sg.a0, .int .i64 p_0.Table.Sg.a1, .int .i64 p_0.Table.Sg.a2, .int .i64 p_0.Table.Sg.a3, .int .i64 p_0.Table.Sg.a4, .int .i64 p_0.Table.Sg.a5, .int .i64 p_0.Table.Rgd, .int .i64 p_0.Table.Row, .int .i64 p_0.Table.Event, .int .i64 p_0.Table.Fast, .int .i64 p_0.Table.Gap, .int .i64 p_0.Table.Shot]), (1, .vec 2 1 (x5613.2.map (D.int .i64)) false)], 2, 88⟩) h6715 (wk []) (by intro w; simp) ?_ ?_
     ·clear h
      intro x6545 y h
      unfold g_ref36_potentials_s3 at h
      refine xs ?_
      obtain ⟨v6664, h6670, h⟩ := bs h
      refine rb_cut (fun v6664 => ⟨envL [(1, .ptr 0 0), (3, .int .i64 (p_0.Tokens.length : Int)), (4, .own 1 x5613.2.length), (5, .int .i64 x23.1), (6, .int .i64 x5613.1), (7, .int .i64 x6545.1), (8, .int .i64 x6545.2), (49, .bool v6664)], heapL [(0, .box none [.sl (p_0.Tokens.map A_Token.d), .int .i64 p_0.Width, .int .i64 p_0.Rows, .int .i64 p_0.Table.Sg.a0, .int .i64 p_0.Table.Sg.a1, .int .i64 p_0.Table.Sg.a2, .int .i64 p_0.Table.Sg.a3, .int .i64 p_0.Table.Sg.a4, .int .i64 p_0.Table.Sg.a5, .int .i64 p_0.Table.Rgd, .int .i64 p_0.Table.Row, .int .i64 p_0.Table.Event, .int .i64 p_0.Table.Fast, .int .i64 p_0.Table.Gap, .int .i64 p_0.Table.Shot]), (1, .vec 2 1 (x5613.2.map (D.int .i64)) false)], 2, 88⟩) h6670 ?_ ?_
      ·clear h
       intro v6664 h
       refine rK fun K6665 RK6665 hK6665 gK6665 => zz ?_
       obtain ⟨k,h⟩|⟨k,h⟩:=iK k h
       ·refine zz ?_
        obtain ⟨k,h⟩|⟨k,h⟩:=iK k h
        ·refine zz ?_
         obtain ⟨r6668, h6669, h⟩ := bs h
         refine cw (a_ref36_Fits hI h6669) <| zz ?_
         subst hK6665 gK6665
         cases h
         exact en ⟨rfl, wk []⟩
        ·refine zz ?_
         subst hK6665 gK6665
         cases h
         exact en ⟨rfl, wk []⟩
       ·refine zz ?_
        subst hK6665 gK6665
        cases h
        exact en ⟨rfl, wk []⟩
      ·obtain ⟨k,h⟩|⟨k,h⟩:=iK k h
       ·refine xt <| xk <| es ?_
        obtain ⟨v6692, h6713, h⟩ := bs h
        refine rb_cut (fun v6692 => ⟨envL [(1, .ptr 0 0), (3, .int .i64 (p_0.Tokens.length : Int)), (4, .own 1 x5613.2.length), (5, .int .i64 x23.1), (6, .int .i64 x5613.1), (7, .int .i64 v6692), (8, .int .i64 x6545.2)], heapL [(0, .box none [.sl (p_0.Tokens.map A_Token.d), .int .i64 p_0.Width, .int .i64 p_0.Rows, .int .i64 p_0.Table.Sg.a0, .int .i64 p_0.Table.Sg.a1, .int .i64 p_0.Table.Sg.a2, .int .i64 p_0.Table.Sg.a3, .int .i64 p_0.Table.Sg.a4, .int .i64 p_0.Table.Sg.a5, .int .i64 p_0.Table.Rgd, .int .i64 p_0.Table.Row, .int .i64 p_0.Table.Event, .int .i64 p_0.Table.Fast, .int .i64 p_0.Table.Gap, .int .i64 p_0.Table.Shot]), (1, .vec 2 1 (x5613.2.map (D.int .i64)) false)], 2, 88⟩) h6713 ?_ ?_
        ·clear h
         intro v6692 h
         refine xb <| xs <| rK fun K6695 RK6695 hK6695 gK6695 => zz ?_
         obtain ⟨y6696, q, h⟩ := oN q h
         refine zz ?_
         subst hK6695 gK6695
         refine es <| xs <| xs <| rz ?_
         refine es ?_
         obtain ⟨k,h⟩|⟨k,h⟩:=iK k h
         ·refine xt <| xx <| ee <| bh ?_
          cases h
          exact en ⟨rfl, wk []⟩
         ·refine xf <| xk <| es <| xs <| rK fun K6703 RK6703 hK6703 gK6703 => zz ?_
          obtain ⟨r6704, h6705, h⟩ := bs h
          refine cw (a_ref36_row hI h6705) <| zz ?_
          subst hK6703 gK6703
          refine es <| xs <| rK fun K6708 RK6708 hK6708 gK6708 => zz ?_
          obtain ⟨k,h⟩|⟨k,h⟩:=iK k h
          ·refine zz ?_
           subst hK6708 gK6708
           refine es <| xt <| rz ?_
           refine bn ?_
           cases h
           exact en ⟨rfl, wk []⟩
          ·refine zz ?_
           subst hK6708 gK6708
           refine es ?_
           obtain ⟨k,h⟩|⟨k,h⟩:=iK k h
           ·refine xt <| rz ?_
            refine bn ?_
            cases h
            exact en ⟨rfl, wk []⟩
           ·refine xf <| xk <| bn ?_
            cases h
            exact en ⟨rfl, wk []⟩
        ·refine rz ?_
         cases h
         exact en ⟨rfl, wk []⟩
       ·refine xf <| xx <| ee ?_
        cases h
        exact en ⟨rfl, wk []⟩
     ·refine bh <| es <| rK fun K6716 RK6716 hK6716 gK6716 => zz ?_
      obtain ⟨y6717, q, h⟩ := oN q h
      refine zz ?_
      obtain ⟨m6718, h6719, h⟩ := bind_some h
      obtain ⟨h6720, h6721, h6722, h6723⟩ := setI_some h6719
      have h6723 := h6723 (D.int .i64)
      try simp only [sevalprocAttr, List.map_nil, dd] at h6723
      have q := And.intro @h6720 <| And.intro @h6721 <| And.intro @h6722 <| And.intro @h6723 <| q
      refine zz ?_
      subst hK6716 gK6716
      refine bn <| es <| rz ?_
      cases h
      exact en ⟨rfl, wk []⟩
    ·refine xf <| xx <| ee ?_
     cases h
     exact en ⟨rfl, wk []⟩
   ·refine bh <| bn <| es <| rz ?_
    cases h
    exact en ⟨rfl, wk []⟩
  ·refine xf <| xx <| ee ?_
   cases h
   exact en ⟨rfl, wk [(0, some 1)]⟩
 ·refine bh <| es <| xs <| rz ?_
  refine es <| xr ?_
  cases h
  exact en fr
def g_ref36_Break_s1 (p_0 : A_Pg) (y26 : Int) (x84 : Int) : Option (Nx (Int) (Int)) :=
 ((g_ref36_potentials (A_Pg.mk p_0.Tokens p_0.Width x84 p_0.Table)).bind fun r128 => ((atI r128 0).bind fun y130 => (if (y130 == y26) then (some (.out x84)) else (some (.go (IntKind.i64.wrap (x84 + 1)))))))
def g_ref36_Break_s3 (p_0 : A_Pg) (r143 : (List Int)) (x151 : Int × Int × (List Int)) (x1711 : Int) : Option (Nx (Int) ((List Int) × Int)) :=
 (if (decide (x1711 ≤ (p_0.Tokens.length : Int))) then ((atI r143 (IntKind.i64.wrap ((IntKind.i64.wrap ((IntKind.i64.wrap (x151.2.1 + 1)) * (IntKind.i64.wrap ((p_0.Tokens.length : Int) + 1)))) + x1711))).bind fun y1903 => ((((g_ref36_Fits p_0 x151.1 x1711).bind fun r1916 => (if r1916 then (if (decide (0 ≤ y1903)) then ((g_ref36_row p_0 x151.1 x1711).bind fun r1920 => ((atI r143 (IntKind.i64.wrap ((IntKind.i64.wrap (x151.2.1 * (IntKind.i64.wrap ((p_0.Tokens.length : Int) + 1)))) + x151.1))).bind fun y1922 => (some ((IntKind.i64.wrap (r1920 + y1903)) == y1922)))) else (some false)) else (some false))) : Option (Bool)).bind fun v1914 => (if v1914 then (if (x151.2.2.length + 1) * 8 ≤ 140737488355328 then (some (.out ((x151.2.2 ++ [x1711]), x1711))) else none) else (some (.go (IntKind.i64.wrap (x1711 + 1))))))) else (some (.out (x151.2.2, x151.1))))
def g_ref36_Break_s2 (p_0 : A_Pg) (r143 : (List Int)) (x151 : Int × Int × (List Int)) : Option (Nx (Int × Int × (List Int)) ((List Int))) :=
 (if (decide (x151.1 < (p_0.Tokens.length : Int))) then ((iter (g_ref36_Break_s3 p_0 r143 x151) (IntKind.i64.wrap (x151.1 + 1))).bind fun e1712 => (some (.go (e1712.2, (IntKind.i64.wrap (x151.2.1 + 1)), e1712.1)))) else (some (.out x151.2.2)))
def g_ref36_Break (p_0 : A_Pg) : Option (A_Breaks × Int) :=
 ((g_ref36_Check p_0).bind fun r7 => (if (r7 != 0) then (some ((A_Breaks.mk [] 0 []), r7)) else ((g_ref36_potentials p_0).bind fun r20 => ((atI r20 0).bind fun y26 => (if (decide (y26 < 0)) then (some ((A_Breaks.mk [] 0 []), 11)) else ((iter (g_ref36_Break_s1 p_0 y26) 1).bind fun e85 => ((g_ref36_potentials (A_Pg.mk p_0.Tokens p_0.Width e85 p_0.Table)).bind fun r143 => ((iter (g_ref36_Break_s2 p_0 r143) (0, 0, [])).bind fun e152 => (some ((A_Breaks.mk e152 y26 r20), 0))))))))))
theorem a_ref36_Break {I : World → Prop} (hI : Stab I) {p_0 : A_Pg} {r : A_Breaks × Int} (h : g_ref36_Break p_0 = some r) : AFun Tryz.prog I 32 [A_Pg.d p_0] (.tup [A_Breaks.d r.1, .int .i64 r.2]) := by
 have dd := And.intro dd_EE <| And.intro dd_EB <| And.intro dd_EA <| And.intro dd_EC dd_ED; have k := True.intro; have q := k; have rs := Tryz.results32
 unfold g_ref36_Break at h
 refine .en hI Tryz.func32 Tryz.ntmps32 ?_
 refine xs <| rz ?_
 refine es <| xs <| xs <| rK fun K6 RK6 hK6 gK6 => zz ?_
 obtain ⟨r7, h8, h⟩ := bs h
 refine cw (a_ref36_Check hI h8) <| zz ?_
 subst hK6 gK6
 refine es <| xs <| rz ?_
 refine es ?_
 obtain ⟨k,h⟩|⟨k,h⟩:=iK k h
 ·refine xt <| xs <| rz ?_
  refine es <| xr <| er ?_
  cases h
  exact en fr
 ·refine xf <| xk <| es <| xs <| rz ?_
  refine es <| xs <| rK fun K19 RK19 hK19 gK19 => zz ?_
  obtain ⟨r20, h21, h⟩ := bs h
  refine cw (a_ref36_potentials hI h21) <| zz ?_
  subst hK19 gK19
  refine es <| xs <| xs <| rK fun K25 RK25 hK25 gK25 => zz ?_
  obtain ⟨y26, q, h⟩ := bK q h
  refine zz ?_
  subst hK25 gK25
  refine es ?_
  obtain ⟨k,h⟩|⟨k,h⟩:=iK k h
  ·refine xt <| xs <| rz ?_
   refine es <| xr <| er ?_
   cases h
   exact en fr
  ·refine xf <| xk <| es <| xs <| rz ?_
   refine es <| xs <| xb ?_
   obtain ⟨e85, h134, h⟩ := bs h
   refine rb_loop (fun x84 => ⟨envL [(1, .ptr 0 0), (2, .ptr 1 0), (5, .int .i64 (p_0.Tokens.length : Int)), (6, .sl (r20.map (D.int .i64))), (7, .int .i64 x84)], heapL [(0, .box none [.sl (p_0.Tokens.map A_Token.d), .int .i64 p_0.Width, .int .i64 p_0.Rows, .int .i64 p_0.Table.Sg.a0, .int .i64 p_0.Table.Sg.a1, .int .i64 p_0.Table.Sg.a2, .int .i64 p_0.Table.Sg.a3, .int .i64 p_0.Table.Sg.a4, .int .i64 p_0.Table.Sg.a5, .int .i64 p_0.Table.Rgd, .int .i64 p_0.Table.Row, .int .i64 p_0.Table.Event, .int .i64 p_0.Table.Fast, .int .i64 p_0.Table.Gap, .int .i64 p_0.Table.Shot]), (1, .box none [.nils, .int .i64 0, .nils])], 2, 111⟩) (fun _ => .exit 0) (fun e85 => ⟨envL [(1, .ptr 0 0), (2, .ptr 1 0), (5, .int .i64 (p_0.Tokens.length : Int)), (6, .sl (r20.map (D.int .i64))), (7, .int .i64 e85)], heapL [(0, .box none [.sl (p_0.Tokens.map A_Token.d), .int .i64 p_0.Width, .int .i64 p_0.Rows, .int .i64 p_0.Table.Sg.a0, .int .i64 p_0.Table.Sg.a1, .int .i64 p_0.Table.Sg.a2, .int .i64 p_0.Table.Sg.a3, .int .i64 p_0.Table.Sg.a4, .int .i64 p_0.Table.Sg.a5, .int .i64 p_0.Table.Rgd, .int .i64 p_0.Table.Row, .int .i64 p_0.Table.Event, .int .i64 p_0.Table.Fast, .int .i64 p_0.Table.Gap, .int .i64 p_0.Table.Shot]), (1, .box none [.nils, .int .i64 0, .nils])], 2, 111⟩) h134 (wk []) (by intro w; simp) ?_ ?_
   ·clear h
    intro x84 y h
    unfold g_ref36_Break_s1 at h
    refine xb <| xs <| rz ?_
    refine es <| xs <| rz ?_
    refine es <| xs <| xs <| rD hI fun K127 RK127 hK127 gK127 => zz ?_
    obtain ⟨r128, h129, h⟩ := bs h
    refine cd (a_ref36_potentials hI h129) <| zz ?_
    obtain ⟨y130, q, h⟩ := bK q h
    refine zz ?_
    subst hK127 gK127
    refine es ?_
    obtain ⟨k,h⟩|⟨k,h⟩:=iK k h
    ·refine xt <| xx <| ee <| bm ?_
     cases h
     exact en ⟨rfl, wk []⟩
    ·refine xf <| xk <| es <| rz ?_
     refine bn ?_
     cases h
     exact en ⟨rfl, wk []⟩
   ·refine bh <| es <| xs <| rz ?_
    refine es <| xs <| rz ?_
    refine es <| xs <| rK fun K142 RK142 hK142 gK142 => zz ?_
    obtain ⟨r143, h144, h⟩ := bs h
    refine cw (a_ref36_potentials hI h144) <| zz ?_
    subst hK142 gK142
    refine es <| xs <| rz ?_
    refine es <| xs <| rz ?_
    refine es <| xs <| xs <| rz ?_
    refine es <| xb ?_
    obtain ⟨e152, h1937, h⟩ := bs h
    refine rb_loop (fun x151 => ⟨envL [(1, .ptr 0 0), (2, .ptr 1 0), (5, .int .i64 (p_0.Tokens.length : Int)), (10, .sl (r143.map (D.int .i64))), (11, .ptr 2 0), (12, .int .i64 x151.1), (13, .int .i64 x151.2.1)], heapL [(0, .box none [.sl (p_0.Tokens.map A_Token.d), .int .i64 p_0.Width, .int .i64 p_0.Rows, .int .i64 p_0.Table.Sg.a0, .int .i64 p_0.Table.Sg.a1, .int .i64 p_0.Table.Sg.a2, .int .i64 p_0.Table.Sg.a3, .int .i64 p_0.Table.Sg.a4, .int .i64 p_0.Table.Sg.a5, .int .i64 p_0.Table.Rgd, .int .i64 p_0.Table.Row, .int .i64 p_0.Table.Event, .int .i64 p_0.Table.Fast, .int .i64 p_0.Table.Gap, .int .i64 p_0.Table.Shot]), (1, .box none [.nils, .int .i64 0, .nils]), (2, .box none [.own 3 x151.2.2.length, .int .i64 y26, .sl (r20.map (D.int .i64))]), (3, .vec 3 1 (x151.2.2.map (D.int .i64)) false)], 4, 111⟩) (fun _ => .exit 2) (fun e152 => ⟨envL [(2, .ptr 0 0), (11, .ptr 1 0)], heapL [(0, .box none [.nils, .int .i64 0, .nils]), (1, .box none [.own 2 e152.length, .int .i64 y26, .sl (r20.map (D.int .i64))]), (2, .vec 3 1 (e152.map (D.int .i64)) false)], 3, 111⟩) h1937 (wk [(2, some 16), (3, none)]) (by intro w; simp) ?_ ?_
    ·clear h
     intro x151 y h
     unfold g_ref36_Break_s2 at h
     refine xs <| xs <| rz ?_
     refine es ?_
     obtain ⟨k,h⟩|⟨k,h⟩:=iK k h
     ·refine xt <| xk <| es <| xs <| xb <| xs <| rz ?_
      refine es <| xb ?_
      obtain ⟨e1712, h1935, h⟩ := bs h
      refine rb_loop (fun x1711 => ⟨envL [(1, .ptr 0 0), (2, .ptr 1 0), (5, .int .i64 (p_0.Tokens.length : Int)), (10, .sl (r143.map (D.int .i64))), (11, .ptr 2 0), (12, .int .i64 x151.1), (13, .int .i64 x151.2.1), (14, .int .i64 x1711)], heapL [(0, .box none [.sl (p_0.Tokens.map A_Token.d), .int .i64 p_0.Width, .int .i64 p_0.Rows, .int .i64 p_0.Table.Sg.a0, .int .i64 p_0.Table.Sg.a1, .int .i64 p_0.Table.Sg.a2, .int .i64 p_0.Table.Sg.a3, .int .i64 p_0.Table.Sg.a4, .int .i64 p_0.Table.Sg.a5, .int .i64 p_0.Table.Rgd, .int .i64 p_0.Table.Row, .int .i64 p_0.Table.Event, .int .i64 p_0.Table.Fast, .int .i64 p_0.Table.Gap, .int .i64 p_0.Table.Shot]), (1, .box none [.nils, .int .i64 0, .nils]), (2, .box none [.own 3 x151.2.2.length, .int .i64 y26, .sl (r20.map (D.int .i64))]), (3, .vec 3 1 (x151.2.2.map (D.int .i64)) false)], 4, 111⟩) (fun _ => .exit 4) (fun e1712 => ⟨envL [(1, .ptr 0 0), (2, .ptr 1 0), (5, .int .i64 (p_0.Tokens.length : Int)), (10, .sl (r143.map (D.int .i64))), (11, .ptr 2 0), (12, .int .i64 e1712.2), (13, .int .i64 x151.2.1)], heapL [(0, .box none [.sl (p_0.Tokens.map A_Token.d), .int .i64 p_0.Width, .int .i64 p_0.Rows, .int .i64 p_0.Table.Sg.a0, .int .i64 p_0.Table.Sg.a1, .int .i64 p_0.Table.Sg.a2, .int .i64 p_0.Table.Sg.a3, .int .i64 p_0.Table.Sg.a4, .int .i64 p_0.Table.Sg.a5, .int .i64 p_0.Table.Rgd, .int .i64 p_0.Table.Row, .int .i64 p_0.Table.Event, .int .i64 p_0.Table.Fast, .int .i64 p_0.Table.Gap, .int .i64 p_0.Table.Shot]), (1, .box none [.nils, .int .i64 0, .nils]), (2, .box none [.own 3 e1712.1.length, .int .i64 y26, .sl (r20.map (D.int .i64))]), (3, .vec 3 1 (e1712.1.map (D.int .i64)) false)], 4, 111⟩) h1935 (wk []) (by intro w; simp) ?_ ?_
      ·clear h
       intro x1711 y h
       unfold g_ref36_Break_s3 at h
       refine xs <| xs <| rz ?_
       refine es ?_
       obtain ⟨k,h⟩|⟨k,h⟩:=iK k h
       ·refine xt <| xk <| es <| xs <| xb <| xs <| rK fun K1902 RK1902 hK1902 gK1902 => zz ?_
        obtain ⟨y1903, q, h⟩ := bK q h
        refine zz ?_
        subst hK1902 gK1902
        refine es ?_
        obtain ⟨v1914, h1924, h⟩ := bs h
        refine rb_cut (fun v1914 => ⟨envL [(1, .ptr 0 0), (2, .ptr 1 0), (5, .int .i64 (p_0.Tokens.length : Int)), (10, .sl (r143.map (D.int .i64))), (11, .ptr 2 0), (12, .int .i64 x151.1), (13, .int .i64 x151.2.1), (14, .int .i64 x1711), (102, .bool v1914)], heapL [(0, .box none [.sl (p_0.Tokens.map A_Token.d), .int .i64 p_0.Width, .int .i64 p_0.Rows, .int .i64 p_0.Table.Sg.a0, .int .i64 p_0.Table.Sg.a1, .int .i64 p_0.Table.Sg.a2, .int .i64 p_0.Table.Sg.a3, .int .i64 p_0.Table.Sg.a4, .int .i64 p_0.Table.Sg.a5, .int .i64 p_0.Table.Rgd, .int .i64 p_0.Table.Row, .int .i64 p_0.Table.Event, .int .i64 p_0.Table.Fast, .int .i64 p_0.Table.Gap, .int .i64 p_0.Table.Shot]), (1, .box none [.nils, .int .i64 0, .nils]), (2, .box none [.own 3 x151.2.2.length, .int .i64 y26, .sl (r20.map (D.int .i64))]), (3, .vec 3 1 (x151.2.2.map (D.int .i64)) false)], 4, 111⟩) h1924 ?_ ?_
        ·clear h
         intro v1914 h
         refine rD hI fun K1915 RK1915 hK1915 gK1915 => zz ?_
         obtain ⟨r1916, h1917, h⟩ := bs h
         refine cd (a_ref36_Fits hI h1917) <| zz ?_
         obtain ⟨k,h⟩|⟨k,h⟩:=iK k h
         ·refine zz ?_
          obtain ⟨k,h⟩|⟨k,h⟩:=iK k h
          ·refine zz ?_
           obtain ⟨r1920, h1921, h⟩ := bs h
           refine cd (a_ref36_row hI h1921) <| zz ?_
           obtain ⟨y1922, q, h⟩ := bK q h
           refine zz ?_
           subst hK1915 gK1915
           cases h
           exact en ⟨rfl, wk []⟩
          ·refine zz ?_
           subst hK1915 gK1915
           cases h
           exact en ⟨rfl, wk []⟩
         ·refine zz ?_
          subst hK1915 gK1915
          cases h
          exact en ⟨rfl, wk []⟩
        ·obtain ⟨k,h⟩|⟨k,h⟩:=iK k h
         ·refine xt <| xs <| rK fun K1929 RK1929 hK1929 gK1929 => zz ?_
          obtain ⟨h1930, h⟩ := ite_on h
          have h1931 : x151.2.2.length + 1 ≤ 9223372036854775807 := by omega
          try simp only [Nat.reduceLeDiff] at h1931
          have q := And.intro @h1931 <| And.intro @h1930 <| q
          refine zz ?_
          subst hK1929 gK1929
          refine es <| xs <| rz ?_
          refine es <| xx <| bm <| ee ?_
          cases h
          exact en ⟨rfl, wk [(3, some 8)]⟩
         ·refine xf <| xk <| bn <| es <| rz ?_
          cases h
          exact en ⟨rfl, wk []⟩
       ·refine xf <| xx <| ee ?_
        cases h
        exact en ⟨rfl, wk []⟩
      ·refine bh <| bn <| es <| rz ?_
       cases h
       exact en ⟨rfl, wk []⟩
     ·refine xf <| xx <| ee ?_
      cases h
      exact en ⟨rfl, wk [(0, some 1), (1, some 2), (2, some 3)]⟩
    ·refine bh <| es <| xs <| rz ?_
     refine es <| xr ?_
     cases h
     exact en fr
def g_ref40_within (n_0 : Int) (lo_1 : Int) (hi_2 : Int) : Option (Bool) :=
 (if (decide (lo_1 ≤ n_0)) then (some (decide (n_0 ≤ hi_2))) else (some false))
theorem a_ref40_within {I : World → Prop} (hI : Stab I) {n_0 : Int} {lo_1 : Int} {hi_2 : Int} {r : Bool} (h : g_ref40_within n_0 lo_1 hi_2 = some r) : AFun Tryz.prog I 77 [.int .i64 n_0, .int .i64 lo_1, .int .i64 hi_2] (.bool r) := by
 have dd := And.intro dd_EE <| And.intro dd_EB <| And.intro dd_EA <| And.intro dd_EC dd_ED; have k := True.intro; have q := k; have rs := Tryz.results77
 unfold g_ref40_within at h
 refine .en hI Tryz.func77 Tryz.ntmps77 ?_
 refine xs <| rz ?_
 refine es <| xs <| rK fun K5 RK5 hK5 gK5 => zz ?_
 obtain ⟨k,h⟩|⟨k,h⟩:=iK k h
 ·refine zz ?_
  subst hK5 gK5
  refine es <| xr ?_
  cases h
  exact en fr
 ·refine zz ?_
  subst hK5 gK5
  refine es <| xr ?_
  cases h
  exact en fr
def g_ref02_Ticks (r_0 : Int) : Option (Int) :=
 ((g_ref02_Valid r_0).bind fun r7 => (if r7 then ((atI [5005, 5000, 4800, 4004, 4000, 2400, 2002] (IntKind.u8.wrap (r_0 - 1))).bind fun y17 => (some y17)) else (some 0)))
theorem a_ref02_Ticks {I : World → Prop} (hI : Stab I) {r_0 : Int} {r : Int} (h : g_ref02_Ticks r_0 = some r) : AFun Tryz.prog I 78 [.int .u8 r_0] (.int .i64 r) := by
 have dd := And.intro dd_EE <| And.intro dd_EB <| And.intro dd_EA <| And.intro dd_EC dd_ED; have k := True.intro; have q := k; have rs := Tryz.results78
 unfold g_ref02_Ticks at h
 refine .en hI Tryz.func78 Tryz.ntmps78 ?_
 refine xs <| rz ?_
 refine es <| xs <| xs <| rK fun K6 RK6 hK6 gK6 => zz ?_
 obtain ⟨r7, h8, h⟩ := bs h
 refine cw (a_ref02_Valid hI h8) <| zz ?_
 subst hK6 gK6
 refine es ?_
 obtain ⟨k,h⟩|⟨k,h⟩:=iK k h
 ·refine xf <| xk <| es <| xs <| rK fun K16 RK16 hK16 gK16 => zz ?_
  obtain ⟨y17, h18, h⟩ := bind_some h
  obtain ⟨h19, h20, h21⟩ := atI_own h18
  have h21 := h21 (D.int .i64)
  simp only [List.map_cons, List.map_nil, dd] at h21
  have h20 : (IntKind.u8.wrap (r_0 - 1)) < 7 := by simpa using h20
  have q := And.intro h19 <| And.intro h20 <| And.intro @h21 q
  refine zz ?_
  subst hK16 gK16
  refine es <| xr ?_
  cases h
  exact en fr
 ·refine xt <| xs <| rz ?_
  refine es <| xr <| er ?_
  cases h
  exact en fr
def g_ref40_Needed (rate_0 : Int) (chars_1 : Int) (limit_2 : Int) : Option (Int × Int) :=
 ((g_ref02_Valid rate_0).bind fun r7 => (if r7 then ((((g_ref40_within chars_1 0 10000).bind fun r18 => (if r18 then ((g_ref40_within limit_2 1 10000).bind fun r21 => (some (!r21))) else (some true))) : Option (Bool)).bind fun v16 => (if v16 then (some (0, 2)) else ((g_ref02_Ticks rate_0).bind fun r31 => (if ¬ (IntKind.i64.wrap (limit_2 * r31)) = 0 then (some ((IntKind.i64.wrap (Int.tdiv (IntKind.i64.wrap ((IntKind.i64.wrap ((IntKind.i64.wrap ((IntKind.i64.wrap (chars_1 * 100)) * 120000)) + (IntKind.i64.wrap (limit_2 * r31)))) - 1)) (IntKind.i64.wrap (limit_2 * r31)))), 0)) else none)))) else (some (0, 3))))
theorem a_ref40_Needed {I : World → Prop} (hI : Stab I) {rate_0 : Int} {chars_1 : Int} {limit_2 : Int} {r : Int × Int} (h : g_ref40_Needed rate_0 chars_1 limit_2 = some r) : AFun Tryz.prog I 34 [.int .u8 rate_0, .int .i64 chars_1, .int .i64 limit_2] (.tup [.int .i64 r.1, .int .i64 r.2]) := by
 have dd := And.intro dd_EE <| And.intro dd_EB <| And.intro dd_EA <| And.intro dd_EC dd_ED; have k := True.intro; have q := k; have rs := Tryz.results34
 unfold g_ref40_Needed at h
 refine .en hI Tryz.func34 Tryz.ntmps34 ?_
 refine xs <| rz ?_
 refine es <| xs <| xs <| rK fun K6 RK6 hK6 gK6 => zz ?_
 obtain ⟨r7, h8, h⟩ := bs h
 refine cw (a_ref02_Valid hI h8) <| zz ?_
 subst hK6 gK6
 refine es ?_
 obtain ⟨k,h⟩|⟨k,h⟩:=iK k h
 ·refine xf <| xk <| es <| xs ?_
  obtain ⟨v16, h23, h⟩ := bs h
  refine rb_cut (fun v16 => ⟨envL [(0, .int .u8 rate_0), (1, .int .i64 chars_1), (2, .int .i64 limit_2), (19, .bool v16)], heapL [], 0, 32⟩) h23 ?_ ?_
  ·clear h
   intro v16 h
   refine rK fun K17 RK17 hK17 gK17 => zz ?_
   obtain ⟨r18, h19, h⟩ := bs h
   refine cw (a_ref40_within hI h19) <| zz ?_
   obtain ⟨k,h⟩|⟨k,h⟩:=iK k h
   ·refine zz ?_
    obtain ⟨r21, h22, h⟩ := bs h
    refine cw (a_ref40_within hI h22) <| zz ?_
    subst hK17 gK17
    cases h
    exact en ⟨rfl, wk []⟩
   ·refine zz ?_
    subst hK17 gK17
    cases h
    exact en ⟨rfl, wk []⟩
  ·obtain ⟨k,h⟩|⟨k,h⟩:=iK k h
   ·refine xt <| xs <| rz ?_
    refine es <| xr <| er ?_
    cases h
    exact en fr
   ·refine xf <| xk <| es <| xs <| rK fun K30 RK30 hK30 gK30 => zz ?_
    obtain ⟨r31, h32, h⟩ := bs h
    refine cw (a_ref02_Ticks hI h32) <| zz ?_
    subst hK30 gK30
    refine es <| xs <| rK fun K34 RK34 hK34 gK34 => zz ?_
    obtain ⟨q, h⟩ := oK q h
    refine zz ?_
    subst hK34 gK34
    refine es <| xr ?_
    cases h
    exact en fr
 ·refine xt <| xs <| rz ?_
  refine es <| xr <| er ?_
  cases h
  exact en fr
def g_ref37_Inside_s1 (l_0 : List Int) (s_1 : A_Span) (x16 : (List Int) × Int) : Option (Nx ((List Int) × Int) ((List Int))) :=
 (if (decide (x16.2 < (l_0.length : Int))) then ((atI l_0 x16.2).bind fun y143 => (((if (decide (s_1.In < y143)) then (some (decide (y143 < s_1.Out))) else (some false)) : Option (Bool)).bind fun v147 => (if v147 then (if (x16.1.length + 1) * 8 ≤ 140737488355328 then (some (.go ((x16.1 ++ [y143]), (IntKind.i64.wrap (x16.2 + 1))))) else none) else (some (.go (x16.1, (IntKind.i64.wrap (x16.2 + 1)))))))) else (some (.out x16.1)))
def g_ref37_Inside (l_0 : List Int) (s_1 : A_Span) : Option ((List Int)) :=
 ((g_ref37_Check l_0).bind fun r9 => (if (r9 != 0) then (some []) else ((iter (g_ref37_Inside_s1 l_0 s_1) ([], 0)).bind fun e17 => (some e17))))
theorem a_ref37_Inside {I : World → Prop} (hI : Stab I) {l_0 : List Int} {s_1 : A_Span} {r : (List Int)} (h : g_ref37_Inside l_0 s_1 = some r) : AFun Tryz.prog I 35 [.sl (l_0.map (D.int .i64)), A_Span.d s_1] (.sl (r.map (D.int .i64))) := by
 have dd := And.intro dd_EE <| And.intro dd_EB <| And.intro dd_EA <| And.intro dd_EC dd_ED; have k := True.intro; have q := k; have rs := Tryz.results35
 unfold g_ref37_Inside at h
 refine .en hI Tryz.func35 Tryz.ntmps35 ?_
 refine xs <| rz ?_
 refine es <| xs <| rz ?_
 refine es <| xs <| xs <| rK fun K8 RK8 hK8 gK8 => zz ?_
 obtain ⟨r9, h10, h⟩ := bs h
 refine cw (a_ref37_Check hI h10) <| zz ?_
 subst hK8 gK8
 refine es ?_
 obtain ⟨k,h⟩|⟨k,h⟩:=iK k h
 ·refine xt <| xs <| rz ?_
  refine es <| xr <| er ?_
  cases h
  exact en fr
 ·refine xf <| xk <| es <| xs <| xs <| rz ?_
  refine es <| xb ?_
  obtain ⟨e17, h157, h⟩ := bs h
  refine rb_loop (fun x16 => ⟨envL [(3, .ptr 0 0), (5, .own 1 x16.1.length), (11, .sl (l_0.map (D.int .i64))), (12, .int .i64 (l_0.length : Int)), (13, .int .i64 x16.2)], heapL [(0, .box none [.int .i64 s_1.In, .int .i64 s_1.Out]), (1, .vec 2 1 (x16.1.map (D.int .i64)) false)], 2, 33⟩) (fun _ => .exit 0) (fun e17 => ⟨envL [(5, .own 0 e17.length)], heapL [(0, .vec 2 1 (e17.map (D.int .i64)) false)], 1, 33⟩) h157 (wk [(1, none)]) (by intro w; simp) ?_ ?_
  ·clear h
   intro x16 y h
   unfold g_ref37_Inside_s1 at h
   refine xs <| rz ?_
   refine es <| xs ?_
   obtain ⟨k,h⟩|⟨k,h⟩:=iK k h
   ·refine xt <| xk <| es <| xs <| xb <| xs <| rK fun K142 RK142 hK142 gK142 => zz ?_
    obtain ⟨y143, q, h⟩ := bK q h
    refine zz ?_
    subst hK142 gK142
    refine es ?_
    obtain ⟨v147, h150, h⟩ := bs h
    refine rb_cut (fun v147 => ⟨envL [(3, .ptr 0 0), (5, .own 1 x16.1.length), (7, .int .i64 y143), (11, .sl (l_0.map (D.int .i64))), (12, .int .i64 (l_0.length : Int)), (13, .int .i64 x16.2), (26, .bool v147)], heapL [(0, .box none [.int .i64 s_1.In, .int .i64 s_1.Out]), (1, .vec 2 1 (x16.1.map (D.int .i64)) false)], 2, 33⟩) h150 ?_ ?_
    ·clear h
     intro v147 h
     refine rK fun K148 RK148 hK148 gK148 => zz ?_
     obtain ⟨k,h⟩|⟨k,h⟩:=iK k h
     ·refine zz ?_
      subst hK148 gK148
      cases h
      exact en ⟨rfl, wk []⟩
     ·refine zz ?_
      subst hK148 gK148
      cases h
      exact en ⟨rfl, wk []⟩
    ·obtain ⟨k,h⟩|⟨k,h⟩:=iK k h
     ·refine xt <| rK fun K152 RK152 hK152 gK152 => zz ?_
      obtain ⟨h153, h⟩ := ite_on h
      have h154 : x16.1.length + 1 ≤ 9223372036854775807 := by omega
      try simp only [Nat.reduceLeDiff] at h154
      have q := And.intro @h154 <| And.intro @h153 <| q
      refine zz ?_
      subst hK152 gK152
      refine bn <| es <| rz ?_
      cases h
      exact en ⟨rfl, wk [(1, some 5)]⟩
     ·refine xf <| xk <| bn <| es <| rz ?_
      cases h
      exact en ⟨rfl, wk []⟩
   ·refine xf <| xx <| ee ?_
    cases h
    exact en ⟨rfl, wk [(0, some 1)]⟩
  ·refine bh <| es <| xs <| rz ?_
   refine es <| xr ?_
   cases h
   exact en fr
def g_ref35_Event (t_0 : A_Pn) (l_1 : A_Load) : Option (Int × Int) :=
 ((g_ref35_Check t_0).bind fun r7 => (if (r7 != 0) then (some (0, r7)) else (((if (decide (l_1.Fast < 0)) then (some true) else (if (decide (5184000 < l_1.Fast)) then (some true) else (if (decide (l_1.Gap < 0)) then (some true) else (if (decide (5184000 < l_1.Gap)) then (some true) else (if (decide (l_1.Shots < 0)) then (some true) else (if (decide (400 < l_1.Shots)) then (some true) else ((g_ref35_within l_1.Sg 0 5).bind fun r31 => (some (!r31))))))))) : Option (Bool)).bind fun v23 => (if v23 then (some (0, 2)) else (if l_1.Last then (some ((IntKind.i64.wrap ((IntKind.i64.wrap ((IntKind.i64.wrap (t_0.Event + (IntKind.i64.wrap (t_0.Fast * l_1.Fast)))) + (IntKind.i64.wrap (t_0.Gap * l_1.Gap)))) + (IntKind.i64.wrap (t_0.Shot * l_1.Shots)))), 0)) else (if l_1.Sg == 0 then (some ((IntKind.i64.wrap ((IntKind.i64.wrap ((IntKind.i64.wrap ((IntKind.i64.wrap (t_0.Event + (IntKind.i64.wrap (t_0.Fast * l_1.Fast)))) + (IntKind.i64.wrap (t_0.Gap * l_1.Gap)))) + (IntKind.i64.wrap (t_0.Shot * l_1.Shots)))) + t_0.Sg.a0)), 0)) else (if l_1.Sg == 1 then (some ((IntKind.i64.wrap ((IntKind.i64.wrap ((IntKind.i64.wrap ((IntKind.i64.wrap (t_0.Event + (IntKind.i64.wrap (t_0.Fast * l_1.Fast)))) + (IntKind.i64.wrap (t_0.Gap * l_1.Gap)))) + (IntKind.i64.wrap (t_0.Shot * l_1.Shots)))) + t_0.Sg.a1)), 0)) else (if l_1.Sg == 2 then (some ((IntKind.i64.wrap ((IntKind.i64.wrap ((IntKind.i64.wrap ((IntKind.i64.wrap (t_0.Event + (IntKind.i64.wrap (t_0.Fast * l_1.Fast)))) + (IntKind.i64.wrap (t_0.Gap * l_1.Gap)))) + (IntKind.i64.wrap (t_0.Shot * l_1.Shots)))) + t_0.Sg.a2)), 0)) else (if l_1.Sg == 3 then (some ((IntKind.i64.wrap ((IntKind.i64.wrap ((IntKind.i64.wrap ((IntKind.i64.wrap (t_0.Event + (IntKind.i64.wrap (t_0.Fast * l_1.Fast)))) + (IntKind.i64.wrap (t_0.Gap * l_1.Gap)))) + (IntKind.i64.wrap (t_0.Shot * l_1.Shots)))) + t_0.Sg.a3)), 0)) else (if l_1.Sg == 4 then (some ((IntKind.i64.wrap ((IntKind.i64.wrap ((IntKind.i64.wrap ((IntKind.i64.wrap (t_0.Event + (IntKind.i64.wrap (t_0.Fast * l_1.Fast)))) + (IntKind.i64.wrap (t_0.Gap * l_1.Gap)))) + (IntKind.i64.wrap (t_0.Shot * l_1.Shots)))) + t_0.Sg.a4)), 0)) else (if l_1.Sg == 5 then (some ((IntKind.i64.wrap ((IntKind.i64.wrap ((IntKind.i64.wrap ((IntKind.i64.wrap (t_0.Event + (IntKind.i64.wrap (t_0.Fast * l_1.Fast)))) + (IntKind.i64.wrap (t_0.Gap * l_1.Gap)))) + (IntKind.i64.wrap (t_0.Shot * l_1.Shots)))) + t_0.Sg.a5)), 0)) else none)))))))))))
theorem a_ref35_Event {I : World → Prop} (hI : Stab I) {t_0 : A_Pn} {l_1 : A_Load} {r : Int × Int} (h : g_ref35_Event t_0 l_1 = some r) : AFun Tryz.prog I 36 [A_Pn.d t_0, A_Load.d l_1] (.tup [.int .i64 r.1, .int .i64 r.2]) := by
 have dd := And.intro dd_EE <| And.intro dd_EB <| And.intro dd_EA <| And.intro dd_EC dd_ED; have k := True.intro; have q := k; have rs := Tryz.results36
 unfold g_ref35_Event at h
 refine .en hI Tryz.func36 Tryz.ntmps36 ?_
 refine xs <| rz ?_
 refine es <| xs <| xs <| rK fun K6 RK6 hK6 gK6 => zz ?_
 obtain ⟨r7, h8, h⟩ := bs h
 refine cw (a_ref35_Check hI h8) <| zz ?_
 subst hK6 gK6
 refine es <| xs <| rz ?_
 refine es ?_
 obtain ⟨k,h⟩|⟨k,h⟩:=iK k h
 ·refine xt <| xs <| rz ?_
  refine es <| xr <| er ?_
  cases h
  exact en fr
 ·refine xf <| xk <| es <| xs ?_
  obtain ⟨v23, h33, h⟩ := bs h
  refine rb_cut (fun v23 => ⟨envL [(2, .iptr [.int .i64 t_0.Sg.a0, .int .i64 t_0.Sg.a1, .int .i64 t_0.Sg.a2, .int .i64 t_0.Sg.a3, .int .i64 t_0.Sg.a4, .int .i64 t_0.Sg.a5, .int .i64 t_0.Rgd, .int .i64 t_0.Row, .int .i64 t_0.Event, .int .i64 t_0.Fast, .int .i64 t_0.Gap, .int .i64 t_0.Shot]), (3, .ptr 0 0), (46, .bool v23)], heapL [(0, .box none [.int .i64 l_1.Fast, .int .i64 l_1.Gap, .int .i64 l_1.Shots, .int .i64 l_1.Sg, .bool l_1.Last])], 1, 78⟩) h33 ?_ ?_
  ·clear h
   intro v23 h
   refine rK fun K24 RK24 hK24 gK24 => zz ?_
   obtain ⟨k,h⟩|⟨k,h⟩:=iK k h
   ·refine zz ?_
    subst hK24 gK24
    cases h
    exact en ⟨rfl, wk [(0, some 1)]⟩
   ·refine zz ?_
    obtain ⟨k,h⟩|⟨k,h⟩:=iK k h
    ·refine zz ?_
     subst hK24 gK24
     cases h
     exact en ⟨rfl, wk [(0, some 1)]⟩
    ·refine zz ?_
     obtain ⟨k,h⟩|⟨k,h⟩:=iK k h
     ·refine zz ?_
      subst hK24 gK24
      cases h
      exact en ⟨rfl, wk [(0, some 1)]⟩
     ·refine zz ?_
      obtain ⟨k,h⟩|⟨k,h⟩:=iK k h
      ·refine zz ?_
       subst hK24 gK24
       cases h
       exact en ⟨rfl, wk [(0, some 1)]⟩
      ·refine zz ?_
       obtain ⟨k,h⟩|⟨k,h⟩:=iK k h
       ·refine zz ?_
        subst hK24 gK24
        cases h
        exact en ⟨rfl, wk [(0, some 1)]⟩
       ·refine zz ?_
        obtain ⟨k,h⟩|⟨k,h⟩:=iK k h
        ·refine zz ?_
         subst hK24 gK24
         cases h
         exact en ⟨rfl, wk [(0, some 1)]⟩
        ·refine zz ?_
         obtain ⟨r31, h32, h⟩ := bs h
         refine cw (a_ref35_within hI h32) <| zz ?_
         subst hK24 gK24
         cases h
         exact en ⟨rfl, wk [(0, some 1)]⟩
  ·obtain ⟨k,h⟩|⟨k,h⟩:=iK k h
   ·refine xt <| xs <| rz ?_
    refine es <| xr <| er ?_
    cases h
    exact en fr
   ·refine xf <| xk <| es <| xs <| rz ?_
    refine es <| xs <| xs <| rz ?_
    refine es ?_
    obtain ⟨k,h⟩|⟨k,h⟩:=iK k h
    ·refine xf <| xk <| es <| xs <| rz ?_
     refine es <| xr ?_
     cases h
     exact en fr
    ·refine xt <| rK fun K44 RK44 hK44 gK44 => zz ?_
     rcases ite_or h with ⟨k45, h⟩ | ⟨_, h⟩
     ·have k := And.intro (eq_of_beq k45) k
      refine zz ?_
      subst hK44 gK44
      refine es <| xs <| rz ?_
      refine es <| xr ?_
      cases h
      exact en fr
     ·rcases ite_or h with ⟨k48, h⟩ | ⟨_, h⟩
      ·have k := And.intro (eq_of_beq k48) k
       refine zz ?_
       subst hK44 gK44
       refine es <| xs <| rz ?_
       refine es <| xr ?_
       cases h
       exact en fr
      ·rcases ite_or h with ⟨k51, h⟩ | ⟨_, h⟩
       ·have k := And.intro (eq_of_beq k51) k
        refine zz ?_
        subst hK44 gK44
        refine es <| xs <| rz ?_
        refine es <| xr ?_
        cases h
        exact en fr
       ·rcases ite_or h with ⟨k54, h⟩ | ⟨_, h⟩
        ·have k := And.intro (eq_of_beq k54) k
         refine zz ?_
         subst hK44 gK44
         refine es <| xs <| rz ?_
         refine es <| xr ?_
         cases h
         exact en fr
        ·rcases ite_or h with ⟨k57, h⟩ | ⟨_, h⟩
         ·have k := And.intro (eq_of_beq k57) k
          refine zz ?_
          subst hK44 gK44
          refine es <| xs <| rz ?_
          refine es <| xr ?_
          cases h
          exact en fr
         ·rcases ite_or h with ⟨k60, h⟩ | ⟨_, h⟩
          ·have k := And.intro (eq_of_beq k60) k
           refine zz ?_
           subst hK44 gK44
           refine es <| xs <| rz ?_
           refine es <| xr ?_
           cases h
           exact en fr
          ·cases h
def g_ref38_Part_s1 (r50 : A_Pg) (x69 : Int × Int) : Option (Nx (Int × Int) (Int)) :=
 (if (decide (x69.2 < (r50.Tokens.length : Int))) then ((atI r50.Tokens x69.2).bind fun y134 => ((g_ref08_Len y134.Text).bind fun r137 => (some (.go ((IntKind.i64.wrap (x69.1 + r137)), (IntKind.i64.wrap (x69.2 + 1))))))) else (some (.out x69.1)))
def g_ref38_Part (s_0 : A_Sh) (from_1 : Int) (to_2 : Int) : Option (A_Part × Int × Int) :=
 ((g_ref38_Check s_0).bind fun r7 => (if (r7 != 0) then (some ((A_Part.mk 0 0 [] (A_Span.mk 0 0)), 0, r7)) else (((if (decide (from_1 < 0)) then (some true) else (if (decide (to_2 ≤ from_1)) then (some true) else (some (decide ((s_0.Words.length : Int) < to_2))))) : Option (Bool)).bind fun v17 => (if v17 then (some ((A_Part.mk 0 0 [] (A_Span.mk 0 0)), 0, 1)) else ((atI s_0.Words from_1).bind fun y31 => ((atI s_0.Words (IntKind.i64.wrap (to_2 - 1))).bind fun y33 => (((if (decide (1 < (IntKind.i64.wrap (to_2 - from_1)))) then (some (decide (s_0.House.MxF < (IntKind.i64.wrap (y33.Span.Out - y31.Span.In))))) else (some false)) : Option (Bool)).bind fun v39 => (if v39 then (some ((A_Part.mk 0 0 [] (A_Span.mk 0 0)), 0, 2)) else ((g_ref38_paragraph s_0 from_1 to_2).bind fun r50 => ((g_ref36_Break r50).bind fun r56 => (if (r56.2 != 0) then (some ((A_Part.mk 0 0 [] (A_Span.mk 0 0)), 0, r56.2)) else ((iter (g_ref38_Part_s1 r50) (0, 0)).bind fun e70 => ((g_ref40_Needed s_0.Rate e70 s_0.House.Reading).bind fun r145 => ((g_ref37_Inside s_0.Shots (A_Span.mk y31.Span.In y33.Span.Out)).bind fun r153 => ((atI r50.Tokens (IntKind.i64.wrap ((IntKind.i64.wrap (to_2 - from_1)) - 1))).bind fun y155 => (if (to_2 == (s_0.Words.length : Int)) then ((g_ref35_Event s_0.Table (A_Load.mk (if 0 > (IntKind.i64.wrap (r145.1 - (IntKind.i64.wrap (y33.Span.Out - y31.Span.In)))) then 0 else (IntKind.i64.wrap (r145.1 - (IntKind.i64.wrap (y33.Span.Out - y31.Span.In))))) 0 (r153.length : Int) y155.Sg (to_2 == (s_0.Words.length : Int)))).bind fun r164 => (some ((A_Part.mk from_1 to_2 r56.1.Ends (A_Span.mk y31.Span.In y33.Span.Out)), (IntKind.i64.wrap (r56.1.Cost + r164.1)), 0))) else ((atI s_0.Words to_2).bind fun y169 => ((g_ref35_Event s_0.Table (A_Load.mk (if 0 > (IntKind.i64.wrap (r145.1 - (IntKind.i64.wrap (y33.Span.Out - y31.Span.In)))) then 0 else (IntKind.i64.wrap (r145.1 - (IntKind.i64.wrap (y33.Span.Out - y31.Span.In))))) (if 0 > (IntKind.i64.wrap (s_0.House.MnG - (IntKind.i64.wrap (y169.Span.In - y33.Span.Out)))) then 0 else (IntKind.i64.wrap (s_0.House.MnG - (IntKind.i64.wrap (y169.Span.In - y33.Span.Out))))) (r153.length : Int) y155.Sg (to_2 == (s_0.Words.length : Int)))).bind fun r175 => (some ((A_Part.mk from_1 to_2 r56.1.Ends (A_Span.mk y31.Span.In y33.Span.Out)), (IntKind.i64.wrap (r56.1.Cost + r175.1)), 0))))))))))))))))))))
theorem a_ref38_Part {I : World → Prop} (hI : Stab I) {s_0 : A_Sh} {from_1 : Int} {to_2 : Int} {r : A_Part × Int × Int} (h : g_ref38_Part s_0 from_1 to_2 = some r) : AFun Tryz.prog I 11 [A_Sh.d s_0, .int .i64 from_1, .int .i64 to_2] (.tup [A_Part.d r.1, .int .i64 r.2.1, .int .i64 r.2.2]) := by
 have dd := And.intro dd_EE <| And.intro dd_EB <| And.intro dd_EA <| And.intro dd_EC dd_ED; have k := True.intro; have q := k; have rs := Tryz.results11
 unfold g_ref38_Part at h
 refine .en hI Tryz.func11 Tryz.ntmps11 ?_
 refine xs <| rz ?_
 refine es <| xs <| xs <| rK fun K6 RK6 hK6 gK6 => zz ?_
 obtain ⟨r7, h8, h⟩ := bs h
 refine cw (a_ref38_Check hI h8) <| zz ?_
 subst hK6 gK6
 refine es <| xs <| rz ?_
 refine es ?_
 obtain ⟨k,h⟩|⟨k,h⟩:=iK k h
 ·refine xt <| xs <| rz ?_
  refine es <| xr <| er ?_
  cases h
  exact en fr
 ·refine xf <| xk <| es <| xs ?_
  obtain ⟨v17, h21, h⟩ := bs h
  refine rb_cut (fun v17 => ⟨envL [(1, .int .i64 from_1), (2, .int .i64 to_2), (3, .ptr 0 0), (6, .ptr 1 0), (42, .bool v17)], heapL [(0, .box none [.int .u8 s_0.Rate, .sl (s_0.Words.map A_Word.d), .sl (s_0.Shots.map (D.int .i64)), .int .i64 s_0.Table.Sg.a0, .int .i64 s_0.Table.Sg.a1, .int .i64 s_0.Table.Sg.a2, .int .i64 s_0.Table.Sg.a3, .int .i64 s_0.Table.Sg.a4, .int .i64 s_0.Table.Sg.a5, .int .i64 s_0.Table.Rgd, .int .i64 s_0.Table.Row, .int .i64 s_0.Table.Event, .int .i64 s_0.Table.Fast, .int .i64 s_0.Table.Gap, .int .i64 s_0.Table.Shot, .str s_0.House.Name, .int .i64 s_0.House.Reading, .int .i64 s_0.House.MnF, .int .i64 s_0.House.MxF, .int .i64 s_0.House.MnG, .int .i64 s_0.House.ShB, .int .i64 s_0.House.ShA, .int .i64 s_0.House.Rows, .int .i64 s_0.House.Cols, .str s_0.House.Fbd, .int .i64 s_0.House.SfT, .int .i64 s_0.House.SfB, .int .i64 s_0.House.SfL, .int .i64 s_0.House.SfR]), (1, .box none [.int .i64 0, .int .i64 0, .nils, .int .i64 0, .int .i64 0])], 2, 178⟩) h21 ?_ ?_
  ·clear h
   intro v17 h
   refine rK fun K18 RK18 hK18 gK18 => zz ?_
   obtain ⟨k,h⟩|⟨k,h⟩:=iK k h
   ·refine zz ?_
    subst hK18 gK18
    cases h
    exact en ⟨rfl, wk []⟩
   ·refine zz ?_
    obtain ⟨k,h⟩|⟨k,h⟩:=iK k h
    ·refine zz ?_
     subst hK18 gK18
     cases h
     exact en ⟨rfl, wk []⟩
    ·refine zz ?_
     subst hK18 gK18
     cases h
     exact en ⟨rfl, wk []⟩
  ·obtain ⟨k,h⟩|⟨k,h⟩:=iK k h
   ·refine xt <| xs <| rz ?_
    refine es <| xr <| er ?_
    cases h
    exact en fr
   ·refine xf <| xk <| es <| xs <| rD hI fun K30 RK30 hK30 gK30 => zz ?_
    obtain ⟨y31, q, h⟩ := bK q h
    refine zz ?_
    obtain ⟨y33, q, h⟩ := bK q h
    refine zz ?_
    refine hd <| zz ?_
    subst hK30 gK30
    refine es <| xs <| rz ?_
    refine es <| xs ?_
    obtain ⟨v39, h42, h⟩ := bs h
    refine rb_cut (fun v39 => ⟨envL [(1, .int .i64 from_1), (2, .int .i64 to_2), (3, .ptr 0 0), (6, .ptr 1 0), (10, .ptr 2 0), (11, .int .i64 (IntKind.i64.wrap (y33.Span.Out - y31.Span.In))), (80, .bool v39)], heapL [(0, .box none [.int .u8 s_0.Rate, .sl (s_0.Words.map A_Word.d), .sl (s_0.Shots.map (D.int .i64)), .int .i64 s_0.Table.Sg.a0, .int .i64 s_0.Table.Sg.a1, .int .i64 s_0.Table.Sg.a2, .int .i64 s_0.Table.Sg.a3, .int .i64 s_0.Table.Sg.a4, .int .i64 s_0.Table.Sg.a5, .int .i64 s_0.Table.Rgd, .int .i64 s_0.Table.Row, .int .i64 s_0.Table.Event, .int .i64 s_0.Table.Fast, .int .i64 s_0.Table.Gap, .int .i64 s_0.Table.Shot, .str s_0.House.Name, .int .i64 s_0.House.Reading, .int .i64 s_0.House.MnF, .int .i64 s_0.House.MxF, .int .i64 s_0.House.MnG, .int .i64 s_0.House.ShB, .int .i64 s_0.House.ShA, .int .i64 s_0.House.Rows, .int .i64 s_0.House.Cols, .str s_0.House.Fbd, .int .i64 s_0.House.SfT, .int .i64 s_0.House.SfB, .int .i64 s_0.House.SfL, .int .i64 s_0.House.SfR]), (1, .box none [.int .i64 0, .int .i64 0, .nils, .int .i64 0, .int .i64 0]), (2, .box none [.int .i64 from_1, .int .i64 to_2, .nils, .int .i64 y31.Span.In, .int .i64 y33.Span.Out])], 3, 178⟩) h42 ?_ ?_
    ·clear h
     intro v39 h
     refine rK fun K40 RK40 hK40 gK40 => zz ?_
     obtain ⟨k,h⟩|⟨k,h⟩:=iK k h
     ·refine zz ?_
      subst hK40 gK40
      cases h
      exact en ⟨rfl, wk [(2, some 21)]⟩
     ·refine zz ?_
      subst hK40 gK40
      cases h
      exact en ⟨rfl, wk [(2, some 21)]⟩
    ·obtain ⟨k,h⟩|⟨k,h⟩:=iK k h
     ·refine xt <| xs <| rz ?_
      refine es <| xr <| er ?_
      cases h
      exact en fr
     ·refine xf <| xk <| es <| xs <| rK fun K49 RK49 hK49 gK49 => zz ?_
      obtain ⟨r50, h51, h⟩ := bs h
      refine cw (a_ref38_paragraph hI h51) <| zz ?_
      subst hK49 gK49
      refine es <| xs <| rK fun K55 RK55 hK55 gK55 => zz ?_
      obtain ⟨r56, h57, h⟩ := bs h
      refine cw (a_ref36_Break hI h57) <| zz ?_
      subst hK55 gK55
      refine es <| xs <| xs <| rz ?_
      refine es ?_
      obtain ⟨k,h⟩|⟨k,h⟩:=iK k h
      ·refine xt <| xs <| rz ?_
       refine es <| xr <| er ?_
       cases h
       exact en fr
      ·refine xf <| xk <| es <| xs <| rz ?_
       refine es <| xs <| rz ?_
       refine es <| xs <| xs <| rz ?_
       refine es <| xb ?_
       obtain ⟨e70, h140, h⟩ := bs h
       refine rb_loop (fun x69 => ⟨envL [(1, .int .i64 from_1), (2, .int .i64 to_2), (3, .ptr 0 0), (6, .ptr 1 0), (10, .ptr 2 0), (11, .int .i64 (IntKind.i64.wrap (y33.Span.Out - y31.Span.In))), (12, .ptr 3 0), (13, .ptr 4 0), (15, .int .i64 x69.1), (99, .sl (r50.Tokens.map A_Token.d)), (100, .int .i64 (r50.Tokens.length : Int)), (101, .int .i64 x69.2)], heapL [(0, .box none [.int .u8 s_0.Rate, .sl (s_0.Words.map A_Word.d), .sl (s_0.Shots.map (D.int .i64)), .int .i64 s_0.Table.Sg.a0, .int .i64 s_0.Table.Sg.a1, .int .i64 s_0.Table.Sg.a2, .int .i64 s_0.Table.Sg.a3, .int .i64 s_0.Table.Sg.a4, .int .i64 s_0.Table.Sg.a5, .int .i64 s_0.Table.Rgd, .int .i64 s_0.Table.Row, .int .i64 s_0.Table.Event, .int .i64 s_0.Table.Fast, .int .i64 s_0.Table.Gap, .int .i64 s_0.Table.Shot, .str s_0.House.Name, .int .i64 s_0.House.Reading, .int .i64 s_0.House.MnF, .int .i64 s_0.House.MxF, .int .i64 s_0.House.MnG, .int .i64 s_0.House.ShB, .int .i64 s_0.House.ShA, .int .i64 s_0.House.Rows, .int .i64 s_0.House.Cols, .str s_0.House.Fbd, .int .i64 s_0.House.SfT, .int .i64 s_0.House.SfB, .int .i64 s_0.House.SfL, .int .i64 s_0.House.SfR]), (1, .box none [.int .i64 0, .int .i64 0, .nils, .int .i64 0, .int .i64 0]), (2, .box none [.int .i64 from_1, .int .i64 to_2, .sl (r56.1.Ends.map (D.int .i64)), .int .i64 y31.Span.In, .int .i64 y33.Span.Out]), (3, .box none [.sl (r50.Tokens.map A_Token.d), .int .i64 r50.Width, .int .i64 r50.Rows, .int .i64 r50.Table.Sg.a0, .int .i64 r50.Table.Sg.a1, .int .i64 r50.Table.Sg.a2, .int .i64 r50.Table.Sg.a3, .int .i64 r50.Table.Sg.a4, .int .i64 r50.Table.Sg.a5, .int .i64 r50.Table.Rgd, .int .i64 r50.Table.Row, .int .i64 r50.Table.Event, .int .i64 r50.Table.Fast, .int .i64 r50.Table.Gap, .int .i64 r50.Table.Shot]), (4, .box none [.sl (r56.1.Ends.map (D.int .i64)), .int .i64 r56.1.Cost, .sl (r56.1.Pts.map (D.int .i64))])], 5, 178⟩) (fun _ => .exit 0) (fun e70 => ⟨envL [(1, .int .i64 from_1), (2, .int .i64 to_2), (3, .ptr 0 0), (6, .ptr 1 0), (10, .ptr 2 0), (11, .int .i64 (IntKind.i64.wrap (y33.Span.Out - y31.Span.In))), (12, .ptr 3 0), (13, .ptr 4 0), (15, .int .i64 e70)], heapL [(0, .box none [.int .u8 s_0.Rate, .sl (s_0.Words.map A_Word.d), .sl (s_0.Shots.map (D.int .i64)), .int .i64 s_0.Table.Sg.a0, .int .i64 s_0.Table.Sg.a1, .int .i64 s_0.Table.Sg.a2, .int .i64 s_0.Table.Sg.a3, .int .i64 s_0.Table.Sg.a4, .int .i64 s_0.Table.Sg.a5, .int .i64 s_0.Table.Rgd, .int .i64 s_0.Table.Row, .int .i64 s_0.Table.Event, .int .i64 s_0.Table.Fast, .int .i64 s_0.Table.Gap, .int .i64 s_0.Table.Shot, .str s_0.House.Name, .int .i64 s_0.House.Reading, .int .i64 s_0.House.MnF, .int .i64 s_0.House.MxF, .int .i64 s_0.House.MnG, .int .i64 s_0.House.ShB, .int .i64 s_0.House.ShA, .int .i64 s_0.House.Rows, .int .i64 s_0.House.Cols, .str s_0.House.Fbd, .int .i64 s_0.House.SfT, .int .i64 s_0.House.SfB, .int .i64 s_0.House.SfL, .int .i64 s_0.House.SfR]), (1, .box none [.int .i64 0, .int .i64 0, .nils, .int .i64 0, .int .i64 0]), (2, .box none [.int .i64 from_1, .int .i64 to_2, .sl (r56.1.Ends.map (D.int .i64)), .int .i64 y31.Span.In, .int .i64 y33.Span.Out]), (3, .box none [.sl (r50.Tokens.map A_Token.d), .int .i64 r50.Width, .int .i64 r50.Rows, .int .i64 r50.Table.Sg.a0, .int .i64 r50.Table.Sg.a1, .int .i64 r50.Table.Sg.a2, .int .i64 r50.Table.Sg.a3, .int .i64 r50.Table.Sg.a4, .int .i64 r50.Table.Sg.a5, .int .i64 r50.Table.Rgd, .int .i64 r50.Table.Row, .int .i64 r50.Table.Event, .int .i64 r50.Table.Fast, .int .i64 r50.Table.Gap, .int .i64 r50.Table.Shot]), (4, .box none [.sl (r56.1.Ends.map (D.int .i64)), .int .i64 r56.1.Cost, .sl (r56.1.Pts.map (D.int .i64))])], 5, 178⟩) h140 (wk [(3, some 7), (4, some 14)]) (by intro w; simp) ?_ ?_
       ·clear h
        intro x69 y h
        unfold g_ref38_Part_s1 at h
        refine xs <| rz ?_
        refine es <| xs ?_
        obtain ⟨k,h⟩|⟨k,h⟩:=iK k h
        ·refine xt <| xk <| es <| xs <| xb <| xs <| rK fun K133 RK133 hK133 gK133 => zz ?_
         obtain ⟨y134, q, h⟩ := bK q h
         refine zz ?_
         subst hK133 gK133
         refine es <| rK fun K136 RK136 hK136 gK136 => zz ?_
         obtain ⟨r137, h138, h⟩ := bs h
         refine cw (a_ref08_Len hI h138) <| zz ?_
         subst hK136 gK136
         refine bn <| es <| rz ?_
         cases h
         exact en ⟨rfl, wk []⟩
        ·refine xf <| xx <| ee ?_
         cases h
         exact en ⟨rfl, wk []⟩
       ·refine bh <| es <| xs <| rK fun K144 RK144 hK144 gK144 => zz ?_
        obtain ⟨r145, h146, h⟩ := bs h
        refine cw (a_ref40_Needed hI h146) <| zz ?_
        subst hK144 gK144
        refine es <| xs <| rD hI fun K152 RK152 hK152 gK152 => zz ?_
        obtain ⟨r153, h154, h⟩ := bs h
        refine cd (a_ref37_Inside hI h154) <| zz ?_
        obtain ⟨y155, q, h⟩ := bK q h
        refine zz ?_
        refine hd <| zz ?_
        subst hK152 gK152
        refine es <| xs <| xs <| rz ?_
        refine es ?_
        obtain ⟨k,h⟩|⟨k,h⟩:=iK k h
        ·refine xf <| xk <| es <| xs <| rK fun K163 RK163 hK163 gK163 => zz ?_
         obtain ⟨r164, h165, h⟩ := bs h
         refine cw (a_ref35_Event hI h165) <| zz ?_
         subst hK163 gK163
         refine es <| xs <| rP hI fun K167 hK167 => rgP_cons <| zq ?_
         refine sP.foot (.cell 2 0 5) (fun _ => FootOK.ld rfl rfl rfl (by kernel_rfl) (by decide)) fd (by first | exact .inl (by first | rfl | decide) | exact .inr (by kernel_rfl)) <| rgP_cons <| zq ?_
         refine sP.light rfl fd <| rgP_cons <| zq ?_
         refine sP.foot (.cell 4 1 1) (fun _ => FootOK.ld rfl rfl rfl (by kernel_rfl) (by decide)) fd (by first | exact .inl (by first | rfl | decide) | exact .inr (by kernel_rfl)) <| rgP_cons <| zq ?_
         refine sP.light rfl fd <| rgP_cons <| zq ?_
         refine sP.light rfl fd <| rgP_cons <| zq ?_
         refine sP.pat 1 0 5 rfl rfl rfl <| rgP_cons <| zq ?_
         refine sP.light rfl fd <| rgP_cons <| zq ?_
         refine sP.light rfl fd <| zq ?_
         refine rgP_nil fk ?_
         subst hK167
         refine es <| xr ?_
         cases h
         exact en fr
        ·refine xt <| rD hI fun K168 RK168 hK168 gK168 => zz ?_
         obtain ⟨y169, q, h⟩ := bK q h
         refine zz ?_
         refine hd <| zz ?_
         subst hK168 gK168
         refine es <| xs <| rK fun K174 RK174 hK174 gK174 => zz ?_
         obtain ⟨r175, h176, h⟩ := bs h
         refine cw (a_ref35_Event hI h176) <| zz ?_
         subst hK174 gK174
         refine es <| xs <| rP hI fun K178 hK178 => rgP_cons <| zq ?_
         refine sP.foot (.cell 2 0 5) (fun _ => FootOK.ld rfl rfl rfl (by kernel_rfl) (by decide)) fd (by first | exact .inl (by first | rfl | decide) | exact .inr (by kernel_rfl)) <| rgP_cons <| zq ?_
         refine sP.light rfl fd <| rgP_cons <| zq ?_
         refine sP.foot (.cell 4 1 1) (fun _ => FootOK.ld rfl rfl rfl (by kernel_rfl) (by decide)) fd (by first | exact .inl (by first | rfl | decide) | exact .inr (by kernel_rfl)) <| rgP_cons <| zq ?_
         refine sP.light rfl fd <| rgP_cons <| zq ?_
         refine sP.light rfl fd <| rgP_cons <| zq ?_
         refine sP.pat 1 0 5 rfl rfl rfl <| rgP_cons <| zq ?_
         refine sP.light rfl fd <| rgP_cons <| zq ?_
         refine sP.light rfl fd <| zq ?_
         refine rgP_nil fk ?_
         subst hK178
         refine es <| xr ?_
         cases h
         exact en fr
structure T_R38_rest where
 cost_ : Int
 parts_ : Int
 deriving DecidableEq
def T_R38_rest.d (x : T_R38_rest) : D := .agg [.int .i64 x.cost_, .int .i64 x.parts_]
theorem dd_EF : (∀ x, A_Pf.d x = .agg [.str x.Name, .int .i64 x.Reading, .int .i64 x.MnF, .int .i64 x.MxF, .int .i64 x.MnG, .int .i64 x.ShB, .int .i64 x.ShA, .int .i64 x.Rows, .int .i64 x.Cols, .str x.Fbd, .int .i64 x.SfT, .int .i64 x.SfB, .int .i64 x.SfL, .int .i64 x.SfR]) := fun _ => rfl
def g_slEq64_s1 (s1_0 : List Int) (s2_1 : List Int) (x10 : Int) : Option (Nx (Int) (Unit ⊕ Unit)) :=
 (if (decide (x10 < (s1_0.length : Int))) then ((atI s1_0 x10).bind fun y74 => ((atI s2_1 x10).bind fun y76 => (if (y74 != y76) then (some (.out (.inl ()))) else (some (.go (IntKind.i64.wrap (x10 + 1))))))) else (some (.out (.inr ()))))
def g_slEq64 (s1_0 : List Int) (s2_1 : List Int) : Option (Bool) :=
 (if ((s1_0.length : Int) != (s2_1.length : Int)) then (some false) else ((iter (g_slEq64_s1 s1_0 s2_1) 0).bind fun e11 => (match e11 with | Sum.inl e11 => (some false) | Sum.inr (e11) => (some true))))
theorem a_slEq64 {I : World → Prop} (hI : Stab I) {s1_0 : List Int} {s2_1 : List Int} {r : Bool} (h : g_slEq64 s1_0 s2_1 = some r) : AFun Tryz.prog I 18 [.sl (s1_0.map (D.int .i64)), .sl (s2_1.map (D.int .i64))] (.bool r) := by
 have dd := And.intro dd_EF <| And.intro dd_EA <| And.intro dd_EB dd_ED; have k := True.intro; have q := k; have rs := Tryz.results18
 unfold g_slEq64 at h
 refine .en hI Tryz.func18 Tryz.ntmps18 ?_
 refine xs <| rz ?_
 refine es <| xs <| xs <| rz ?_
 refine es ?_
 obtain ⟨k,h⟩|⟨k,h⟩:=iK k h
 ·refine xt <| xs <| rz ?_
  refine es <| xr <| er ?_
  cases h
  exact en fr
 ·refine xf <| xk <| es <| xs <| xs <| rz ?_
  refine es <| xb ?_
  obtain ⟨e11, h82, h⟩ := bs h
  refine rb_loop (fun x10 => ⟨envL [(0, .sl (s1_0.map (D.int .i64))), (1, .sl (s2_1.map (D.int .i64))), (12, .int .i64 (s1_0.length : Int)), (13, .int .i64 x10)], heapL [], 0, 26⟩) (fun w => match w with | Sum.inl _ => .ret | Sum.inr (_) => .exit 0) (fun w => match w with | Sum.inl e11 => ⟨envL [(4, .bool false)], heapL [], 0, 26⟩ | Sum.inr (e11) => ⟨envL [], heapL [], 0, 26⟩) h82 (wk []) (by intro w; rcases w with w | w <;> simp) ?_ ?_
  ·clear h
   intro x10 y h
   unfold g_slEq64_s1 at h
   refine xs <| rz ?_
   refine es <| xs ?_
   obtain ⟨k,h⟩|⟨k,h⟩:=iK k h
   ·refine xt <| xk <| es <| xs <| xb <| xs <| rz ?_
    refine es <| xs <| rD hI fun K73 RK73 hK73 gK73 => zz ?_
    obtain ⟨y74, q, h⟩ := bK q h
    refine zz ?_
    obtain ⟨y76, q, h⟩ := bK q h
    refine zz ?_
    subst hK73 gK73
    refine es ?_
    obtain ⟨k,h⟩|⟨k,h⟩:=iK k h
    ·refine xt <| xs <| rz ?_
     refine es <| xr <| br <| er ?_
     cases h
     exact en ⟨rfl, wk []⟩
    ·refine xf <| xk <| bn <| es <| rz ?_
     cases h
     exact en ⟨rfl, wk []⟩
   ·refine xf <| xx <| ee ?_
    cases h
    exact en ⟨rfl, wk []⟩
  ·rcases e11 with e11 | e11
   ·try dsimp only at h ⊢
    refine br <| er ?_
    cases h
    exact en fr
   ·try dsimp only at h ⊢
    refine bh <| es <| xs <| rz ?_
    refine es <| xr ?_
    cases h
    exact en fr
def g_law38_awake  : Option (Bool) :=
 ((g_pf_Standard 3).bind fun r7 => ((g_pn_Standard).bind fun r13 => ((g_sg_Segment (A_Sh.mk 3 [(A_Word.mk [71, 111, 33] (A_Span.mk 0 25)), (A_Word.mk [78, 111, 119] (A_Span.mk 25 50))] [] r13 r7.1)).bind fun r19 => ((g_sg_Cost (A_Sh.mk 3 [(A_Word.mk [71, 111, 33] (A_Span.mk 0 25)), (A_Word.mk [78, 111, 119] (A_Span.mk 25 50))] [] r13 r7.1) [(A_Part.mk 0 1 [] (A_Span.mk 0 0)), (A_Part.mk 1 2 [] (A_Span.mk 0 0))]).bind fun r25 => (if (r7.2 == 0) then (if (r19.2 == 0) then (if (r25.2 == 0) then (if (r19.1.Cost == 550) then (if (r25.1 == 1300) then (if ((r19.1.Parts.length : Int) == 1) then ((g_slEq64 r19.1.Pts [550, 550, 0]).bind fun r43 => (some r43)) else (some false)) else (some false)) else (some false)) else (some false)) else (some false)) else (some false))))))
theorem a_law38_awake {I : World → Prop} (hI : Stab I) (hShp : ∀ w, I w → Shp w) (hU8T : ∀ w, I w → U8T w)  {r : Bool} (h : g_law38_awake  = some r) : AFun Tryz.prog I 8 [] (.bool r) := by
 have dd := And.intro dd_EF <| And.intro dd_EA <| And.intro dd_EB dd_ED; have k := True.intro; have q := k; have rs := Tryz.results8
 unfold g_law38_awake at h
 refine .en hI Tryz.func8 Tryz.ntmps8 ?_
 refine xs <| rz ?_
 refine es <| xs <| rK fun K6 RK6 hK6 gK6 => zz ?_
 obtain ⟨r7, h8, h⟩ := bs h
 refine cw (a_pf_Standard hI h8) <| zz ?_
 subst hK6 gK6
 refine es <| xs <| rD hI fun K12 RK12 hK12 gK12 => zz ?_
 obtain ⟨r13, h14, h⟩ := bs h
 refine cd (a_pn_Standard hI h14) <| zz ?_
 refine hd <| zz ?_
 subst hK12 gK12
 refine es <| xs <| rK fun K18 RK18 hK18 gK18 => zz ?_
 obtain ⟨r19, h20, h⟩ := bs h
 refine cw (a_sg_Segment hI hShp hU8T h20) <| zz ?_
 subst hK18 gK18
 refine es <| xs <| rK fun K24 RK24 hK24 gK24 => zz ?_
 obtain ⟨r25, h26, h⟩ := bs h
 refine cw (a_sg_Cost hI hShp hU8T h26) <| zz ?_
 subst hK24 gK24
 refine es <| xs <| rK fun K36 RK36 hK36 gK36 => zz ?_
 obtain ⟨k,h⟩|⟨k,h⟩:=iK k h
 ·refine zz ?_
  obtain ⟨k,h⟩|⟨k,h⟩:=iK k h
  ·refine zz ?_
   obtain ⟨k,h⟩|⟨k,h⟩:=iK k h
   ·refine zz ?_
    obtain ⟨k,h⟩|⟨k,h⟩:=iK k h
    ·refine zz ?_
     obtain ⟨k,h⟩|⟨k,h⟩:=iK k h
     ·refine zz ?_
      obtain ⟨k,h⟩|⟨k,h⟩:=iK k h
      ·refine zz ?_
       obtain ⟨r43, h44, h⟩ := bs h
       refine cw (a_slEq64 hI h44) <| zz ?_
       subst hK36 gK36
       refine es <| xr ?_
       cases h
       exact en fr
      ·refine zz ?_
       subst hK36 gK36
       refine es <| xr ?_
       cases h
       exact en fr
     ·refine zz ?_
      subst hK36 gK36
      refine es <| xr ?_
      cases h
      exact en fr
    ·refine zz ?_
     subst hK36 gK36
     refine es <| xr ?_
     cases h
     exact en fr
   ·refine zz ?_
    subst hK36 gK36
    refine es <| xr ?_
    cases h
    exact en fr
  ·refine zz ?_
   subst hK36 gK36
   refine es <| xr ?_
   cases h
   exact en fr
 ·refine zz ?_
  subst hK36 gK36
  refine es <| xr ?_
  cases h
  exact en fr
def g_law38_few (s_0 : A_Sh) : Option (A_Sh) :=
 ((subH s_0.Words (if 8 < (s_0.Words.length : Int) then 8 else (s_0.Words.length : Int))).bind fun z15 => ((subH s_0.Shots (if 6 < (s_0.Shots.length : Int) then 6 else (s_0.Shots.length : Int))).bind fun z20 => (some (A_Sh.mk s_0.Rate z15 z20 s_0.Table s_0.House))))
theorem a_law38_few {I : World → Prop} (hI : Stab I) {s_0 : A_Sh} {r : A_Sh} (h : g_law38_few s_0 = some r) : AFun Tryz.prog I 9 [A_Sh.d s_0] (A_Sh.d r) := by
 have dd := And.intro dd_EF <| And.intro dd_EA <| And.intro dd_EB dd_ED; have k := True.intro; have q := k; have rs := Tryz.results9
 unfold g_law38_few at h
 refine .en hI Tryz.func9 Tryz.ntmps9 ?_
 refine xs <| rz ?_
 refine es <| xs <| rP hI fun K14 hK14 => rgP_cons <| zq ?_
 refine sP.light rfl fd <| rgP_cons <| zq ?_
 refine sP.foot (.cell 0 1 1) (fun _ => FootOK.ld rfl rfl rfl (by kernel_rfl) (by decide)) fd (by first | exact .inl (by first | rfl | decide) | exact .inr (by kernel_rfl)) <| rgP_cons <| zq ?_
 refine sP.light rfl fd <| rgP_cons <| zq ?_
 refine sP.foot (.cell 0 1 1) (fun _ => FootOK.ld rfl rfl rfl (by kernel_rfl) (by decide)) fd (by first | exact .inl (by first | rfl | decide) | exact .inr (by kernel_rfl)) <| rgP_cons <| zq ?_
 refine sP.light rfl fd <| rgP_cons <| zq ?_
 refine sP.light rfl fd <| rgP_cons <| zq ?_
 obtain ⟨z15, h16, h⟩ := bind_some h
 obtain ⟨⟨h17, h18⟩, h19⟩ := subH_some h16
 have q := And.intro @h17 <| And.intro @h18 <| q
 try simp -implicitDefEqProofs only [vt, vm, sevalprocAttr, dd, k, q] at h19
 have q := And.intro @h19 <| q
 refine zq ?_
 refine sP.foot (.ids []) (fun hN => FootOK.idsB [] (by rfl) rfl hN) fd (by first | exact .inl (by first | rfl | decide) | exact .inr (by kernel_rfl)) <| rgP_cons <| zq ?_
 refine sP.light rfl fd <| rgP_cons <| zq ?_
 refine sP.foot (.cell 0 2 1) (fun _ => FootOK.ld rfl rfl rfl (by kernel_rfl) (by decide)) fd (by first | exact .inl (by first | rfl | decide) | exact .inr (by kernel_rfl)) <| rgP_cons <| zq ?_
 refine sP.light rfl fd <| rgP_cons <| zq ?_
 refine sP.foot (.cell 0 2 1) (fun _ => FootOK.ld rfl rfl rfl (by kernel_rfl) (by decide)) fd (by first | exact .inl (by first | rfl | decide) | exact .inr (by kernel_rfl)) <| rgP_cons <| zq ?_
 refine sP.light rfl fd <| rgP_cons <| zq ?_
 refine sP.light rfl fd <| rgP_cons <| zq ?_
 obtain ⟨z20, h21, h⟩ := bind_some h
 obtain ⟨⟨h22, h23⟩, h24⟩ := subH_some h21
 have q := And.intro @h22 <| And.intro @h23 <| q
 try simp -implicitDefEqProofs only [vt, vm, sevalprocAttr, dd, k, q] at h24
 have q := And.intro @h24 <| q
 refine zq ?_
 refine sP.foot (.ids []) (fun hN => FootOK.idsB [] (by rfl) rfl hN) fd (by first | exact .inl (by first | rfl | decide) | exact .inr (by kernel_rfl)) <| rgP_cons <| zq ?_
 refine sP.light rfl fd <| rgP_cons <| zq ?_
 refine sP.pat 0 1 1 rfl rfl rfl <| rgP_cons <| zq ?_
 refine sP.light rfl fd <| rgP_cons <| zq ?_
 refine sP.pat 0 2 1 rfl rfl rfl <| zq ?_
 refine rgP_nil fk ?_
 subst hK14
 refine es <| xs <| rz ?_
 refine es <| xr ?_
 cases h
 exact en fr
end Go.Proofs.YtalfcmgcjdkolaaGreatDoor

namespace Go.Proofs.YtalfcmgcjdkolaaGreatDoor
set_option maxRecDepth 100000
def nmB (b : UInt8) : Bool := (decide (65 ≤ b.toNat) && decide (b.toNat ≤ 90)) || (decide (48 ≤ b.toNat) && decide (b.toNat ≤ 57)) || b.toNat == 95 || b.toNat == 45
def isNm (s : List UInt8) : Bool := match s with
 | [] => false
 | b :: _ => decide (s.length ≤ 16) && (decide (65 ≤ b.toNat) && decide (b.toNat ≤ 90)) && s.all nmB
theorem isNm_at (s : List UInt8) (h1 : 1 ≤ s.length) : isNm s = true ↔ (s.length ≤ 16 ∧ (65 ≤ s[0].toNat ∧ s[0].toNat ≤ 90) ∧ ∀ i (h : i < s.length), nmB s[i] = true) := by
 match s, h1 with
 | b :: t, _ =>
  simp only [isNm, Bool.and_eq_true, decide_eq_true_eq, List.all_eq_true]
  constructor
  ·rintro ⟨⟨h1, h2⟩, h3⟩
   exact ⟨h1, by simpa using h2, fun i h => h3 _ (List.getElem_mem h)⟩
  ·rintro ⟨h1, h2, h3⟩
   refine ⟨⟨h1, by simpa using h2⟩, fun x hx => ?_⟩
   obtain ⟨i, hi, rfl⟩ := List.getElem_of_mem hx
   exact h3 i hi
theorem lines_Name_loop (s : List UInt8) (hs : s.length ≤ 16) : ∃ e, iter (g_lines_Name_s1 s) 0 = some e ∧ (e = .inr () ↔ ∀ i (h : i < s.length), nmB s[i] = true) := by
 refine iter_cnt s.length (by omega) (fun n => ∀ i (h : i < s.length), i < n → nmB s[i] = true) _ (by intro i _ h; omega) ?_ ?_
 ·intro i hi hI
  have hw := wrap_i64 ((i : Int) + 1) (by omega) (by omega)
  simp only [g_lines_Name_s1, atI_nat hi, Option.bind_some, hw]
  have hb := u8lt s[i]
  have hk : nmB s[i] = true ∨ nmB s[i] = false := by cases nmB s[i] <;> simp
  rcases hk with hk | hk
  ·left
   refine ⟨?_, fun j hj hlt => ?_⟩
   ·simp only [nmB] at hk; grind
   ·by_cases hji : j = i
    ·subst hji; exact hk
    ·exact hI j hj (by omega)
  ·right
   refine ⟨.inl (), ?_, ?_⟩
   ·simp only [nmB] at hk; grind
   ·simp only [reduceCtorEq, false_iff]
    intro h
    have := h i hi
    simp [hk] at this
 ·intro hI
  refine ⟨.inr (), by simp [g_lines_Name_s1], ?_⟩
  simp only [true_iff]
  exact fun i h => hI i h h
theorem lines_Name_eq (s : List UInt8) : g_lines_Name s = some (isNm s) := by
 by_cases h0 : s.length < 1
 ·match s, h0 with
  | [], _ => rfl
 ·by_cases h1 : s.length ≤ 16
  ·obtain ⟨e, he, hi⟩ := lines_Name_loop s h1
   have hn := isNm_at s (by omega)
   have h0' : atI s 0 = some s[0] := atI_nat (n := 0) (by omega)
   simp only [g_lines_Name, he, h0', Option.bind_some]
   rcases e with ⟨⟩ | ⟨⟩ <;> grind
  ·have : isNm s = false := by
    cases hh : isNm s with
    | false => rfl
    | true => exact absurd ((isNm_at s (by omega)).1 hh).1 h1
   simp only [g_lines_Name, this]
   grind
theorem digit_eq (c : Int) : g_ref07_digit c = some (decide (48 ≤ c) && decide (c ≤ 57)) := by
 simp only [g_ref07_digit]; grind
theorem ref07_Name_loop (s : List UInt8) (hs : s.length ≤ 16) (hs1 : 1 ≤ s.length) : ∃ e, iter (g_ref07_Name_s1 s) 0 = some e ∧ (e = .inr () ↔ (65 ≤ s[0].toNat ∧ s[0].toNat ≤ 90) ∧ ∀ i (h : i < s.length), nmB s[i] = true) := by
 refine iter_cnt s.length (by omega) (fun n => (0 < n → 65 ≤ s[0].toNat ∧ s[0].toNat ≤ 90) ∧ ∀ i (h : i < s.length), i < n → nmB s[i] = true) _ ⟨by omega, by intro i _ h; omega⟩ ?_ ?_
 ·intro i hi ⟨hI0, hI⟩
  have hw := wrap_i64 ((i : Int) + 1) (by omega) (by omega)
  simp only [g_ref07_Name_s1, atI_nat hi, Option.bind_some, hw, digit_eq]
  have hb := u8lt s[i]
  by_cases hk : nmB s[i] = true ∧ (i = 0 → 65 ≤ s[0].toNat ∧ s[0].toNat ≤ 90)
  ·left
   obtain ⟨hk, hk0⟩ := hk
   refine ⟨?_, fun _ => ?_, fun j hj hlt => ?_⟩
   ·simp only [nmB] at hk
    by_cases h0 : i = 0
    ·subst h0; grind
    ·grind
   ·by_cases h0 : i = 0
    ·exact hk0 h0
    ·exact hI0 (by omega)
   ·by_cases hji : j = i
    ·subst hji; exact hk
    ·exact hI j hj (by omega)
  ·right
   refine ⟨.inl (), ?_, ?_⟩
   ·simp only [nmB] at hk
    by_cases h0 : i = 0
    ·subst h0; grind
    ·grind
   ·simp only [reduceCtorEq, false_iff]
    rintro ⟨h1, h2⟩
    exact hk ⟨h2 i hi, fun _ => h1⟩
 ·intro ⟨hI0, hI⟩
  refine ⟨.inr (), by simp [g_ref07_Name_s1], ?_⟩
  simp only [true_iff]
  exact ⟨hI0 (by omega), fun i h => hI i h h⟩
theorem ref07_Name_eq (s : List UInt8) : g_ref07_Name s = some (isNm s) := by
 by_cases h0 : s.length < 1
 ·match s, h0 with
  | [], _ => rfl
 ·by_cases h1 : s.length ≤ 16
  ·obtain ⟨e, he, hi⟩ := ref07_Name_loop s h1 (by omega)
   have hn := isNm_at s (by omega)
   simp only [g_ref07_Name, he, Option.bind_some]
   rcases e with ⟨⟩ | ⟨⟩ <;> grind
  ·have : isNm s = false := by
    cases hh : isNm s with
    | false => rfl
    | true => exact absurd ((isNm_at s (by omega)).1 hh).1 h1
   simp only [g_ref07_Name, this]
   grind
theorem decL_dec {l : List UInt8} (h : l ≠ []) : decL l = Lib.decodeL l := by
 unfold Lib.decodeL
 have := decL_eq l 0 ((List.length_pos_iff.2 h))
 rw [this]; simp
theorem decL_wd {l : List UInt8} (h : l ≠ []) : 1 ≤ (decL l).2 := by rw [decL_dec h]; exact Lib.decodeL_width l
theorem wd_pos {s : List UInt8} {p : Nat} (h : p < s.length) : 1 ≤ widthAt s p := by
 unfold widthAt
 refine decL_wd fun h0 => ?_
 have := congrArg List.length h0
 simp at this; omega
theorem place_same (s : List UInt8) (r : Int) : g_ch_place_s1 s r = g_ref08_Index_s1 r s := by
 funext x
 unfold g_ch_place_s1 g_ref08_Index_s1
 rfl
theorem place_total (s : List UInt8) (hs : s.length ≤ 1000) (r : Int) : ∃ e, iter (g_ref08_Index_s1 r s) (0, 0) = some e := by
 have := iter_post (step := g_ref08_Index_s1 r s) (fun x => 0 ≤ x.1 ∧ x.1 ≤ x.2) (fun x => s.length - x.2) (fun _ => True) (x := (0, 0)) ⟨Int.le_refl _, by simp⟩ (by show s.length - 0 < _; omega) ?_
 ·obtain ⟨e, h, _⟩ := this; exact ⟨e, h⟩
 ·rintro ⟨n, p⟩ ⟨h0, h1⟩
  dsimp only at h0 h1
  unfold g_ref08_Index_s1
  dsimp only
  by_cases hp : p < s.length
  ·rw [if_pos (by simpa using hp)]
   by_cases hr : (runeAt s p == r) = true
   ·right; rw [if_pos hr]; exact ⟨_, rfl, trivial⟩
   ·left; rw [if_neg hr]
    have hw := wd_pos hp
    refine ⟨_, rfl, ?_, ?_⟩
    ·dsimp only
     rw [wr64 (by omega)]
     omega
    ·dsimp only; omega
  ·right; rw [if_neg (by simpa using hp)]; exact ⟨_, rfl, trivial⟩
theorem Index_same (r : Int) : ∃ v, g_ch_Index r = some v ∧ g_ref08_Index r = some v := by
 unfold g_ch_Index g_ref08_Index g_ch_place
 by_cases h : 32 ≤ r ∧ r ≤ 126
 ·rw [if_pos (by simpa using h.1)]
  simp only [Option.bind_some]
  rw [if_pos (by simpa using h.2), if_pos (by simpa using h.2)]
  exact ⟨_, rfl, rfl⟩
 ·have : (if decide (32 ≤ r) = true then some (decide (r ≤ 126)) else some false : Option Bool) = some false := by
   by_cases h1 : 32 ≤ r
   ·have : ¬ r ≤ 126 := fun h2 => h ⟨h1, h2⟩
    simp [h1, this]
   ·simp [h1]
  rw [this]
  simp only [Option.bind_some, Bool.false_eq_true, if_false, place_same, g_ref08_Repertoire]
  obtain ⟨e, he⟩ := place_total g_ref08_Repertoire.get! (by decide) r
  simp only [g_ref08_Repertoire, Option.get!] at he
  rw [he]
  cases e <;> exact ⟨_, rfl, rfl⟩
def ixv (r : Int) : Int := (g_ref08_Index r).getD 0
theorem ix_eq (r : Int) : g_ch_Index r = some (ixv r) ∧ g_ref08_Index r = some (ixv r) := by
 obtain ⟨v, h1, h2⟩ := Index_same r
 unfold ixv
 rw [h2]
 exact ⟨h1, rfl⟩
theorem ixv_bad : g_ref08_Index 65533 = some (-1) := by decide +kernel
def gv (l : List UInt8) : Bool := if h : l = [] then true else decide (0 ≤ ixv (decL l).1) && gv (l.drop (decL l).2)
termination_by l.length
decreasing_by
 have := decL_wd h
 have := (List.length_pos_iff.2 h)
 simp; omega
theorem gv_nil : gv [] = true := by unfold gv; simp
theorem gv_ne {l : List UInt8} (h : l ≠ []) : gv l = (decide (0 ≤ ixv (decL l).1) && gv (l.drop (decL l).2)) := by
 rw [gv, dif_neg h]
theorem gv_loop {step : Nat → Option (Nx Nat (Unit ⊕ Unit))} (s : List UInt8) (hs : s.length < 73786976294838206464) (hst : ∀ p, step p = (if decide (p < s.length) = true then (if decide (ixv (runeAt s p) < 0) = true then some (.out (.inl ())) else some (.go (p + widthAt s p))) else some (.out (.inr ())))) :
  iter step 0 = some (if gv s then .inr () else .inl ()) := by
 refine iter_of (fun p e => e = if gv (s.drop p) then .inr () else .inl ()) (fun p => s.length - p) ?_ (x := 0) (by simp) (by show s.length - 0 < _; omega)
 rintro p e rfl
 rw [hst]
 by_cases hp : p < s.length
 ·rw [if_pos (by simpa using hp)]
  have hne : s.drop p ≠ [] := fun h0 => by have := congrArg List.length h0; simp at this; omega
  by_cases hr : ixv (runeAt s p) < 0
  ·right
   rw [if_pos (by simpa using hr), gv_ne hne]
   have : ¬ 0 ≤ ixv (decL (s.drop p)).1 := by unfold runeAt at hr; omega
   simp [this]
  ·left
   rw [if_neg (by simpa using hr)]
   have hw := wd_pos hp
   refine ⟨_, rfl, ?_, by omega⟩
   rw [gv_ne hne]
   have : 0 ≤ ixv (decL (s.drop p)).1 := by unfold runeAt at hr; omega
   simp only [this, decide_true, Bool.true_and, List.drop_drop]
   rfl
 ·right
  rw [if_neg (by simpa using hp), List.drop_eq_nil_of_le (by omega), gv_nil]; rfl
theorem ref_Valid_eq (s : List UInt8) (hs : s.length ≤ 140737488355328) : g_ref08_Valid s = some (gv s) := by
 unfold g_ref08_Valid
 rw [gv_loop s (by omega) (fun p => by unfold g_ref08_Valid_s1; simp only [(ix_eq _).2, Option.bind_some])]
 cases gv s <;> rfl
theorem gv_valid : ∀ (n : Nat) (l : List UInt8), l.length ≤ n → gv l = true → Lib.validD l = true := by
 intro n
 induction n with
 | zero => intro l hl _; have : l = [] := List.eq_nil_of_length_eq_zero (by omega); subst this; rfl
 | succ n ih =>
  intro l hl h
  by_cases hne : l = []
  ·subst hne; rfl
  ·rw [gv_ne hne, Bool.and_eq_true, decide_eq_true_eq] at h
   have hw := decL_wd hne
   have hlen := List.length_pos_iff.2 hne
   rw [Lib.validD_step l hne, ← decL_dec hne, if_neg]
   ·exact ih _ (by simp; omega) h.2
   ·rintro ⟨h1, _⟩
    have h2 := h.1
    rw [h1] at h2
    unfold ixv at h2
    rw [show (((65533 : Nat) : Nat) : Int) = 65533 from rfl, ixv_bad] at h2
    simp at h2
theorem prog_Valid_eq (s : List UInt8) (hs : s.length ≤ 140737488355328) : g_ch_Valid s = some (gv s) := by
 unfold g_ch_Valid g_unicode_utf8_ValidString
 simp only [Option.bind_some]
 rw [gv_loop s (by omega) (fun p => by unfold g_ch_Valid_s1; simp only [(ix_eq _).1, Option.bind_some])]
 cases hg : gv s
 ·cases Lib.validD s <;> rfl
 ·rw [gv_valid s.length s (Nat.le_refl _) hg]; rfl
def rnL (l : List UInt8) : List Int := if h : l = [] then [] else (((decL l).1 : Nat) : Int) :: rnL (l.drop (decL l).2)
termination_by l.length
decreasing_by
 have h1 := decL_wd h
 have h2 := List.length_pos_iff.2 h
 simp only [List.length_drop]; omega
theorem rnL_nil : rnL [] = [] := by unfold rnL; simp
theorem rnL_ne {l : List UInt8} (h : l ≠ []) : rnL l = (((decL l).1 : Nat) : Int) :: rnL (l.drop (decL l).2) := by rw [rnL, dif_neg h]
theorem rnL_at {s : List UInt8} {p : Nat} (h : p < s.length) : rnL (s.drop p) = runeAt s p :: rnL (s.drop (p + widthAt s p)) := by
 have hne : s.drop p ≠ [] := by
  intro e
  have := congrArg List.length e
  simp at this; omega
 rw [rnL_ne hne]
 unfold runeAt widthAt
 rw [List.drop_drop]
theorem rnL_end {s : List UInt8} {p : Nat} (h : s.length ≤ p) : rnL (s.drop p) = [] := by rw [List.drop_eq_nil_of_le h, rnL_nil]
theorem rnL_len : ∀ (n : Nat) (l : List UInt8), l.length ≤ n → (rnL l).length ≤ l.length
 | 0, l, h => by
  have : l = [] := List.eq_nil_of_length_eq_zero (by omega)
  subst this; rw [rnL_nil]; simp
 | n + 1, l, h => by
  by_cases hl : l = []
  ·subst hl; rw [rnL_nil]; simp
  ·have h1 := decL_wd hl
   have h2 := List.length_pos_iff.2 hl
   have ih := rnL_len n (l.drop (decL l).2) (by simp only [List.length_drop]; omega)
   rw [rnL_ne hl, List.length_cons]
   simp only [List.length_drop] at ih
   omega
theorem rnL_pos : ∀ (n : Nat) (l : List UInt8), l.length ≤ n → ∀ x ∈ rnL l, 0 ≤ x
 | 0, l, h => by
  have : l = [] := List.eq_nil_of_length_eq_zero (by omega)
  subst this; rw [rnL_nil]; simp
 | n + 1, l, h => by
  by_cases hl : l = []
  ·subst hl; rw [rnL_nil]; simp
  ·have h1 := decL_wd hl
   have h2 := List.length_pos_iff.2 hl
   have ih := rnL_pos n (l.drop (decL l).2) (by simp only [List.length_drop]; omega)
   rw [rnL_ne hl]
   intro x hx
   rcases List.mem_cons.1 hx with rfl | hx
   ·omega
   ·exact ih x hx
def ascF : Int → List Int → Bool
 | _, [] => true
 | a, x :: l => decide (a < x) && ascF x l
theorem runes_eq (s : List UInt8) (hs : s.length ≤ 1048576) : g_ref08_runes s = some (rnL s) := by
 unfold g_ref08_runes
 have key : iter (g_ref08_runes_s1 s) ([], 0) = some (rnL s) := by
  refine iter_of (fun x e => x.1.length ≤ x.2 ∧ x.1.length ≤ 1048576 ∧ e = x.1 ++ rnL (s.drop x.2)) (fun x => s.length - x.2) ?_ (x := ([], 0)) ⟨Nat.le_refl _, by simp, by simp⟩ (by show s.length - 0 < _; omega)
  rintro ⟨o, p⟩ e ⟨h1, h2, rfl⟩
  dsimp only at h1 h2 ⊢
  unfold g_ref08_runes_s1
  dsimp only
  by_cases h : p < s.length
  ·left
   have hw : 1 ≤ widthAt s p := wd_pos h
   refine ⟨(o ++ [runeAt s p], p + widthAt s p), ?_, ⟨?_, ?_, ?_⟩, ?_⟩
   ·rw [if_pos (by simpa using h), if_pos (by omega)]
   ·simp; omega
   ·simp; omega
   ·dsimp only
    rw [rnL_at h, List.append_assoc]; rfl
   ·dsimp only; omega
  ·right
   rw [if_neg (by simpa using h), rnL_end (by omega)]
   simp
 rw [key]; rfl
theorem Chars_eq (s : List UInt8) (hs : s.length ≤ 1048576) : g_ref08_Chars s = some (if gv s then rnL s else []) := by
 unfold g_ref08_Chars
 rw [ref_Valid_eq s (by omega)]
 cases gv s
 ·rfl
 ·simp only [Option.bind_some, if_true]
  rw [runes_eq s hs]; rfl
theorem prog_asc (p : A_Pf) (hs : p.Fbd.length ≤ 1048576) : iter (g_pf_Check_s2 p) (-1, 0) = some (if ascF (-1) (rnL p.Fbd) then .inr () else .inl ()) := by
 refine iter_of (fun x e => e = if ascF x.1 (rnL (p.Fbd.drop x.2)) then .inr () else .inl ()) (fun x => p.Fbd.length - x.2) ?_ (x := (-1, 0)) (by simp) (by show p.Fbd.length - 0 < _; omega)
 rintro ⟨a, q⟩ e rfl
 dsimp only
 unfold g_pf_Check_s2
 dsimp only
 by_cases h : q < p.Fbd.length
 ·have hw : 1 ≤ widthAt p.Fbd q := wd_pos h
  rw [if_pos (by simpa using h), rnL_at h]
  by_cases hr : runeAt p.Fbd q ≤ a
  ·right
   rw [if_pos (by simpa using hr)]
   simp [ascF, show ¬ a < runeAt p.Fbd q from by omega]
  ·left
   rw [if_neg (by simpa using hr)]
   refine ⟨_, rfl, ?_, by dsimp only; omega⟩
   simp [ascF, show a < runeAt p.Fbd q from by omega]
 ·right
  rw [if_neg (by simpa using h), rnL_end (by omega)]
  simp [ascF]
theorem asc_at (l : List Int) {i : Nat} (h0 : 1 ≤ i) (h : i < l.length) : ascF (l[i - 1]'(by omega)) (l.drop i) = (decide (l[i - 1]'(by omega) < l[i]) && ascF l[i] (l.drop (i + 1))) := by
 rw [List.drop_eq_getElem_cons h]
 rfl
theorem ref_asc (l : List Int) (hl : l.length ≤ 1048576) (hp : ∀ x ∈ l, 0 ≤ x) : iter (g_ref39_Check_s1 l) 1 = some (if ascF (-1) l then .inr () else .inl ()) := by
 by_cases hn : l = []
 ·subst hn
  refine iter_of (fun (x : Int) (e : Unit ⊕ Unit) => x = 1 ∧ e = .inr ()) (fun _ => 0) ?_ ⟨rfl, rfl⟩ (by omega)
  rintro x e ⟨rfl, rfl⟩
  right
  rfl
 ·have hpos := List.length_pos_iff.2 hn
  have e0 : ascF (-1) l = ascF (l[0]'hpos) (l.drop 1) := by
   obtain ⟨a, t, rfl⟩ := List.exists_cons_of_ne_nil hn
   have := hp a (by simp)
   simp [ascF]; intro; omega
  rw [e0]
  refine iter_of (fun (x : Int) e => ∃ (i : Nat) (h1 : 1 ≤ i) (h2 : i ≤ l.length), x = (i : Int) ∧ e = if ascF (l[i - 1]'(by omega)) (l.drop i) then Sum.inr () else Sum.inl ()) (fun x => l.length - x.toNat) ?_ (x := 1) ⟨1, Nat.le_refl _, hpos, rfl, rfl⟩ (by show l.length - _ < _; omega)
  rintro x e ⟨i, h1, h2, rfl, rfl⟩
  unfold g_ref39_Check_s1
  by_cases h : i < l.length
  ·rw [if_pos (by simpa using h), atI_nat h]
   have e1 : IntKind.i64.wrap ((i : Int) - 1) = ((i - 1 : Nat) : Int) := by rw [wr64 (by omega)]; omega
   simp only [Option.bind_some, e1]
   rw [atI_nat (show i - 1 < l.length by omega), asc_at l h1 h]
   simp only [Option.bind_some]
   by_cases hr : l[i] ≤ l[i - 1]'(by omega)
   ·right
    rw [if_pos (by simpa using hr)]
    simp [show ¬ (l[i - 1]'(by omega) < l[i]) from by omega]
   ·left
    rw [if_neg (by simpa using hr)]
    refine ⟨((i + 1 : Nat) : Int), by rw [wr64 (by omega)]; rfl, ⟨i + 1, by omega, h, rfl, ?_⟩, by omega⟩
    simp [show l[i - 1]'(by omega) < l[i] from by omega]
  ·right
   rw [if_neg (by simpa using h)]
   have : i = l.length := by omega
   subst this
   simp [ascF]
def okR (p : A_Pf) : Prop := (1 ≤ p.Reading ∧ p.Reading ≤ 10000) ∧ (1 ≤ p.MnF ∧ p.MnF ≤ 5184000) ∧ (1 ≤ p.MxF ∧ p.MxF ≤ 5184000) ∧ (0 ≤ p.MnG ∧ p.MnG ≤ 1000) ∧ (0 ≤ p.ShB ∧ p.ShB ≤ 1000) ∧ (0 ≤ p.ShA ∧ p.ShA ≤ 1000) ∧ (1 ≤ p.Rows ∧ p.Rows ≤ 4) ∧ (1 ≤ p.Cols ∧ p.Cols ≤ 32) ∧ (0 ≤ p.SfT ∧ p.SfT ≤ 31) ∧ (0 ≤ p.SfB ∧ p.SfB ≤ 31) ∧ (0 ≤ p.SfL ∧ p.SfL ≤ 31) ∧ (0 ≤ p.SfR ∧ p.SfR ≤ 31)
instance (p : A_Pf) : Decidable (okR p) := by unfold okR; infer_instance
def ckS (p : A_Pf) : Int :=
 if isNm p.Name = false then 5 else if ¬ okR p then 2 else if 15 ≤ p.SfT + p.SfB ∨ 32 ≤ p.SfL + p.SfR then 2 else if p.MxF < p.MnF then 8 else if gv p.Fbd = false then 10 else if ascF (-1) (rnL p.Fbd) then 0 else 8
def lmL (p : A_Pf) : List T_pf_limit := [⟨p.Reading, 1, 10000⟩, ⟨p.MnF, 1, 5184000⟩, ⟨p.MxF, 1, 5184000⟩, ⟨p.MnG, 0, 1000⟩, ⟨p.ShB, 0, 1000⟩, ⟨p.ShA, 0, 1000⟩, ⟨p.Rows, 1, 4⟩, ⟨p.Cols, 1, 32⟩, ⟨p.SfT, 0, 31⟩, ⟨p.SfB, 0, 31⟩, ⟨p.SfL, 0, 31⟩, ⟨p.SfR, 0, 31⟩]
theorem limits_eq (p : A_Pf) : g_pf_limits p = some (lmL p) := by
 unfold g_pf_limits
 rw [show iter (g_pf_limits_s1 p) (0, [(T_pf_limit.mk p.Reading 1 10000), (T_pf_limit.mk p.MnF 1 5184000), (T_pf_limit.mk p.MxF 1 5184000), (T_pf_limit.mk p.MnG 0 1000), (T_pf_limit.mk p.ShB 0 1000), (T_pf_limit.mk p.ShA 0 1000), (T_pf_limit.mk p.Rows 1 4), (T_pf_limit.mk p.Cols 1 32)]) = some (lmL p) from rfl]
 rfl
theorem limits_loop (l : List T_pf_limit) (hl : l.length ≤ 1048576) : iter (g_pf_Check_s1 l) 0 = some (if l.all fun y => decide (y.lo_ ≤ y.n_) && decide (y.n_ ≤ y.hi_) then .inr () else .inl ()) := by
 have := iter_idx (step := g_pf_Check_s1 l) l.length (by omega) (fun i => if (l.drop i).all fun y => decide (y.lo_ ≤ y.n_) && decide (y.n_ ≤ y.hi_) then .inr () else .inl ()) (fun i hi => ?_) ?_
 ·simpa using this
 ·unfold g_pf_Check_s1
  rw [if_pos (by simpa using hi), atI_nat hi, List.drop_eq_getElem_cons hi, wr64 (by omega)]
  simp only [Option.bind_some, List.all_cons]
  by_cases h1 : l[i].n_ < l[i].lo_
  ·right; simp [h1, show ¬ l[i].lo_ ≤ l[i].n_ from by omega]
  ·by_cases h2 : l[i].hi_ < l[i].n_
   ·right; simp [h1, h2, show ¬ l[i].n_ ≤ l[i].hi_ from by omega]
   ·left; simp [h1, h2, show l[i].lo_ ≤ l[i].n_ from by omega, show l[i].n_ ≤ l[i].hi_ from by omega]
 ·unfold g_pf_Check_s1
  rw [if_neg (by simp)]
  simp
theorem lm_all (p : A_Pf) : ((lmL p).all fun y => decide (y.lo_ ≤ y.n_) && decide (y.n_ ≤ y.hi_)) = decide (okR p) := by
 rw [Bool.eq_iff_iff, decide_eq_true_iff]
 unfold lmL okR
 simp only [List.all_cons, List.all_nil, Bool.and_true, Bool.and_eq_true, decide_eq_true_eq]
theorem prog_Check (p : A_Pf) (h1 : p.Name.length ≤ 1048576) (h2 : p.Fbd.length ≤ 1048576) : g_pf_Check p = some (ckS p) := by
 unfold g_pf_Check ckS
 rw [lines_Name_eq p.Name, limits_eq, prog_Valid_eq p.Fbd (by omega)]
 simp only [Option.bind_some]
 cases hn : isNm p.Name
 ·rfl
 rw [limits_loop _ (by simp [lmL]), lm_all, prog_asc p h2]
 simp only [Option.bind_some, if_true, Bool.true_eq_false, if_false]
 by_cases hr : okR p
 ·have hr' := hr
  unfold okR at hr'
  rw [wr64 (by omega), wr64 (by omega)]
  simp only [hr, decide_true, if_true, not_true, if_false]
  by_cases q1 : 15 ≤ p.SfT + p.SfB
  ·simp [q1]
  ·by_cases q2 : 32 ≤ p.SfL + p.SfR
   ·simp [q1, q2]
   ·simp only [q1, q2, decide_false, Bool.false_eq_true, if_false, Option.bind_some, false_or]
    by_cases q3 : p.MxF < p.MnF
    ·simp [q3]
    ·simp only [q3, decide_false, Bool.false_eq_true, if_false]
     cases gv p.Fbd
     ·rfl
     ·cases ascF (-1) (rnL p.Fbd) <;> rfl
 ·simp only [hr, decide_false, Bool.false_eq_true, if_false, not_false_eq_true, if_true]
theorem within_eq (n lo hi : Int) : g_ref39_within n lo hi = some (decide (lo ≤ n ∧ n ≤ hi)) := by
 unfold g_ref39_within
 by_cases h : lo ≤ n <;> simp [h]
theorem inside_eq (n lo hi : Int) : g_ref39_inside n lo hi = some (decide (lo ≤ n ∧ n ≤ hi)) := by
 unfold g_ref39_inside
 by_cases h : lo ≤ n <;> simp [h]
theorem ref_Check (p : A_Pf) (h1 : p.Name.length ≤ 1048576) (h2 : p.Fbd.length ≤ 1048576) : g_ref39_Check p = some (ckS p) := by
 unfold g_ref39_Check ckS
 rw [ref07_Name_eq p.Name, ref_Valid_eq p.Fbd (by omega), Chars_eq p.Fbd h2]
 simp only [Option.bind_some, within_eq, inside_eq]
 cases hn : isNm p.Name
 ·rfl
 simp only [if_true, Bool.true_eq_false, if_false]
 by_cases hr : okR p
 ·have hr' := hr
  unfold okR at hr'
  obtain ⟨a1, a2, a3, a4, a5, a6, a7, a8, a9, b1, b2, b3⟩ := hr'
  rw [wr64 (by omega), wr64 (by omega)]
  simp only [a1, a2, a3, a4, a5, a6, a7, a8, a9, b1, b2, b3, and_self, decide_true, if_true, Bool.not_true, Bool.false_eq_true, if_false, Option.bind_some, hr, not_true]
  by_cases q1 : 15 ≤ p.SfT + p.SfB
  ·simp [q1, show 14 < p.SfT + p.SfB from by omega]
  ·by_cases q2 : 32 ≤ p.SfL + p.SfR
   ·simp [q1, q2, show ¬ 14 < p.SfT + p.SfB from by omega, show 31 < p.SfL + p.SfR from by omega]
   ·simp only [q1, q2, show ¬ 14 < p.SfT + p.SfB from by omega, show ¬ 31 < p.SfL + p.SfR from by omega, decide_false, Bool.false_eq_true, if_false, Option.bind_some, false_or]
    by_cases q3 : p.MxF < p.MnF
    ·simp [q3]
    ·simp only [q3, decide_false, Bool.false_eq_true, if_false]
     cases hg : gv p.Fbd
     ·rfl
     ·simp only [if_true, Option.bind_some]
      rw [ref_asc _ (Nat.le_trans (rnL_len _ _ (Nat.le_refl _)) h2) (rnL_pos _ _ (Nat.le_refl _))]
      cases ascF (-1) (rnL p.Fbd) <;> rfl
 ·have hr' := hr
  unfold okR at hr'
  simp only [hr, not_false_eq_true, if_true]
  by_cases c0 : 1 ≤ p.Reading ∧ p.Reading ≤ 10000
  rotate_left
  ·simp only [c0, decide_false, Bool.false_eq_true, if_false, Bool.not_false, Option.bind_some, if_true]
  simp only [c0, and_self, decide_true, if_true, Option.bind_some, Bool.not_true, Bool.false_eq_true, if_false]
  by_cases c1 : 1 ≤ p.MnF ∧ p.MnF ≤ 5184000
  rotate_left
  ·simp only [c1, decide_false, Bool.false_eq_true, if_false, Bool.not_false, Option.bind_some, if_true]
  simp only [c1, and_self, decide_true, if_true, Option.bind_some, Bool.not_true, Bool.false_eq_true, if_false]
  by_cases c2 : 1 ≤ p.MxF ∧ p.MxF ≤ 5184000
  rotate_left
  ·simp only [c2, decide_false, Bool.false_eq_true, if_false, Bool.not_false, Option.bind_some, if_true]
  simp only [c2, and_self, decide_true, if_true, Option.bind_some, Bool.not_true, Bool.false_eq_true, if_false]
  by_cases c3 : 0 ≤ p.MnG ∧ p.MnG ≤ 1000
  rotate_left
  ·simp only [c3, decide_false, Bool.false_eq_true, if_false, Bool.not_false, Option.bind_some, if_true]
  simp only [c3, and_self, decide_true, if_true, Option.bind_some, Bool.not_true, Bool.false_eq_true, if_false]
  by_cases c4 : 0 ≤ p.ShB ∧ p.ShB ≤ 1000
  rotate_left
  ·simp only [c4, decide_false, Bool.false_eq_true, if_false, Bool.not_false, Option.bind_some, if_true]
  simp only [c4, and_self, decide_true, if_true, Option.bind_some, Bool.not_true, Bool.false_eq_true, if_false]
  by_cases c5 : 0 ≤ p.ShA ∧ p.ShA ≤ 1000
  rotate_left
  ·simp only [c5, decide_false, Bool.false_eq_true, if_false, Bool.not_false, Option.bind_some, if_true]
  simp only [c5, and_self, decide_true, if_true, Option.bind_some, Bool.not_true, Bool.false_eq_true, if_false]
  by_cases c6 : 1 ≤ p.Rows ∧ p.Rows ≤ 4
  rotate_left
  ·simp only [c6, decide_false, Bool.false_eq_true, if_false, Bool.not_false, Option.bind_some, if_true]
  simp only [c6, and_self, decide_true, if_true, Option.bind_some, Bool.not_true, Bool.false_eq_true, if_false]
  by_cases c7 : 1 ≤ p.Cols ∧ p.Cols ≤ 32
  rotate_left
  ·simp only [c7, decide_false, Bool.false_eq_true, if_false, Bool.not_false, Option.bind_some, if_true]
  simp only [c7, and_self, decide_true, if_true, Option.bind_some, Bool.not_true, Bool.false_eq_true, if_false]
  by_cases c8 : 0 ≤ p.SfT ∧ p.SfT ≤ 31
  rotate_left
  ·simp only [c8, decide_false, Bool.false_eq_true, if_false, Bool.not_false, Option.bind_some, if_true]
  simp only [c8, and_self, decide_true, if_true, Option.bind_some, Bool.not_true, Bool.false_eq_true, if_false]
  by_cases c9 : 0 ≤ p.SfB ∧ p.SfB ≤ 31
  rotate_left
  ·simp only [c9, decide_false, Bool.false_eq_true, if_false, Bool.not_false, Option.bind_some, if_true]
  simp only [c9, and_self, decide_true, if_true, Option.bind_some, Bool.not_true, Bool.false_eq_true, if_false]
  by_cases c10 : 0 ≤ p.SfL ∧ p.SfL ≤ 31
  rotate_left
  ·simp only [c10, decide_false, Bool.false_eq_true, if_false, Bool.not_false, Option.bind_some, if_true]
  simp only [c10, and_self, decide_true, if_true, Option.bind_some, Bool.not_true, Bool.false_eq_true, if_false]
  by_cases c11 : 0 ≤ p.SfR ∧ p.SfR ≤ 31
  rotate_left
  ·simp only [c11, decide_false, Bool.false_eq_true, if_false, Bool.not_false, Option.bind_some, if_true]
  simp only [c11, and_self, decide_true, if_true, Option.bind_some, Bool.not_true, Bool.false_eq_true, if_false]
  exact absurd ⟨c0, c1, c2, c3, c4, c5, c6, c7, c8, c9, c10, c11⟩ hr'
def rtV (r : Int) : Bool := decide (1 ≤ r) && decide (r ≤ 7)
def rtT (r : Int) : Int := if r = 1 then 5005 else if r = 2 then 5000 else if r = 3 then 4800 else if r = 4 then 4004 else if r = 5 then 4000 else if r = 6 then 2400 else if r = 7 then 2002 else 0
theorem rates_fin : ∀ r : Fin 256, g_tb_Valid ((r.val : Nat) : Int) = some (rtV ((r.val : Nat) : Int)) ∧ g_ref02_Valid ((r.val : Nat) : Int) = some (rtV ((r.val : Nat) : Int)) ∧ g_tb_Ticks ((r.val : Nat) : Int) = some (rtT ((r.val : Nat) : Int)) ∧
  (rtV ((r.val : Nat) : Int) = true → g_ref02_Ticks ((r.val : Nat) : Int) = some (rtT ((r.val : Nat) : Int)) ∧ 2002 ≤ rtT ((r.val : Nat) : Int) ∧ rtT ((r.val : Nat) : Int) ≤ 5005) := by decide +kernel
theorem rates (r : Int) (h0 : 0 ≤ r) (h1 : r ≤ 255) : g_tb_Valid r = some (rtV r) ∧ g_ref02_Valid r = some (rtV r) ∧ g_tb_Ticks r = some (rtT r) ∧ (rtV r = true → g_ref02_Ticks r = some (rtT r) ∧ 2002 ≤ rtT r ∧ rtT r ≤ 5005) := by
 have := rates_fin ⟨r.toNat, by omega⟩
 have e : ((r.toNat : Nat) : Int) = r := by omega
 simp only [e] at this
 exact this
def wiB (n lo hi : Int) : Bool := decide (lo ≤ n) && decide (n ≤ hi)
theorem rwithin_eq (n lo hi : Int) : g_reading_within n lo hi = some (wiB n lo hi) := by
 unfold g_reading_within wiB
 cases decide (lo ≤ n) <;> simp
theorem within_ref (n lo hi : Int) : g_ref40_within n lo hi = some (wiB n lo hi) := by
 unfold g_ref40_within wiB
 cases decide (lo ≤ n) <;> simp
theorem wiB_t {n lo hi : Int} (h : wiB n lo hi = true) : lo ≤ n ∧ n ≤ hi := by
 unfold wiB at h; simpa using h
def upQ (a b : Int) : Int := Int.tdiv (a + b - 1) b
theorem upQ_le {a b f : Int} (ha : 0 ≤ a) (hb : 0 < b) : upQ a b ≤ f ↔ a ≤ f * b := by
 unfold upQ
 rw [Int.tdiv_eq_ediv_of_nonneg (by omega)]
 constructor
 ·intro h
  have h1 := Int.lt_mul_ediv_self_add (x := a + b - 1) hb
  have h2 : b * ((a + b - 1) / b) ≤ b * f := Int.mul_le_mul_of_nonneg_left h (by omega)
  rw [Int.mul_comm f b]
  omega
 ·intro h
  have : (a + b - 1) / b < f + 1 := by
   refine Int.ediv_lt_of_lt_mul hb ?_
   rw [Int.add_mul]
   omega
  omega
def needS (r c l : Int) : Int × Int := if rtV r then (if wiB c 0 10000 && wiB l 1 10000 then (upQ (c * 12000000) (l * rtT r), 0) else (0, 2)) else (0, 3)
theorem mul_small {x t : Int} (k : Int) (hx : 1 ≤ x) (hk : x ≤ k) (h1 : 2002 ≤ t) (h2 : t ≤ 5005) (hkk : k ≤ 5184000) : 1 ≤ x * t ∧ x * t ≤ 25945920000 := by
 have a1 : x * t ≤ 5184000 * t := Int.mul_le_mul_of_nonneg_right (by omega) (by omega)
 have a2 : 5184000 * t ≤ 5184000 * 5005 := Int.mul_le_mul_of_nonneg_left h2 (by omega)
 have a3 : 1 * t ≤ x * t := Int.mul_le_mul_of_nonneg_right hx (by omega)
 omega
theorem Needed_eq (r c l : Int) (h0 : 0 ≤ r) (h1 : r ≤ 255) : g_reading_Needed r c l = some (needS r c l) ∧ g_ref40_Needed r c l = some (needS r c l) := by
 obtain ⟨e1, e2, e3, e4⟩ := rates r h0 h1
 unfold g_reading_Needed g_ref40_Needed needS
 simp only [e1, e2, rwithin_eq, within_ref, Option.bind_some]
 cases hv : rtV r with
 | false => simp
 | true =>
  obtain ⟨e5, t0, t1⟩ := e4 hv
  simp only [if_true, e3, e5, Option.bind_some]
  cases hc : wiB c 0 10000 with
  | false => simp
  | true =>
   cases hl : wiB l 1 10000 with
   | false => simp
   | true =>
    have hc' := wiB_t hc
    have hl' := wiB_t hl
    obtain ⟨m1, m2⟩ := mul_small 10000 hl'.1 hl'.2 t0 t1 (by omega)
    generalize l * rtT r = b at m1 m2
    have w0 := wrap_i64 (c * 100) (by omega) (by omega)
    have w1 := wrap_i64 (c * 100 * 120000) (by omega) (by omega)
    have w2 := wrap_i64 b (by omega) (by omega)
    have w3 := wrap_i64 (c * 100 * 120000 + b) (by omega) (by omega)
    have w4 := wrap_i64 (c * 100 * 120000 + b - 1) (by omega) (by omega)
    have hb : ¬ b = 0 := by omega
    have hq := upQ_le (a := c * 12000000) (b := b) (f := 120000000000) (by omega) (by omega)
    have hq1 : upQ (c * 12000000) b ≤ 120000000000 := hq.2 (by have := Int.mul_le_mul_of_nonneg_left m1 (show (0 : Int) ≤ 120000000000 by omega); omega)
    have hq0 : 0 ≤ upQ (c * 12000000) b := by unfold upQ; exact Int.tdiv_nonneg (by omega) (by omega)
    have eu : Int.tdiv (c * 100 * 120000 + b - 1) b = upQ (c * 12000000) b := by unfold upQ; congr 1; omega
    have w5 := wrap_i64 (upQ (c * 12000000) b) (by omega) (by omega)
    simp only [Bool.not_true, Bool.false_eq_true, if_false, Bool.and_self, if_true, g_reading_load, g_reading_up, Option.bind_some, w0, w1, w2, w3, w4, hb, not_false_eq_true, eu, w5, and_self]
def pnL (t : A_Pn) : List Int := [t.Sg.a0, t.Sg.a1, t.Sg.a2, t.Sg.a3, t.Sg.a4, t.Sg.a5, t.Rgd, t.Row, t.Event, t.Fast, t.Gap, t.Shot]
def prs (t : A_Pn) : List (Int × Int) := [(t.Sg.a0, t.Sg.a1), (t.Sg.a1, t.Sg.a2), (t.Sg.a2, t.Sg.a3), (t.Sg.a3, t.Sg.a4), (t.Sg.a4, t.Sg.a5)]
def inN (y : Int) : Bool := decide (0 ≤ y) && decide (y ≤ 1000000)
def pcS (t : A_Pn) : Int := if (pnL t).all inN then (if (prs t).all fun p => decide (p.2 ≤ p.1) then 0 else 8) else 2
theorem num_loop (l : List Int) (hl : l.length ≤ 1000) : iter (g_pn_Check_s1 l) 0 = some (if l.all inN then .inr () else .inl ()) := by
 have := iter_idx (step := g_pn_Check_s1 l) l.length (by omega) (fun i => if (l.drop i).all inN then .inr () else .inl ()) (fun i hi => ?_) ?_
 ·simpa using this
 ·unfold g_pn_Check_s1
  rw [if_pos (by simpa using hi), atI_nat hi, List.drop_eq_getElem_cons hi, wr64 (by omega)]
  simp only [Option.bind_some, List.all_cons]
  by_cases h1 : l[i] < 0
  ·right; simp [h1, inN, show ¬ 0 ≤ l[i] from by omega]
  ·by_cases h2 : 1000000 < l[i]
   ·right; simp [h1, h2, inN, show ¬ l[i] ≤ 1000000 from by omega]
   ·left; simp [h1, h2, inN, show 0 ≤ l[i] from by omega, show l[i] ≤ 1000000 from by omega]
 ·unfold g_pn_Check_s1
  rw [if_neg (by simp)]
  simp
theorem wl : IntKind.i64.wrap 0 = 0 ∧ IntKind.i64.wrap 1 = 1 ∧ IntKind.i64.wrap 2 = 2 ∧ IntKind.i64.wrap 3 = 3 ∧ IntKind.i64.wrap 4 = 4 ∧ IntKind.i64.wrap 5 = 5 ∧ IntKind.i64.wrap 6 = 6 ∧ IntKind.i64.wrap 7 = 7 := by decide
def dsR (t : A_Pn) (k : Nat) : Unit ⊕ Unit := if ((prs t).drop k).all fun p => decide (p.2 ≤ p.1) then .inr () else .inl ()
theorem des_loop (t : A_Pn) : iter (g_pn_Check_s2 t) 1 = some (dsR t 0) := by
 obtain ⟨w0, w1, w2, w3, w4, w5, w6, w7⟩ := wl
 refine iter_of (fun x e => (x = 1 ∧ e = dsR t 0) ∨ (x = 2 ∧ e = dsR t 1) ∨ (x = 3 ∧ e = dsR t 2) ∨ (x = 4 ∧ e = dsR t 3) ∨ (x = 5 ∧ e = dsR t 4) ∨ (x = 6 ∧ e = dsR t 5)) (fun x => 10 - x.toNat) ?_ (.inl ⟨rfl, rfl⟩) (by decide)
 rintro x e (⟨rfl, rfl⟩ | ⟨rfl, rfl⟩ | ⟨rfl, rfl⟩ | ⟨rfl, rfl⟩ | ⟨rfl, rfl⟩ | ⟨rfl, rfl⟩)
 ·unfold g_pn_Check_s2
  by_cases h : t.Sg.a0 < t.Sg.a1
  ·right; simp [dsR, prs, h, show ¬ t.Sg.a1 ≤ t.Sg.a0 from by omega, *]
  ·left; refine ⟨2, by simp [h, *], .inr (.inl ⟨rfl, ?_⟩), by decide⟩
   simp [dsR, prs, show t.Sg.a1 ≤ t.Sg.a0 from by omega]
 ·unfold g_pn_Check_s2
  by_cases h : t.Sg.a1 < t.Sg.a2
  ·right; simp [dsR, prs, h, show ¬ t.Sg.a2 ≤ t.Sg.a1 from by omega, *]
  ·left; refine ⟨3, by simp [h, *], .inr (.inr (.inl ⟨rfl, ?_⟩)), by decide⟩
   simp [dsR, prs, show t.Sg.a2 ≤ t.Sg.a1 from by omega]
 ·unfold g_pn_Check_s2
  by_cases h : t.Sg.a2 < t.Sg.a3
  ·right; simp [dsR, prs, h, show ¬ t.Sg.a3 ≤ t.Sg.a2 from by omega, *]
  ·left; refine ⟨4, by simp [h, *], .inr (.inr (.inr (.inl ⟨rfl, ?_⟩))), by decide⟩
   simp [dsR, prs, show t.Sg.a3 ≤ t.Sg.a2 from by omega]
 ·unfold g_pn_Check_s2
  by_cases h : t.Sg.a3 < t.Sg.a4
  ·right; simp [dsR, prs, h, show ¬ t.Sg.a4 ≤ t.Sg.a3 from by omega, *]
  ·left; refine ⟨5, by simp [h, *], .inr (.inr (.inr (.inr (.inl ⟨rfl, ?_⟩)))), by decide⟩
   simp [dsR, prs, show t.Sg.a4 ≤ t.Sg.a3 from by omega]
 ·unfold g_pn_Check_s2
  by_cases h : t.Sg.a4 < t.Sg.a5
  ·right; simp [dsR, prs, h, show ¬ t.Sg.a5 ≤ t.Sg.a4 from by omega, *]
  ·left; refine ⟨6, by simp [h, *], .inr (.inr (.inr (.inr (.inr ⟨rfl, ?_⟩)))), by decide⟩
   simp [dsR, prs, show t.Sg.a5 ≤ t.Sg.a4 from by omega]
 ·right
  unfold g_pn_Check_s2
  simp [dsR, prs]
theorem pen_Check (t : A_Pn) : g_pn_Check t = some (pcS t) := by
 unfold g_pn_Check g_pn_numbers pcS
 simp only [Option.bind_some, List.cons_append, List.nil_append]
 have h := num_loop (pnL t) (by simp [pnL])
 unfold pnL at h ⊢
 rw [h, des_loop]
 unfold dsR
 simp only [List.drop_zero, Option.bind_some]
 generalize List.all _ inN = b
 generalize List.all (prs t) _ = c
 cases b <;> cases c <;> rfl
theorem ref_penCheck : g_ref35_Check = g_pn_Check := rfl
theorem pcS_0 {t : A_Pn} (h : pcS t = 0) : (0 ≤ t.Sg.a0 ∧ t.Sg.a0 ≤ 1000000) ∧ (0 ≤ t.Sg.a1 ∧ t.Sg.a1 ≤ 1000000) ∧ (0 ≤ t.Sg.a2 ∧ t.Sg.a2 ≤ 1000000) ∧ (0 ≤ t.Sg.a3 ∧ t.Sg.a3 ≤ 1000000) ∧ (0 ≤ t.Sg.a4 ∧ t.Sg.a4 ≤ 1000000) ∧ (0 ≤ t.Sg.a5 ∧ t.Sg.a5 ≤ 1000000) ∧ (0 ≤ t.Rgd ∧ t.Rgd ≤ 1000000) ∧ (0 ≤ t.Row ∧ t.Row ≤ 1000000) ∧ (0 ≤ t.Event ∧ t.Event ≤ 1000000) ∧ (0 ≤ t.Fast ∧ t.Fast ≤ 1000000) ∧ (0 ≤ t.Gap ∧ t.Gap ≤ 1000000) ∧ (0 ≤ t.Shot ∧ t.Shot ≤ 1000000) := by
 unfold pcS at h
 split at h
 ·rename_i h1
  simpa [pnL, inN, and_assoc] using h1
 ·cases h
def hasSp (s : List UInt8) : Bool := s.any fun b => b.toNat == 32
theorem idx_sp : ∀ s : List UInt8, decide (0 ≤ Lib.indexByte s 32) = hasSp s
 | [] => by decide
 | b :: l => by
  have ih := idx_sp l
  have hg := Lib.indexByte_ge l 32
  have hb : (b == 32) = (b.toNat == 32) := by
   rw [Bool.eq_iff_iff, beq_iff_eq, beq_iff_eq]
   exact ⟨fun h => by rw [h]; rfl, fun h => UInt8.toNat_inj.1 h⟩
  unfold hasSp at ih ⊢
  rw [List.any_cons, ← ih, ← hb]
  rw [show Lib.indexByte (b :: l) 32 = (if b == 32 then 0 else if Lib.indexByte l 32 == -1 then -1 else Lib.indexByte l 32 + 1) from rfl]
  cases hq : b == 32
  ·by_cases h2 : Lib.indexByte l 32 = -1
   ·simp [h2]
   ·have : (Lib.indexByte l 32 == -1) = false := by simpa using h2
    simp only [this, Bool.false_eq_true, if_false, Bool.false_or]
    rw [decide_eq_decide]
    omega
  ·simp
theorem cont_eq (s : List UInt8) : g_strings_Contains s [32] = some (hasSp s) := by
 rw [← idx_sp]; rfl
theorem sp_loop {step : Int → Option (Nx Int (Unit ⊕ Unit))} (s : List UInt8) (hs : s.length ≤ 140737488355328) (hst : ∀ x, step x = (if (decide (x < (s.length : Int))) then ((atI s x).bind fun b => (if ((b.toNat : Int) == 32) then (some (.out (.inl ()))) else (some (.go (IntKind.i64.wrap (x + 1)))))) else (some (.out (.inr ()))))) : iter step 0 = some (if hasSp s then .inl () else .inr ()) := by
 have := iter_idx (step := step) s.length (by omega) (fun i => if hasSp (s.drop i) then .inl () else .inr ()) (fun i hi => ?_) ?_
 ·simpa using this
 ·rw [hst, if_pos (by simpa using hi), atI_nat hi, List.drop_eq_getElem_cons hi, wr64 (by omega)]
  unfold hasSp
  simp only [Option.bind_some, List.any_cons]
  by_cases h1 : s[i].toNat = 32
  ·right; simp [h1]
  ·left
   have h2 : ((s[i].toNat : Int) == 32) = false := by simpa using (by omega : ¬ (s[i].toNat : Int) = 32)
   have h3 : (s[i].toNat == 32) = false := by simpa using h1
   simp [h2, h3]
 ·rw [hst, if_neg (by simp)]
  simp [hasSp]
def ckW (w : A_Word) (last : Int) : Int := if w.Text = [] ∨ hasSp w.Text = true then 4 else if gv w.Text = false then 10 else if w.Span.In < 0 ∨ w.Span.Out ≤ w.Span.In ∨ 5184000 < w.Span.Out then 2 else if w.Span.In < last then 8 else 0
theorem sp_three (w : A_Word) : (if (decide (w.Span.In < 0)) then (some true) else (if (decide (w.Span.Out ≤ w.Span.In)) then (some true) else (some (decide (5184000 < w.Span.Out)))) : Option Bool) = some (decide (w.Span.In < 0 ∨ w.Span.Out ≤ w.Span.In ∨ 5184000 < w.Span.Out)) := by
 by_cases h1 : w.Span.In < 0
 ·simp [h1]
 ·by_cases h2 : w.Span.Out ≤ w.Span.In
  ·simp [h1, h2]
  ·simp [h1, h2]
theorem word_prog (w : A_Word) (last : Int) (hw : w.Text.length ≤ 1048576) : g_sg_checkWord w last = some (ckW w last) := by
 unfold g_sg_checkWord ckW
 rw [cont_eq, prog_Valid_eq _ (by omega), sp_three]
 by_cases h : w.Text = []
 ·simp [h]
 ·have hb : (w.Text == ([] : List UInt8)) = false := by simpa using h
  rw [hb]
  simp only [Bool.false_eq_true, if_false, Option.bind_some, h, false_or]
  cases hasSp w.Text
  ·cases gv w.Text
   ·rfl
   ·simp only [Bool.false_eq_true, if_false, if_true, Option.bind_some]
    by_cases h3 : w.Span.In < 0 ∨ w.Span.Out ≤ w.Span.In ∨ 5184000 < w.Span.Out
    ·simp [h3]
    ·simp only [h3, decide_false, Bool.false_eq_true, if_false]
     by_cases h4 : w.Span.In < last <;> simp [h4]
  ·rfl
theorem word_ref (w : A_Word) (last : Int) (hw : w.Text.length ≤ 1048576) : g_ref38_word w last = some (ckW w last) := by
 unfold g_ref38_word ckW
 rw [sp_loop (step := g_ref38_word_s1 w) w.Text (by omega) (fun x => rfl), ref_Valid_eq _ (by omega), sp_three]
 by_cases h : w.Text = []
 ·simp [h]
 ·have hb : (w.Text == ([] : List UInt8)) = false := by simpa using h
  rw [hb]
  simp only [Bool.false_eq_true, if_false, Option.bind_some, h, false_or]
  cases hasSp w.Text
  ·simp only [Bool.false_eq_true, if_false]
   cases gv w.Text
   ·rfl
   ·simp only [Bool.false_eq_true, if_false, if_true, Option.bind_some]
    by_cases h3 : w.Span.In < 0 ∨ w.Span.Out ≤ w.Span.In ∨ 5184000 < w.Span.Out
    ·simp [h3]
    ·simp only [h3, decide_false, Bool.false_eq_true, if_false]
     by_cases h4 : w.Span.In < last <;> simp [h4]
  ·rfl
def ckWs : Int → List A_Word → Int
 | _, [] => 0
 | last, w :: l => if ckW w last ≠ 0 then ckW w last else ckWs w.Span.Out l
theorem words_loop {step : Int × Int → Option (Nx (Int × Int) (Int ⊕ Unit))} {chk : A_Word → Int → Option Int} (ws : List A_Word) (hn : ws.length ≤ 1000) (hc : ∀ y ∈ ws, ∀ a, chk y a = some (ckW y a))
  (hst : ∀ x, step x = (if (decide (x.2 < (ws.length : Int))) then ((atI ws x.2).bind fun y153 => ((chk y153 x.1).bind fun r159 => (if (r159 != 0) then (some (.out (.inl r159))) else (some (.go (y153.Span.Out, (IntKind.i64.wrap (x.2 + 1)))))))) else (some (.out (.inr ()))))) :
  iter step (0, 0) = some (if ckWs 0 ws = 0 then .inr () else .inl (ckWs 0 ws)) := by
 refine iter_of (fun x e => ∃ i : Nat, x.2 = (i : Int) ∧ i ≤ ws.length ∧ e = if ckWs x.1 (ws.drop i) = 0 then .inr () else .inl (ckWs x.1 (ws.drop i))) (fun x => ws.length - x.2.toNat) ?_ (x := (0, 0)) ⟨0, rfl, Nat.zero_le _, by simp⟩ (by show ws.length - 0 < _; omega)
 rintro ⟨a, x⟩ e ⟨i, hx, hi, rfl⟩
 dsimp only at hx ⊢
 subst hx
 rw [hst]
 dsimp only
 by_cases h : i < ws.length
 ·rw [if_pos (by simpa using h), atI_nat h, List.drop_eq_getElem_cons h, wr64 (by omega)]
  simp only [Option.bind_some, hc _ (List.getElem_mem h), ckWs]
  by_cases h1 : ckW ws[i] a = 0
  ·left
   simp only [h1, bne_self_eq_false, Bool.false_eq_true, if_false, ne_eq, not_true]
   exact ⟨_, rfl, ⟨i + 1, rfl, h, rfl⟩, by dsimp only; omega⟩
  ·right
   have : (ckW ws[i] a != 0) = true := by simpa using h1
   simp [this, h1]
 ·right
  rw [if_neg (by simpa using h), List.drop_eq_nil_of_le (by omega)]
  simp [ckWs]
theorem shots_total (l : List Int) (hl : l.length ≤ 1000) : ∃ v, g_shots_Check l = some v := by
 unfold g_shots_Check
 by_cases h : 400 < (l.length : Int)
 ·exact ⟨9, by simp [h]⟩
 ·rw [if_neg (by simpa using h)]
  have hh : ∃ e, iter (g_shots_Check_s1 l) 0 = some e := by
   refine iter_ends l.length (by omega) (fun i hi => ?_) ?_
   ·unfold g_shots_Check_s1
    rw [if_pos (by simpa using hi), atI_nat hi, wr64 (x := (i : Int) + 1) (by omega)]
    simp only [Option.bind_some]
    have hv : ∃ b : Bool, (if decide (l[i] < 1) = true then some true else some (decide (5184000 < l[i])) : Option Bool) = some b := by
     by_cases q : l[i] < 1
     ·exact ⟨true, by simp [q]⟩
     ·exact ⟨_, by simp [q]; rfl⟩
    obtain ⟨b, hb⟩ := hv
    rw [hb]
    simp only [Option.bind_some]
    cases b
    ·simp only [Bool.false_eq_true, if_false]
     by_cases q : 0 < (i : Int)
     ·rw [if_pos (by simpa using q), wr64 (by omega), show ((i : Int) - 1) = ((i - 1 : Nat) : Int) by omega, atI_nat (show i - 1 < l.length by omega)]
      simp only [Option.bind_some]
      by_cases q2 : l[i] ≤ l[i - 1]
      ·exact .inr ⟨_, by rw [if_pos (by simpa using q2)]⟩
      ·exact .inl (by rw [if_neg (by simpa using q2)])
     ·exact .inl (by rw [if_neg (by simpa using q)])
    ·exact .inr ⟨_, rfl⟩
   ·unfold g_shots_Check_s1
    exact ⟨_, by rw [if_neg (by simp)]⟩
  obtain ⟨e, he⟩ := hh
  rw [he]
  cases e <;> exact ⟨_, rfl⟩
def shC (l : List Int) : Int := (g_shots_Check l).getD 0
theorem shC_eq (l : List Int) (hl : l.length ≤ 1000) : g_shots_Check l = some (shC l) := by
 obtain ⟨v, h⟩ := shots_total l hl
 unfold shC; rw [h]; rfl
theorem ref_shots : g_ref37_Check = g_shots_Check := rfl
theorem ref_inside : g_ref37_Inside = g_shots_Inside := rfl
theorem inside_total (l : List Int) (s : A_Span) (hl : l.length ≤ 1000) : ∃ v, g_shots_Inside l s = some v ∧ v.length ≤ l.length := by
 unfold g_shots_Inside
 rw [shC_eq l hl]
 simp only [Option.bind_some]
 by_cases h : shC l = 0
 ·rw [if_neg (by simp [h])]
  have := iter_post (step := g_shots_Inside_s1 l s) (fun x => ∃ i : Nat, x.2 = (i : Int) ∧ i ≤ l.length ∧ x.1.length ≤ i) (fun x => l.length - x.2.toNat) (fun e => e.length ≤ l.length) (x := ([], 0)) ⟨0, rfl, Nat.zero_le _, by simp⟩ (by show l.length - 0 < _; omega) ?_
  ·obtain ⟨e, h1, h2⟩ := this
   exact ⟨e, by rw [h1]; rfl, h2⟩
  ·rintro ⟨a, x⟩ ⟨i, hx, hi, ha⟩
   dsimp only at hx ha ⊢
   subst hx
   unfold g_shots_Inside_s1
   dsimp only
   by_cases q : i < l.length
   ·rw [if_pos (by simpa using q), atI_nat q, wr64 (by omega)]
    simp only [Option.bind_some]
    have hv : ∃ b : Bool, (if decide (s.In < l[i]) = true then some (decide (l[i] < s.Out)) else some false : Option Bool) = some b := by
     by_cases q : s.In < l[i]
     ·exact ⟨_, by simp [q]; rfl⟩
     ·exact ⟨false, by simp [q]⟩
    obtain ⟨b, hb⟩ := hv
    rw [hb]
    simp only [Option.bind_some]
    left
    cases b
    ·exact ⟨_, rfl, ⟨i + 1, rfl, q, by dsimp only; omega⟩, by dsimp only; omega⟩
    ·rw [if_pos rfl, if_pos (by omega)]
     exact ⟨_, rfl, ⟨i + 1, rfl, q, by simp; omega⟩, by dsimp only; omega⟩
   ·right
    rw [if_neg (by simpa using q)]
    exact ⟨_, rfl, by omega⟩
 ·rw [if_pos (by simpa using h)]
  exact ⟨_, rfl, by simp⟩
structure Sok (s : A_Sh) : Prop where
 rate : 0 ≤ s.Rate ∧ s.Rate ≤ 255
 words : s.Words.length ≤ 8
 texts : ∀ w ∈ s.Words, w.Text.length ≤ 1048576
 shots : s.Shots.length ≤ 6
 name : s.House.Name.length ≤ 1048576
 forb : s.House.Fbd.length ≤ 1048576
def ckSp (s : A_Sh) : Int := if rtV s.Rate = false then 13 else if s.Words = [] then 6 else if ckWs 0 s.Words ≠ 0 then ckWs 0 s.Words else if shC s.Shots ≠ 0 then shC s.Shots else if pcS s.Table ≠ 0 then pcS s.Table else ckS s.House
theorem seg_Check {s : A_Sh} (h : Sok s) : g_sg_Check s = some (ckSp s) := by
 obtain ⟨e1, _, _, _⟩ := rates s.Rate h.rate.1 h.rate.2
 unfold g_sg_Check ckSp
 rw [e1, words_loop (step := g_sg_Check_s1 s) (chk := g_sg_checkWord) s.Words (by have := h.words; omega) (fun y hy a => word_prog y a (h.texts y hy)) (fun x => rfl), shC_eq _ (by have := h.shots; omega), pen_Check, prog_Check _ h.name h.forb]
 simp only [Option.bind_some]
 cases rtV s.Rate
 ·rfl
 simp only [Bool.true_eq_false, if_true, if_false]
 rw [if_neg (by have := h.words; simp; omega)]
 by_cases h0 : s.Words = []
 ·simp [h0]
 have hl : ((s.Words.length : Int) == 0) = false := by
  have := List.length_pos_iff.2 h0
  simpa using (by omega : ¬ (s.Words.length : Int) = 0)
 simp only [hl, Bool.false_eq_true, if_false, h0]
 by_cases h1 : ckWs 0 s.Words = 0
 ·simp only [h1, if_true, ne_eq, not_true, if_false]
  by_cases h2 : shC s.Shots = 0
  ·simp only [h2, bne_self_eq_false, Bool.false_eq_true, if_false, not_true]
   by_cases h3 : pcS s.Table = 0
   ·simp [h3]
   ·simp [h3]
  ·simp [h2]
 ·simp [h1]
theorem ref_segCheck {s : A_Sh} (h : Sok s) : g_ref38_Check s = some (ckSp s) := by
 obtain ⟨_, e1, _, _⟩ := rates s.Rate h.rate.1 h.rate.2
 unfold g_ref38_Check ckSp
 rw [e1, words_loop (step := g_ref38_Check_s1 s) (chk := g_ref38_word) s.Words (by have := h.words; omega) (fun y hy a => word_ref y a (h.texts y hy)) (fun x => rfl), ref_shots, ref_penCheck, shC_eq _ (by have := h.shots; omega), pen_Check, ref_Check _ h.name h.forb]
 simp only [Option.bind_some]
 cases rtV s.Rate
 ·rfl
 simp only [Bool.true_eq_false, if_true, if_false]
 rw [if_neg (by have := h.words; simp; omega)]
 by_cases h0 : s.Words = []
 ·simp [h0]
 have hl : ((s.Words.length : Int) == 0) = false := by
  have := List.length_pos_iff.2 h0
  simpa using (by omega : ¬ (s.Words.length : Int) = 0)
 simp only [hl, Bool.false_eq_true, if_false, h0]
 by_cases h1 : ckWs 0 s.Words = 0
 ·simp only [h1, if_true, ne_eq, not_true, if_false]
  by_cases h2 : shC s.Shots = 0
  ·simp only [h2, bne_self_eq_false, Bool.false_eq_true, if_false, not_true]
   by_cases h3 : pcS s.Table = 0
   ·simp [h3]
   ·simp [h3]
  ·simp [h2]
 ·simp [h1]
def cutS : List UInt8 := [34, 39, 41, 93]
theorem cut_eq (s : List UInt8) : g_strings_TrimRight s [34, 39, 41, 93] = some (Lib.trimRightS s cutS) := by
 unfold g_strings_TrimRight
 rw [if_pos (by decide)]; rfl
theorem trim_snoc (l : List UInt8) (b : UInt8) : Lib.trimRightS (l ++ [b]) cutS = if cutS.contains b then Lib.trimRightS l cutS else l ++ [b] := by
 unfold Lib.trimRightS
 rw [List.reverse_append]
 simp only [List.reverse_cons, List.reverse_nil, List.nil_append, List.cons_append, List.dropWhile_cons]
 split <;> simp
theorem cut_mem (b : UInt8) : cutS.contains b = ((b.toNat == 34) || (b.toNat == 39) || (b.toNat == 41) || (b.toNat == 93)) := by
 have h : ∀ (n : Nat) (c : UInt8), c.toNat = n → (b == c) = (b.toNat == n) := by
  intro n c hc
  rw [Bool.eq_iff_iff, beq_iff_eq, beq_iff_eq]
  exact ⟨fun h => by rw [h, hc], fun h => UInt8.toNat_inj.1 (by rw [h, hc])⟩
 unfold cutS
 simp only [List.contains_cons, List.contains_nil, Bool.or_false]
 rw [h 34 34 rfl, h 39 39 rfl, h 41 41 rfl, h 93 93 rfl, Bool.or_assoc, Bool.or_assoc]
theorem trim_loop (s : List UInt8) (hs : s.length ≤ 140737488355328) : iter g_ref34_Sg_s1 s = some (Lib.trimRightS s cutS) := by
 refine iter_of (fun x e => x.length ≤ 140737488355328 ∧ e = Lib.trimRightS x cutS) (fun x => x.length) ?_ ⟨hs, rfl⟩ (by show s.length < _; omega)
 rintro x e ⟨hx, rfl⟩
 unfold g_ref34_Sg_s1
 rcases List.eq_nil_or_concat x with rfl | ⟨l, b, rfl⟩
 ·right; rfl
 ·rw [List.concat_eq_append] at hx ⊢
  have hl : (l ++ [b]).length = l.length + 1 := by simp
  rw [hl] at hx
  rw [hl, wr64 (by omega), if_pos (by simp), show (((l.length + 1 : Nat) : Int) - 1) = (l.length : Int) by omega, atI_nat (by simp)]
  simp only [Option.bind_some, List.getElem_append_right (Nat.le_refl _), Nat.sub_self, List.getElem_cons_zero]
  have hv : (if ((b.toNat : Int) == 34) = true then some true else if ((b.toNat : Int) == 39) = true then some true else if ((b.toNat : Int) == 41) = true then some true else some ((b.toNat : Int) == 93) : Option Bool) = some (cutS.contains b) := by
   rw [cut_mem]
   have e : ∀ n : Nat, ((b.toNat : Int) == (n : Int)) = (b.toNat == n) := fun n => by
    rw [Bool.eq_iff_iff, beq_iff_eq, beq_iff_eq]; omega
   have e1 := e 34; have e2 := e 39; have e3 := e 41; have e4 := e 93
   simp only [Int.cast_ofNat_Int] at e1 e2 e3 e4
   rw [e1, e2, e3, e4]
   cases (b.toNat == 34) <;> cases (b.toNat == 39) <;> cases (b.toNat == 41) <;> rfl
  rw [hv, trim_snoc]
  simp only [Option.bind_some]
  cases cutS.contains b
  ·right; simp
  ·left
   refine ⟨l, ?_, ⟨by omega, by simp⟩, by omega⟩
   simp [subH]
theorem trim_le (s : List UInt8) : (Lib.trimRightS s cutS).length ≤ s.length := trimRight_len s cutS
def lA : List UInt8 := [97, 32, 97, 110, 32, 116, 104, 101, 32, 111, 102, 32, 116, 111, 32, 105, 110, 32, 111, 110, 32, 97, 116, 32, 98, 121, 32, 102, 111, 114, 32, 102, 114, 111, 109, 32, 119, 105, 116, 104, 32, 109, 121, 32, 121, 111, 117, 114, 32, 104, 105, 115, 32, 104, 101, 114, 32, 105, 116, 115, 32, 111, 117, 114, 32, 116, 104, 101, 105, 114, 32, 110, 111]
def lB : List UInt8 := [97, 110, 100, 32, 98, 117, 116, 32, 111, 114, 32, 98, 101, 99, 97, 117, 115, 101, 32, 116, 104, 97, 116, 32, 119, 104, 105, 99, 104, 32, 119, 104, 111, 32, 119, 104, 101, 110, 32, 105, 102, 32, 119, 104, 105, 108, 101, 32, 115, 111, 32, 97, 115]
theorem same_A : g_strings_Split lA [32] = g_ref34_Words lA := by decide +kernel
theorem same_B : g_strings_Split lB [32] = g_ref34_Words lB := by decide +kernel
theorem some_A : ∃ l, g_ref34_Words lA = some l ∧ l.length ≤ 1000 := ⟨(g_ref34_Words lA).getD [], by decide +kernel, by decide +kernel⟩
theorem some_B : ∃ l, g_ref34_Words lB = some l ∧ l.length ≤ 1000 := ⟨(g_ref34_Words lB).getD [], by decide +kernel, by decide +kernel⟩
theorem among_step (s : List UInt8) (r : List (List UInt8)) : g_ref34_among_s1 s r = g_token_among_s1 s r := rfl
theorem among_total (s : List UInt8) (l : List (List UInt8)) (hl : l.length ≤ 1000) : ∃ e, iter (g_token_among_s1 s l) 0 = some e := by
 refine iter_ends l.length (by omega) (fun i hi => ?_) ?_
 ·unfold g_token_among_s1
  rw [if_pos (by simpa using hi), atI_nat hi, wr64 (by omega)]
  simp only [Option.bind_some]
  cases l[i] == s
  ·exact .inl rfl
  ·exact .inr ⟨_, rfl⟩
 ·unfold g_token_among_s1
  exact ⟨_, by rw [if_neg (by simp)]⟩
theorem among_both (s L : List UInt8) (h1 : g_strings_Split L [32] = g_ref34_Words L) (h2 : ∃ l, g_ref34_Words L = some l ∧ l.length ≤ 1000) : ∃ b, g_token_among s L = some b ∧ g_ref34_among L s = some b := by
 obtain ⟨l, hl, hn⟩ := h2
 obtain ⟨e, he⟩ := among_total s l hn
 unfold g_token_among g_ref34_among
 rw [h1, hl]
 simp only [Option.bind_some, among_step, he]
 cases e
 ·exact ⟨true, rfl, rfl⟩
 ·exact ⟨false, rfl, rfl⟩
theorem opt3 (p q r : Bool) : (if p = true then some true else if q = true then some true else some r : Option Bool) = some (p || q || r) := by
 cases p <;> cases q <;> rfl
theorem strength_both (w n : List UInt8) (hw : w.length ≤ 140737488355328) : ∃ v, 0 ≤ v ∧ v ≤ 5 ∧ g_token_Sg w n = some v ∧ g_ref34_Sg w n = some v := by
 unfold g_token_Sg g_ref34_Sg
 rw [cut_eq, trim_loop w hw]
 have hle := trim_le w
 obtain ⟨b1, p1, r1⟩ := among_both (smS w) lA same_A some_A
 obtain ⟨b2, p2, r2⟩ := among_both (smS n) lB same_B some_B
 unfold lA at p1 r1
 unfold lB at p2 r2
 simp only [Option.bind_some, g_token_small, g_ref34_small, p1, p2, r1, r2]
 generalize Lib.trimRightS w cutS = t at hle ⊢
 have tail : ∃ v : Int, 0 ≤ v ∧ v ≤ 5 ∧ (if b1 = true then some 0 else if b2 = true then some 2 else some 1 : Option Int) = some v := by
  cases b1
  ·cases b2
   ·exact ⟨1, by decide, by decide, rfl⟩
   ·exact ⟨2, by decide, by decide, rfl⟩
  ·exact ⟨0, by decide, by decide, rfl⟩
 by_cases ht : t = []
 ·subst ht
  simp only [beq_self_eq_true, if_true, List.length_nil, Int.natCast_zero, Int.lt_irrefl, decide_false, Bool.false_eq_true, if_false]
  cases w == ([45] : List UInt8)
  ·obtain ⟨v, h0, h5, hv⟩ := tail
   exact ⟨v, h0, h5, hv, hv⟩
  ·exact ⟨4, by decide, by decide, rfl, rfl⟩
 ·have hb : (t == ([] : List UInt8)) = false := by simpa using ht
  have hp := List.length_pos_iff.2 ht
  rw [hb, if_pos (show decide (0 < (t.length : Int)) = true by simpa using hp), wr64 (by omega), show ((t.length : Int) - 1) = ((t.length - 1 : Nat) : Int) by omega, atI_nat (show t.length - 1 < t.length by omega)]
  simp only [Bool.false_eq_true, if_false, Option.bind_some]
  generalize t[t.length - 1] = b
  rw [opt3, opt3]
  simp only [Option.bind_some]
  generalize ((b.toNat : Int) == 46 || (b.toNat : Int) == 33 || (b.toNat : Int) == 63) = o1
  generalize ((b.toNat : Int) == 58 || (b.toNat : Int) == 59 || w == ([45] : List UInt8)) = o2
  generalize ((b.toNat : Int) == 44) = o3
  cases o1
  ·cases o2
   ·cases o3
    ·obtain ⟨v, h0, h5, hv⟩ := tail
     exact ⟨v, h0, h5, hv, hv⟩
    ·exact ⟨3, by decide, by decide, rfl, rfl⟩
   ·exact ⟨4, by decide, by decide, rfl, rfl⟩
  ·exact ⟨5, by decide, by decide, rfl, rfl⟩
def strS (w n : List UInt8) : Int := (g_token_Sg w n).getD 0
theorem strS_eq (w n : List UInt8) (hw : w.length ≤ 140737488355328) : g_token_Sg w n = some (strS w n) ∧ g_ref34_Sg w n = some (strS w n) ∧ 0 ≤ strS w n ∧ strS w n ≤ 5 := by
 obtain ⟨v, h0, h5, h1, h2⟩ := strength_both w n hw
 unfold strS
 rw [h1]
 exact ⟨rfl, h2, h0, h5⟩
def tkA (ws : List A_Word) (i : Nat) : A_Token := ⟨(ws[i]?.getD ⟨[], ⟨0, 0⟩⟩).Text, if i + 1 < ws.length then strS (ws[i]?.getD ⟨[], ⟨0, 0⟩⟩).Text (ws[i + 1]?.getD ⟨[], ⟨0, 0⟩⟩).Text else 5⟩
def tks (ws : List A_Word) : List A_Token := (List.range ws.length).map (tkA ws)
theorem tks_len (ws : List A_Word) : (tks ws).length = ws.length := by simp [tks]
theorem tks_at (ws : List A_Word) {i : Nat} (h : i < (tks ws).length) : (tks ws)[i] = tkA ws i := by simp [tks]
theorem tkA_text (ws : List A_Word) {i : Nat} (h : i < ws.length) : (tkA ws i).Text = ws[i].Text := by simp [tkA, h]
theorem tkA_str (ws : List A_Word) {i : Nat} (h : i < ws.length) (hs : ∀ w ∈ ws, w.Text.length ≤ 1048576) : 0 ≤ (tkA ws i).Sg ∧ (tkA ws i).Sg ≤ 5 := by
 unfold tkA
 by_cases h2 : i + 1 < ws.length
 ·simp only [h2, if_true]
  have := strS_eq (ws[i]?.getD ⟨[], ⟨0, 0⟩⟩).Text (ws[i + 1]?.getD ⟨[], ⟨0, 0⟩⟩).Text (by
   rw [List.getElem?_eq_getElem h]
   have := hs _ (List.getElem_mem h)
   simp only [Option.getD_some]; omega)
  exact this.2.2
 ·simp [h2]
theorem setI_nat {α : Type} {l : List α} {n : Nat} (x : α) (h : n < l.length) : setI l (n : Int) x = some (l.set n x) := by
 simp [setI, h]
theorem mkI_nat {α : Type} (by' : Int) (n : Nat) (z : α) (h : (n : Int) * by' ≤ 140737488355328) (h2 : n ≤ 9223372036854775807) : mkI by' (n : Int) z = some (List.replicate n z) := by
 unfold mkI
 rw [if_pos (by omega)]
 simp [replL]
theorem tokens_eq {s : A_Sh} (h : Sok s) : g_sg_tokens s = some (tks s.Words) := by
 have hn := h.words
 unfold g_sg_tokens
 rw [mkI_nat 24 s.Words.length _ (by omega) (by omega)]
 simp only [Option.bind_some]
 have key : iter (g_sg_tokens_s1 s) (0, List.replicate s.Words.length (A_Token.mk [] 0)) = some (tks s.Words) := by
  refine iter_of (fun x e => ∃ i : Nat, x.1 = (i : Int) ∧ i ≤ s.Words.length ∧ x.2 = (List.range i).map (tkA s.Words) ++ List.replicate (s.Words.length - i) (A_Token.mk [] 0) ∧ e = tks s.Words) (fun x => s.Words.length - x.1.toNat) ?_ (x := (0, _)) ⟨0, rfl, by omega, by simp, rfl⟩ (by show s.Words.length - 0 < _; omega)
  rintro ⟨x, m⟩ e ⟨i, hx, hi, hm, rfl⟩
  dsimp only at hx hm ⊢
  subst hx hm
  unfold g_sg_tokens_s1
  dsimp only
  by_cases hlt : i < s.Words.length
  ·left
   obtain ⟨k, hk⟩ : ∃ k, s.Words.length - i = k + 1 := ⟨s.Words.length - i - 1, by omega⟩
   have hk2 : s.Words.length - (i + 1) = k := by omega
   have hA : ((List.range i).map (tkA s.Words)).length = i := by simp
   have hset : ∀ (v u : A_Token), (((List.range i).map (tkA s.Words) ++ v :: List.replicate k (A_Token.mk [] 0))).set i u = (List.range i).map (tkA s.Words) ++ u :: List.replicate k (A_Token.mk [] 0) := fun v u => by
    rw [List.set_append_right _ _ (by omega), hA, Nat.sub_self]; rfl
   have hgt : ∀ (v : A_Token), atI ((List.range i).map (tkA s.Words) ++ v :: List.replicate k (A_Token.mk [] 0)) (i : Int) = some v := fun v => by
    rw [atI_nat (by simp), List.getElem_append_right (by omega)]
    simp [hA]
   have hse : ∀ (v u : A_Token), setI ((List.range i).map (tkA s.Words) ++ v :: List.replicate k (A_Token.mk [] 0)) (i : Int) u = some ((List.range i).map (tkA s.Words) ++ u :: List.replicate k (A_Token.mk [] 0)) := fun v u => by
    rw [setI_nat _ (by simp), hset]
   have hfin : ∀ u : A_Token, u = tkA s.Words i → (List.range i).map (tkA s.Words) ++ u :: List.replicate k (A_Token.mk [] 0) = (List.range (i + 1)).map (tkA s.Words) ++ List.replicate (s.Words.length - (i + 1)) (A_Token.mk [] 0) := fun u hu => by
    rw [hk2, List.range_succ, List.map_append, hu]; simp
   rw [hk, List.replicate_succ, if_pos (by simpa using hlt), atI_nat hlt]
   simp only [Option.bind_some, hgt, hse]
   rw [wr64 (by omega)]
   have hw := h.texts _ (List.getElem_mem hlt)
   by_cases h2 : i + 1 < s.Words.length
   ·rw [if_pos (by simp; omega), show ((i : Int) + 1) = ((i + 1 : Nat) : Int) by omega, atI_nat h2]
    simp only [Option.bind_some]
    rw [(strS_eq s.Words[i].Text s.Words[i + 1].Text (by omega)).1]
    simp only [Option.bind_some, hgt, hse]
    refine ⟨_, rfl, ⟨i + 1, rfl, by omega, hfin _ ?_, by first | rfl | trivial⟩, by dsimp only; omega⟩
    simp [tkA, hlt, h2]
   ·rw [if_neg (by simp; omega), show ((i : Int) + 1) = ((i + 1 : Nat) : Int) by omega]
    refine ⟨_, rfl, ⟨i + 1, rfl, by omega, hfin _ ?_, by first | rfl | trivial⟩, by dsimp only; omega⟩
    simp [tkA, hlt, h2]
  ·right
   obtain rfl : i = s.Words.length := by omega
   rw [if_neg (by simp)]
   simp [tks]
 rw [key]; rfl
def tkP (ws : List A_Word) (i j : Nat) : List A_Token := ((tks ws).drop i).take (j - i)
theorem tkP_len (ws : List A_Word) {i j : Nat} (h : j ≤ ws.length) : (tkP ws i j).length = j - i := by
 simp [tkP, tks]; omega
theorem tkP_at (ws : List A_Word) {i j k : Nat} (hj : j ≤ ws.length) (h : k < (tkP ws i j).length) : (tkP ws i j)[k] = tkA ws (i + k) := by
 simp [tkP, tks]
theorem tkP_snoc (ws : List A_Word) {i j : Nat} (hij : i ≤ j) (hj : j < ws.length) : tkP ws i (j + 1) = tkP ws i j ++ [tkA ws j] := by
 unfold tkP
 have : j + 1 - i = (j - i) + 1 := by omega
 rw [this, List.take_add_one]
 congr 1
 rw [List.getElem?_drop, show i + (j - i) = j by omega, List.getElem?_eq_getElem (by rw [tks_len]; exact hj), tks_at]
 rfl
theorem paragraph_eq {s : A_Sh} (h : Sok s) {i j : Nat} (hij : i ≤ j) (hj : j ≤ s.Words.length) : g_ref38_paragraph s (i : Int) (j : Int) = some ⟨tkP s.Words i j, s.House.Cols, s.House.Rows, s.Table⟩ := by
 have hn := h.words
 unfold g_ref38_paragraph
 have key : iter (g_ref38_paragraph_s1 s (j : Int)) ((i : Int), []) = some (tkP s.Words i j) := by
  refine iter_of (fun x e => ∃ k : Nat, x.1 = (k : Int) ∧ i ≤ k ∧ k ≤ j ∧ x.2 = tkP s.Words i k ∧ e = tkP s.Words i j) (fun x => j - x.1.toNat) ?_ (x := ((i : Int), [])) ⟨i, rfl, by omega, by omega, by simp [tkP], rfl⟩ (by show j - _ < _; omega)
  rintro ⟨x, m⟩ e ⟨k, hx, hik, hkj, hm, rfl⟩
  dsimp only at hx hm ⊢
  subst hx hm
  unfold g_ref38_paragraph_s1
  dsimp only
  have hlen := tkP_len s.Words (i := i) (j := k) (by omega)
  by_cases hlt : k < j
  ·left
   rw [if_pos (by simpa using hlt), wr64 (by omega)]
   have hk : k < s.Words.length := by omega
   have hw := h.texts _ (List.getElem_mem hk)
   by_cases h2 : k + 1 < s.Words.length
   ·rw [if_pos (by simp; omega), show ((k : Int) + 1) = ((k + 1 : Nat) : Int) by omega, atI_nat h2, atI_nat hk]
    simp only [Option.bind_some]
    rw [(strS_eq s.Words[k].Text s.Words[k + 1].Text (by omega)).2.1]
    simp only [Option.bind_some]
    rw [if_pos (by omega)]
    refine ⟨_, rfl, ⟨k + 1, rfl, by omega, by omega, ?_, by first | rfl | trivial⟩, by dsimp only; omega⟩
    rw [tkP_snoc s.Words hik hk]
    simp [tkA, hk, h2]
   ·rw [if_neg (by simp; omega), show ((k : Int) + 1) = ((k + 1 : Nat) : Int) by omega, atI_nat hk]
    simp only [Option.bind_some]
    rw [if_pos (by omega)]
    refine ⟨_, rfl, ⟨k + 1, rfl, by omega, by omega, ?_, by first | rfl | trivial⟩, by dsimp only; omega⟩
    rw [tkP_snoc s.Words hik hk]
    simp [tkA, hk, h2]
  ·right
   obtain rfl : k = j := by omega
   rw [if_neg (by simp)]
 rw [key]; rfl
theorem rcF : ∀ (fuel pos : Nat) (s : List UInt8), s.length ≤ pos + fuel → Lib.runeCountFrom ⟨s.toArray⟩ fuel pos = (rnL (s.drop pos)).length
 | 0, pos, s, h => by rw [rnL_end (by omega)]; rfl
 | fuel + 1, pos, s, h => by
  have hsz : (⟨s.toArray⟩ : ByteArray).size = s.length := bsize s
  unfold Lib.runeCountFrom
  rw [hsz]
  by_cases hp : pos < s.length
  ·rw [if_pos hp, decL_eq s pos hp, rnL_at hp]
   have hw := wd_pos hp
   have := rcF fuel (pos + widthAt s pos) s (by omega)
   unfold widthAt at this
   rw [this, List.length_cons]
   unfold widthAt
   omega
  ·rw [if_neg hp, rnL_end (by omega)]; rfl
theorem rcL (s : List UInt8) : Lib.runeCountL s = (rnL s).length := by
 unfold Lib.runeCountL Lib.runeCount
 rw [rcF _ 0 s (by rw [bsize]; omega), List.drop_zero]
def chL (s : List UInt8) : Int := if gv s then ((rnL s).length : Int) else -1
theorem len_prog (s : List UInt8) (h : s.length ≤ 1048576) : g_ch_Len s = some (chL s) := by
 unfold g_ch_Len chL
 rw [prog_Valid_eq s (by omega)]
 simp only [Option.bind_some, g_unicode_utf8_RuneCountInString]
 cases gv s
 ·rfl
 ·simp only [if_true]
  rw [if_pos (show s.length < 9223372036854775807 by omega), rcL]; rfl
theorem len_ref (s : List UInt8) (h : s.length ≤ 1048576) : g_ref08_Len s = some (chL s) := by
 unfold g_ref08_Len chL
 rw [ref_Valid_eq s (by omega), runes_eq s h]
 simp only [Option.bind_some]
 cases gv s <;> rfl
theorem chL_le (s : List UInt8) (h : s.length ≤ 1048576) : -1 ≤ chL s ∧ chL s ≤ 1048576 := by
 unfold chL
 have := rnL_len _ s (Nat.le_refl _)
 split <;> omega
theorem chL_pos {s : List UInt8} (h : gv s = true) (hn : s ≠ []) : 1 ≤ chL s := by
 unfold chL
 rw [if_pos h, rnL_ne hn, List.length_cons]
 omega
def upP (a b : Int) : Int := Int.tdiv (a + b - 1) b
theorem upP_ge {a b : Int} (ha : 1 ≤ a) (hb : 1 ≤ b) : 1 ≤ upP a b ∧ upP a b ≤ a := by
 unfold upP
 rw [Int.tdiv_eq_ediv_of_nonneg (by omega)]
 constructor
 ·exact (Int.le_ediv_iff_mul_le (by omega)).2 (by omega)
 ·have : (a + b - 1) / b < a + 1 := by
   refine Int.ediv_lt_of_lt_mul (by omega) ?_
   have : (a + 1) * b = a * b + b := by rw [Int.add_mul, Int.one_mul]
   have h2 : a * 1 ≤ a * b := Int.mul_le_mul_of_nonneg_left hb (by omega)
   omega
  omega
def aimS (t w : Int) : Int × Int := if wiB t 1 10000 && wiB w 1 32 then (upP t (upP t w), 0) else (0, 2)
theorem pwithin (n lo hi : Int) : g_pn_within n lo hi = some (wiB n lo hi) := by
 unfold g_pn_within wiB
 cases decide (lo ≤ n) <;> simp
theorem rwithin35 (n lo hi : Int) : g_ref35_within n lo hi = some (wiB n lo hi) := by
 unfold g_ref35_within wiB
 cases decide (lo ≤ n) <;> simp
theorem aim_prog (t w : Int) : g_pn_Aim t w = some (aimS t w) := by
 unfold g_pn_Aim aimS wiB g_pn_up
 by_cases h1 : t < 1
 ·simp [h1, show ¬ 1 ≤ t from by omega]
 by_cases h2 : 10000 < t
 ·simp [h1, h2, show ¬ t ≤ 10000 from by omega]
 by_cases h3 : w < 1
 ·simp [h1, h2, h3, show ¬ 1 ≤ w from by omega]
 by_cases h4 : 32 < w
 ·simp [h1, h2, h3, h4, show ¬ w ≤ 32 from by omega]
 obtain ⟨a1, a2⟩ := upP_ge (a := t) (b := w) (by omega) (by omega)
 obtain ⟨b1, b2⟩ := upP_ge (a := t) (b := upP t w) (by omega) a1
 have e1 : IntKind.i64.wrap (Int.tdiv (IntKind.i64.wrap (IntKind.i64.wrap (t + w) - 1)) w) = upP t w := by
  rw [wr64 (x := t + w) (by omega), wr64 (x := t + w - 1) (by omega)]
  exact wr64 (by unfold upP at a1 a2; omega)
 have e2 : IntKind.i64.wrap (Int.tdiv (IntKind.i64.wrap (IntKind.i64.wrap (t + upP t w) - 1)) (upP t w)) = upP t (upP t w) := by
  rw [wr64 (x := t + upP t w) (by omega), wr64 (x := t + upP t w - 1) (by omega)]
  exact wr64 (by unfold upP at b1 b2 ⊢; omega)
 have q1 : ¬ w = 0 := by omega
 have q2 : ¬ upP t w = 0 := by omega
 simp only [h1, h2, h3, h4, decide_false, Bool.false_eq_true, if_false, Option.bind_some, q1, not_false_eq_true, if_true, e1, q2, e2, show 1 ≤ t from by omega, show t ≤ 10000 from by omega, show 1 ≤ w from by omega, show w ≤ 32 from by omega, decide_true, Bool.and_self]
theorem aim_ref (t w : Int) : g_ref35_Aim t w = some (aimS t w) := by
 unfold g_ref35_Aim aimS
 rw [rwithin35, rwithin35]
 simp only [Option.bind_some]
 cases h1 : wiB t 1 10000
 ·rfl
 cases h2 : wiB w 1 32
 ·rfl
 have h1 := wiB_t h1
 have h2 := wiB_t h2
 obtain ⟨a1, a2⟩ := upP_ge (a := t) (b := w) (by omega) (by omega)
 obtain ⟨b1, b2⟩ := upP_ge (a := t) (b := upP t w) (by omega) a1
 have e1 : IntKind.i64.wrap (Int.tdiv (IntKind.i64.wrap (IntKind.i64.wrap (t + w) - 1)) w) = upP t w := by
  rw [wr64 (x := t + w) (by omega), wr64 (x := t + w - 1) (by omega)]
  exact wr64 (by unfold upP at a1 a2; omega)
 have e2 : IntKind.i64.wrap (Int.tdiv (IntKind.i64.wrap (IntKind.i64.wrap (t + upP t w) - 1)) (upP t w)) = upP t (upP t w) := by
  rw [wr64 (x := t + upP t w) (by omega), wr64 (x := t + upP t w - 1) (by omega)]
  exact wr64 (by unfold upP at b1 b2 ⊢; omega)
 have q1 : ¬ w = 0 := by omega
 have q2 : ¬ upP t w = 0 := by omega
 simp only [if_true, Bool.not_true, Bool.false_eq_true, if_false, Option.bind_some, q1, not_false_eq_true, e1, q2, e2, Bool.and_self]
def abD (a b : Int) : Int := if a - b < 0 then b - a else a - b
def stAt (t : A_Pn) (k : Int) : Int := if k = 0 then t.Sg.a0 else if k = 1 then t.Sg.a1 else if k = 2 then t.Sg.a2 else if k = 3 then t.Sg.a3 else if k = 4 then t.Sg.a4 else if k = 5 then t.Sg.a5 else 0
theorem stAt_le {t : A_Pn} (h : pcS t = 0) (k : Int) : 0 ≤ stAt t k ∧ stAt t k ≤ 1000000 := by
 have := pcS_0 h
 unfold stAt
 split
 ·omega
 split
 ·omega
 split
 ·omega
 split
 ·omega
 split
 ·omega
 split
 ·omega
 ·omega
def rowS (t : A_Pn) (aim len str : Int) : Int × Int := if pcS t ≠ 0 then (0, pcS t) else if wiB aim 1 32 && (wiB len 1 32 && wiB str (-1) 5) then (t.Row + t.Rgd * abD aim len + stAt t str, 0) else (0, 2)
theorem row_arith {t : A_Pn} (h : pcS t = 0) {a b : Int} (ha : 1 ≤ a ∧ a ≤ 32) (hb : 1 ≤ b ∧ b ≤ 32) : 0 ≤ t.Rgd * abD a b ∧ t.Rgd * abD a b ≤ 31000000 ∧ 0 ≤ abD a b ∧ abD a b ≤ 31 := by
 have hp := pcS_0 h
 have h0 : 0 ≤ abD a b ∧ abD a b ≤ 31 := by unfold abD; split <;> omega
 have h1 : 0 ≤ t.Rgd * abD a b := Int.mul_nonneg (by omega) h0.1
 have h2 : t.Rgd * abD a b ≤ 1000000 * abD a b := Int.mul_le_mul_of_nonneg_right (by omega) h0.1
 omega
theorem rowS_le (t : A_Pn) (aim len str : Int) : 0 ≤ (rowS t aim len str).1 ∧ (rowS t aim len str).1 ≤ 33000000 := by
 unfold rowS
 split
 ·simp
 ·rename_i h
  split
  ·rename_i h2
   simp only [Bool.and_eq_true] at h2
   have hp := pcS_0 (by omega : pcS t = 0)
   have := row_arith (by omega : pcS t = 0) (wiB_t h2.1) (wiB_t h2.2.1)
   have := stAt_le (by omega : pcS t = 0) str
   dsimp only
   omega
  ·simp
theorem row_prog (t : A_Pn) (aim len str : Int) : g_pn_Row t aim len str = some (rowS t aim len str) := by
 unfold g_pn_Row rowS
 rw [pen_Check, pwithin, pwithin, pwithin]
 simp only [Option.bind_some]
 by_cases h : pcS t = 0
 rotate_left
 ·simp [h]
 rw [if_neg (show ¬ (pcS t != 0) = true by simpa using h), if_neg (show ¬ pcS t ≠ 0 by omega)]
 cases h1 : wiB aim 1 32
 ·rfl
 cases h2 : wiB len 1 32
 ·rfl
 cases h3 : wiB str (-1) 5
 ·rfl
 have h1 := wiB_t h1
 have h2 := wiB_t h2
 have h3 := wiB_t h3
 have hp := pcS_0 h
 obtain ⟨m1, m2, m3, m4⟩ := row_arith h h1 h2
 have e0 : (if IntKind.i64.wrap (len - aim) > IntKind.i64.wrap (aim - len) then IntKind.i64.wrap (len - aim) else IntKind.i64.wrap (aim - len)) = abD aim len := by
  rw [wr64 (by omega), wr64 (by omega)]
  unfold abD
  split <;> split <;> omega
 simp only [if_true, Bool.not_true, Bool.false_eq_true, if_false, Option.bind_some, Bool.and_self, e0]
 have w1 := wr64 (x := t.Rgd * abD aim len) (by omega)
 have w2 := wr64 (x := t.Row + t.Rgd * abD aim len) (by omega)
 rw [w1, w2]
 have hzb : 0 ≤ t.Row + t.Rgd * abD aim len ∧ t.Row + t.Rgd * abD aim len ≤ 32000000 := by omega
 generalize t.Row + t.Rgd * abD aim len = z at *
 have hz : ∀ k, 0 ≤ k → k ≤ 1000000 → IntKind.i64.wrap (z + k) = z + k := fun k _ _ => wr64 (by omega)
 have w3 := hz t.Sg.a0 (by omega) (by omega)
 have w4 := hz t.Sg.a1 (by omega) (by omega)
 have w5 := hz t.Sg.a2 (by omega) (by omega)
 have w6 := hz t.Sg.a3 (by omega) (by omega)
 have w7 := hz t.Sg.a4 (by omega) (by omega)
 have w8 := hz t.Sg.a5 (by omega) (by omega)
 rw [w3, w4, w5, w6, w7, w8]
 have hs : str = -1 ∨ str = 0 ∨ str = 1 ∨ str = 2 ∨ str = 3 ∨ str = 4 ∨ str = 5 := by omega
 rcases hs with rfl | rfl | rfl | rfl | rfl | rfl | rfl <;> simp [stAt]
theorem row_ref (t : A_Pn) (aim len str : Int) : g_ref35_Row t aim len str = some (rowS t aim len str) := by
 unfold g_ref35_Row rowS
 rw [ref_penCheck, pen_Check, rwithin35, rwithin35, rwithin35]
 simp only [Option.bind_some]
 by_cases h : pcS t = 0
 rotate_left
 ·simp [h]
 rw [if_neg (show ¬ (pcS t != 0) = true by simpa using h), if_neg (show ¬ pcS t ≠ 0 by omega)]
 cases h1 : wiB aim 1 32
 ·rfl
 cases h2 : wiB len 1 32
 ·rfl
 cases h3 : wiB str (-1) 5
 ·rfl
 have h1 := wiB_t h1
 have h2 := wiB_t h2
 have h3 := wiB_t h3
 have hp := pcS_0 h
 obtain ⟨m1, m2, m3, m4⟩ := row_arith h h1 h2
 simp only [if_true, Bool.not_true, Bool.false_eq_true, if_false, Option.bind_some, Bool.and_self]
 rw [wr64 (x := aim - len) (by omega), wr64 (x := 0 - (aim - len)) (by omega)]
 have fin : ∀ d : Int, d = abD aim len → ∀ o : Option (Int × Int), o = some (t.Row + t.Rgd * abD aim len + stAt t str, 0) → True := fun _ _ _ _ => trivial
 have w1 := wr64 (x := t.Rgd * abD aim len) (by omega)
 have w2 := wr64 (x := t.Row + t.Rgd * abD aim len) (by omega)
 have hs : str = -1 ∨ str = 0 ∨ str = 1 ∨ str = 2 ∨ str = 3 ∨ str = 4 ∨ str = 5 := by omega
 by_cases hd : aim - len < 0
 ·have e0 : 0 - (aim - len) = abD aim len := by unfold abD; rw [if_pos hd]; omega
  rw [if_pos (by simpa using hd), e0, w1, w2]
  have hzb : 0 ≤ t.Row + t.Rgd * abD aim len ∧ t.Row + t.Rgd * abD aim len ≤ 32000000 := by omega
  generalize t.Row + t.Rgd * abD aim len = z at *
  have hz : ∀ k, 0 ≤ k → k ≤ 1000000 → IntKind.i64.wrap (z + k) = z + k := fun k _ _ => wr64 (by omega)
  rw [hz t.Sg.a0 (by omega) (by omega), hz t.Sg.a1 (by omega) (by omega), hz t.Sg.a2 (by omega) (by omega), hz t.Sg.a3 (by omega) (by omega), hz t.Sg.a4 (by omega) (by omega), hz t.Sg.a5 (by omega) (by omega)]
  rcases hs with rfl | rfl | rfl | rfl | rfl | rfl | rfl <;> simp [stAt]
 ·have e0 : aim - len = abD aim len := by unfold abD; rw [if_neg hd]
  rw [if_neg (by simpa using hd), e0, w1, w2]
  have hzb : 0 ≤ t.Row + t.Rgd * abD aim len ∧ t.Row + t.Rgd * abD aim len ≤ 32000000 := by omega
  generalize t.Row + t.Rgd * abD aim len = z at *
  have hz : ∀ k, 0 ≤ k → k ≤ 1000000 → IntKind.i64.wrap (z + k) = z + k := fun k _ _ => wr64 (by omega)
  rw [hz t.Sg.a0 (by omega) (by omega), hz t.Sg.a1 (by omega) (by omega), hz t.Sg.a2 (by omega) (by omega), hz t.Sg.a3 (by omega) (by omega), hz t.Sg.a4 (by omega) (by omega), hz t.Sg.a5 (by omega) (by omega)]
  rcases hs with rfl | rfl | rfl | rfl | rfl | rfl | rfl <;> simp [stAt]
def okLd (l : A_Load) : Bool := wiB l.Fast 0 5184000 && (wiB l.Gap 0 5184000 && (wiB l.Shots 0 400 && wiB l.Sg 0 5))
def evS (t : A_Pn) (l : A_Load) : Int × Int := if pcS t ≠ 0 then (0, pcS t) else if okLd l then (t.Event + t.Fast * l.Fast + t.Gap * l.Gap + t.Shot * l.Shots + (if l.Last then 0 else stAt t l.Sg), 0) else (0, 2)
theorem mulb {a b m k : Int} (ha : 0 ≤ a ∧ a ≤ m) (hb : 0 ≤ b ∧ b ≤ k) : 0 ≤ a * b ∧ a * b ≤ m * k := by
 have h1 : 0 ≤ a * b := Int.mul_nonneg ha.1 hb.1
 have h2 : a * b ≤ m * b := Int.mul_le_mul_of_nonneg_right ha.2 hb.1
 have h3 : m * b ≤ m * k := Int.mul_le_mul_of_nonneg_left hb.2 (by omega)
 omega
theorem ev_arith {t : A_Pn} {l : A_Load} (h : pcS t = 0) (hl : okLd l = true) : (0 ≤ t.Fast * l.Fast ∧ t.Fast * l.Fast ≤ 1000000 * 5184000) ∧ (0 ≤ t.Gap * l.Gap ∧ t.Gap * l.Gap ≤ 1000000 * 5184000) ∧ (0 ≤ t.Shot * l.Shots ∧ t.Shot * l.Shots ≤ 1000000 * 400) := by
 have hp := pcS_0 h
 unfold okLd at hl
 simp only [Bool.and_eq_true] at hl
 have a1 := wiB_t hl.1
 have a2 := wiB_t hl.2.1
 have a3 := wiB_t hl.2.2.1
 exact ⟨mulb (by omega) (by omega), mulb (by omega) (by omega), mulb (by omega) (by omega)⟩
theorem evS_le (t : A_Pn) (l : A_Load) : 0 ≤ (evS t l).1 ∧ (evS t l).1 ≤ 20000000000000 := by
 unfold evS
 split
 ·simp
 ·rename_i h
  split
  ·rename_i h2
   have hp := pcS_0 (by omega : pcS t = 0)
   have := ev_arith (by omega : pcS t = 0) h2
   have := stAt_le (by omega : pcS t = 0) l.Sg
   dsimp only
   split <;> omega
  ·simp
theorem ev_fin {t : A_Pn} {l : A_Load} (h : pcS t = 0) (hl : okLd l = true) : (if l.Last then (some ((IntKind.i64.wrap ((IntKind.i64.wrap ((IntKind.i64.wrap (t.Event + (IntKind.i64.wrap (t.Fast * l.Fast)))) + (IntKind.i64.wrap (t.Gap * l.Gap)))) + (IntKind.i64.wrap (t.Shot * l.Shots)))), 0)) else (if l.Sg == 0 then (some ((IntKind.i64.wrap ((IntKind.i64.wrap ((IntKind.i64.wrap ((IntKind.i64.wrap (t.Event + (IntKind.i64.wrap (t.Fast * l.Fast)))) + (IntKind.i64.wrap (t.Gap * l.Gap)))) + (IntKind.i64.wrap (t.Shot * l.Shots)))) + t.Sg.a0)), 0)) else (if l.Sg == 1 then (some ((IntKind.i64.wrap ((IntKind.i64.wrap ((IntKind.i64.wrap ((IntKind.i64.wrap (t.Event + (IntKind.i64.wrap (t.Fast * l.Fast)))) + (IntKind.i64.wrap (t.Gap * l.Gap)))) + (IntKind.i64.wrap (t.Shot * l.Shots)))) + t.Sg.a1)), 0)) else (if l.Sg == 2 then (some ((IntKind.i64.wrap ((IntKind.i64.wrap ((IntKind.i64.wrap ((IntKind.i64.wrap (t.Event + (IntKind.i64.wrap (t.Fast * l.Fast)))) + (IntKind.i64.wrap (t.Gap * l.Gap)))) + (IntKind.i64.wrap (t.Shot * l.Shots)))) + t.Sg.a2)), 0)) else (if l.Sg == 3 then (some ((IntKind.i64.wrap ((IntKind.i64.wrap ((IntKind.i64.wrap ((IntKind.i64.wrap (t.Event + (IntKind.i64.wrap (t.Fast * l.Fast)))) + (IntKind.i64.wrap (t.Gap * l.Gap)))) + (IntKind.i64.wrap (t.Shot * l.Shots)))) + t.Sg.a3)), 0)) else (if l.Sg == 4 then (some ((IntKind.i64.wrap ((IntKind.i64.wrap ((IntKind.i64.wrap ((IntKind.i64.wrap (t.Event + (IntKind.i64.wrap (t.Fast * l.Fast)))) + (IntKind.i64.wrap (t.Gap * l.Gap)))) + (IntKind.i64.wrap (t.Shot * l.Shots)))) + t.Sg.a4)), 0)) else (if l.Sg == 5 then (some ((IntKind.i64.wrap ((IntKind.i64.wrap ((IntKind.i64.wrap ((IntKind.i64.wrap (t.Event + (IntKind.i64.wrap (t.Fast * l.Fast)))) + (IntKind.i64.wrap (t.Gap * l.Gap)))) + (IntKind.i64.wrap (t.Shot * l.Shots)))) + t.Sg.a5)), 0)) else none)))))) : Option (Int × Int)) = some (t.Event + t.Fast * l.Fast + t.Gap * l.Gap + t.Shot * l.Shots + (if l.Last then 0 else stAt t l.Sg), 0) := by
 have hp := pcS_0 h
 obtain ⟨m1, m2, m3⟩ := ev_arith h hl
 unfold okLd at hl
 simp only [Bool.and_eq_true] at hl
 have h3 := wiB_t hl.2.2.2
 rw [wr64 (x := t.Fast * l.Fast) (by omega), wr64 (x := t.Gap * l.Gap) (by omega), wr64 (x := t.Shot * l.Shots) (by omega)]
 rw [wr64 (x := t.Event + t.Fast * l.Fast) (by omega), wr64 (x := t.Event + t.Fast * l.Fast + t.Gap * l.Gap) (by omega), wr64 (x := t.Event + t.Fast * l.Fast + t.Gap * l.Gap + t.Shot * l.Shots) (by omega)]
 generalize hzz : t.Event + t.Fast * l.Fast + t.Gap * l.Gap + t.Shot * l.Shots = z
 have hzb : 0 ≤ z ∧ z ≤ 20000000000000 := by omega
 have hz : ∀ k, 0 ≤ k → k ≤ 1000000 → IntKind.i64.wrap (z + k) = z + k := fun k _ _ => wr64 (by omega)
 rw [hz t.Sg.a0 (by omega) (by omega), hz t.Sg.a1 (by omega) (by omega), hz t.Sg.a2 (by omega) (by omega), hz t.Sg.a3 (by omega) (by omega), hz t.Sg.a4 (by omega) (by omega), hz t.Sg.a5 (by omega) (by omega)]
 generalize l.Sg = str at *
 have hs : str = 0 ∨ str = 1 ∨ str = 2 ∨ str = 3 ∨ str = 4 ∨ str = 5 := by omega
 cases l.Last
 ·rcases hs with rfl | rfl | rfl | rfl | rfl | rfl <;> simp [stAt]
 ·simp
theorem ev_prog (t : A_Pn) (l : A_Load) : g_pn_Event t l = some (evS t l) := by
 unfold g_pn_Event evS
 rw [pen_Check, pwithin, pwithin, pwithin, pwithin]
 simp only [Option.bind_some]
 by_cases h : pcS t = 0
 rotate_left
 ·simp [h]
 rw [if_neg (show ¬ (pcS t != 0) = true by simpa using h), if_neg (show ¬ pcS t ≠ 0 by omega)]
 by_cases hl : okLd l = true
 ·rw [if_pos hl]
  have hl2 := hl
  unfold okLd at hl2
  simp only [Bool.and_eq_true] at hl2
  simp only [hl2.1, hl2.2.1, hl2.2.2.1, hl2.2.2.2, if_true, Bool.not_true, Bool.false_eq_true, if_false, Option.bind_some]
  exact ev_fin h hl
 ·rw [if_neg hl]
  unfold okLd at hl
  cases h1 : wiB l.Fast 0 5184000
  ·rfl
  cases h2 : wiB l.Gap 0 5184000
  ·rfl
  cases h3 : wiB l.Shots 0 400
  ·rfl
  cases h4 : wiB l.Sg 0 5
  ·rfl
  exact absurd (by rw [h1, h2, h3, h4]; rfl) hl
theorem opt6 (l : A_Load) : (if (decide (l.Fast < 0)) then (some true) else (if (decide (5184000 < l.Fast)) then (some true) else (if (decide (l.Gap < 0)) then (some true) else (if (decide (5184000 < l.Gap)) then (some true) else (if (decide (l.Shots < 0)) then (some true) else (if (decide (400 < l.Shots)) then (some true) else some (!wiB l.Sg 0 5)))))) : Option Bool) = some (!okLd l) := by
 unfold okLd
 have e : ∀ n lo hi : Int, wiB n lo hi = (!decide (n < lo) && !decide (hi < n)) := fun n lo hi => by
  unfold wiB
  by_cases h1 : n < lo
  ·simp [h1, show ¬ lo ≤ n from by omega]
  ·by_cases h2 : hi < n
   ·simp [h1, h2, show ¬ n ≤ hi from by omega]
   ·simp [h1, h2, show lo ≤ n from by omega, show n ≤ hi from by omega]
 rw [e l.Fast, e l.Gap, e l.Shots]
 cases decide (l.Fast < 0) <;> cases decide (5184000 < l.Fast) <;> cases decide (l.Gap < 0) <;> cases decide (5184000 < l.Gap) <;> cases decide (l.Shots < 0) <;> cases decide (400 < l.Shots) <;> rfl
theorem ev_ref (t : A_Pn) (l : A_Load) : g_ref35_Event t l = some (evS t l) := by
 unfold g_ref35_Event evS
 rw [ref_penCheck, pen_Check, rwithin35]
 simp only [Option.bind_some]
 rw [opt6]
 by_cases h : pcS t = 0
 rotate_left
 ·simp [h]
 rw [if_neg (show ¬ (pcS t != 0) = true by simpa using h), if_neg (show ¬ pcS t ≠ 0 by omega)]
 by_cases hl : okLd l = true
 ·rw [if_pos hl]
  simp only [hl, Bool.not_true, Bool.false_eq_true, if_false, Option.bind_some]
  exact ev_fin h hl
 ·rw [if_neg hl]
  simp [hl]
def Lst (P : Int → Prop) (v : Int) : Prop := (v = -1 ∧ ∀ x, ¬ P x) ∨ (0 ≤ v ∧ P v ∧ ∀ x, P x → v ≤ x)
theorem Lst.uniq {P : Int → Prop} {v w : Int} (h : Lst P v) (k : Lst P w) : v = w := by
 rcases h with ⟨h1, h2⟩ | ⟨h1, h2, h3⟩
 ·rcases k with ⟨k1, _⟩ | ⟨_, k2, _⟩
  ·rw [h1, k1]
  ·exact absurd k2 (h2 _)
 ·rcases k with ⟨_, k2⟩ | ⟨_, k2, k3⟩
  ·exact absurd h2 (k2 _)
  ·have := h3 _ k2; have := k3 _ h2; omega
theorem Lst.congr {P Q : Int → Prop} {v : Int} (e : ∀ x, P x ↔ Q x) (h : Lst P v) : Lst Q v := by
 have : P = Q := funext fun x => propext (e x)
 rw [← this]; exact h
theorem Lst.ge {P : Int → Prop} {v : Int} (h : Lst P v) : -1 ≤ v := by
 rcases h with ⟨h1, _⟩ | ⟨h1, _⟩ <;> omega
theorem Lst.mem {P : Int → Prop} {v : Int} (h : Lst P v) (hv : v ≠ -1) : 0 ≤ v ∧ P v ∧ ∀ x, P x → v ≤ x := by
 rcases h with ⟨h1, _⟩ | h
 ·exact absurd h1 hv
 ·exact h
theorem Lst.has {P : Int → Prop} {v x : Int} (h : Lst P v) (hx : P x) : v ≠ -1 ∧ 0 ≤ v ∧ v ≤ x := by
 rcases h with ⟨_, h2⟩ | ⟨h1, _, h3⟩
 ·exact absurd hx (h2 _)
 ·exact ⟨by omega, h1, h3 _ hx⟩
theorem Lst.none : Lst (fun _ => False) (-1) := .inl ⟨rfl, fun _ h => h⟩
theorem Lst.join {P Q : Int → Prop} {v w : Int} (h : Lst P v) (k : Lst Q w) : Lst (fun x => P x ∨ Q x) (if w = -1 then v else if v = -1 ∨ w < v then w else v) := by
 by_cases hw : w = -1
 ·rw [if_pos hw]
  have kn : ∀ x, ¬ Q x := by
   rcases k with ⟨_, k2⟩ | ⟨k1, _⟩
   ·exact k2
   ·omega
  exact h.congr fun x => ⟨.inl, fun h => h.elim id fun q => absurd q (kn x)⟩
 ·obtain ⟨k1, k2, k3⟩ := k.mem hw
  rw [if_neg hw]
  by_cases hv : v = -1
  ·rw [if_pos (.inl hv)]
   have hn : ∀ x, ¬ P x := by
    rcases h with ⟨_, h2⟩ | ⟨h1, _⟩
    ·exact h2
    ·omega
   exact .inr ⟨k1, .inr k2, fun x hx => hx.elim (fun q => absurd q (hn x)) (k3 x)⟩
  ·obtain ⟨h1, h2, h3⟩ := h.mem hv
   by_cases hl : w < v
   ·rw [if_pos (.inr hl)]
    exact .inr ⟨k1, .inr k2, fun x hx => hx.elim (fun q => by have := h3 x q; omega) (k3 x)⟩
   ·rw [if_neg (by omega)]
    exact .inr ⟨h1, .inl h2, fun x hx => hx.elim (h3 x) (fun q => by have := k3 x q; omega)⟩
theorem Lst.shift {P : Int → Prop} {v c : Int} (h : Lst P v) (hc : 0 ≤ c) : Lst (fun x => ∃ y, P y ∧ x = c + y) (if v = -1 then -1 else c + v) := by
 by_cases hv : v = -1
 ·rw [if_pos hv]
  refine .inl ⟨rfl, ?_⟩
  rintro x ⟨y, hy, rfl⟩
  rcases h with ⟨_, h2⟩ | ⟨h1, _⟩
  ·exact h2 y hy
  ·omega
 ·rw [if_neg hv]
  obtain ⟨h1, h2, h3⟩ := h.mem hv
  refine .inr ⟨by omega, ⟨v, h2, rfl⟩, ?_⟩
  rintro x ⟨y, hy, rfl⟩
  have := h3 y hy; omega
section
variable {n : Nat} {fit : Nat → Nat → Bool} {c : Nat → Nat → Int}
variable (n fit c) in
inductive Pth : Nat → Nat → Int → Prop
 | nil : Pth 0 n 0
 | cons {r i j : Nat} {x : Int} : i < j → j ≤ n → fit i j = true → Pth r j x → Pth (r + 1) i (c i j + x)
variable (n fit c) in
def AtM (m i : Nat) (x : Int) : Prop := ∃ r, r ≤ m ∧ Pth n fit c r i x
variable (fit c) in
def Cand (Q : Nat → Int → Prop) (i J : Nat) (x : Int) : Prop := ∃ j y, i < j ∧ j < J ∧ fit i j = true ∧ Q j y ∧ x = c i j + y
theorem cand_start (Q : Nat → Int → Prop) (i : Nat) : Lst (Cand fit c Q i (i + 1)) (-1) :=
 .inl ⟨rfl, fun x ⟨j, y, h1, h2, _⟩ => by omega⟩
theorem cand_step {Q : Nat → Int → Prop} {i J : Nat} {v w : Int} (hi : i < J) (hf : fit i J = true) (hc : 0 ≤ c i J) (h : Lst (Cand fit c Q i J) v) (k : Lst (Q J) w) : Lst (Cand fit c Q i (J + 1)) (if w = -1 then v else if v = -1 ∨ c i J + w < v then c i J + w else v) := by
 have h2 := h.join (k.shift hc)
 have e : (if (if w = -1 then -1 else c i J + w) = -1 then v else if v = -1 ∨ (if w = -1 then -1 else c i J + w) < v then (if w = -1 then -1 else c i J + w) else v) = (if w = -1 then v else if v = -1 ∨ c i J + w < v then c i J + w else v) := by
  by_cases hw : w = -1
  ·simp [hw]
  ·have := k.ge
   have : ¬ c i J + w = -1 := by omega
   simp [hw, this]
 rw [e] at h2
 refine h2.congr fun x => ⟨?_, ?_⟩
 ·rintro (⟨j, y, a1, a2, a3, a4, a5⟩ | ⟨y, a4, a5⟩)
  ·exact ⟨j, y, a1, by omega, a3, a4, a5⟩
  ·exact ⟨J, y, hi, by omega, hf, a4, a5⟩
 ·rintro ⟨j, y, a1, a2, a3, a4, a5⟩
  by_cases hj : j = J
  ·subst hj; exact .inr ⟨y, a4, a5⟩
  ·exact .inl ⟨j, y, a1, by omega, a3, a4, a5⟩
theorem cand_end {Q : Nat → Int → Prop} {i J : Nat} {v : Int} (hJ : J ≤ n + 1) (hmono : J ≤ n → ∀ k, J ≤ k → k ≤ n → fit i k = false) (h : Lst (Cand fit c Q i J) v) : Lst (Cand fit c Q i (n + 1)) v := by
 refine h.congr fun x => ⟨?_, ?_⟩
 ·rintro ⟨j, y, a1, a2, a3, a4, a5⟩
  exact ⟨j, y, a1, by omega, a3, a4, a5⟩
 ·rintro ⟨j, y, a1, a2, a3, a4, a5⟩
  refine ⟨j, y, a1, ?_, a3, a4, a5⟩
  rcases Nat.lt_or_ge j J with hlt | hge
  ·exact hlt
  ·rw [hmono (by omega) j hge (by omega)] at a3; cases a3
theorem pth_zero {i : Nat} {x : Int} : Pth n fit c 0 i x ↔ i = n ∧ x = 0 :=
 ⟨fun h => by cases h; exact ⟨rfl, rfl⟩, fun ⟨h1, h2⟩ => by subst h1 h2; exact .nil⟩
theorem pth_succ {r i : Nat} {x : Int} : Pth n fit c (r + 1) i x ↔ Cand fit c (Pth n fit c r) i (n + 1) x :=
 ⟨fun h => by cases h with | cons a1 a2 a3 a4 => exact ⟨_, _, a1, by omega, a3, a4, rfl⟩, fun ⟨j, y, a1, a2, a3, a4, a5⟩ => by subst a5; exact .cons a1 (by omega) a3 a4⟩
theorem pth_end {r : Nat} {x : Int} (h : Pth n fit c (r + 1) n x) : False := by
 cases h with | cons a1 a2 _ _ => omega
theorem atm_n {m : Nat} {x : Int} : AtM n fit c m n x ↔ x = 0 :=
 ⟨fun ⟨r, _, h⟩ => by cases r with | zero => exact (pth_zero.1 h).2 | succ r => exact (pth_end h).elim, fun h => ⟨0, Nat.zero_le _, pth_zero.2 ⟨rfl, h⟩⟩⟩
theorem atm_zero {i : Nat} {x : Int} (hi : i ≠ n) : ¬ AtM n fit c 0 i x := fun ⟨r, h1, h⟩ => by
 obtain rfl : r = 0 := by omega
 exact hi (pth_zero.1 h).1
theorem atm_succ {m i : Nat} {x : Int} (hi : i ≠ n) : AtM n fit c (m + 1) i x ↔ Cand fit c (AtM n fit c m) i (n + 1) x := by
 constructor
 ·rintro ⟨r, h1, h⟩
  cases r with
  | zero => exact absurd (pth_zero.1 h).1 hi
  | succ r =>
   obtain ⟨j, y, a1, a2, a3, a4, a5⟩ := pth_succ.1 h
   exact ⟨j, y, a1, a2, a3, ⟨r, by omega, a4⟩, a5⟩
 ·rintro ⟨j, y, a1, a2, a3, ⟨r, h1, a4⟩, a5⟩
  exact ⟨r + 1, by omega, pth_succ.2 ⟨j, y, a1, a2, a3, a4, a5⟩⟩
theorem atm_join {m i : Nat} {v w : Int} (h : Lst (AtM n fit c m i) v) (k : Lst (Pth n fit c (m + 1) i) w) : Lst (AtM n fit c (m + 1) i) (if w = -1 then v else if v = -1 ∨ w < v then w else v) := by
 refine (h.join k).congr fun x => ⟨?_, ?_⟩
 ·rintro (⟨r, h1, h⟩ | h)
  ·exact ⟨r, by omega, h⟩
  ·exact ⟨m + 1, Nat.le_refl _, h⟩
 ·rintro ⟨r, h1, h⟩
  by_cases e : r = m + 1
  ·subst e; exact .inr h
  ·exact .inl ⟨r, by omega, h⟩
theorem atm_0 {i : Nat} {v : Int} (h : Lst (Pth n fit c 0 i) v) : Lst (AtM n fit c 0 i) v := by
 refine h.congr fun x => ⟨fun h => ⟨0, Nat.le_refl _, h⟩, ?_⟩
 rintro ⟨r, h1, h⟩
 obtain rfl : r = 0 := by omega
 exact h
variable {E A : Nat → Nat → Int} {R : Nat}
def OkS (fit : Nat → Nat → Bool) (c : Nat → Nat → Int) (E : Nat → Nat → Int) (r i j : Nat) : Prop := fit i j = true ∧ E r j ≠ -1 ∧ c i j + E r j = E (r + 1) i
variable (n fit c E) in
inductive Gr : Nat → Nat → List Nat → Prop
 | nil : Gr 0 n []
 | cons {r i j : Nat} {L : List Nat} : i < j → j ≤ n → OkS fit c E r i j → (∀ k, i < k → k < j → ¬ OkS fit c E r i k) → Gr r j L → Gr (r + 1) i (j :: L)
theorem first_of {P : Nat → Prop} : ∀ (m i : Nat), (∃ j, i < j ∧ j ≤ i + m ∧ P j) → ∃ j, i < j ∧ j ≤ i + m ∧ P j ∧ ∀ k, i < k → k < j → ¬ P k
 | 0, i, ⟨j, h1, h2, _⟩ => by omega
 | m + 1, i, ⟨j, h1, h2, h3⟩ => by
  by_cases hp : P (i + 1)
  ·exact ⟨i + 1, by omega, by omega, hp, fun k _ _ => by omega⟩
  ·have hj : j ≠ i + 1 := fun e => hp (e ▸ h3)
   obtain ⟨j', a1, a2, a3, a4⟩ := first_of m (i + 1) ⟨j, by omega, by omega, h3⟩
   refine ⟨j', by omega, by omega, a3, fun k k1 k2 => ?_⟩
   by_cases e : k = i + 1
   ·rw [e]; exact hp
   ·exact a4 k (by omega) k2
theorem gr_step (hE : ∀ r i, r ≤ R → i ≤ n → Lst (Pth n fit c r i) (E r i)) {r i : Nat} (hr : r + 1 ≤ R) (hi : i ≤ n) (hv : E (r + 1) i ≠ -1) : ∃ j, i < j ∧ j ≤ n ∧ OkS fit c E r i j ∧ ∀ k, i < k → k < j → ¬ OkS fit c E r i k := by
 obtain ⟨_, h2, h3⟩ := (hE (r + 1) i hr hi).mem hv
 obtain ⟨j, y, a1, a2, a3, a4, a5⟩ := pth_succ.1 h2
 have k := (hE r j (by omega) (by omega)).has a4
 have hm := (hE r j (by omega) (by omega)).mem k.1
 have hle := h3 _ (Pth.cons a1 (by omega) a3 hm.2.1)
 have hok : OkS fit c E r i j := ⟨a3, k.1, by have := k.2.2; omega⟩
 obtain ⟨j', b1, b2, b3, b4⟩ := first_of (P := OkS fit c E r i) (n - i) i ⟨j, a1, by omega, hok⟩
 exact ⟨j', b1, by omega, b3, b4⟩
theorem gr_exists (hE : ∀ r i, r ≤ R → i ≤ n → Lst (Pth n fit c r i) (E r i)) : ∀ (r i : Nat), r ≤ R → i ≤ n → E r i ≠ -1 → ∃ L, Gr n fit c E r i L
 | 0, i, hr, hi, hv => by
  have := ((hE 0 i hr hi).mem hv).2.1
  obtain ⟨rfl, _⟩ := pth_zero.1 this
  exact ⟨[], .nil⟩
 | r + 1, i, hr, hi, hv => by
  obtain ⟨j, b1, b2, b3, b4⟩ := gr_step hE hr hi hv
  obtain ⟨L, hL⟩ := gr_exists hE r j (by omega) b2 b3.2.1
  exact ⟨j :: L, .cons b1 b2 b3 b4 hL⟩
theorem gr_len {r i : Nat} {L : List Nat} (h : Gr n fit c E r i L) : L.length = r := by
 induction h with
 | nil => rfl
 | cons _ _ _ _ _ ih => simp [ih]
def Tight (E : Nat → Nat → Int) (r i : Nat) : Prop := E r i ≠ -1 ∧ ∀ s, s < r → E s i = -1 ∨ E r i < E s i
theorem tight_A (hE : ∀ r i, r ≤ R → i ≤ n → Lst (Pth n fit c r i) (E r i)) (hA : ∀ m i, m ≤ R → i ≤ n → Lst (AtM n fit c m i) (A m i)) {r i : Nat} (hr : r ≤ R) (hi : i ≤ n) (ht : Tight E r i) : A r i = E r i := by
 obtain ⟨h1, h2, h3⟩ := (hE r i hr hi).mem ht.1
 refine Lst.uniq (hA r i hr hi) (.inr ⟨h1, ⟨r, Nat.le_refl _, h2⟩, ?_⟩)
 rintro x ⟨s, hs, hx⟩
 by_cases e : s = r
 ·subst e; exact h3 x hx
 ·have k := (hE s i (by omega) hi).has hx
  rcases ht.2 s (by omega) with q | q
  ·exact absurd q k.1
  ·have := k.2.2; omega
theorem step_le (hE : ∀ r i, r ≤ R → i ≤ n → Lst (Pth n fit c r i) (E r i)) {r i j : Nat} (hr : r + 1 ≤ R) (hi : i < j) (hj : j ≤ n) (hf : fit i j = true) (hv : E r j ≠ -1) : E (r + 1) i ≠ -1 ∧ E (r + 1) i ≤ c i j + E r j := by
 have hm := (hE r j (by omega) hj).mem hv
 have := (hE (r + 1) i hr (by omega)).has (Pth.cons hi hj hf hm.2.1)
 exact ⟨this.1, this.2.2⟩
theorem tight_cond (hE : ∀ r i, r ≤ R → i ≤ n → Lst (Pth n fit c r i) (E r i)) (hA : ∀ m i, m ≤ R → i ≤ n → Lst (AtM n fit c m i) (A m i)) {r i j : Nat} (hr : r + 1 ≤ R) (hi : i < j) (hj : j ≤ n) (ht : Tight E (r + 1) i) :
  (fit i j = true ∧ 0 ≤ A r j ∧ c i j + A r j = A (r + 1) i) ↔ OkS fit c E r i j := by
 have hAi := tight_A hE hA hr (by omega) ht
 have key : ∀ s, s ≤ r → E s j ≠ -1 → fit i j = true → c i j + E s j ≤ E (r + 1) i → s = r := by
  intro s hs hv hf hle
  by_cases e : s = r
  ·exact e
  ·have := step_le hE (r := s) (by omega) hi hj hf hv
   rcases ht.2 (s + 1) (by omega) with q | q
   ·exact absurd q this.1
   ·omega
 constructor
 ·rintro ⟨hf, h0, he⟩
  obtain ⟨_, ⟨s, hs, hp⟩, _⟩ := (hA r j (by omega) hj).mem (by omega)
  have k := (hE s j (by omega) hj).has hp
  have hsr := key s hs k.1 hf (by have := k.2.2; omega)
  subst hsr
  have hm := (hE s j (by omega) hj).mem k.1
  have h2 := (hA s j (by omega) hj).has ⟨s, Nat.le_refl _, hm.2.1⟩
  exact ⟨hf, k.1, by have := k.2.2; have := h2.2.2; omega⟩
 ·rintro ⟨hf, hv, he⟩
  have hm := (hE r j (by omega) hj).mem hv
  have h2 := (hA r j (by omega) hj).has ⟨r, Nat.le_refl _, hm.2.1⟩
  obtain ⟨_, ⟨s, hs, hp⟩, _⟩ := (hA r j (by omega) hj).mem h2.1
  have k := (hE s j (by omega) hj).has hp
  have hsr := key s hs k.1 hf (by have := k.2.2; have := h2.2.2; omega)
  subst hsr
  exact ⟨hf, h2.2.1, by have := k.2.2; have := h2.2.2; omega⟩
theorem tight_next (hE : ∀ r i, r ≤ R → i ≤ n → Lst (Pth n fit c r i) (E r i)) {r i j : Nat} (hr : r + 1 ≤ R) (hi : i < j) (hj : j ≤ n) (ht : Tight E (r + 1) i) (hok : OkS fit c E r i j) : Tight E r j := by
 refine ⟨hok.2.1, fun s hs => ?_⟩
 by_cases hv : E s j = -1
 ·exact .inl hv
 ·right
  have := step_le hE (r := s) (by omega) hi hj hok.1 hv
  have h3 := hok.2.2
  rcases ht.2 (s + 1) (by omega) with q | q
  ·exact absurd q this.1
  ·omega
end
structure Pok (p : A_Pg) : Prop where
 toks : p.Tokens.length ≤ 8
 texts : ∀ t ∈ p.Tokens, t.Text.length ≤ 1048576
def ckTk (t : A_Token) : Int := if t.Text = [] ∨ hasSp t.Text = true then 4 else if gv t.Text = false then 10 else if t.Sg < 0 ∨ 5 < t.Sg then 2 else 0
def ckTks : List A_Token → Int
 | [] => 0
 | t :: l => if ckTk t ≠ 0 then ckTk t else ckTks l
theorem toks_prog (l : List A_Token) (hl : l.length ≤ 8) (h : ∀ t ∈ l, t.Text.length ≤ 1048576) : g_token_Check l = some (ckTks l) := by
 unfold g_token_Check
 rw [if_neg (by simp; omega)]
 have key := iter_idx (step := g_token_Check_s1 l) l.length (by omega) (fun i => if ckTks (l.drop i) = 0 then .inr () else .inl (ckTks (l.drop i))) (fun i hi => ?_) ?_
 ·rw [List.drop_zero] at key
  rw [key]
  simp only [Option.bind_some]
  split
  ·rename_i e he; split at he <;> cases he; rfl
  ·rename_i e he; split at he
   ·rename_i h0; rw [h0]
   ·cases he
 ·have ht := h _ (List.getElem_mem hi)
  unfold g_token_Check_s1
  rw [if_pos (by simpa using hi), atI_nat hi, List.drop_eq_getElem_cons hi, wr64 (by omega)]
  simp only [Option.bind_some, cont_eq, prog_Valid_eq _ (show l[i].Text.length ≤ 140737488355328 by omega), ckTks]
  generalize l[i] = t
  unfold ckTk
  by_cases h1 : t.Text = []
  ·right; simp [h1]
  ·have hb : (t.Text == ([] : List UInt8)) = false := by simpa using h1
   simp only [hb, Bool.false_eq_true, if_false, Option.bind_some, h1, false_or]
   cases hasSp t.Text
   ·cases gv t.Text
    ·right; simp
    ·by_cases h2 : t.Sg < 0
     ·right; simp [h2]
     ·by_cases h3 : 5 < t.Sg
      ·right; simp [h2, h3]
      ·left; simp [h2, h3]
   ·right; simp
 ·unfold g_token_Check_s1
  rw [if_neg (by simp)]
  simp [ckTks]
theorem toks_ref (l : List A_Token) (hl : l.length ≤ 8) (h : ∀ t ∈ l, t.Text.length ≤ 1048576) : g_ref34_Check l = some (ckTks l) := by
 unfold g_ref34_Check
 rw [if_neg (by simp; omega)]
 have key := iter_idx (step := g_ref34_Check_s1 l) l.length (by omega) (fun i => if ckTks (l.drop i) = 0 then .inr () else .inl (ckTks (l.drop i))) (fun i hi => ?_) ?_
 ·rw [List.drop_zero] at key
  rw [key]
  simp only [Option.bind_some]
  split
  ·rename_i e he; split at he <;> cases he; rfl
  ·rename_i e he; split at he
   ·rename_i h0; rw [h0]
   ·cases he
 ·have ht := h _ (List.getElem_mem hi)
  unfold g_ref34_Check_s1
  rw [if_pos (by simpa using hi), atI_nat hi, List.drop_eq_getElem_cons hi, wr64 (by omega)]
  simp only [Option.bind_some, ckTks]
  generalize l[i] = t at ht
  rw [sp_loop (step := g_ref34_Check_s2 t) t.Text (by omega) (fun x => rfl), ref_Valid_eq _ (show t.Text.length ≤ 140737488355328 by omega)]
  unfold ckTk
  by_cases h1 : t.Text = []
  ·right; simp [h1]
  ·have hb : (t.Text == ([] : List UInt8)) = false := by simpa using h1
   simp only [hb, Bool.false_eq_true, if_false, Option.bind_some, h1, false_or]
   cases hasSp t.Text
   ·cases gv t.Text
    ·right; simp
    ·by_cases h2 : t.Sg < 0
     ·right; simp [h2]
     ·by_cases h3 : 5 < t.Sg
      ·right; simp [h2, h3]
      ·left; simp [h2, h3]
   ·right; simp
 ·unfold g_ref34_Check_s1
  rw [if_neg (by simp)]
  simp [ckTks]
def ckP (p : A_Pg) : Int := if ckTks p.Tokens ≠ 0 then ckTks p.Tokens else if p.Tokens = [] then 6 else if p.Width < 1 ∨ 32 < p.Width ∨ p.Rows < 1 ∨ 4 < p.Rows then 2 else pcS p.Table
theorem opt4 (p : A_Pg) : (if (decide (p.Width < 1)) then (some true) else (if (decide (32 < p.Width)) then (some true) else (if (decide (p.Rows < 1)) then (some true) else (some (decide (4 < p.Rows))))) : Option Bool) = some (decide (p.Width < 1 ∨ 32 < p.Width ∨ p.Rows < 1 ∨ 4 < p.Rows)) := by
 by_cases h1 : p.Width < 1
 ·simp [h1]
 by_cases h2 : 32 < p.Width
 ·simp [h1, h2]
 by_cases h3 : p.Rows < 1
 ·simp [h1, h2, h3]
 ·simp [h1, h2, h3]
theorem par_prog {p : A_Pg} (h : Pok p) : g_rb_Check p = some (ckP p) := by
 unfold g_rb_Check ckP
 rw [toks_prog _ h.toks h.texts, opt4, pen_Check]
 simp only [Option.bind_some]
 by_cases h1 : ckTks p.Tokens = 0
 ·simp only [h1, bne_self_eq_false, Bool.false_eq_true, if_false, ne_eq, not_true]
  by_cases h2 : p.Tokens = []
  ·simp [h2]
  ·have : ((p.Tokens.length : Int) == 0) = false := by
    have := List.length_pos_iff.2 h2
    simpa using (by omega : ¬ (p.Tokens.length : Int) = 0)
   simp only [this, Bool.false_eq_true, if_false, h2]
   by_cases h3 : p.Width < 1 ∨ 32 < p.Width ∨ p.Rows < 1 ∨ 4 < p.Rows <;> simp [h3]
 ·simp [h1]
theorem par_ref {p : A_Pg} (h : Pok p) : g_ref36_Check p = some (ckP p) := by
 unfold g_ref36_Check ckP
 rw [toks_ref _ h.toks h.texts, opt4, ref_penCheck, pen_Check]
 simp only [Option.bind_some]
 by_cases h1 : ckTks p.Tokens = 0
 ·simp only [h1, bne_self_eq_false, Bool.false_eq_true, if_false, ne_eq, not_true]
  by_cases h2 : p.Tokens = []
  ·simp [h2]
  ·have : ((p.Tokens.length : Int) == 0) = false := by
    have := List.length_pos_iff.2 h2
    simpa using (by omega : ¬ (p.Tokens.length : Int) = 0)
   simp only [this, Bool.false_eq_true, if_false, h2]
   by_cases h3 : p.Width < 1 ∨ 32 < p.Width ∨ p.Rows < 1 ∨ 4 < p.Rows <;> simp [h3]
 ·simp [h1]
theorem ckTks_0 : ∀ {l : List A_Token}, ckTks l = 0 → ∀ t ∈ l, t.Text ≠ [] ∧ gv t.Text = true ∧ 0 ≤ t.Sg ∧ t.Sg ≤ 5
 | [], _, t, ht => by cases ht
 | u :: l, h, t, ht => by
  unfold ckTks at h
  by_cases hu : ckTk u = 0
  ·rw [if_neg (by omega)] at h
   rcases List.mem_cons.1 ht with rfl | ht
   ·unfold ckTk at hu
    by_cases h1 : t.Text = [] ∨ hasSp t.Text = true
    ·rw [if_pos h1] at hu; cases hu
    ·rw [if_neg h1] at hu
     by_cases h2 : gv t.Text = false
     ·rw [if_pos h2] at hu; cases hu
     ·rw [if_neg h2] at hu
      by_cases h3 : t.Sg < 0 ∨ 5 < t.Sg
      ·rw [if_pos h3] at hu; cases hu
      ·exact ⟨fun e => h1 (.inl e), by simpa using h2, by omega, by omega⟩
   ·exact ckTks_0 h t ht
  ·rw [if_pos hu] at h; exact absurd h hu
structure Pv (p : A_Pg) : Prop where
 ok : Pok p
 ne : p.Tokens ≠ []
 tok : ∀ t ∈ p.Tokens, t.Text ≠ [] ∧ gv t.Text = true ∧ 0 ≤ t.Sg ∧ t.Sg ≤ 5
 width : 1 ≤ p.Width ∧ p.Width ≤ 32
 rows : 1 ≤ p.Rows ∧ p.Rows ≤ 4
 table : pcS p.Table = 0
theorem ckP_0 {p : A_Pg} (h : Pok p) (h0 : ckP p = 0) : Pv p := by
 unfold ckP at h0
 by_cases h1 : ckTks p.Tokens = 0
 ·rw [if_neg (by omega)] at h0
  by_cases h2 : p.Tokens = []
  ·rw [if_pos h2] at h0; cases h0
  ·rw [if_neg h2] at h0
   by_cases h3 : p.Width < 1 ∨ 32 < p.Width ∨ p.Rows < 1 ∨ 4 < p.Rows
   ·rw [if_pos h3] at h0; cases h0
   ·rw [if_neg h3] at h0
    exact ⟨h, h2, ckTks_0 h1, by omega, by omega, h0⟩
 ·rw [if_pos h1] at h0; exact absurd h0 h1
def tlen (p : A_Pg) (k : Nat) : Int := chL (p.Tokens[k]?.getD ⟨[], 0⟩).Text
def smP (p : A_Pg) : Nat → Int
 | 0 => 0
 | k + 1 => smP p k + tlen p k
def lnP (p : A_Pg) (i j : Nat) : Int := smP p j - smP p i + j - i - 1
theorem tlen_at (p : A_Pg) {k : Nat} (h : k < p.Tokens.length) : tlen p k = chL p.Tokens[k].Text := by simp [tlen, h]
theorem tlen_le {p : A_Pg} (h : Pok p) {k : Nat} (hk : k < p.Tokens.length) : -1 ≤ tlen p k ∧ tlen p k ≤ 1048576 := by
 rw [tlen_at p hk]; exact chL_le _ (h.texts _ (List.getElem_mem hk))
theorem smP_le {p : A_Pg} (h : Pok p) : ∀ {k : Nat}, k ≤ p.Tokens.length → -(k : Int) ≤ smP p k ∧ smP p k ≤ (k : Int) * 1048576
 | 0, _ => by simp [smP]
 | k + 1, hk => by
  have := smP_le h (k := k) (by omega)
  have := tlen_le h (k := k) (by omega)
  unfold smP
  omega
theorem smP_b {p : A_Pg} (h : Pok p) {k : Nat} (hk : k ≤ p.Tokens.length) : -8 ≤ smP p k ∧ smP p k ≤ 8388608 := by
 have := smP_le h hk
 have := h.toks
 omega
theorem tlen_pos {p : A_Pg} (h : Pv p) {k : Nat} (hk : k < p.Tokens.length) : 1 ≤ tlen p k := by
 rw [tlen_at p hk]
 have := h.tok _ (List.getElem_mem hk)
 exact chL_pos this.2.1 this.1
theorem smP_lt {p : A_Pg} (h : Pv p) {i : Nat} : ∀ {j : Nat}, i ≤ j → j ≤ p.Tokens.length → smP p i + ((j : Int) - i) ≤ smP p j
  | 0, hij, _ => by obtain rfl : i = 0 := by omega
                    simp
  | j + 1, hij, hj => by
    by_cases e : i = j + 1
    · subst e; omega
    · have := smP_lt h (i := i) (j := j) (by omega) (by omega)
      have := tlen_pos h (k := j) (by omega)
      rw [show smP p (j + 1) = smP p j + tlen p j from rfl]
      omega
def fitP (p : A_Pg) (i j : Nat) : Bool := decide (lnP p i j ≤ p.Width)
theorem fit_mono {p : A_Pg} (h : Pv p) {i j k : Nat} (hij : i < j) (hjk : j ≤ k) (hk : k ≤ p.Tokens.length) (hf : fitP p i j = false) : fitP p i k = false := by
 have := smP_lt h hjk hk
 unfold fitP lnP at *
 simp only [decide_eq_false_iff_not] at *
 omega
def aimP (p : A_Pg) : Int := (aimS (lnP p 0 p.Tokens.length) p.Width).1
def strP (p : A_Pg) (j : Nat) : Int := if j < p.Tokens.length then (p.Tokens[j - 1]?.getD ⟨[], 0⟩).Sg else -1
def cPr (p : A_Pg) (i j : Nat) : Int := (rowS p.Table (aimP p) (lnP p i j) (strP p j)).1
theorem cPr_le (p : A_Pg) (i j : Nat) : 0 ≤ cPr p i j ∧ cPr p i j ≤ 33000000 := rowS_le _ _ _ _
def shP (p : A_Pg) (a : Int) : T_rb_sheet := ⟨p, (List.range (p.Tokens.length + 1)).map (smP p), a⟩
theorem shP_at (p : A_Pg) {k : Nat} (hk : k ≤ p.Tokens.length) : atI ((List.range (p.Tokens.length + 1)).map (smP p)) (k : Int) = some (smP p k) := by
 rw [atI_nat (by simp; omega)]
 simp
theorem length_eq {p : A_Pg} (h : Pok p) (a : Int) {i j : Nat} (hi : i ≤ p.Tokens.length) (hj : j ≤ p.Tokens.length) : g_rb_sheet_length (shP p a) (i : Int) (j : Int) = some (lnP p i j) := by
 unfold g_rb_sheet_length shP
 dsimp only
 rw [shP_at p hj, shP_at p hi]
 have h1 := smP_b h hi
 have h2 := smP_b h hj
 have := h.toks
 simp only [Option.bind_some]
 rw [wr64 (x := smP p j - smP p i) (by omega), wr64 (x := smP p j - smP p i + j) (by omega), wr64 (x := smP p j - smP p i + j - i) (by omega), wr64 (x := smP p j - smP p i + j - i - 1) (by omega)]
 rfl
theorem fits_eq {p : A_Pg} (h : Pok p) (a : Int) {i j : Nat} (hi : i ≤ p.Tokens.length) (hj : j ≤ p.Tokens.length) : g_rb_sheet_fits (shP p a) (i : Int) (j : Int) = some (fitP p i j) := by
 unfold g_rb_sheet_fits
 rw [length_eq h a hi hj]
 rfl
theorem cost_eq {p : A_Pg} (h : Pok p) {i j : Nat} (hi : i < j) (hj : j ≤ p.Tokens.length) : g_rb_sheet_cost (shP p (aimP p)) (i : Int) (j : Int) = some (cPr p i j) := by
 unfold g_rb_sheet_cost g_rb_sheet_n
 rw [length_eq h _ (by omega) hj]
 have := h.toks
 simp only [Option.bind_some, row_prog]
 have e : (shP p (aimP p)).p_ = p := rfl
 have e2 : (shP p (aimP p)).aim_ = aimP p := rfl
 rw [e, e2]
 unfold cPr strP
 by_cases h1 : j < p.Tokens.length
 ·rw [if_pos (by simpa using h1), if_pos h1, wr64 (by omega), show ((j : Int) - 1) = ((j - 1 : Nat) : Int) by omega, atI_nat (show j - 1 < p.Tokens.length by omega)]
  simp [show j - 1 < p.Tokens.length by omega]
 ·rw [if_neg (by simpa using h1), if_neg h1]
theorem open_eq {p : A_Pg} (h : Pok p) : g_rb_open p = some (shP p (aimP p)) := by
 unfold g_rb_open
 have hn := h.toks
 have key : iter (g_rb_open_s1 p) (0, [0]) = some ((List.range (p.Tokens.length + 1)).map (smP p)) := by
  refine iter_of (fun x e => ∃ i : Nat, x.1 = (i : Int) ∧ i ≤ p.Tokens.length ∧ x.2 = (List.range (i + 1)).map (smP p) ∧ e = (List.range (p.Tokens.length + 1)).map (smP p)) (fun x => p.Tokens.length - x.1.toNat) ?_ (x := (0, [0])) ⟨0, rfl, by omega, rfl, rfl⟩ (by show p.Tokens.length - 0 < _; omega)
  rintro ⟨x, m⟩ e ⟨i, hx, hi, hm, rfl⟩
  dsimp only at hx hm ⊢
  subst hx hm
  unfold g_rb_open_s1
  dsimp only
  by_cases hlt : i < p.Tokens.length
  ·left
   rw [if_pos (by simpa using hlt), atI_nat hlt, atI_nat (show i < ((List.range (i + 1)).map (smP p)).length by simp)]
   simp only [Option.bind_some]
   rw [len_prog _ (h.texts _ (List.getElem_mem hlt))]
   have b1 := smP_b h (k := i) (by omega)
   have b2 := tlen_le h hlt
   simp only [Option.bind_some, List.length_map, List.length_range, List.getElem_map, List.getElem_range]
   rw [if_pos (by omega), wr64 (x := (i : Int) + 1) (by omega), ← tlen_at p hlt, wr64 (x := smP p i + tlen p i) (by omega)]
   refine ⟨_, rfl, ⟨i + 1, rfl, by omega, ?_, by first | rfl | trivial⟩, by dsimp only; omega⟩
   dsimp only
   rw [show List.range (i + 1 + 1) = List.range (i + 1) ++ [i + 1] from List.range_succ, List.map_append]; rfl
  ·right
   obtain rfl : i = p.Tokens.length := by omega
   rw [if_neg (by simp)]
 rw [key]
 simp only [Option.bind_some, g_rb_sheet_n]
 have e : (T_rb_sheet.mk p ((List.range (p.Tokens.length + 1)).map (smP p)) 0) = shP p 0 := rfl
 rw [e]
 have := length_eq h 0 (i := 0) (j := p.Tokens.length) (by omega) (by omega)
 simp only [Int.natCast_zero] at this
 rw [this]
 simp only [Option.bind_some, aim_prog]
 rfl
theorem refLen_eq {p : A_Pg} (h : Pok p) {i j : Nat} (hi : i < j) (hj : j ≤ p.Tokens.length) : g_ref34_Len p.Tokens (i : Int) (j : Int) = some (lnP p i j) := by
 unfold g_ref34_Len
 have hn := h.toks
 rw [show (if (decide ((i : Int) < 0)) then (some true) else (if (decide ((j : Int) < (i : Int))) then (some true) else (some (decide ((p.Tokens.length : Int) < (j : Int))))) : Option Bool) = some false by
  rw [if_neg (by simp), if_neg (by simp; omega)]; simp; omega]
 simp only [Option.bind_some, Bool.false_eq_true, if_false]
 have key : iter (g_ref34_Len_s1 p.Tokens (i : Int) (j : Int)) (0, (i : Int)) = some (lnP p i j) := by
  refine iter_of (fun x e => ∃ k : Nat, x.2 = (k : Int) ∧ i ≤ k ∧ k ≤ j ∧ x.1 = (if k = i then 0 else lnP p i k) ∧ e = lnP p i j) (fun x => j - x.2.toNat) ?_ (x := (0, (i : Int))) ⟨i, rfl, by omega, by omega, by simp, rfl⟩ (by show j - _ < _; omega)
  rintro ⟨a, x⟩ e ⟨k, hx, hik, hkj, ha, rfl⟩
  dsimp only at hx ha ⊢
  subst hx ha
  unfold g_ref34_Len_s1
  dsimp only
  by_cases hlt : k < j
  ·left
   have hk : k < p.Tokens.length := by omega
   have b0 := smP_b h (k := i) (by omega)
   have b1 := smP_b h (k := k) (by omega)
   have b2 := tlen_le h hk
   rw [if_pos (by simpa using hlt), atI_nat hk, wr64 (x := (k : Int) + 1) (by omega)]
   simp only [Option.bind_some]
   rw [len_ref _ (h.texts _ (List.getElem_mem hk)), ← tlen_at p hk]
   simp only [Option.bind_some]
   by_cases e : k = i
   ·subst e
    rw [if_neg (by simp), if_pos rfl, wr64 (by omega)]
    refine ⟨_, rfl, ⟨k + 1, rfl, by omega, by omega, ?_, by first | rfl | trivial⟩, by dsimp only; omega⟩
    dsimp only
    rw [if_neg (by omega)]
    unfold lnP
    rw [show smP p (k + 1) = smP p k + tlen p k from rfl]
    omega
   ·rw [if_pos (by simp; omega), if_neg e, wr64 (x := lnP p i k + 1) (by unfold lnP; omega), wr64 (x := lnP p i k + 1 + tlen p k) (by unfold lnP; omega)]
    refine ⟨_, rfl, ⟨k + 1, rfl, by omega, by omega, ?_, by first | rfl | trivial⟩, by dsimp only; omega⟩
    dsimp only
    rw [if_neg (by omega)]
    unfold lnP
    rw [show smP p (k + 1) = smP p k + tlen p k from rfl]
    omega
  ·right
   obtain rfl : k = j := by omega
   rw [if_neg (by simp), if_neg (by omega)]
 rw [key]; rfl
theorem refFits_eq {p : A_Pg} (h : Pok p) {i j : Nat} (hi : i < j) (hj : j ≤ p.Tokens.length) : g_ref36_Fits p (i : Int) (j : Int) = some (fitP p i j) := by
 unfold g_ref36_Fits
 rw [refLen_eq h hi hj]; rfl
theorem refRow_eq {p : A_Pg} (h : Pok p) {i j : Nat} (hi : i < j) (hj : j ≤ p.Tokens.length) : g_ref36_row p (i : Int) (j : Int) = some (cPr p i j) := by
 unfold g_ref36_row
 have := h.toks
 have h0 := refLen_eq h (i := 0) (j := p.Tokens.length) (by omega) (by omega)
 simp only [Int.natCast_zero] at h0
 rw [h0, refLen_eq h hi hj]
 simp only [Option.bind_some, aim_ref, row_ref]
 unfold cPr strP
 by_cases h1 : j < p.Tokens.length
 ·rw [if_pos (by simpa using h1), if_pos h1, wr64 (by omega), show ((j : Int) - 1) = ((j - 1 : Nat) : Int) by omega, atI_nat (show j - 1 < p.Tokens.length by omega)]
  simp [show j - 1 < p.Tokens.length by omega, aimP]
 ·rw [if_neg (by simpa using h1), if_neg h1]
  rfl
end Go.Proofs.YtalfcmgcjdkolaaGreatDoor
