/- Texts of one proof, put together (EA, EE, RE, M4, Uq, GS, GSo, GR, EC, EF, M5). No condition but those that each theorem states. -/
import Derived.Test.YtnjjdbljoligdaaGreatDoorV4
import Derived.Lib.ItoaMem
import Derived.Lib.ItoaLen
import Derived.Sort.Walk0
import Derived.Lib.SlicesCompact
import Derived.Sort.OwnSorted
import Derived.Lib.OwnBridge
import Derived.Shelf.Slices.In.SortAlone
import Derived.Shelf.Slices.In.SortNone
import Derived.Shelf.Slices.In.CompactS
set_option linter.unusedSimpArgs false
set_option linter.unusedVariables false
namespace Go.Proofs.YtnjjdbljoligdaaGreatDoor
open Go.RowKit
set_option maxRecDepth 100000
set_option maxHeartbeats 10000000
structure T_api_Field where
  Text : List UInt8
  Column : Int
  Quoted : Bool
  deriving DecidableEq
def T_api_Field.d (x : T_api_Field) : D := .agg [.str x.Text, .int .i64 x.Column, .bool x.Quoted]
structure T_api_Diag where
  Line : Int
  Column : Int
  Code : Int
  deriving DecidableEq
def T_api_Diag.d (x : T_api_Diag) : D := .agg [.int .i64 x.Line, .int .i64 x.Column, .int .i64 x.Code]
structure T_api_Line where
  Number : Int
  Fields : List T_api_Field
  deriving DecidableEq
def T_api_Line.d (x : T_api_Line) : D := .agg [.int .i64 x.Number, .sl (x.Fields.map T_api_Field.d)]
structure TLS where
  line_ : T_api_Line
  next_ : Int
  last_ : Int
  bad_ : T_api_Diag
  deriving DecidableEq
def TLS.d (x : TLS) : D := .agg [.int .i64 x.line_.Number, .sl (x.line_.Fields.map T_api_Field.d), .int .i64 x.next_, .int .i64 x.last_, .int .i64 x.bad_.Line, .int .i64 x.bad_.Column, .int .i64 x.bad_.Code]
theorem dd_EA : (∀ x, T_api_Field.d x = .agg [.str x.Text, .int .i64 x.Column, .bool x.Quoted]) ∧ (∀ x, T_api_Diag.d x = .agg [.int .i64 x.Line, .int .i64 x.Column, .int .i64 x.Code]) ∧ (∀ x, T_api_Line.d x = .agg [.int .i64 x.Number, .sl (x.Fields.map T_api_Field.d)]) ∧ (∀ x, TLS.d x = .agg [.int .i64 x.line_.Number, .sl (x.line_.Fields.map T_api_Field.d), .int .i64 x.next_, .int .i64 x.last_, .int .i64 x.bad_.Line, .int .i64 x.bad_.Column, .int .i64 x.bad_.Code]) := ⟨fun _ => rfl, fun _ => rfl, fun _ => rfl, fun _ => rfl⟩
def g_lines_quoted_s1 (s_0 : List UInt8) (x7 : (List Int) × Int) : Option (Nx ((List Int) × Int) (((List UInt8) × Int × Int) ⊕ Unit)) :=
  (if (decide (x7.2 < (s_0.length : Int))) then ((atI s_0 x7.2).bind fun b367 => (if ((b367.toNat : Int) == 34) then (((if (decide ((IntKind.i64.wrap (x7.2 + 1)) < (s_0.length : Int))) then ((atI s_0 (IntKind.i64.wrap (x7.2 + 1))).bind fun b379 => (some ((b379.toNat : Int) != 32))) else (some false)) : Option (Bool)).bind fun v376 => (if v376 then (some (.out (.inl ([], 0, (IntKind.i64.wrap (x7.2 + 1)))))) else (some (.out (.inl ((bytesOf x7.1), (IntKind.i64.wrap (x7.2 + 1)), -1)))))) else (if ((b367.toNat : Int) == 92) then (((if ((IntKind.i64.wrap (x7.2 + 1)) == (s_0.length : Int)) then (some true) else ((atI s_0 (IntKind.i64.wrap (x7.2 + 1))).bind fun b399 => ((g_strings_IndexByte [34, 92, 110] (b399.toNat : Int)).bind fun r401 => (some (decide (r401 < 0)))))) : Option (Bool)).bind fun v396 => (if v396 then (some (.out (.inl ([], 0, x7.2)))) else ((atI s_0 (IntKind.i64.wrap (x7.2 + 1))).bind fun b413 => (if ((b413.toNat : Int) == 110) then (if (x7.1.length + 1) * 1 ≤ 140737488355328 then (some (.go ((x7.1 ++ [10]), (IntKind.i64.wrap ((IntKind.i64.wrap (x7.2 + 1)) + 1))))) else none) else (if (x7.1.length + 1) * 1 ≤ 140737488355328 then (some (.go ((x7.1 ++ [(b413.toNat : Int)]), (IntKind.i64.wrap ((IntKind.i64.wrap (x7.2 + 1)) + 1))))) else none))))) else (((if (decide ((b367.toNat : Int) < 32)) then (some true) else (some ((b367.toNat : Int) == 127))) : Option (Bool)).bind fun v428 => (if v428 then (some (.out (.inl ([], 0, x7.2)))) else (if (x7.1.length + 1) * 1 ≤ 140737488355328 then (some (.go ((x7.1 ++ [(b367.toNat : Int)]), (IntKind.i64.wrap (x7.2 + 1))))) else none)))))) else (some (.out (.inr ()))))
def g_lines_quoted (s_0 : List UInt8) : Option ((List UInt8) × Int × Int) :=
  ((iter (g_lines_quoted_s1 s_0) ([], 1)).bind fun e8 => (match e8 with | Sum.inl e8 => (some (e8.1, e8.2.1, e8.2.2)) | Sum.inr (e8) => (some ([], 0, (s_0.length : Int)))))
theorem a_lines_quoted {I : World → Prop} (hI : Stab I) {s_0 : List UInt8} {r : (List UInt8) × Int × Int} (h : g_lines_quoted s_0 = some r) : AFun Tryz.prog I 136 [.str s_0] (.tup [.str r.1, .int .i64 r.2.1, .int .i64 r.2.2]) := by
  have dd := dd_EA; have k := True.intro; have q := k; have rs := Tryz.results136
  unfold g_lines_quoted at h
  refine .en hI Tryz.func136 Tryz.ntmps136 ?_
  refine xs <| rz ?_
  refine es <| xs <| rz ?_
  refine es <| xs <| xs <| rz ?_
  refine es <| xb ?_
  obtain ⟨e8, h440, h⟩ := bs h
  refine rb_loop (fun x7 => ⟨envL [(0, .str s_0), (5, .own 0 x7.1.length), (6, .int .i64 x7.2)], heapL [(0, .vec 5 1 (x7.1.map (D.int .u8)) false)], 1, 84⟩) (fun w => match w with | Sum.inl _ => .ret | Sum.inr (_) => .exit 0) (fun w => match w with | Sum.inl e8 => ⟨envL [(2, .str e8.1), (3, .int .i64 e8.2.1), (4, .int .i64 e8.2.2)], heapL [], 0, 84⟩ | Sum.inr (e8) => ⟨envL [(0, .str s_0)], heapL [], 0, 84⟩) h440 (wk [(0, none)]) (by intro w; rcases w with w | w <;> simp) ?_ ?_
  · clear h
    intro x7 y h
    unfold g_lines_quoted_s1 at h
    refine xs <| xs <| rz ?_
    refine es ?_
    rcases iK k h with ⟨k, h⟩ | ⟨k, h⟩
    · refine xt <| xk <| es <| xs <| xb <| xs <| rK fun K366 RK366 hK366 gK366 => zz ?_
      obtain ⟨b367, q, h⟩ := bK q h
      refine zz ?_
      subst hK366 gK366
      refine es <| xb <| xs <| rz ?_
      refine es ?_
      rcases iK k h with ⟨k, h⟩ | ⟨k, h⟩
      · refine xt <| xs ?_
        obtain ⟨v376, h381, h⟩ := bs h
        refine rb_cut (fun v376 => ⟨envL [(5, .own 0 x7.1.length), (6, .int .i64 x7.2), (35, .bool v376)], heapL [(0, .vec 5 1 (x7.1.map (D.int .u8)) false)], 1, 84⟩) h381 ?_ ?_
        · clear h
          intro v376 h
          refine rK fun K377 RK377 hK377 gK377 => zz ?_
          rcases iK k h with ⟨k, h⟩ | ⟨k, h⟩
          · refine zz ?_
            obtain ⟨b379, q, h⟩ := bK q h
            refine zz ?_
            subst hK377 gK377
            cases h
            exact en ⟨rfl, wk []⟩
          · refine zz ?_
            subst hK377 gK377
            cases h
            exact en ⟨rfl, wk []⟩
        · rcases iK k h with ⟨k, h⟩ | ⟨k, h⟩
          · refine xt <| xs <| rz ?_
            refine es <| xr <| er <| br <| br <| er ?_
            cases h
            exact en ⟨rfl, wk []⟩
          · refine xf <| xk <| es <| xs <| rz ?_
            refine es <| xr <| br <| br <| er ?_
            cases h
            exact en ⟨rfl, wk []⟩
      · refine xf <| xs <| rz ?_
        refine es ?_
        rcases iK k h with ⟨k, h⟩ | ⟨k, h⟩
        · refine xt <| xs ?_
          obtain ⟨v396, h403, h⟩ := bs h
          refine rb_cut (fun v396 => ⟨envL [(0, .str s_0), (5, .own 0 x7.1.length), (6, .int .i64 x7.2), (57, .bool v396)], heapL [(0, .vec 5 1 (x7.1.map (D.int .u8)) false)], 1, 84⟩) h403 ?_ ?_
          · clear h
            intro v396 h
            refine rK fun K397 RK397 hK397 gK397 => zz ?_
            rcases iK k h with ⟨k, h⟩ | ⟨k, h⟩
            · refine zz ?_
              subst hK397 gK397
              cases h
              exact en ⟨rfl, wk []⟩
            · refine zz ?_
              obtain ⟨b399, q, h⟩ := bK q h
              refine zz ?_
              obtain ⟨r401, h402, h⟩ := bs h
              refine cw (a_strings_IndexByte I hI [34, 92, 110] (b399.toNat : Int) h402) <| zz ?_
              subst hK397 gK397
              cases h
              exact en ⟨rfl, wk []⟩
          · rcases iK k h with ⟨k, h⟩ | ⟨k, h⟩
            · refine xt <| xs <| rz ?_
              refine es <| xr <| er <| br <| br <| er ?_
              cases h
              exact en ⟨rfl, wk []⟩
            · refine xf <| xk <| es <| xs <| rz ?_
              refine es <| xs <| rK fun K412 RK412 hK412 gK412 => zz ?_
              obtain ⟨b413, q, h⟩ := bK q h
              refine zz ?_
              subst hK412 gK412
              refine es ?_
              rcases iK k h with ⟨k, h⟩ | ⟨k, h⟩
              · refine xt <| rK fun K416 RK416 hK416 gK416 => zz ?_
                obtain ⟨h417, h⟩ := ite_on h
                have h418 : x7.1.length + 1 ≤ 9223372036854775807 := by omega
                try simp only [Nat.reduceLeDiff] at h418
                have h419 : x7.1.length + 1 ≤ 140737488355328 := by omega
                try simp only [Nat.reduceLeDiff] at h419
                have q := And.intro @h418 <| And.intro @h419 <| And.intro @h417 <| q
                refine zz ?_
                subst hK416 gK416
                refine bn <| bn <| es <| rz ?_
                cases h
                exact en ⟨rfl, wk [(0, some 10)]⟩
              · refine xf <| rK fun K421 RK421 hK421 gK421 => zz ?_
                obtain ⟨h422, h⟩ := ite_on h
                have h423 : x7.1.length + 1 ≤ 9223372036854775807 := by omega
                try simp only [Nat.reduceLeDiff] at h423
                have h424 : x7.1.length + 1 ≤ 140737488355328 := by omega
                try simp only [Nat.reduceLeDiff] at h424
                have q := And.intro @h423 <| And.intro @h424 <| And.intro @h422 <| q
                refine zz ?_
                subst hK421 gK421
                refine bn <| bn <| es <| rz ?_
                cases h
                exact en ⟨rfl, wk [(0, some 13)]⟩
        · refine xf ?_
          obtain ⟨v428, h431, h⟩ := bs h
          refine rb_cut (fun v428 => ⟨envL [(0, .str s_0), (5, .own 0 x7.1.length), (6, .int .i64 x7.2), (7, .int .u8 (b367.toNat : Int)), (74, .bool v428)], heapL [(0, .vec 5 1 (x7.1.map (D.int .u8)) false)], 1, 84⟩) h431 ?_ ?_
          · clear h
            intro v428 h
            refine rK fun K429 RK429 hK429 gK429 => zz ?_
            rcases iK k h with ⟨k, h⟩ | ⟨k, h⟩
            · refine zz ?_
              subst hK429 gK429
              cases h
              exact en ⟨rfl, wk []⟩
            · refine zz ?_
              subst hK429 gK429
              cases h
              exact en ⟨rfl, wk []⟩
          · rcases iK k h with ⟨k, h⟩ | ⟨k, h⟩
            · refine xt <| xs <| rz ?_
              refine es <| xr <| br <| br <| er ?_
              cases h
              exact en ⟨rfl, wk []⟩
            · refine xf <| rK fun K435 RK435 hK435 gK435 => zz ?_
              obtain ⟨h436, h⟩ := ite_on h
              have h437 : x7.1.length + 1 ≤ 9223372036854775807 := by omega
              try simp only [Nat.reduceLeDiff] at h437
              have h438 : x7.1.length + 1 ≤ 140737488355328 := by omega
              try simp only [Nat.reduceLeDiff] at h438
              have q := And.intro @h437 <| And.intro @h438 <| And.intro @h436 <| q
              refine zz ?_
              subst hK435 gK435
              refine bn <| bn <| es <| rz ?_
              cases h
              exact en ⟨rfl, wk [(0, some 4)]⟩
    · refine xf <| xx <| ee ?_
      cases h
      exact en ⟨rfl, wk []⟩
  · rcases e8 with e8 | e8
    · try dsimp only at h ⊢
      refine br <| er ?_
      cases h
      exact en fr
    · try dsimp only at h ⊢
      refine bh <| es <| xs <| rz ?_
      refine es <| xr ?_
      cases h
      exact en fr
def g_lines_isWord (b_0 : Int) : Option (Bool) :=
  (if (decide (32 < b_0)) then (if (decide (b_0 < 127)) then (some (b_0 != 34)) else (some false)) else (some false))
theorem a_lines_isWord {I : World → Prop} (hI : Stab I) {b_0 : Int} {r : Bool} (h : g_lines_isWord b_0 = some r) : AFun Tryz.prog I 175 [.int .u8 b_0] (.bool r) := by
  have dd := dd_EA; have k := True.intro; have q := k; have rs := Tryz.results175
  unfold g_lines_isWord at h
  refine .en hI Tryz.func175 Tryz.ntmps175 ?_
  refine xs <| rz ?_
  refine es <| xs <| rK fun K6 RK6 hK6 gK6 => zz ?_
  rcases iK k h with ⟨k, h⟩ | ⟨k, h⟩
  · refine zz ?_
    rcases iK k h with ⟨k, h⟩ | ⟨k, h⟩
    · refine zz ?_
      subst hK6 gK6
      refine es <| xr ?_
      cases h
      exact en fr
    · refine zz ?_
      subst hK6 gK6
      refine es <| xr ?_
      cases h
      exact en fr
  · refine zz ?_
    subst hK6 gK6
    refine es <| xr ?_
    cases h
    exact en fr
def g_lines_word_s1 (s_0 : List UInt8) (x5 : Int) : Option (Nx (Int) ((Int × Int) ⊕ Unit)) :=
  (if (decide (x5 < (s_0.length : Int))) then ((atI s_0 x5).bind fun b100 => (if ((b100.toNat : Int) == 32) then (some (.out (.inl (x5, -1)))) else ((((g_lines_isWord (b100.toNat : Int)).bind fun r112 => (if r112 then (if (x5 == 0) then (some ((b100.toNat : Int) == 35)) else (some false)) else (some true))) : Option (Bool)).bind fun v110 => (if v110 then (some (.out (.inl (0, x5)))) else (some (.go (IntKind.i64.wrap (x5 + 1)))))))) else (some (.out (.inr ()))))
def g_lines_word (s_0 : List UInt8) : Option (Int × Int) :=
  ((iter (g_lines_word_s1 s_0) 0).bind fun e6 => (match e6 with | Sum.inl e6 => (some (e6.1, e6.2)) | Sum.inr (e6) => (some ((s_0.length : Int), -1))))
theorem a_lines_word {I : World → Prop} (hI : Stab I) {s_0 : List UInt8} {r : Int × Int} (h : g_lines_word s_0 = some r) : AFun Tryz.prog I 137 [.str s_0] (.tup [.int .i64 r.1, .int .i64 r.2]) := by
  have dd := dd_EA; have k := True.intro; have q := k; have rs := Tryz.results137
  unfold g_lines_word at h
  refine .en hI Tryz.func137 Tryz.ntmps137 ?_
  refine xs <| rz ?_
  refine es <| xs <| xs <| rz ?_
  refine es <| xb ?_
  obtain ⟨e6, h121, h⟩ := bs h
  refine rb_loop (fun x5 => ⟨envL [(0, .str s_0), (6, .int .i64 (s_0.length : Int)), (7, .int .i64 x5)], heapL [], 0, 34⟩) (fun w => match w with | Sum.inl _ => .ret | Sum.inr (_) => .exit 0) (fun w => match w with | Sum.inl e6 => ⟨envL [(2, .int .i64 e6.1), (3, .int .i64 e6.2)], heapL [], 0, 34⟩ | Sum.inr (e6) => ⟨envL [(0, .str s_0)], heapL [], 0, 34⟩) h121 (wk []) (by intro w; rcases w with w | w <;> simp) ?_ ?_
  · clear h
    intro x5 y h
    unfold g_lines_word_s1 at h
    refine xs <| rz ?_
    refine es <| xs ?_
    rcases iK k h with ⟨k, h⟩ | ⟨k, h⟩
    · refine xt <| xk <| es <| xs <| xb <| xs <| rz ?_
      refine es <| xs <| xs <| rK fun K99 RK99 hK99 gK99 => zz ?_
      obtain ⟨b100, q, h⟩ := bK q h
      refine zz ?_
      subst hK99 gK99
      refine es ?_
      rcases iK k h with ⟨k, h⟩ | ⟨k, h⟩
      · refine xt <| xs <| rz ?_
        refine es <| xr <| er <| br <| er ?_
        cases h
        exact en ⟨rfl, wk []⟩
      · refine xf <| xk <| es ?_
        obtain ⟨v110, h116, h⟩ := bs h
        refine rb_cut (fun v110 => ⟨envL [(0, .str s_0), (4, .int .i64 x5), (6, .int .i64 (s_0.length : Int)), (7, .int .i64 x5), (29, .bool v110)], heapL [], 0, 34⟩) h116 ?_ ?_
        · clear h
          intro v110 h
          refine rK fun K111 RK111 hK111 gK111 => zz ?_
          obtain ⟨r112, h113, h⟩ := bs h
          refine cw (a_lines_isWord hI h113) <| zz ?_
          rcases iK k h with ⟨k, h⟩ | ⟨k, h⟩
          · refine zz ?_
            rcases iK k h with ⟨k, h⟩ | ⟨k, h⟩
            · refine zz ?_
              subst hK111 gK111
              cases h
              exact en ⟨rfl, wk []⟩
            · refine zz ?_
              subst hK111 gK111
              cases h
              exact en ⟨rfl, wk []⟩
          · refine zz ?_
            subst hK111 gK111
            cases h
            exact en ⟨rfl, wk []⟩
        · rcases iK k h with ⟨k, h⟩ | ⟨k, h⟩
          · refine xt <| xs <| rz ?_
            refine es <| xr <| br <| er ?_
            cases h
            exact en ⟨rfl, wk []⟩
          · refine xf <| xk <| bn <| es <| rz ?_
            cases h
            exact en ⟨rfl, wk []⟩
    · refine xf <| xx <| ee ?_
      cases h
      exact en ⟨rfl, wk []⟩
  · rcases e6 with e6 | e6
    · try dsimp only at h ⊢
      refine br <| er ?_
      cases h
      exact en fr
    · try dsimp only at h ⊢
      refine bh <| es <| xs <| rz ?_
      refine es <| xr ?_
      cases h
      exact en fr
def g_lines_fields_s1 (s_0 : List UInt8) (x7 : (List T_api_Field) × Int) : Option (Nx ((List T_api_Field) × Int) (((List T_api_Field)) ⊕ Int)) :=
  (if (decide (x7.2 < (s_0.length : Int))) then ((atI s_0 x7.2).bind fun b136 => (if ((b136.toNat : Int) == 32) then (some (.go (x7.1, (IntKind.i64.wrap (x7.2 + 1))))) else (if ((b136.toNat : Int) == 35) then (some (.out (.inl x7.1))) else (if ((b136.toNat : Int) == 34) then ((subL s_0 x7.2).bind fun z154 => ((g_lines_quoted z154).bind fun r159 => (if (decide (0 ≤ r159.2.2)) then (some (.out (.inr (IntKind.i64.wrap ((IntKind.i64.wrap (x7.2 + r159.2.2)) + 1))))) else (if (x7.1.length + 1) * 32 ≤ 140737488355328 then (some (.go ((x7.1 ++ [(T_api_Field.mk r159.1 (IntKind.i64.wrap (x7.2 + 1)) true)]), (IntKind.i64.wrap (x7.2 + r159.2.1))))) else none)))) else ((subL s_0 x7.2).bind fun z182 => ((g_lines_word z182).bind fun r187 => ((subI s_0 x7.2 (IntKind.i64.wrap (x7.2 + r187.1))).bind fun z190 => (if (decide (0 ≤ r187.2)) then (some (.out (.inr (IntKind.i64.wrap ((IntKind.i64.wrap (x7.2 + r187.2)) + 1))))) else (if (x7.1.length + 1) * 32 ≤ 140737488355328 then (some (.go ((x7.1 ++ [(T_api_Field.mk z190 (IntKind.i64.wrap (x7.2 + 1)) false)]), (IntKind.i64.wrap (x7.2 + r187.1))))) else none))))))))) else (some (.out (.inl x7.1))))
def g_lines_fields (s_0 : List UInt8) : Option ((List T_api_Field) × Int) :=
  ((iter (g_lines_fields_s1 s_0) ([], 0)).bind fun e8 => (match e8 with | Sum.inl e8 => (some (e8, 0)) | Sum.inr (e8) => (some ([], e8))))
theorem a_lines_fields {I : World → Prop} (hI : Stab I) {s_0 : List UInt8} {r : (List T_api_Field) × Int} (h : g_lines_fields s_0 = some r) : AFun Tryz.prog I 82 [.str s_0] (.tup [.sl (r.1.map T_api_Field.d), .int .i64 r.2]) := by
  have dd := dd_EA; have k := True.intro; have q := k; have rs := Tryz.results82
  unfold g_lines_fields at h
  refine .en hI Tryz.func82 Tryz.ntmps82 ?_
  refine xs <| rz ?_
  refine es <| xs <| rz ?_
  refine es <| xs <| xs <| rz ?_
  refine es <| xb ?_
  obtain ⟨e8, h209, h⟩ := bs h
  refine rb_loop (fun x7 => ⟨envL [(0, .str s_0), (4, .own 0 x7.1.length), (5, .int .i64 x7.2)], heapL [(0, .vec 117 3 (x7.1.map T_api_Field.d) false)], 1, 68⟩) (fun w => match w with | Sum.inl _ => .exit 0 | Sum.inr (_) => .ret) (fun w => match w with | Sum.inl e8 => ⟨envL [(4, .own 0 e8.length)], heapL [(0, .vec 117 3 (e8.map T_api_Field.d) false)], 1, 68⟩ | Sum.inr (e8) => ⟨envL [(2, .nils), (3, .int .i64 e8)], heapL [], 0, 68⟩) h209 (wk [(0, none)]) (by intro w; rcases w with w | w <;> simp) ?_ ?_
  · clear h
    intro x7 y h
    unfold g_lines_fields_s1 at h
    refine xs <| xs <| rz ?_
    refine es ?_
    rcases iK k h with ⟨k, h⟩ | ⟨k, h⟩
    · refine xt <| xk <| es <| xb <| xs <| xs <| rK fun K135 RK135 hK135 gK135 => zz ?_
      obtain ⟨b136, q, h⟩ := bK q h
      refine zz ?_
      subst hK135 gK135
      refine es ?_
      rcases iK k h with ⟨k, h⟩ | ⟨k, h⟩
      · refine xt <| xs <| rz ?_
        refine es <| xx <| ee <| bh ?_
        cases h
        exact en ⟨rfl, wk []⟩
      · refine xf <| xk <| es <| xs <| xs <| rz ?_
        refine es ?_
        rcases iK k h with ⟨k, h⟩ | ⟨k, h⟩
        · refine xt <| xx <| ee <| bm ?_
          cases h
          exact en ⟨rfl, wk []⟩
        · refine xf <| xk <| es <| xs <| rz ?_
          refine es <| xs <| rz ?_
          refine es <| xs <| xs <| rz ?_
          refine es ?_
          rcases iK k h with ⟨k, h⟩ | ⟨k, h⟩
          · refine xt <| xs <| rz ?_
            refine es <| rK fun K153 RK153 hK153 gK153 => zz ?_
            obtain ⟨z154, h155, h⟩ := bind_some h
            obtain ⟨⟨h156, h157⟩, h158⟩ := subL_some h155
            have q := And.intro @h156 <| And.intro @h157 <| q
            try simp -implicitDefEqProofs only [vt, vm, sevalprocAttr, dd, k, q] at h158
            have q := And.intro @h158 <| q
            refine zz ?_
            obtain ⟨r159, h160, h⟩ := bs h
            refine cw (a_lines_quoted hI h160) <| zz ?_
            subst hK153 gK153
            refine es <| xs <| xs <| rz ?_
            refine es ?_
            rcases iK k h with ⟨k, h⟩ | ⟨k, h⟩
            · refine xt <| xs <| rz ?_
              refine es <| xr <| er <| br ?_
              cases h
              exact en ⟨rfl, wk []⟩
            · refine xf <| xk <| es <| xs <| rK fun K169 RK169 hK169 gK169 => zz ?_
              obtain ⟨h170, h⟩ := ite_on h
              have h171 : x7.1.length + 1 ≤ 9223372036854775807 := by omega
              try simp only [Nat.reduceLeDiff] at h171
              have q := And.intro @h171 <| And.intro @h170 <| q
              refine zz ?_
              subst hK169 gK169
              refine es <| rz ?_
              refine bn ?_
              cases h
              exact en ⟨rfl, wk [(0, some 43)]⟩
          · refine xf <| xs <| rK fun K181 RK181 hK181 gK181 => zz ?_
            obtain ⟨z182, h183, h⟩ := bind_some h
            obtain ⟨⟨h184, h185⟩, h186⟩ := subL_some h183
            have q := And.intro @h184 <| And.intro @h185 <| q
            try simp -implicitDefEqProofs only [vt, vm, sevalprocAttr, dd, k, q] at h186
            have q := And.intro @h186 <| q
            refine zz ?_
            obtain ⟨r187, h188, h⟩ := bs h
            refine cw (a_lines_word hI h188) <| zz ?_
            subst hK181 gK181
            refine es <| rK fun K189 RK189 hK189 gK189 => zz ?_
            obtain ⟨z190, h191, h⟩ := bind_some h
            obtain ⟨⟨h192, h193, h194, h195⟩, h196⟩ := subI_some h191
            have q := And.intro @h192 <| And.intro @h193 <| And.intro @h194 <| And.intro @h195 <| q
            try simp -implicitDefEqProofs only [vt, vm, sevalprocAttr, dd, k, q] at h196
            have q := And.intro @h196 <| q
            refine zz ?_
            subst hK189 gK189
            refine es <| xs <| xs <| rz ?_
            refine es ?_
            rcases iK k h with ⟨k, h⟩ | ⟨k, h⟩
            · refine xt <| xs <| rz ?_
              refine es <| xr <| er <| br ?_
              cases h
              exact en ⟨rfl, wk []⟩
            · refine xf <| xk <| es <| xs <| rK fun K205 RK205 hK205 gK205 => zz ?_
              obtain ⟨h206, h⟩ := ite_on h
              have h207 : x7.1.length + 1 ≤ 9223372036854775807 := by omega
              try simp only [Nat.reduceLeDiff] at h207
              have q := And.intro @h207 <| And.intro @h206 <| q
              refine zz ?_
              subst hK205 gK205
              refine es <| rz ?_
              refine bn ?_
              cases h
              exact en ⟨rfl, wk [(0, some 46)]⟩
    · refine xf <| xx <| ee ?_
      cases h
      exact en ⟨rfl, wk []⟩
  · rcases e8 with e8 | e8
    · try dsimp only at h ⊢
      refine bh <| es <| xs <| rz ?_
      refine es <| xr ?_
      cases h
      exact en fr
    · try dsimp only at h ⊢
      refine br <| er ?_
      cases h
      exact en fr
def g_lines_Split_s1 (r16 : (List (List UInt8))) (x18 : (List T_api_Line) × (List T_api_Diag) × Int) : Option (Nx ((List T_api_Line) × (List T_api_Diag) × Int) ((List T_api_Line) × (List T_api_Diag))) :=
  (if (decide (x18.2.2 < (r16.length : Int))) then ((((atI r16 x18.2.2).bind fun y343 => (if (decide (1000 < (y343.length : Int))) then (if (decide (((x18.2.1.length : Nat) : Int) < 50)) then (if (x18.2.1.length + 1) * 24 ≤ 140737488355328 then (some (x18.1, (x18.2.1 ++ [(T_api_Diag.mk (IntKind.i64.wrap (x18.2.2 + 1)) 1001 9)]))) else none) else (some (x18.1, x18.2.1))) else ((g_lines_fields y343).bind fun r365 => (if (decide (0 < r365.2)) then (if (decide (((x18.2.1.length : Nat) : Int) < 50)) then (if (x18.2.1.length + 1) * 24 ≤ 140737488355328 then (some (x18.1, (x18.2.1 ++ [(T_api_Diag.mk (IntKind.i64.wrap (x18.2.2 + 1)) r365.2 4)]))) else none) else (some (x18.1, x18.2.1))) else (if (decide (0 < (r365.1.length : Int))) then (if (x18.1.length + 1) * 32 ≤ 140737488355328 then (some ((x18.1 ++ [(T_api_Line.mk (IntKind.i64.wrap (x18.2.2 + 1)) r365.1)]), x18.2.1)) else none) else (some (x18.1, x18.2.1))))))) : Option ((List T_api_Line) × (List T_api_Diag))).bind fun v338 => (some (.go (v338.1, v338.2, (IntKind.i64.wrap (x18.2.2 + 1)))))) else (some (.out (x18.1, x18.2.1))))
def g_lines_Split (src_0 : List UInt8) : Option ((List T_api_Line) × (List T_api_Diag)) :=
  (if (decide (262144 < (src_0.length : Int))) then (some ([], [(T_api_Diag.mk 1 1 9)])) else ((g_strings_Split src_0 [10]).bind fun r16 => ((iter (g_lines_Split_s1 r16) ([], [], 0)).bind fun e19 => (some (e19.1, e19.2)))))
theorem a_lines_Split {I : World → Prop} (hI : Stab I) (hShp : ∀ w, I w → Shp w) {src_0 : List UInt8} {r : (List T_api_Line) × (List T_api_Diag)} (h : g_lines_Split src_0 = some r) : AFun Tryz.prog I 49 [.str src_0] (.tup [.sl (r.1.map T_api_Line.d), .sl (r.2.map T_api_Diag.d)]) := by
  have dd := dd_EA; have k := True.intro; have q := k; have rs := Tryz.results49
  unfold g_lines_Split at h
  refine .en hI Tryz.func49 Tryz.ntmps49 ?_
  refine xs <| rz ?_
  refine es <| xs <| xs <| rz ?_
  refine es ?_
  rcases iK k h with ⟨k, h⟩ | ⟨k, h⟩
  · refine xt <| xs <| rz ?_
    refine es <| xr <| er ?_
    cases h
    exact en fr
  · refine xf <| xk <| es <| xs <| rz ?_
    refine es <| xs <| rz ?_
    refine es <| xs <| xs <| rK fun K15 RK15 hK15 gK15 => zz ?_
    obtain ⟨r16, h17, h⟩ := bs h
    refine cw (a_strings_Split I hI hShp src_0 [10] h17) <| zz ?_
    subst hK15 gK15
    refine es <| xb ?_
    obtain ⟨e19, h389, h⟩ := bs h
    refine rb_loop (fun x18 => ⟨envL [(4, .own 0 x18.1.length), (5, .own 1 x18.2.1.length), (16, .sl (r16.map D.str)), (17, .int .i64 (r16.length : Int)), (18, .int .i64 x18.2.2)], heapL [(0, .vec 86 2 (x18.1.map T_api_Line.d) false), (1, .vec 57 3 (x18.2.1.map T_api_Diag.d) false)], 2, 66⟩) (fun _ => .exit 0) (fun e19 => ⟨envL [(4, .own 0 e19.1.length), (5, .own 1 e19.2.length)], heapL [(0, .vec 86 2 (e19.1.map T_api_Line.d) false), (1, .vec 57 3 (e19.2.map T_api_Diag.d) false)], 2, 66⟩) h389 (wk [(0, none), (1, none)]) (by intro w; simp) ?_ ?_
    · clear h
      intro x18 y h
      unfold g_lines_Split_s1 at h
      refine xs <| rz ?_
      refine es <| xs ?_
      rcases iK k h with ⟨k, h⟩ | ⟨k, h⟩
      · refine xt <| xk <| es ?_
        obtain ⟨v338, h387, h⟩ := bs h
        refine rb_cut (fun v338 => ⟨envL [(4, .own 0 v338.1.length), (5, .own 1 v338.2.length), (16, .sl (r16.map D.str)), (17, .int .i64 (r16.length : Int)), (18, .int .i64 x18.2.2)], heapL [(0, .vec 86 2 (v338.1.map T_api_Line.d) false), (1, .vec 57 3 (v338.2.map T_api_Diag.d) false)], 2, 66⟩) h387 ?_ ?_
        · clear h
          intro v338 h
          refine xb <| xs <| rK fun K342 RK342 hK342 gK342 => zz ?_
          obtain ⟨y343, q, h⟩ := bK q h
          refine zz ?_
          subst hK342 gK342
          refine es <| xs <| rz ?_
          refine es <| xs <| rz ?_
          refine es <| xs <| xs <| rz ?_
          refine es ?_
          rcases iK k h with ⟨k, h⟩ | ⟨k, h⟩
          · refine xt <| rz ?_
            refine es <| xb <| xs <| rz ?_
            refine es <| xt <| xs <| rz ?_
            refine es ?_
            rcases iK k h with ⟨k, h⟩ | ⟨k, h⟩
            · refine xt <| rK fun K358 RK358 hK358 gK358 => zz ?_
              obtain ⟨h359, h⟩ := ite_on h
              have h360 : x18.2.1.length + 1 ≤ 9223372036854775807 := by omega
              try simp only [Nat.reduceLeDiff] at h360
              have q := And.intro @h360 <| And.intro @h359 <| q
              refine zz ?_
              subst hK358 gK358
              refine bn <| bn ?_
              cases h
              exact en ⟨rfl, wk [(1, some 31)]⟩
            · refine xf <| xk <| bn <| bn ?_
              cases h
              exact en ⟨rfl, wk []⟩
          · refine xf <| xs <| rK fun K364 RK364 hK364 gK364 => zz ?_
            obtain ⟨r365, h366, h⟩ := bs h
            refine cw (a_lines_fields hI h366) <| zz ?_
            subst hK364 gK364
            refine es <| xs <| rz ?_
            refine es ?_
            rcases iK k h with ⟨k, h⟩ | ⟨k, h⟩
            · refine xt <| rz ?_
              refine es <| xb <| xs <| rz ?_
              refine es <| xt <| xs <| rz ?_
              refine es ?_
              rcases iK k h with ⟨k, h⟩ | ⟨k, h⟩
              · refine xt <| rK fun K376 RK376 hK376 gK376 => zz ?_
                obtain ⟨h377, h⟩ := ite_on h
                have h378 : x18.2.1.length + 1 ≤ 9223372036854775807 := by omega
                try simp only [Nat.reduceLeDiff] at h378
                have q := And.intro @h378 <| And.intro @h377 <| q
                refine zz ?_
                subst hK376 gK376
                refine bn <| bn ?_
                cases h
                exact en ⟨rfl, wk [(1, some 40)]⟩
              · refine xf <| xk <| bn <| bn ?_
                cases h
                exact en ⟨rfl, wk []⟩
            · refine xf <| xk <| es <| xb <| xs <| rz ?_
              refine es <| xf <| xs <| rz ?_
              refine es ?_
              rcases iK k h with ⟨k, h⟩ | ⟨k, h⟩
              · refine xt <| rK fun K384 RK384 hK384 gK384 => zz ?_
                obtain ⟨h385, h⟩ := ite_on h
                have h386 : x18.1.length + 1 ≤ 9223372036854775807 := by omega
                try simp only [Nat.reduceLeDiff] at h386
                have q := And.intro @h386 <| And.intro @h385 <| q
                refine zz ?_
                subst hK384 gK384
                refine bn <| bn ?_
                cases h
                exact en ⟨rfl, wk [(0, some 42)]⟩
              · refine xf <| xk <| bn <| bn ?_
                cases h
                exact en ⟨rfl, wk []⟩
        · refine rz ?_
          cases h
          exact en ⟨rfl, wk []⟩
      · refine xf <| xx <| ee ?_
        cases h
        exact en ⟨rfl, wk []⟩
    · refine bh <| es <| xs <| rz ?_
      refine es <| xr ?_
      cases h
      exact en fr
def g_lines_Scan (l_0 : T_api_Line) : Option (TLS) :=
  (if l_0.Fields.length * 32 ≤ 140737488355328 then (some (TLS.mk l_0 0 0 (T_api_Diag.mk 0 0 0))) else none)
theorem a_lines_Scan {I : World → Prop} (hI : Stab I) {H : Nat → Option Blk} {nid : Nat} {l_0 : T_api_Line} {r : TLS} (h : g_lines_Scan l_0 = some r) : CallOK Tryz.prog I 83 [T_api_Line.d l_0] H nid (.ptr nid 0) [(nid, some (.box none [.int .i64 r.line_.Number, .sl (r.line_.Fields.map T_api_Field.d), .int .i64 r.next_, .int .i64 r.last_, .int .i64 r.bad_.Line, .int .i64 r.bad_.Column, .int .i64 r.bad_.Code]))] := by
  refine CallOK.intro (is := []) (css := []) (ds0 := [T_api_Line.d l_0]) (pl := []) hI Tryz.func83 rfl (by decide) (by simp [Tryz.f83]) (by kernel_rfl) rfl rfl rfl rfl (lentAll_of trivial) (by simp) ?_
  have dd := dd_EA; have k := True.intro; have q := k; have rs := Tryz.results83
  unfold g_lines_Scan at h
  simp only [lentH, List.length_cons, List.length_nil, Nat.zero_add, Nat.reduceAdd, Tryz.ntmps83, dd_EA]
  refine xs <| rz ?_
  refine es <| xs <| rD hI fun K6 RK6 hK6 gK6 => zz ?_
  obtain ⟨h7, h⟩ := ite_on h
  have h8 : l_0.Fields.length ≤ 9223372036854775807 := by omega
  try simp only [Nat.reduceLeDiff] at h8
  have q := And.intro @h8 <| And.intro @h7 <| q
  refine zz ?_
  subst hK6 gK6
  refine es <| xr ?_
  cases h
  exact en fp
def gLS_done (s_0 : TLS) : Option (Bool × TLS) :=
  (some ((s_0.bad_.Code != 0), s_0))
theorem aLS_done {I : World → Prop} (hI : Stab I) {H : Nat → Option Blk} {nid : Nat} {i0 : Nat} {p0 : Option Nat} {s_0 : TLS} {r : Bool × TLS} (h : gLS_done s_0 = some r) (b0 : H i0 = some (.box p0 [.int .i64 s_0.line_.Number, .sl (s_0.line_.Fields.map T_api_Field.d), .int .i64 s_0.next_, .int .i64 s_0.last_, .int .i64 s_0.bad_.Line, .int .i64 s_0.bad_.Column, .int .i64 s_0.bad_.Code])) : CallOK Tryz.prog I 144 [.ptr i0 0] H nid (.bool r.1) [(i0, some (.box p0 [.int .i64 r.2.line_.Number, .sl (r.2.line_.Fields.map T_api_Field.d), .int .i64 r.2.next_, .int .i64 r.2.last_, .int .i64 r.2.bad_.Line, .int .i64 r.2.bad_.Column, .int .i64 r.2.bad_.Code]))] := by
  refine CallOK.intro (is := [(i0, p0)]) (css := [[.int .i64 s_0.line_.Number, .sl (s_0.line_.Fields.map T_api_Field.d), .int .i64 s_0.next_, .int .i64 s_0.last_, .int .i64 s_0.bad_.Line, .int .i64 s_0.bad_.Column, .int .i64 s_0.bad_.Code]]) (ds0 := [.ptr 0 0]) (pl := [(0, none)]) hI Tryz.func144 rfl (by decide) (by simp [Tryz.f144]) (by kernel_rfl) rfl rfl rfl rfl (lentAll_of ⟨⟨b0, rfl⟩, trivial⟩) (by simp) ?_
  have dd := dd_EA; have k := True.intro; have q := k; have rs := Tryz.results144
  unfold gLS_done at h
  simp only [lentH, List.length_cons, List.length_nil, Nat.zero_add, Nat.reduceAdd, Tryz.ntmps144, dd_EA]
  refine xs <| rz ?_
  refine es <| xs <| rz ?_
  refine es <| xr ?_
  cases h
  exact en fp
def gLS_note (s_0 : TLS) (column_1 : Int) (e_2 : Int) : Option (TLS) :=
  ((((gLS_done s_0).bind fun r7 => (if r7.1 then (some (r7.2.line_.Number, r7.2.line_.Fields, r7.2.next_, r7.2.last_, r7.2.bad_.Line, r7.2.bad_.Column, r7.2.bad_.Code, false)) else (some (r7.2.line_.Number, r7.2.line_.Fields, r7.2.next_, r7.2.last_, r7.2.bad_.Line, r7.2.bad_.Column, r7.2.bad_.Code, (e_2 != 0))))) : Option (Int × (List T_api_Field) × Int × Int × Int × Int × Int × Bool)).bind fun v5 => (if v5.2.2.2.2.2.2.2 then (some (TLS.mk (T_api_Line.mk v5.1 v5.2.1) v5.2.2.1 v5.2.2.2.1 (T_api_Diag.mk v5.1 column_1 e_2))) else (some (TLS.mk (T_api_Line.mk v5.1 v5.2.1) v5.2.2.1 v5.2.2.2.1 (T_api_Diag.mk v5.2.2.2.2.1 v5.2.2.2.2.2.1 v5.2.2.2.2.2.2.1)))))
theorem aLS_note {I : World → Prop} (hI : Stab I) {H : Nat → Option Blk} {nid : Nat} {i0 : Nat} {p0 : Option Nat} {s_0 : TLS} {column_1 : Int} {e_2 : Int} {r : TLS} (h : gLS_note s_0 column_1 e_2 = some r) (b0 : H i0 = some (.box p0 [.int .i64 s_0.line_.Number, .sl (s_0.line_.Fields.map T_api_Field.d), .int .i64 s_0.next_, .int .i64 s_0.last_, .int .i64 s_0.bad_.Line, .int .i64 s_0.bad_.Column, .int .i64 s_0.bad_.Code])) : CallOK Tryz.prog I 139 [.ptr i0 0, .int .i64 column_1, .int .i64 e_2] H nid (.tup []) [(i0, some (.box p0 [.int .i64 r.line_.Number, .sl (r.line_.Fields.map T_api_Field.d), .int .i64 r.next_, .int .i64 r.last_, .int .i64 r.bad_.Line, .int .i64 r.bad_.Column, .int .i64 r.bad_.Code]))] := by
  refine CallOK.intro (is := [(i0, p0)]) (css := [[.int .i64 s_0.line_.Number, .sl (s_0.line_.Fields.map T_api_Field.d), .int .i64 s_0.next_, .int .i64 s_0.last_, .int .i64 s_0.bad_.Line, .int .i64 s_0.bad_.Column, .int .i64 s_0.bad_.Code]]) (ds0 := [.ptr 0 0, .int .i64 column_1, .int .i64 e_2]) (pl := [(0, none)]) hI Tryz.func139 rfl (by decide) (by simp [Tryz.f139]) (by kernel_rfl) rfl rfl rfl rfl (lentAll_of ⟨⟨b0, rfl⟩, trivial⟩) (by simp) ?_
  have dd := dd_EA; have k := True.intro; have q := k; have rs := Tryz.results139
  unfold gLS_note at h
  simp only [lentH, List.length_cons, List.length_nil, Nat.zero_add, Nat.reduceAdd, Tryz.ntmps139, dd_EA]
  obtain ⟨v5, h10, h⟩ := bs h
  refine rb_cut (fun v5 => ⟨envL [(0, .ptr 0 0), (1, .int .i64 column_1), (2, .int .i64 e_2), (12, .bool v5.2.2.2.2.2.2.2)], heapL [(0, .box (some 0) [.int .i64 v5.1, .sl (v5.2.1.map T_api_Field.d), .int .i64 v5.2.2.1, .int .i64 v5.2.2.2.1, .int .i64 v5.2.2.2.2.1, .int .i64 v5.2.2.2.2.2.1, .int .i64 v5.2.2.2.2.2.2.1])], 1, 24⟩) h10 ?_ ?_
  · clear h
    intro v5 h
    refine rK fun K6 RK6 hK6 gK6 => zz ?_
    obtain ⟨r7, h8, h⟩ := bs h
    refine eW.intro (aLS_done hI (nid := 2) (i0 := 0) (p0 := (some 0)) h8 fz) fi rfl <| zz ?_
    rcases iK k h with ⟨k, h⟩ | ⟨k, h⟩
    · refine zz ?_
      subst hK6 gK6
      cases h
      exact en ⟨rfl, wk []⟩
    · refine zz ?_
      subst hK6 gK6
      cases h
      exact en ⟨rfl, wk []⟩
  · rcases iK k h with ⟨k, h⟩ | ⟨k, h⟩
    · refine xt <| rz ?_
      cases h
      exact en fp
    · refine xf <| xk ?_
      cases h
      exact en fp
def gLS_take (s_0 : TLS) (quoted_1 : Bool) : Option ((List UInt8) × Bool × TLS) :=
  ((gLS_done s_0).bind fun r7 => (if r7.1 then (some ([], false, r7.2)) else (if (r7.2.next_ == (r7.2.line_.Fields.length : Int)) then ((gLS_note r7.2 0 4).bind fun r19 => (some ([], false, r19))) else ((atI r7.2.line_.Fields r7.2.next_).bind fun y27 => (if (y27.Quoted == quoted_1) then (some (y27.Text, true, (TLS.mk r7.2.line_ (IntKind.i64.wrap (r7.2.next_ + 1)) y27.Column r7.2.bad_))) else ((gLS_note r7.2 y27.Column 4).bind fun r42 => (some ([], false, r42))))))))
theorem aLS_take {I : World → Prop} (hI : Stab I) {H : Nat → Option Blk} {nid : Nat} {i0 : Nat} {p0 : Option Nat} {s_0 : TLS} {quoted_1 : Bool} {r : (List UInt8) × Bool × TLS} (h : gLS_take s_0 quoted_1 = some r) (b0 : H i0 = some (.box p0 [.int .i64 s_0.line_.Number, .sl (s_0.line_.Fields.map T_api_Field.d), .int .i64 s_0.next_, .int .i64 s_0.last_, .int .i64 s_0.bad_.Line, .int .i64 s_0.bad_.Column, .int .i64 s_0.bad_.Code])) : CallOK Tryz.prog I 138 [.ptr i0 0, .bool quoted_1] H nid (.tup [.str r.1, .bool r.2.1]) [(i0, some (.box p0 [.int .i64 r.2.2.line_.Number, .sl (r.2.2.line_.Fields.map T_api_Field.d), .int .i64 r.2.2.next_, .int .i64 r.2.2.last_, .int .i64 r.2.2.bad_.Line, .int .i64 r.2.2.bad_.Column, .int .i64 r.2.2.bad_.Code]))] := by
  refine CallOK.intro (is := [(i0, p0)]) (css := [[.int .i64 s_0.line_.Number, .sl (s_0.line_.Fields.map T_api_Field.d), .int .i64 s_0.next_, .int .i64 s_0.last_, .int .i64 s_0.bad_.Line, .int .i64 s_0.bad_.Column, .int .i64 s_0.bad_.Code]]) (ds0 := [.ptr 0 0, .bool quoted_1]) (pl := [(0, none)]) hI Tryz.func138 rfl (by decide) (by simp [Tryz.f138]) (by kernel_rfl) rfl rfl rfl rfl (lentAll_of ⟨⟨b0, rfl⟩, trivial⟩) (by simp) ?_
  have dd := dd_EA; have k := True.intro; have q := k; have rs := Tryz.results138
  unfold gLS_take at h
  simp only [lentH, List.length_cons, List.length_nil, Nat.zero_add, Nat.reduceAdd, Tryz.ntmps138, dd_EA]
  refine xs <| rz ?_
  refine es <| xs <| xs <| rK fun K6 RK6 hK6 gK6 => zz ?_
  obtain ⟨r7, h8, h⟩ := bs h
  refine eW.intro (aLS_done hI (nid := 4) (i0 := 0) (p0 := (some 0)) h8 fz) fi rfl <| zz ?_
  subst hK6 gK6
  refine es ?_
  rcases iK k h with ⟨k, h⟩ | ⟨k, h⟩
  · refine xt <| xs <| rz ?_
    refine es <| xr <| er ?_
    cases h
    exact en fp
  · refine xf <| xk <| es <| xs <| xs <| rd hI ?_
    refine es ?_
    rcases iK k h with ⟨k, h⟩ | ⟨k, h⟩
    · refine xt <| xs <| rK fun K18 RK18 hK18 gK18 => zz ?_
      obtain ⟨r19, h20, h⟩ := bs h
      refine eW.intro (aLS_note hI (nid := 17) (i0 := 0) (p0 := (some 0)) h20 fz) fi rfl <| zz ?_
      subst hK18 gK18
      refine es <| xs <| rz ?_
      refine es <| xr <| er ?_
      cases h
      exact en fp
    · refine xf <| xk <| es <| xs <| rD hI fun K26 RK26 hK26 gK26 => zz ?_
      obtain ⟨y27, q, h⟩ := bK q h
      refine zz ?_
      refine hd <| zz ?_
      subst hK26 gK26
      refine es <| xs <| xs <| rz ?_
      refine es ?_
      rcases iK k h with ⟨k, h⟩ | ⟨k, h⟩
      · refine xf <| xk <| es <| xs <| rz ?_
        refine es <| xs <| rz ?_
        refine es <| xs <| rz ?_
        refine es <| xr ?_
        cases h
        exact en fp
      · refine xt <| xs <| rK fun K41 RK41 hK41 gK41 => zz ?_
        obtain ⟨r42, h43, h⟩ := bs h
        refine eW.intro (aLS_note hI (nid := 36) (i0 := 0) (p0 := (some 0)) h43 fz) fi rfl <| zz ?_
        subst hK41 gK41
        refine es <| xs <| rz ?_
        refine es <| xr <| er ?_
        cases h
        exact en fp
def gLS_Choice_s1 (words_1 : List (List UInt8)) (r7 : (List UInt8) × Bool × TLS) (x14 : Int) : Option (Nx (Int) (Int ⊕ Unit)) :=
  (if (decide (x14 < (words_1.length : Int))) then ((atI words_1 x14).bind fun y89 => (if (y89 == r7.1) then (some (.out (.inl x14))) else (some (.go (IntKind.i64.wrap (x14 + 1)))))) else (some (.out (.inr ()))))
def gLS_Choice (s_0 : TLS) (words_1 : List (List UInt8)) : Option (Int × TLS) :=
  ((gLS_take s_0 false).bind fun r7 => (if r7.2.1 then ((iter (gLS_Choice_s1 words_1 r7) 0).bind fun e15 => (match e15 with | Sum.inl e15 => (some (e15, r7.2.2)) | Sum.inr (e15) => ((gLS_note r7.2.2 r7.2.2.last_ 4).bind fun r102 => (some (-1, r102))))) else (some (-1, r7.2.2))))
theorem aLS_Choice {I : World → Prop} (hI : Stab I) {H : Nat → Option Blk} {nid : Nat} {i0 : Nat} {p0 : Option Nat} {s_0 : TLS} {words_1 : List (List UInt8)} {r : Int × TLS} (h : gLS_Choice s_0 words_1 = some r) (b0 : H i0 = some (.box p0 [.int .i64 s_0.line_.Number, .sl (s_0.line_.Fields.map T_api_Field.d), .int .i64 s_0.next_, .int .i64 s_0.last_, .int .i64 s_0.bad_.Line, .int .i64 s_0.bad_.Column, .int .i64 s_0.bad_.Code])) : CallOK Tryz.prog I 84 [.ptr i0 0, .sl (words_1.map D.str)] H nid (.int .i64 r.1) [(i0, some (.box p0 [.int .i64 r.2.line_.Number, .sl (r.2.line_.Fields.map T_api_Field.d), .int .i64 r.2.next_, .int .i64 r.2.last_, .int .i64 r.2.bad_.Line, .int .i64 r.2.bad_.Column, .int .i64 r.2.bad_.Code]))] := by
  refine CallOK.intro (is := [(i0, p0)]) (css := [[.int .i64 s_0.line_.Number, .sl (s_0.line_.Fields.map T_api_Field.d), .int .i64 s_0.next_, .int .i64 s_0.last_, .int .i64 s_0.bad_.Line, .int .i64 s_0.bad_.Column, .int .i64 s_0.bad_.Code]]) (ds0 := [.ptr 0 0, .sl (words_1.map D.str)]) (pl := [(0, none)]) hI Tryz.func84 rfl (by decide) (by simp [Tryz.f84]) (by kernel_rfl) rfl rfl rfl rfl (lentAll_of ⟨⟨b0, rfl⟩, trivial⟩) (by simp) ?_
  have dd := dd_EA; have k := True.intro; have q := k; have rs := Tryz.results84
  unfold gLS_Choice at h
  simp only [lentH, List.length_cons, List.length_nil, Nat.zero_add, Nat.reduceAdd, Tryz.ntmps84, dd_EA]
  refine xs <| rz ?_
  refine es <| xs <| rK fun K6 RK6 hK6 gK6 => zz ?_
  obtain ⟨r7, h8, h⟩ := bs h
  refine eW.intro (aLS_take hI (nid := 3) (i0 := 0) (p0 := (some 0)) h8 fz) fi rfl <| zz ?_
  subst hK6 gK6
  refine es <| xs <| xs <| rz ?_
  refine es ?_
  rcases iK k h with ⟨k, h⟩ | ⟨k, h⟩
  · refine xf <| xk <| es <| xs <| xs <| rz ?_
    refine es <| xb ?_
    obtain ⟨e15, h97, h⟩ := bs h
    refine rb_loop (fun x14 => ⟨envL [(0, .ptr 0 0), (5, .str r7.1), (16, .sl (words_1.map D.str)), (17, .int .i64 (words_1.length : Int)), (18, .int .i64 x14)], heapL [(0, .box (some 0) [.int .i64 r7.2.2.line_.Number, .sl (r7.2.2.line_.Fields.map T_api_Field.d), .int .i64 r7.2.2.next_, .int .i64 r7.2.2.last_, .int .i64 r7.2.2.bad_.Line, .int .i64 r7.2.2.bad_.Column, .int .i64 r7.2.2.bad_.Code])], 1, 34⟩) (fun w => match w with | Sum.inl _ => .ret | Sum.inr (_) => .exit 0) (fun w => match w with | Sum.inl e15 => ⟨envL [(0, .ptr 0 0), (4, .int .i64 e15)], heapL [(0, .box (some 0) [.int .i64 r7.2.2.line_.Number, .sl (r7.2.2.line_.Fields.map T_api_Field.d), .int .i64 r7.2.2.next_, .int .i64 r7.2.2.last_, .int .i64 r7.2.2.bad_.Line, .int .i64 r7.2.2.bad_.Column, .int .i64 r7.2.2.bad_.Code])], 1, 34⟩ | Sum.inr (e15) => ⟨envL [(0, .ptr 0 0)], heapL [(0, .box (some 0) [.int .i64 r7.2.2.line_.Number, .sl (r7.2.2.line_.Fields.map T_api_Field.d), .int .i64 r7.2.2.next_, .int .i64 r7.2.2.last_, .int .i64 r7.2.2.bad_.Line, .int .i64 r7.2.2.bad_.Column, .int .i64 r7.2.2.bad_.Code])], 1, 34⟩) h97 (wk []) (by intro w; rcases w with w | w <;> simp) ?_ ?_
    · clear h
      intro x14 y h
      unfold gLS_Choice_s1 at h
      refine xs <| rz ?_
      refine es <| xs ?_
      rcases iK k h with ⟨k, h⟩ | ⟨k, h⟩
      · refine xt <| xk <| es <| xs <| xb <| xs <| rK fun K88 RK88 hK88 gK88 => zz ?_
        obtain ⟨y89, q, h⟩ := bK q h
        refine zz ?_
        subst hK88 gK88
        refine es <| xs <| rz ?_
        refine es ?_
        rcases iK k h with ⟨k, h⟩ | ⟨k, h⟩
        · refine xt <| xs <| rz ?_
          refine es <| xr <| br <| er ?_
          cases h
          exact en ⟨rfl, wk []⟩
        · refine xf <| xk <| bn <| es <| rz ?_
          cases h
          exact en ⟨rfl, wk []⟩
      · refine xf <| xx <| ee ?_
        cases h
        exact en ⟨rfl, wk []⟩
    · rcases e15 with e15 | e15
      · try dsimp only at h ⊢
        refine br <| er ?_
        cases h
        exact en fp
      · try dsimp only at h ⊢
        refine bh <| es <| xs <| rK fun K101 RK101 hK101 gK101 => zz ?_
        obtain ⟨r102, h103, h⟩ := bs h
        refine eW.intro (aLS_note hI (nid := 6) (i0 := 0) (p0 := (some 0)) h103 fz) fi rfl <| zz ?_
        subst hK101 gK101
        refine es <| xs <| rz ?_
        refine es <| xr ?_
        cases h
        exact en fp
  · refine xt <| xs <| rz ?_
    refine es <| xr <| er ?_
    cases h
    exact en fp
def gLS_Quoted (s_0 : TLS) : Option ((List UInt8) × TLS) :=
  ((gLS_take s_0 true).bind fun r7 => (some (r7.1, r7.2.2)))
theorem aLS_Quoted {I : World → Prop} (hI : Stab I) {H : Nat → Option Blk} {nid : Nat} {i0 : Nat} {p0 : Option Nat} {s_0 : TLS} {r : (List UInt8) × TLS} (h : gLS_Quoted s_0 = some r) (b0 : H i0 = some (.box p0 [.int .i64 s_0.line_.Number, .sl (s_0.line_.Fields.map T_api_Field.d), .int .i64 s_0.next_, .int .i64 s_0.last_, .int .i64 s_0.bad_.Line, .int .i64 s_0.bad_.Column, .int .i64 s_0.bad_.Code])) : CallOK Tryz.prog I 85 [.ptr i0 0] H nid (.str r.1) [(i0, some (.box p0 [.int .i64 r.2.line_.Number, .sl (r.2.line_.Fields.map T_api_Field.d), .int .i64 r.2.next_, .int .i64 r.2.last_, .int .i64 r.2.bad_.Line, .int .i64 r.2.bad_.Column, .int .i64 r.2.bad_.Code]))] := by
  refine CallOK.intro (is := [(i0, p0)]) (css := [[.int .i64 s_0.line_.Number, .sl (s_0.line_.Fields.map T_api_Field.d), .int .i64 s_0.next_, .int .i64 s_0.last_, .int .i64 s_0.bad_.Line, .int .i64 s_0.bad_.Column, .int .i64 s_0.bad_.Code]]) (ds0 := [.ptr 0 0]) (pl := [(0, none)]) hI Tryz.func85 rfl (by decide) (by simp [Tryz.f85]) (by kernel_rfl) rfl rfl rfl rfl (lentAll_of ⟨⟨b0, rfl⟩, trivial⟩) (by simp) ?_
  have dd := dd_EA; have k := True.intro; have q := k; have rs := Tryz.results85
  unfold gLS_Quoted at h
  simp only [lentH, List.length_cons, List.length_nil, Nat.zero_add, Nat.reduceAdd, Tryz.ntmps85, dd_EA]
  refine xs <| rz ?_
  refine es <| xs <| rK fun K6 RK6 hK6 gK6 => zz ?_
  obtain ⟨r7, h8, h⟩ := bs h
  refine eW.intro (aLS_take hI (nid := 3) (i0 := 0) (p0 := (some 0)) h8 fz) fi rfl <| zz ?_
  subst hK6 gK6
  refine es <| xs <| rz ?_
  refine es <| xr ?_
  cases h
  exact en fp
def gLS_Word (s_0 : TLS) : Option ((List UInt8) × TLS) :=
  ((gLS_take s_0 false).bind fun r7 => (some (r7.1, r7.2.2)))
theorem aLS_Word {I : World → Prop} (hI : Stab I) {H : Nat → Option Blk} {nid : Nat} {i0 : Nat} {p0 : Option Nat} {s_0 : TLS} {r : (List UInt8) × TLS} (h : gLS_Word s_0 = some r) (b0 : H i0 = some (.box p0 [.int .i64 s_0.line_.Number, .sl (s_0.line_.Fields.map T_api_Field.d), .int .i64 s_0.next_, .int .i64 s_0.last_, .int .i64 s_0.bad_.Line, .int .i64 s_0.bad_.Column, .int .i64 s_0.bad_.Code])) : CallOK Tryz.prog I 87 [.ptr i0 0] H nid (.str r.1) [(i0, some (.box p0 [.int .i64 r.2.line_.Number, .sl (r.2.line_.Fields.map T_api_Field.d), .int .i64 r.2.next_, .int .i64 r.2.last_, .int .i64 r.2.bad_.Line, .int .i64 r.2.bad_.Column, .int .i64 r.2.bad_.Code]))] := by
  refine CallOK.intro (is := [(i0, p0)]) (css := [[.int .i64 s_0.line_.Number, .sl (s_0.line_.Fields.map T_api_Field.d), .int .i64 s_0.next_, .int .i64 s_0.last_, .int .i64 s_0.bad_.Line, .int .i64 s_0.bad_.Column, .int .i64 s_0.bad_.Code]]) (ds0 := [.ptr 0 0]) (pl := [(0, none)]) hI Tryz.func87 rfl (by decide) (by simp [Tryz.f87]) (by kernel_rfl) rfl rfl rfl rfl (lentAll_of ⟨⟨b0, rfl⟩, trivial⟩) (by simp) ?_
  have dd := dd_EA; have k := True.intro; have q := k; have rs := Tryz.results87
  unfold gLS_Word at h
  simp only [lentH, List.length_cons, List.length_nil, Nat.zero_add, Nat.reduceAdd, Tryz.ntmps87, dd_EA]
  refine xs <| rz ?_
  refine es <| xs <| rK fun K6 RK6 hK6 gK6 => zz ?_
  obtain ⟨r7, h8, h⟩ := bs h
  refine eW.intro (aLS_take hI (nid := 3) (i0 := 0) (p0 := (some 0)) h8 fz) fi rfl <| zz ?_
  subst hK6 gK6
  refine es <| xs <| rz ?_
  refine es <| xr ?_
  cases h
  exact en fp
def gLS_Fail (s_0 : TLS) (e_1 : Int) : Option (TLS) :=
  ((gLS_note s_0 s_0.last_ e_1).bind fun r4 => (some r4))
theorem aLS_Fail {I : World → Prop} (hI : Stab I) {H : Nat → Option Blk} {nid : Nat} {i0 : Nat} {p0 : Option Nat} {s_0 : TLS} {e_1 : Int} {r : TLS} (h : gLS_Fail s_0 e_1 = some r) (b0 : H i0 = some (.box p0 [.int .i64 s_0.line_.Number, .sl (s_0.line_.Fields.map T_api_Field.d), .int .i64 s_0.next_, .int .i64 s_0.last_, .int .i64 s_0.bad_.Line, .int .i64 s_0.bad_.Column, .int .i64 s_0.bad_.Code])) : CallOK Tryz.prog I 88 [.ptr i0 0, .int .i64 e_1] H nid (.tup []) [(i0, some (.box p0 [.int .i64 r.line_.Number, .sl (r.line_.Fields.map T_api_Field.d), .int .i64 r.next_, .int .i64 r.last_, .int .i64 r.bad_.Line, .int .i64 r.bad_.Column, .int .i64 r.bad_.Code]))] := by
  refine CallOK.intro (is := [(i0, p0)]) (css := [[.int .i64 s_0.line_.Number, .sl (s_0.line_.Fields.map T_api_Field.d), .int .i64 s_0.next_, .int .i64 s_0.last_, .int .i64 s_0.bad_.Line, .int .i64 s_0.bad_.Column, .int .i64 s_0.bad_.Code]]) (ds0 := [.ptr 0 0, .int .i64 e_1]) (pl := [(0, none)]) hI Tryz.func88 rfl (by decide) (by simp [Tryz.f88]) (by kernel_rfl) rfl rfl rfl rfl (lentAll_of ⟨⟨b0, rfl⟩, trivial⟩) (by simp) ?_
  have dd := dd_EA; have k := True.intro; have q := k; have rs := Tryz.results88
  unfold gLS_Fail at h
  simp only [lentH, List.length_cons, List.length_nil, Nat.zero_add, Nat.reduceAdd, Tryz.ntmps88, dd_EA]
  refine xs <| rz ?_
  refine es <| xt <| rK fun K3 RK3 hK3 gK3 => zz ?_
  obtain ⟨r4, h5, h⟩ := bs h
  refine eW.intro (aLS_note hI (nid := 9) (i0 := 0) (p0 := (some 0)) h5 fz) fi rfl <| zz ?_
  subst hK3 gK3
  cases h
  exact en fp
def gLS_End (s_0 : TLS) : Option (T_api_Diag × Bool × TLS) :=
  (if (s_0.bad_.Code != 0) then (some (s_0.bad_, true, s_0)) else (if (decide (s_0.next_ < (s_0.line_.Fields.length : Int))) then ((atI s_0.line_.Fields s_0.next_).bind fun y33 => (some ((T_api_Diag.mk s_0.line_.Number y33.Column 4), true, s_0))) else (some ((T_api_Diag.mk 0 0 0), false, s_0))))
theorem aLS_End {I : World → Prop} (hI : Stab I) {H : Nat → Option Blk} {nid : Nat} {i0 : Nat} {p0 : Option Nat} {s_0 : TLS} {r : T_api_Diag × Bool × TLS} (h : gLS_End s_0 = some r) (b0 : H i0 = some (.box p0 [.int .i64 s_0.line_.Number, .sl (s_0.line_.Fields.map T_api_Field.d), .int .i64 s_0.next_, .int .i64 s_0.last_, .int .i64 s_0.bad_.Line, .int .i64 s_0.bad_.Column, .int .i64 s_0.bad_.Code])) : CallOK Tryz.prog I 89 [.ptr i0 0] H nid (.tup [T_api_Diag.d r.1, .bool r.2.1]) [(i0, some (.box p0 [.int .i64 r.2.2.line_.Number, .sl (r.2.2.line_.Fields.map T_api_Field.d), .int .i64 r.2.2.next_, .int .i64 r.2.2.last_, .int .i64 r.2.2.bad_.Line, .int .i64 r.2.2.bad_.Column, .int .i64 r.2.2.bad_.Code]))] := by
  refine CallOK.intro (is := [(i0, p0)]) (css := [[.int .i64 s_0.line_.Number, .sl (s_0.line_.Fields.map T_api_Field.d), .int .i64 s_0.next_, .int .i64 s_0.last_, .int .i64 s_0.bad_.Line, .int .i64 s_0.bad_.Column, .int .i64 s_0.bad_.Code]]) (ds0 := [.ptr 0 0]) (pl := [(0, none)]) hI Tryz.func89 rfl (by decide) (by simp [Tryz.f89]) (by kernel_rfl) rfl rfl rfl rfl (lentAll_of ⟨⟨b0, rfl⟩, trivial⟩) (by simp) ?_
  have dd := dd_EA; have k := True.intro; have q := k; have rs := Tryz.results89
  unfold gLS_End at h
  simp only [lentH, List.length_cons, List.length_nil, Nat.zero_add, Nat.reduceAdd, Tryz.ntmps89, dd_EA]
  refine xs <| rz ?_
  refine es <| xs <| xb <| xs <| rz ?_
  refine es <| xf <| xs <| rz ?_
  refine es ?_
  rcases iK k h with ⟨k, h⟩ | ⟨k, h⟩
  · refine xt <| xs <| rz ?_
    refine es <| xr <| br <| er ?_
    cases h
    exact en fp
  · refine xf <| xs <| rd hI ?_
    refine es ?_
    rcases iK k h with ⟨k, h⟩ | ⟨k, h⟩
    · refine xt <| xs <| rD hI fun K32 RK32 hK32 gK32 => zz ?_
      obtain ⟨y33, q, h⟩ := bK q h
      refine zz ?_
      refine hd <| zz ?_
      subst hK32 gK32
      refine es <| xr <| br <| er ?_
      cases h
      exact en fp
    · refine xf <| xk <| bn <| es <| xs <| rz ?_
      refine es <| xr ?_
      cases h
      exact en fp
def g_lines_Number_s1 (r7 : (List UInt8) × Bool) (x28 : Int) : Option (Nx (Int) (Unit ⊕ Unit)) :=
  (if (decide (x28 < (r7.1.length : Int))) then ((atI r7.1 x28).bind fun b91 => (if (decide ((b91.toNat : Int) < 48)) then (some (.out (.inl ()))) else (if (decide (57 < (b91.toNat : Int))) then (some (.out (.inl ()))) else (some (.go (IntKind.i64.wrap (x28 + 1))))))) else (some (.out (.inr ()))))
def g_lines_Number (s_0 : List UInt8) (lo_1 : Int) (hi_2 : Int) : Option (Int × Int) :=
  ((g_strings_CutPrefix s_0 [45]).bind fun r7 => (((if (r7.1 == ([] : List UInt8)) then (some true) else ((atI r7.1 0).bind fun b18 => (if ((b18.toNat : Int) == 48) then (if (decide (1 < (r7.1.length : Int))) then (some true) else (some r7.2)) else (some false)))) : Option (Bool)).bind fun v15 => (if v15 then (some (0, 4)) else ((iter (g_lines_Number_s1 r7) 0).bind fun e29 => (match e29 with | Sum.inl e29 => (some (0, 4)) | Sum.inr (e29) => ((g_strconv_ParseInt s_0 10 64).bind fun r105 => (((if r105.2 then (some true) else (if (decide (r105.1 < lo_1)) then (some true) else (some (decide (hi_2 < r105.1))))) : Option (Bool)).bind fun v110 => (if v110 then (some (0, 2)) else (some (r105.1, 0))))))))))
theorem a_lines_Number {I : World → Prop} (hI : Stab I) (hPIv : ∀ w, I w → PIv w) {s_0 : List UInt8} {lo_1 : Int} {hi_2 : Int} {r : Int × Int} (h : g_lines_Number s_0 lo_1 hi_2 = some r) : AFun Tryz.prog I 141 [.str s_0, .int .i64 lo_1, .int .i64 hi_2] (.tup [.int .i64 r.1, .int .i64 r.2]) := by
  have dd := dd_EA; have k := True.intro; have q := k; have rs := Tryz.results141
  unfold g_lines_Number at h
  refine .en hI Tryz.func141 Tryz.ntmps141 ?_
  refine xs <| rz ?_
  refine es <| xs <| rK fun K6 RK6 hK6 gK6 => zz ?_
  obtain ⟨r7, h8, h⟩ := bs h
  refine cw (a_strings_CutPrefix I hI s_0 [45] h8) <| zz ?_
  subst hK6 gK6
  refine es <| xs ?_
  obtain ⟨v15, h22, h⟩ := bs h
  refine rb_cut (fun v15 => ⟨envL [(0, .str s_0), (1, .int .i64 lo_1), (2, .int .i64 hi_2), (8, .str r7.1), (32, .bool v15)], heapL [], 0, 67⟩) h22 ?_ ?_
  · clear h
    intro v15 h
    refine rK fun K16 RK16 hK16 gK16 => zz ?_
    rcases iK k h with ⟨k, h⟩ | ⟨k, h⟩
    · refine zz ?_
      subst hK16 gK16
      cases h
      exact en ⟨rfl, wk []⟩
    · refine zz ?_
      obtain ⟨b18, q, h⟩ := bK q h
      refine zz ?_
      rcases iK k h with ⟨k, h⟩ | ⟨k, h⟩
      · refine zz ?_
        rcases iK k h with ⟨k, h⟩ | ⟨k, h⟩
        · refine zz ?_
          subst hK16 gK16
          cases h
          exact en ⟨rfl, wk []⟩
        · refine zz ?_
          subst hK16 gK16
          cases h
          exact en ⟨rfl, wk []⟩
      · refine zz ?_
        subst hK16 gK16
        cases h
        exact en ⟨rfl, wk []⟩
  · rcases iK k h with ⟨k, h⟩ | ⟨k, h⟩
    · refine xt <| xs <| rz ?_
      refine es <| xr <| er ?_
      cases h
      exact en fr
    · refine xf <| xk <| es <| xs <| xs <| rz ?_
      refine es <| xb ?_
      obtain ⟨e29, h100, h⟩ := bs h
      refine rb_loop (fun x28 => ⟨envL [(0, .str s_0), (1, .int .i64 lo_1), (2, .int .i64 hi_2), (8, .str r7.1), (34, .int .i64 (r7.1.length : Int)), (35, .int .i64 x28)], heapL [], 0, 67⟩) (fun w => match w with | Sum.inl _ => .ret | Sum.inr (_) => .exit 0) (fun w => match w with | Sum.inl e29 => ⟨envL [(6, .int .i64 0), (7, .int .i64 4)], heapL [], 0, 67⟩ | Sum.inr (e29) => ⟨envL [(0, .str s_0), (1, .int .i64 lo_1), (2, .int .i64 hi_2)], heapL [], 0, 67⟩) h100 (wk []) (by intro w; rcases w with w | w <;> simp) ?_ ?_
      · clear h
        intro x28 y h
        unfold g_lines_Number_s1 at h
        refine xs <| rz ?_
        refine es <| xs ?_
        rcases iK k h with ⟨k, h⟩ | ⟨k, h⟩
        · refine xt <| xk <| es <| xs <| xb <| xs <| rz ?_
          refine es <| xs <| rK fun K90 RK90 hK90 gK90 => zz ?_
          obtain ⟨b91, q, h⟩ := bK q h
          refine zz ?_
          rcases iK k h with ⟨k, h⟩ | ⟨k, h⟩
          · refine zz ?_
            subst hK90 gK90
            refine es <| xt <| xs <| rz ?_
            refine es <| xr <| br <| er ?_
            cases h
            exact en ⟨rfl, wk []⟩
          · refine zz ?_
            subst hK90 gK90
            refine es ?_
            rcases iK k h with ⟨k, h⟩ | ⟨k, h⟩
            · refine xt <| xs <| rz ?_
              refine es <| xr <| br <| er ?_
              cases h
              exact en ⟨rfl, wk []⟩
            · refine xf <| xk <| bn <| es <| rz ?_
              cases h
              exact en ⟨rfl, wk []⟩
        · refine xf <| xx <| ee ?_
          cases h
          exact en ⟨rfl, wk []⟩
      · rcases e29 with e29 | e29
        · try dsimp only at h ⊢
          refine br <| er ?_
          cases h
          exact en fr
        · try dsimp only at h ⊢
          refine bh <| es <| xs <| rK fun K104 RK104 hK104 gK104 => zz ?_
          obtain ⟨r105, h106, h⟩ := bs h
          refine cw (a_strconv_ParseInt I hI hPIv s_0 10 64 h106) <| zz ?_
          subst hK104 gK104
          refine es <| xs ?_
          obtain ⟨v110, h114, h⟩ := bs h
          refine rb_cut (fun v110 => ⟨envL [(11, .int .i64 r105.1), (65, .bool v110)], heapL [], 0, 67⟩) h114 ?_ ?_
          · clear h
            intro v110 h
            refine rK fun K111 RK111 hK111 gK111 => zz ?_
            rcases iK k h with ⟨k, h⟩ | ⟨k, h⟩
            · refine zz ?_
              subst hK111 gK111
              cases h
              exact en ⟨rfl, wk []⟩
            · refine zz ?_
              rcases iK k h with ⟨k, h⟩ | ⟨k, h⟩
              · refine zz ?_
                subst hK111 gK111
                cases h
                exact en ⟨rfl, wk []⟩
              · refine zz ?_
                subst hK111 gK111
                cases h
                exact en ⟨rfl, wk []⟩
          · rcases iK k h with ⟨k, h⟩ | ⟨k, h⟩
            · refine xt <| xs <| rz ?_
              refine es <| xr <| er ?_
              cases h
              exact en fr
            · refine xf <| xk <| es <| xs <| rz ?_
              refine es <| xr ?_
              cases h
              exact en fr
def gLS_Number (s_0 : TLS) (lo_1 : Int) (hi_2 : Int) : Option (Int × TLS) :=
  ((gLS_take s_0 false).bind fun r7 => (if r7.2.1 then ((g_lines_Number r7.1 lo_1 hi_2).bind fun r16 => (if (r16.2 != 0) then ((gLS_note r7.2.2 r7.2.2.last_ r16.2).bind fun r25 => (some (0, r25))) else (some (r16.1, r7.2.2)))) else (some (0, r7.2.2))))
theorem aLS_Number {I : World → Prop} (hI : Stab I) (hPIv : ∀ w, I w → PIv w) {H : Nat → Option Blk} {nid : Nat} {i0 : Nat} {p0 : Option Nat} {s_0 : TLS} {lo_1 : Int} {hi_2 : Int} {r : Int × TLS} (h : gLS_Number s_0 lo_1 hi_2 = some r) (b0 : H i0 = some (.box p0 [.int .i64 s_0.line_.Number, .sl (s_0.line_.Fields.map T_api_Field.d), .int .i64 s_0.next_, .int .i64 s_0.last_, .int .i64 s_0.bad_.Line, .int .i64 s_0.bad_.Column, .int .i64 s_0.bad_.Code])) : CallOK Tryz.prog I 90 [.ptr i0 0, .int .i64 lo_1, .int .i64 hi_2] H nid (.int .i64 r.1) [(i0, some (.box p0 [.int .i64 r.2.line_.Number, .sl (r.2.line_.Fields.map T_api_Field.d), .int .i64 r.2.next_, .int .i64 r.2.last_, .int .i64 r.2.bad_.Line, .int .i64 r.2.bad_.Column, .int .i64 r.2.bad_.Code]))] := by
  refine CallOK.intro (is := [(i0, p0)]) (css := [[.int .i64 s_0.line_.Number, .sl (s_0.line_.Fields.map T_api_Field.d), .int .i64 s_0.next_, .int .i64 s_0.last_, .int .i64 s_0.bad_.Line, .int .i64 s_0.bad_.Column, .int .i64 s_0.bad_.Code]]) (ds0 := [.ptr 0 0, .int .i64 lo_1, .int .i64 hi_2]) (pl := [(0, none)]) hI Tryz.func90 rfl (by decide) (by simp [Tryz.f90]) (by kernel_rfl) rfl rfl rfl rfl (lentAll_of ⟨⟨b0, rfl⟩, trivial⟩) (by simp) ?_
  have dd := dd_EA; have k := True.intro; have q := k; have rs := Tryz.results90
  unfold gLS_Number at h
  simp only [lentH, List.length_cons, List.length_nil, Nat.zero_add, Nat.reduceAdd, Tryz.ntmps90, dd_EA]
  refine xs <| rz ?_
  refine es <| xs <| rK fun K6 RK6 hK6 gK6 => zz ?_
  obtain ⟨r7, h8, h⟩ := bs h
  refine eW.intro (aLS_take hI (nid := 3) (i0 := 0) (p0 := (some 0)) h8 fz) fi rfl <| zz ?_
  subst hK6 gK6
  refine es <| xs <| xs <| rz ?_
  refine es ?_
  rcases iK k h with ⟨k, h⟩ | ⟨k, h⟩
  · refine xf <| xk <| es <| xs <| rK fun K15 RK15 hK15 gK15 => zz ?_
    obtain ⟨r16, h17, h⟩ := bs h
    refine cw (a_lines_Number hI hPIv h17) <| zz ?_
    subst hK15 gK15
    refine es <| xs <| xs <| rz ?_
    refine es ?_
    rcases iK k h with ⟨k, h⟩ | ⟨k, h⟩
    · refine xt <| xs <| rK fun K24 RK24 hK24 gK24 => zz ?_
      obtain ⟨r25, h26, h⟩ := bs h
      refine eW.intro (aLS_note hI (nid := 28) (i0 := 0) (p0 := (some 0)) h26 fz) fi rfl <| zz ?_
      subst hK24 gK24
      refine es <| xs <| rz ?_
      refine es <| xr <| er ?_
      cases h
      exact en fp
    · refine xf <| xk <| es <| xs <| rz ?_
      refine es <| xr ?_
      cases h
      exact en fp
  · refine xt <| xs <| rz ?_
    refine es <| xr <| er ?_
    cases h
    exact en fp
def g_lines_Name_s1 (s_0 : List UInt8) (x22 : Int) : Option (Nx (Int) (Unit ⊕ Unit)) :=
  (if (decide (x22 < (s_0.length : Int))) then ((atI s_0 x22).bind fun b144 => (((if (decide ((b144.toNat : Int) < 65)) then (if (decide ((b144.toNat : Int) < 48)) then (if ((b144.toNat : Int) != 95) then (some ((b144.toNat : Int) != 45)) else (some false)) else (if (decide (57 < (b144.toNat : Int))) then (if ((b144.toNat : Int) != 95) then (some ((b144.toNat : Int) != 45)) else (some false)) else (some false))) else (if (decide (90 < (b144.toNat : Int))) then (if (decide ((b144.toNat : Int) < 48)) then (if ((b144.toNat : Int) != 95) then (some ((b144.toNat : Int) != 45)) else (some false)) else (if (decide (57 < (b144.toNat : Int))) then (if ((b144.toNat : Int) != 95) then (some ((b144.toNat : Int) != 45)) else (some false)) else (some false))) else (some false))) : Option (Bool)).bind fun v157 => (if v157 then (some (.out (.inl ()))) else (some (.go (IntKind.i64.wrap (x22 + 1))))))) else (some (.out (.inr ()))))
def g_lines_Name (s_0 : List UInt8) : Option (Bool) :=
  (((if (decide ((s_0.length : Int) < 1)) then (some true) else (if (decide (16 < (s_0.length : Int))) then (some true) else ((atI s_0 0).bind fun b13 => (if (decide ((b13.toNat : Int) < 65)) then (some true) else (some (decide (90 < (b13.toNat : Int)))))))) : Option (Bool)).bind fun v9 => (if v9 then (some false) else ((iter (g_lines_Name_s1 s_0) 0).bind fun e23 => (match e23 with | Sum.inl e23 => (some false) | Sum.inr (e23) => (some true)))))
theorem a_lines_Name {I : World → Prop} (hI : Stab I) {s_0 : List UInt8} {r : Bool} (h : g_lines_Name s_0 = some r) : AFun Tryz.prog I 61 [.str s_0] (.bool r) := by
  have dd := dd_EA; have k := True.intro; have q := k; have rs := Tryz.results61
  unfold g_lines_Name at h
  refine .en hI Tryz.func61 Tryz.ntmps61 ?_
  refine xs <| rz ?_
  refine es <| xs ?_
  obtain ⟨v9, h16, h⟩ := bs h
  refine rb_cut (fun v9 => ⟨envL [(0, .str s_0), (22, .bool v9)], heapL [], 0, 54⟩) h16 ?_ ?_
  · clear h
    intro v9 h
    refine rK fun K10 RK10 hK10 gK10 => zz ?_
    rcases iK k h with ⟨k, h⟩ | ⟨k, h⟩
    · refine zz ?_
      subst hK10 gK10
      cases h
      exact en ⟨rfl, wk []⟩
    · refine zz ?_
      rcases iK k h with ⟨k, h⟩ | ⟨k, h⟩
      · refine zz ?_
        subst hK10 gK10
        cases h
        exact en ⟨rfl, wk []⟩
      · refine zz ?_
        obtain ⟨b13, q, h⟩ := bK q h
        refine zz ?_
        rcases iK k h with ⟨k, h⟩ | ⟨k, h⟩
        · refine zz ?_
          subst hK10 gK10
          cases h
          exact en ⟨rfl, wk []⟩
        · refine zz ?_
          subst hK10 gK10
          cases h
          exact en ⟨rfl, wk []⟩
  · rcases iK k h with ⟨k, h⟩ | ⟨k, h⟩
    · refine xt <| xs <| rz ?_
      refine es <| xr <| er ?_
      cases h
      exact en fr
    · refine xf <| xk <| es <| xs <| xs <| rz ?_
      refine es <| xb ?_
      obtain ⟨e23, h174, h⟩ := bs h
      refine rb_loop (fun x22 => ⟨envL [(0, .str s_0), (24, .int .i64 (s_0.length : Int)), (25, .int .i64 x22)], heapL [], 0, 54⟩) (fun w => match w with | Sum.inl _ => .ret | Sum.inr (_) => .exit 0) (fun w => match w with | Sum.inl e23 => ⟨envL [(2, .bool false)], heapL [], 0, 54⟩ | Sum.inr (e23) => ⟨envL [], heapL [], 0, 54⟩) h174 (wk []) (by intro w; rcases w with w | w <;> simp) ?_ ?_
      · clear h
        intro x22 y h
        unfold g_lines_Name_s1 at h
        refine xs <| rz ?_
        refine es <| xs ?_
        rcases iK k h with ⟨k, h⟩ | ⟨k, h⟩
        · refine xt <| xk <| es <| xs <| xb <| xs <| rz ?_
          refine es <| xs <| rK fun K143 RK143 hK143 gK143 => zz ?_
          obtain ⟨b144, q, h⟩ := bK q h
          refine zz ?_
          subst hK143 gK143
          refine es ?_
          obtain ⟨v157, h169, h⟩ := bs h
          refine rb_cut (fun v157 => ⟨envL [(0, .str s_0), (24, .int .i64 (s_0.length : Int)), (25, .int .i64 x22), (52, .bool v157)], heapL [], 0, 54⟩) h169 ?_ ?_
          · clear h
            intro v157 h
            refine rK fun K158 RK158 hK158 gK158 => zz ?_
            rcases iK k h with ⟨k, h⟩ | ⟨k, h⟩
            · refine zz ?_
              rcases iK k h with ⟨k, h⟩ | ⟨k, h⟩
              · refine zz ?_
                rcases iK k h with ⟨k, h⟩ | ⟨k, h⟩
                · refine zz ?_
                  subst hK158 gK158
                  cases h
                  exact en ⟨rfl, wk []⟩
                · refine zz ?_
                  subst hK158 gK158
                  cases h
                  exact en ⟨rfl, wk []⟩
              · refine zz ?_
                rcases iK k h with ⟨k, h⟩ | ⟨k, h⟩
                · refine zz ?_
                  rcases iK k h with ⟨k, h⟩ | ⟨k, h⟩
                  · refine zz ?_
                    subst hK158 gK158
                    cases h
                    exact en ⟨rfl, wk []⟩
                  · refine zz ?_
                    subst hK158 gK158
                    cases h
                    exact en ⟨rfl, wk []⟩
                · refine zz ?_
                  subst hK158 gK158
                  cases h
                  exact en ⟨rfl, wk []⟩
            · refine zz ?_
              rcases iK k h with ⟨k, h⟩ | ⟨k, h⟩
              · refine zz ?_
                rcases iK k h with ⟨k, h⟩ | ⟨k, h⟩
                · refine zz ?_
                  rcases iK k h with ⟨k, h⟩ | ⟨k, h⟩
                  · refine zz ?_
                    subst hK158 gK158
                    cases h
                    exact en ⟨rfl, wk []⟩
                  · refine zz ?_
                    subst hK158 gK158
                    cases h
                    exact en ⟨rfl, wk []⟩
                · refine zz ?_
                  rcases iK k h with ⟨k, h⟩ | ⟨k, h⟩
                  · refine zz ?_
                    rcases iK k h with ⟨k, h⟩ | ⟨k, h⟩
                    · refine zz ?_
                      subst hK158 gK158
                      cases h
                      exact en ⟨rfl, wk []⟩
                    · refine zz ?_
                      subst hK158 gK158
                      cases h
                      exact en ⟨rfl, wk []⟩
                  · refine zz ?_
                    subst hK158 gK158
                    cases h
                    exact en ⟨rfl, wk []⟩
              · refine zz ?_
                subst hK158 gK158
                cases h
                exact en ⟨rfl, wk []⟩
          · rcases iK k h with ⟨k, h⟩ | ⟨k, h⟩
            · refine xt <| xs <| rz ?_
              refine es <| xr <| br <| er ?_
              cases h
              exact en ⟨rfl, wk []⟩
            · refine xf <| xk <| bn <| es <| rz ?_
              cases h
              exact en ⟨rfl, wk []⟩
        · refine xf <| xx <| ee ?_
          cases h
          exact en ⟨rfl, wk []⟩
      · rcases e23 with e23 | e23
        · try dsimp only at h ⊢
          refine br <| er ?_
          cases h
          exact en fr
        · try dsimp only at h ⊢
          refine bh <| es <| xs <| rz ?_
          refine es <| xr ?_
          cases h
          exact en fr
def gLS_Name (s_0 : TLS) (empty_1 : Bool) : Option ((List UInt8) × TLS) :=
  ((gLS_take s_0 false).bind fun r7 => (((if r7.2.1 then (if empty_1 then (some (r7.1 == ([45] : List UInt8))) else (some false)) else (some true)) : Option (Bool)).bind fun v12 => (if v12 then (some ([], r7.2.2)) else ((g_lines_Name r7.1).bind fun r24 => (if r24 then (some (r7.1, r7.2.2)) else ((gLS_note r7.2.2 r7.2.2.last_ 5).bind fun r33 => (some ([], r33))))))))
theorem aLS_Name {I : World → Prop} (hI : Stab I) {H : Nat → Option Blk} {nid : Nat} {i0 : Nat} {p0 : Option Nat} {s_0 : TLS} {empty_1 : Bool} {r : (List UInt8) × TLS} (h : gLS_Name s_0 empty_1 = some r) (b0 : H i0 = some (.box p0 [.int .i64 s_0.line_.Number, .sl (s_0.line_.Fields.map T_api_Field.d), .int .i64 s_0.next_, .int .i64 s_0.last_, .int .i64 s_0.bad_.Line, .int .i64 s_0.bad_.Column, .int .i64 s_0.bad_.Code])) : CallOK Tryz.prog I 91 [.ptr i0 0, .bool empty_1] H nid (.str r.1) [(i0, some (.box p0 [.int .i64 r.2.line_.Number, .sl (r.2.line_.Fields.map T_api_Field.d), .int .i64 r.2.next_, .int .i64 r.2.last_, .int .i64 r.2.bad_.Line, .int .i64 r.2.bad_.Column, .int .i64 r.2.bad_.Code]))] := by
  refine CallOK.intro (is := [(i0, p0)]) (css := [[.int .i64 s_0.line_.Number, .sl (s_0.line_.Fields.map T_api_Field.d), .int .i64 s_0.next_, .int .i64 s_0.last_, .int .i64 s_0.bad_.Line, .int .i64 s_0.bad_.Column, .int .i64 s_0.bad_.Code]]) (ds0 := [.ptr 0 0, .bool empty_1]) (pl := [(0, none)]) hI Tryz.func91 rfl (by decide) (by simp [Tryz.f91]) (by kernel_rfl) rfl rfl rfl rfl (lentAll_of ⟨⟨b0, rfl⟩, trivial⟩) (by simp) ?_
  have dd := dd_EA; have k := True.intro; have q := k; have rs := Tryz.results91
  unfold gLS_Name at h
  simp only [lentH, List.length_cons, List.length_nil, Nat.zero_add, Nat.reduceAdd, Tryz.ntmps91, dd_EA]
  refine xs <| rz ?_
  refine es <| xs <| rK fun K6 RK6 hK6 gK6 => zz ?_
  obtain ⟨r7, h8, h⟩ := bs h
  refine eW.intro (aLS_take hI (nid := 3) (i0 := 0) (p0 := (some 0)) h8 fz) fi rfl <| zz ?_
  subst hK6 gK6
  refine es <| xs ?_
  obtain ⟨v12, h16, h⟩ := bs h
  refine rb_cut (fun v12 => ⟨envL [(0, .ptr 0 0), (5, .str r7.1), (20, .bool v12)], heapL [(0, .box (some 0) [.int .i64 r7.2.2.line_.Number, .sl (r7.2.2.line_.Fields.map T_api_Field.d), .int .i64 r7.2.2.next_, .int .i64 r7.2.2.last_, .int .i64 r7.2.2.bad_.Line, .int .i64 r7.2.2.bad_.Column, .int .i64 r7.2.2.bad_.Code])], 1, 31⟩) h16 ?_ ?_
  · clear h
    intro v12 h
    refine rK fun K13 RK13 hK13 gK13 => zz ?_
    rcases iK k h with ⟨k, h⟩ | ⟨k, h⟩
    · refine zz ?_
      rcases iK k h with ⟨k, h⟩ | ⟨k, h⟩
      · refine zz ?_
        subst hK13 gK13
        cases h
        exact en ⟨rfl, wk []⟩
      · refine zz ?_
        subst hK13 gK13
        cases h
        exact en ⟨rfl, wk []⟩
    · refine zz ?_
      subst hK13 gK13
      cases h
      exact en ⟨rfl, wk []⟩
  · rcases iK k h with ⟨k, h⟩ | ⟨k, h⟩
    · refine xt <| xs <| rz ?_
      refine es <| xr <| er ?_
      cases h
      exact en fp
    · refine xf <| xk <| es <| xs <| xs <| rK fun K23 RK23 hK23 gK23 => zz ?_
      obtain ⟨r24, h25, h⟩ := bs h
      refine cw (a_lines_Name hI h25) <| zz ?_
      subst hK23 gK23
      refine es ?_
      rcases iK k h with ⟨k, h⟩ | ⟨k, h⟩
      · refine xf <| xk <| es <| xs <| rz ?_
        refine es <| xr ?_
        cases h
        exact en fp
      · refine xt <| xs <| rK fun K32 RK32 hK32 gK32 => zz ?_
        obtain ⟨r33, h34, h⟩ := bs h
        refine eW.intro (aLS_note hI (nid := 9) (i0 := 0) (p0 := (some 0)) h34 fz) fi rfl <| zz ?_
        subst hK32 gK32
        refine es <| xs <| rz ?_
        refine es <| xr <| er ?_
        cases h
        exact en fp
def gLS_Left (s_0 : TLS) : Option (Int × TLS) :=
  ((gLS_done s_0).bind fun r7 => (if r7.1 then (some (0, r7.2)) else (some ((IntKind.i64.wrap ((r7.2.line_.Fields.length : Int) - r7.2.next_)), r7.2))))
theorem aLS_Left {I : World → Prop} (hI : Stab I) {H : Nat → Option Blk} {nid : Nat} {i0 : Nat} {p0 : Option Nat} {s_0 : TLS} {r : Int × TLS} (h : gLS_Left s_0 = some r) (b0 : H i0 = some (.box p0 [.int .i64 s_0.line_.Number, .sl (s_0.line_.Fields.map T_api_Field.d), .int .i64 s_0.next_, .int .i64 s_0.last_, .int .i64 s_0.bad_.Line, .int .i64 s_0.bad_.Column, .int .i64 s_0.bad_.Code])) : CallOK Tryz.prog I 93 [.ptr i0 0] H nid (.int .i64 r.1) [(i0, some (.box p0 [.int .i64 r.2.line_.Number, .sl (r.2.line_.Fields.map T_api_Field.d), .int .i64 r.2.next_, .int .i64 r.2.last_, .int .i64 r.2.bad_.Line, .int .i64 r.2.bad_.Column, .int .i64 r.2.bad_.Code]))] := by
  refine CallOK.intro (is := [(i0, p0)]) (css := [[.int .i64 s_0.line_.Number, .sl (s_0.line_.Fields.map T_api_Field.d), .int .i64 s_0.next_, .int .i64 s_0.last_, .int .i64 s_0.bad_.Line, .int .i64 s_0.bad_.Column, .int .i64 s_0.bad_.Code]]) (ds0 := [.ptr 0 0]) (pl := [(0, none)]) hI Tryz.func93 rfl (by decide) (by simp [Tryz.f93]) (by kernel_rfl) rfl rfl rfl rfl (lentAll_of ⟨⟨b0, rfl⟩, trivial⟩) (by simp) ?_
  have dd := dd_EA; have k := True.intro; have q := k; have rs := Tryz.results93
  unfold gLS_Left at h
  simp only [lentH, List.length_cons, List.length_nil, Nat.zero_add, Nat.reduceAdd, Tryz.ntmps93, dd_EA]
  refine xs <| rz ?_
  refine es <| xs <| xs <| rK fun K6 RK6 hK6 gK6 => zz ?_
  obtain ⟨r7, h8, h⟩ := bs h
  refine eW.intro (aLS_done hI (nid := 3) (i0 := 0) (p0 := (some 0)) h8 fz) fi rfl <| zz ?_
  subst hK6 gK6
  refine es ?_
  rcases iK k h with ⟨k, h⟩ | ⟨k, h⟩
  · refine xt <| xs <| rz ?_
    refine es <| xr <| er ?_
    cases h
    exact en fp
  · refine xf <| xk <| es <| xs <| rd hI ?_
    refine es <| xr ?_
    cases h
    exact en fp
def g_lines_Quote_s1 (s_0 : List UInt8) (x7 : Int × (List Int)) : Option (Nx (Int × (List Int)) ((List Int))) :=
  (if (decide (x7.1 < (s_0.length : Int))) then ((atI s_0 x7.1).bind fun b123 => (if ((b123.toNat : Int) == 34) then (if (x7.2.length + 2) * 1 ≤ 140737488355328 then (some (.go ((IntKind.i64.wrap (x7.1 + 1)), (x7.2 ++ [92, (b123.toNat : Int)])))) else none) else (if ((b123.toNat : Int) == 92) then (if (x7.2.length + 2) * 1 ≤ 140737488355328 then (some (.go ((IntKind.i64.wrap (x7.1 + 1)), (x7.2 ++ [92, (b123.toNat : Int)])))) else none) else (if ((b123.toNat : Int) == 10) then (if (x7.2.length + 2) * 1 ≤ 140737488355328 then (some (.go ((IntKind.i64.wrap (x7.1 + 1)), (x7.2 ++ [92, 110])))) else none) else (if (x7.2.length + 1) * 1 ≤ 140737488355328 then (some (.go ((IntKind.i64.wrap (x7.1 + 1)), (x7.2 ++ [(b123.toNat : Int)])))) else none))))) else (some (.out x7.2)))
def g_lines_Quote (s_0 : List UInt8) : Option ((List UInt8)) :=
  ((iter (g_lines_Quote_s1 s_0) (0, [34])).bind fun e8 => (if (e8.length + 1) * 1 ≤ 140737488355328 then (some (bytesOf (e8 ++ [34]))) else none))
theorem a_lines_Quote {I : World → Prop} (hI : Stab I) {s_0 : List UInt8} {r : (List UInt8)} (h : g_lines_Quote s_0 = some r) : AFun Tryz.prog I 37 [.str s_0] (.str r) := by
  have dd := dd_EA; have k := True.intro; have q := k; have rs := Tryz.results37
  unfold g_lines_Quote at h
  refine .en hI Tryz.func37 Tryz.ntmps37 ?_
  refine xs <| rz ?_
  refine es <| xs <| rz ?_
  refine es <| xs <| xs <| rz ?_
  refine es <| xb ?_
  obtain ⟨e8, h153, h⟩ := bs h
  refine rb_loop (fun x7 => ⟨envL [(0, .str s_0), (3, .own 0 x7.2.length), (7, .int .i64 (s_0.length : Int)), (8, .int .i64 x7.1)], heapL [(0, .vec 5 1 (x7.2.map (D.int .u8)) false)], 1, 39⟩) (fun _ => .exit 0) (fun e8 => ⟨envL [(3, .own 0 e8.length)], heapL [(0, .vec 5 1 (e8.map (D.int .u8)) false)], 1, 39⟩) h153 (wk [(0, some 1)]) (by intro w; simp) ?_ ?_
  · clear h
    intro x7 y h
    unfold g_lines_Quote_s1 at h
    refine xs <| rz ?_
    refine es <| xs ?_
    rcases iK k h with ⟨k, h⟩ | ⟨k, h⟩
    · refine xt <| xk <| es <| xs <| xb <| xs <| rz ?_
      refine es <| xs <| rK fun K122 RK122 hK122 gK122 => zz ?_
      obtain ⟨b123, q, h⟩ := bK q h
      refine zz ?_
      subst hK122 gK122
      refine es <| xb <| xs <| xs <| rz ?_
      refine es ?_
      rcases iK k h with ⟨k, h⟩ | ⟨k, h⟩
      · refine xt <| xk <| es <| xt <| rK fun K128 RK128 hK128 gK128 => zz ?_
        obtain ⟨h129, h⟩ := ite_on h
        have h130 : x7.2.length + 2 ≤ 9223372036854775807 := by omega
        try simp only [Nat.reduceLeDiff] at h130
        have h131 : x7.2.length + 2 ≤ 140737488355328 := by omega
        try simp only [Nat.reduceLeDiff] at h131
        have q := And.intro @h130 <| And.intro @h131 <| And.intro @h129 <| q
        refine zz ?_
        subst hK128 gK128
        refine bn <| bn <| es <| rz ?_
        cases h
        exact en ⟨rfl, wk [(0, some 14)]⟩
      · refine xf <| rz ?_
        refine es ?_
        rcases iK k h with ⟨k, h⟩ | ⟨k, h⟩
        · refine xt <| rK fun K135 RK135 hK135 gK135 => zz ?_
          obtain ⟨h136, h⟩ := ite_on h
          have h137 : x7.2.length + 2 ≤ 9223372036854775807 := by omega
          try simp only [Nat.reduceLeDiff] at h137
          have h138 : x7.2.length + 2 ≤ 140737488355328 := by omega
          try simp only [Nat.reduceLeDiff] at h138
          have q := And.intro @h137 <| And.intro @h138 <| And.intro @h136 <| q
          refine zz ?_
          subst hK135 gK135
          refine bn <| bn <| es <| rz ?_
          cases h
          exact en ⟨rfl, wk [(0, some 16)]⟩
        · refine xf <| xs <| rz ?_
          refine es ?_
          rcases iK k h with ⟨k, h⟩ | ⟨k, h⟩
          · refine xt <| rK fun K143 RK143 hK143 gK143 => zz ?_
            obtain ⟨h144, h⟩ := ite_on h
            have h145 : x7.2.length + 2 ≤ 9223372036854775807 := by omega
            try simp only [Nat.reduceLeDiff] at h145
            have h146 : x7.2.length + 2 ≤ 140737488355328 := by omega
            try simp only [Nat.reduceLeDiff] at h146
            have q := And.intro @h145 <| And.intro @h146 <| And.intro @h144 <| q
            refine zz ?_
            subst hK143 gK143
            refine bn <| bn <| es <| rz ?_
            cases h
            exact en ⟨rfl, wk [(0, some 15)]⟩
          · refine xf <| rK fun K148 RK148 hK148 gK148 => zz ?_
            obtain ⟨h149, h⟩ := ite_on h
            have h150 : x7.2.length + 1 ≤ 9223372036854775807 := by omega
            try simp only [Nat.reduceLeDiff] at h150
            have h151 : x7.2.length + 1 ≤ 140737488355328 := by omega
            try simp only [Nat.reduceLeDiff] at h151
            have q := And.intro @h150 <| And.intro @h151 <| And.intro @h149 <| q
            refine zz ?_
            subst hK148 gK148
            refine bn <| bn <| es <| rz ?_
            cases h
            exact en ⟨rfl, wk [(0, some 18)]⟩
    · refine xf <| xx <| ee ?_
      cases h
      exact en ⟨rfl, wk []⟩
  · refine bh <| es <| xs <| rK fun K158 RK158 hK158 gK158 => zz ?_
    obtain ⟨h159, h⟩ := ite_on h
    have h160 : e8.length + 1 ≤ 9223372036854775807 := by omega
    try simp only [Nat.reduceLeDiff] at h160
    have h161 : e8.length + 1 ≤ 140737488355328 := by omega
    try simp only [Nat.reduceLeDiff] at h161
    have q := And.intro @h160 <| And.intro @h161 <| And.intro @h159 <| q
    refine zz ?_
    subst hK158 gK158
    refine es <| xr ?_
    cases h
    exact en fr
def g_lines_Decimal (n_0 : Int) : Option ((List UInt8)) :=
  ((g_strconv_FormatInt n_0 10).bind fun r7 => (some r7))
theorem a_lines_Decimal {I : World → Prop} (hI : Stab I) (hTab : ∀ w, I w → Tab w) {n_0 : Int} {r : (List UInt8)} (h : g_lines_Decimal n_0 = some r) : AFun Tryz.prog I 40 [.int .i64 n_0] (.str r) := by
  have dd := dd_EA; have k := True.intro; have q := k; have rs := Tryz.results40
  unfold g_lines_Decimal at h
  refine .en hI Tryz.func40 Tryz.ntmps40 ?_
  refine xs <| rz ?_
  refine es <| xs <| rK fun K6 RK6 hK6 gK6 => zz ?_
  obtain ⟨r7, h8, h⟩ := bs h
  refine cw (a_strconv_FormatInt I hI hTab n_0 10 h8) <| zz ?_
  subst hK6 gK6
  refine es <| xr ?_
  cases h
  exact en fr
end Go.Proofs.YtnjjdbljoligdaaGreatDoor
namespace Go.Proofs.YtnjjdbljoligdaaGreatDoor
open Go.RowKit
set_option maxRecDepth 100000
set_option maxHeartbeats 10000000
structure TRS where
  Line : T_api_Line
  At : Int
  Code : Int
  Col : Int
  deriving DecidableEq
def TRS.d (x : TRS) : D := .agg [.int .i64 x.Line.Number, .sl (x.Line.Fields.map T_api_Field.d), .int .i64 x.At, .int .i64 x.Code, .int .i64 x.Col]
theorem dd_EE : (∀ x, T_api_Field.d x = .agg [.str x.Text, .int .i64 x.Column, .bool x.Quoted]) ∧ (∀ x, T_api_Diag.d x = .agg [.int .i64 x.Line, .int .i64 x.Column, .int .i64 x.Code]) ∧ (∀ x, T_api_Line.d x = .agg [.int .i64 x.Number, .sl (x.Fields.map T_api_Field.d)]) ∧ (∀ x, TRS.d x = .agg [.int .i64 x.Line.Number, .sl (x.Line.Fields.map T_api_Field.d), .int .i64 x.At, .int .i64 x.Code, .int .i64 x.Col]) := ⟨fun _ => rfl, fun _ => rfl, fun _ => rfl, fun _ => rfl⟩
def g_ref07_digit (c_0 : Int) : Option (Bool) :=
  (if (decide (48 ≤ c_0)) then (some (decide (c_0 ≤ 57))) else (some false))
theorem a_ref07_digit {I : World → Prop} (hI : Stab I) {c_0 : Int} {r : Bool} (h : g_ref07_digit c_0 = some r) : AFun Tryz.prog I 114 [.int .u8 c_0] (.bool r) := by
  have dd := dd_EE; have k := True.intro; have q := k; have rs := Tryz.results114
  unfold g_ref07_digit at h
  refine .en hI Tryz.func114 Tryz.ntmps114 ?_
  refine xs <| rz ?_
  refine es <| xs <| rK fun K5 RK5 hK5 gK5 => zz ?_
  rcases iK k h with ⟨k, h⟩ | ⟨k, h⟩
  · refine zz ?_
    subst hK5 gK5
    refine es <| xr ?_
    cases h
    exact en fr
  · refine zz ?_
    subst hK5 gK5
    refine es <| xr ?_
    cases h
    exact en fr
def g_ref07_Name_s1 (s_0 : List UInt8) (x14 : Int) : Option (Nx (Int) (Unit ⊕ Unit)) :=
  (if (decide (x14 < (s_0.length : Int))) then ((((((atI s_0 x14).bind fun b133 => (if (decide (65 ≤ (b133.toNat : Int))) then (some (decide ((b133.toNat : Int) ≤ 90))) else (some false))) : Option (Bool)).bind fun v131 => (if v131 then (some (.go ())) else (if (x14 == 0) then (some (.out ())) else ((atI s_0 x14).bind fun b151 => ((g_ref07_digit (b151.toNat : Int)).bind fun r153 => (if r153 then (some (.go ())) else (if ((b151.toNat : Int) != 95) then (if ((b151.toNat : Int) != 45) then (some (.out ())) else (some (.go ()))) else (some (.go ()))))))))) : Option (Nx (Unit) (Unit))).bind fun w161 => match w161 with | .go v126 => (some (.go (IntKind.i64.wrap (x14 + 1)))) | .out e162 => (some (.out (.inl ())))) else (some (.out (.inr ()))))
def g_ref07_Name (s_0 : List UInt8) : Option (Bool) :=
  (((if (decide ((s_0.length : Int) < 1)) then (some true) else (some (decide (16 < (s_0.length : Int))))) : Option (Bool)).bind fun v5 => (if v5 then (some false) else ((iter (g_ref07_Name_s1 s_0) 0).bind fun e15 => (match e15 with | Sum.inl e15 => (some false) | Sum.inr (e15) => (some true)))))
theorem a_ref07_Name {I : World → Prop} (hI : Stab I) {s_0 : List UInt8} {r : Bool} (h : g_ref07_Name s_0 = some r) : AFun Tryz.prog I 69 [.str s_0] (.bool r) := by
  have dd := dd_EE; have k := True.intro; have q := k; have rs := Tryz.results69
  unfold g_ref07_Name at h
  refine .en hI Tryz.func69 Tryz.ntmps69 ?_
  refine xs <| rz ?_
  refine es <| xs ?_
  obtain ⟨v5, h8, h⟩ := bs h
  refine rb_cut (fun v5 => ⟨envL [(0, .str s_0), (12, .bool v5)], heapL [], 0, 54⟩) h8 ?_ ?_
  · clear h
    intro v5 h
    refine rK fun K6 RK6 hK6 gK6 => zz ?_
    rcases iK k h with ⟨k, h⟩ | ⟨k, h⟩
    · refine zz ?_
      subst hK6 gK6
      cases h
      exact en ⟨rfl, wk []⟩
    · refine zz ?_
      subst hK6 gK6
      cases h
      exact en ⟨rfl, wk []⟩
  · rcases iK k h with ⟨k, h⟩ | ⟨k, h⟩
    · refine xt <| xs <| rz ?_
      refine es <| xr <| er ?_
      cases h
      exact en fr
    · refine xf <| xk <| es <| xs <| xs <| rz ?_
      refine es <| xb ?_
      obtain ⟨e15, h164, h⟩ := bs h
      refine rb_loop (fun x14 => ⟨envL [(0, .str s_0), (3, .int .i64 x14)], heapL [], 0, 54⟩) (fun w => match w with | Sum.inl _ => .ret | Sum.inr (_) => .exit 0) (fun w => match w with | Sum.inl e15 => ⟨envL [(2, .bool false)], heapL [], 0, 54⟩ | Sum.inr (e15) => ⟨envL [], heapL [], 0, 54⟩) h164 (wk []) (by intro w; rcases w with w | w <;> simp) ?_ ?_
      · clear h
        intro x14 y h
        unfold g_ref07_Name_s1 at h
        refine xs <| xs <| rz ?_
        refine es ?_
        rcases iK k h with ⟨k, h⟩ | ⟨k, h⟩
        · refine xt <| xk <| es ?_
          obtain ⟨w161, h160, h⟩ := bs h
          refine rb_seg (fun v126 => ⟨envL [(0, .str s_0), (3, .int .i64 x14)], heapL [], 0, 54⟩) (fun _ => .ret) (fun e162 => ⟨envL [(2, .bool false)], heapL [], 0, 54⟩) h160 (by intro w; simp) ?_ ?_ ?_
          · clear h
            intro w161 h
            refine xb ?_
            obtain ⟨v131, h136, h⟩ := bs h
            refine rb_cut (fun v131 => ⟨envL [(0, .str s_0), (3, .int .i64 x14), (4, .bool v131)], heapL [], 0, 54⟩) h136 ?_ ?_
            · clear h
              intro v131 h
              refine rK fun K132 RK132 hK132 gK132 => zz ?_
              obtain ⟨b133, q, h⟩ := bK q h
              refine zz ?_
              rcases iK k h with ⟨k, h⟩ | ⟨k, h⟩
              · refine zz ?_
                subst hK132 gK132
                cases h
                exact en ⟨rfl, wk []⟩
              · refine zz ?_
                subst hK132 gK132
                cases h
                exact en ⟨rfl, wk []⟩
            · refine xs <| rK fun K146 RK146 hK146 gK146 => zz ?_
              rcases iK k h with ⟨k, h⟩ | ⟨k, h⟩
              · refine zz ?_
                subst hK146 gK146
                refine es <| xf <| xk <| bn ?_
                cases h
                exact en ⟨rfl, wk []⟩
              · refine zz ?_
                rcases iK k h with ⟨k, h⟩ | ⟨k, h⟩
                · refine zz ?_
                  subst hK146 gK146
                  refine es <| xt <| xs <| rz ?_
                  refine es <| xr <| br ?_
                  cases h
                  exact en ⟨rfl, wk []⟩
                · refine zz ?_
                  obtain ⟨b151, q, h⟩ := bK q h
                  refine zz ?_
                  obtain ⟨r153, h154, h⟩ := bs h
                  refine cw (a_ref07_digit hI h154) <| zz ?_
                  rcases iK k h with ⟨k, h⟩ | ⟨k, h⟩
                  · refine zz ?_
                    subst hK146 gK146
                    refine es <| xf <| xk <| bn ?_
                    cases h
                    exact en ⟨rfl, wk []⟩
                  · refine zz ?_
                    rcases iK k h with ⟨k, h⟩ | ⟨k, h⟩
                    · refine zz ?_
                      subst hK146 gK146
                      refine es ?_
                      rcases iK k h with ⟨k, h⟩ | ⟨k, h⟩
                      · refine xt <| xs <| rz ?_
                        refine es <| xr <| br ?_
                        cases h
                        exact en ⟨rfl, wk []⟩
                      · refine xf <| xk <| bn ?_
                        cases h
                        exact en ⟨rfl, wk []⟩
                    · refine zz ?_
                      subst hK146 gK146
                      refine es <| xf <| xk <| bn ?_
                      cases h
                      exact en ⟨rfl, wk []⟩
          · rintro v126 rfl
            dsimp only at h
            refine rz ?_
            cases h
            exact en ⟨rfl, wk []⟩
          · rintro e162 rfl
            dsimp only at h
            cases h
            exact en ⟨rfl, wk []⟩
        · refine xf <| xx <| ee ?_
          cases h
          exact en ⟨rfl, wk []⟩
      · rcases e15 with e15 | e15
        · try dsimp only at h ⊢
          refine br <| er ?_
          cases h
          exact en fr
        · try dsimp only at h ⊢
          refine bh <| es <| xs <| rz ?_
          refine es <| xr ?_
          cases h
          exact en fr
def g_ref07_Quote_s1 (s_0 : List UInt8) (x7 : (List UInt8) × Int) : Option (Nx ((List UInt8) × Int) ((List UInt8))) :=
  (if (decide (x7.2 < (s_0.length : Int))) then ((((atI s_0 x7.2).bind fun b176 => (if ((b176.toNat : Int) == 34) then ((subI s_0 x7.2 (IntKind.i64.wrap (x7.2 + 1))).bind fun z182 => (if 1 + z182.length ≤ 9223372036854775807 then (if x7.1.length + (1 + z182.length) ≤ 9223372036854775807 then (some (x7.1 ++ ([92] ++ z182))) else none) else none)) else (if ((b176.toNat : Int) == 92) then ((subI s_0 x7.2 (IntKind.i64.wrap (x7.2 + 1))).bind fun z196 => (if 1 + z196.length ≤ 9223372036854775807 then (if x7.1.length + (1 + z196.length) ≤ 9223372036854775807 then (some (x7.1 ++ ([92] ++ z196))) else none) else none)) else (if ((b176.toNat : Int) == 10) then (if x7.1.length + 2 ≤ 9223372036854775807 then (some (x7.1 ++ [92, 110])) else none) else ((subI s_0 x7.2 (IntKind.i64.wrap (x7.2 + 1))).bind fun z214 => (if x7.1.length + z214.length ≤ 9223372036854775807 then (some (x7.1 ++ z214)) else none)))))) : Option ((List UInt8))).bind fun v171 => (some (.go (v171, (IntKind.i64.wrap (x7.2 + 1)))))) else (some (.out x7.1)))
def g_ref07_Quote (s_0 : List UInt8) : Option ((List UInt8)) :=
  ((iter (g_ref07_Quote_s1 s_0) ([34], 0)).bind fun e8 => (if e8.length + 1 ≤ 9223372036854775807 then (some (e8 ++ [34])) else none))
theorem a_ref07_Quote {I : World → Prop} (hI : Stab I) {s_0 : List UInt8} {r : (List UInt8)} (h : g_ref07_Quote s_0 = some r) : AFun Tryz.prog I 44 [.str s_0] (.str r) := by
  have dd := dd_EE; have k := True.intro; have q := k; have rs := Tryz.results44
  unfold g_ref07_Quote at h
  refine .en hI Tryz.func44 Tryz.ntmps44 ?_
  refine xs <| rz ?_
  refine es <| xs <| rz ?_
  refine es <| xs <| xs <| rz ?_
  refine es <| xb ?_
  obtain ⟨e8, h225, h⟩ := bs h
  refine rb_loop (fun x7 => ⟨envL [(0, .str s_0), (3, .str x7.1), (4, .int .i64 x7.2)], heapL [], 0, 38⟩) (fun _ => .exit 0) (fun e8 => ⟨envL [(3, .str e8)], heapL [], 0, 38⟩) h225 (wk []) (by intro w; simp) ?_ ?_
  · clear h
    intro x7 y h
    unfold g_ref07_Quote_s1 at h
    refine xs <| xs <| rz ?_
    refine es ?_
    rcases iK k h with ⟨k, h⟩ | ⟨k, h⟩
    · refine xt <| xk <| es ?_
      obtain ⟨v171, h223, h⟩ := bs h
      refine rb_cut (fun v171 => ⟨envL [(0, .str s_0), (3, .str v171), (4, .int .i64 x7.2)], heapL [], 0, 38⟩) h223 ?_ ?_
      · clear h
        intro v171 h
        refine xb <| xs <| rK fun K175 RK175 hK175 gK175 => zz ?_
        obtain ⟨b176, q, h⟩ := bK q h
        refine zz ?_
        subst hK175 gK175
        refine es <| xb <| xs <| xs <| rz ?_
        refine es ?_
        rcases iK k h with ⟨k, h⟩ | ⟨k, h⟩
        · refine xt <| xk <| es <| xt <| rK fun K181 RK181 hK181 gK181 => zz ?_
          obtain ⟨z182, h183, h⟩ := bind_some h
          obtain ⟨⟨h184, h185, h186, h187⟩, h188⟩ := subI_some h183
          have q := And.intro @h184 <| And.intro @h185 <| And.intro @h186 <| And.intro @h187 <| q
          try simp -implicitDefEqProofs only [vt, vm, sevalprocAttr, dd, k, q] at h188
          have q := And.intro @h188 <| q
          refine zz ?_
          obtain ⟨h189, h⟩ := ite_on h
          have h190 : ([92] : List UInt8).length + z182.length ≤ 9223372036854775807 := by (try simp only [List.length_append, List.length_cons, List.length_nil]); omega
          try simp -implicitDefEqProofs only [vt, vm, sevalprocAttr, dd, k, q] at h190
          have q := And.intro @h190 <| And.intro @h189 <| q
          refine zz ?_
          obtain ⟨h191, h⟩ := ite_on h
          have h192 : x7.1.length + ([92] ++ z182).length ≤ 9223372036854775807 := by (try simp only [List.length_append, List.length_cons, List.length_nil]); omega
          try simp -implicitDefEqProofs only [vt, vm, sevalprocAttr, dd, k, q] at h192
          have q := And.intro @h192 <| And.intro @h191 <| q
          refine zz ?_
          subst hK181 gK181
          refine bn <| bn ?_
          cases h
          exact en ⟨rfl, wk []⟩
        · refine xf <| rz ?_
          refine es ?_
          rcases iK k h with ⟨k, h⟩ | ⟨k, h⟩
          · refine xt <| rK fun K195 RK195 hK195 gK195 => zz ?_
            obtain ⟨z196, h197, h⟩ := bind_some h
            obtain ⟨⟨h198, h199, h200, h201⟩, h202⟩ := subI_some h197
            have q := And.intro @h198 <| And.intro @h199 <| And.intro @h200 <| And.intro @h201 <| q
            try simp -implicitDefEqProofs only [vt, vm, sevalprocAttr, dd, k, q] at h202
            have q := And.intro @h202 <| q
            refine zz ?_
            obtain ⟨h203, h⟩ := ite_on h
            have h204 : ([92] : List UInt8).length + z196.length ≤ 9223372036854775807 := by (try simp only [List.length_append, List.length_cons, List.length_nil]); omega
            try simp -implicitDefEqProofs only [vt, vm, sevalprocAttr, dd, k, q] at h204
            have q := And.intro @h204 <| And.intro @h203 <| q
            refine zz ?_
            obtain ⟨h205, h⟩ := ite_on h
            have h206 : x7.1.length + ([92] ++ z196).length ≤ 9223372036854775807 := by (try simp only [List.length_append, List.length_cons, List.length_nil]); omega
            try simp -implicitDefEqProofs only [vt, vm, sevalprocAttr, dd, k, q] at h206
            have q := And.intro @h206 <| And.intro @h205 <| q
            refine zz ?_
            subst hK195 gK195
            refine bn <| bn ?_
            cases h
            exact en ⟨rfl, wk []⟩
          · refine xf <| xs <| rz ?_
            refine es ?_
            rcases iK k h with ⟨k, h⟩ | ⟨k, h⟩
            · refine xt <| rK fun K210 RK210 hK210 gK210 => zz ?_
              obtain ⟨h211, h⟩ := ite_on h
              have h212 : x7.1.length + ([92, 110] : List UInt8).length ≤ 9223372036854775807 := by (try simp only [List.length_append, List.length_cons, List.length_nil]); omega
              try simp -implicitDefEqProofs only [vt, vm, sevalprocAttr, dd, k, q] at h212
              have q := And.intro @h212 <| And.intro @h211 <| q
              refine zz ?_
              subst hK210 gK210
              refine bn <| bn ?_
              cases h
              exact en ⟨rfl, wk []⟩
            · refine xf <| rK fun K213 RK213 hK213 gK213 => zz ?_
              obtain ⟨z214, h215, h⟩ := bind_some h
              obtain ⟨⟨h216, h217, h218, h219⟩, h220⟩ := subI_some h215
              have q := And.intro @h216 <| And.intro @h217 <| And.intro @h218 <| And.intro @h219 <| q
              try simp -implicitDefEqProofs only [vt, vm, sevalprocAttr, dd, k, q] at h220
              have q := And.intro @h220 <| q
              refine zz ?_
              obtain ⟨h221, h⟩ := ite_on h
              have h222 : x7.1.length + z214.length ≤ 9223372036854775807 := by (try simp only [List.length_append, List.length_cons, List.length_nil]); omega
              try simp -implicitDefEqProofs only [vt, vm, sevalprocAttr, dd, k, q] at h222
              have q := And.intro @h222 <| And.intro @h221 <| q
              refine zz ?_
              subst hK213 gK213
              refine bn <| bn ?_
              cases h
              exact en ⟨rfl, wk []⟩
      · refine rz ?_
        cases h
        exact en ⟨rfl, wk []⟩
    · refine xf <| xx <| ee ?_
      cases h
      exact en ⟨rfl, wk []⟩
  · refine bh <| es <| xs <| rK fun K229 RK229 hK229 gK229 => zz ?_
    obtain ⟨h230, h⟩ := ite_on h
    have h231 : e8.length + ([34] : List UInt8).length ≤ 9223372036854775807 := by (try simp only [List.length_append, List.length_cons, List.length_nil]); omega
    try simp -implicitDefEqProofs only [vt, vm, sevalprocAttr, dd, k, q] at h231
    have q := And.intro @h231 <| And.intro @h230 <| q
    refine zz ?_
    subst hK229 gK229
    refine es <| xr ?_
    cases h
    exact en fr
end Go.Proofs.YtnjjdbljoligdaaGreatDoor
namespace Go.Proofs.YtnjjdbljoligdaaGreatDoor
set_option maxRecDepth 100000
inductive QR where
  | ok (text : List UInt8) (n : Nat)
  | bad (n : Nat)
  | stop
theorem drop_cons {s : List UInt8} {i : Nat} (h : i < s.length) : s.drop i = s[i] :: s.drop (i + 1) := List.drop_eq_getElem_cons h
theorem sub1 {s : List UInt8} {i : Nat} (h : i < s.length) : subI s (i : Int) ((i : Int) + 1) = some [s[i]] := by
  unfold subI
  rw [if_pos (by omega)]
  have : ((i : Int) + 1).toNat - (i : Int).toNat = 1 := by omega
  rw [this, Int.toNat_natCast, drop_cons h, List.take_succ_cons, List.take_zero]
inductive FR where
  | ok (l : List T_api_Field)
  | bad (n : Nat)
def FR.cons (f : T_api_Field) : FR → FR
  | .ok l => .ok (f :: l)
  | .bad n => .bad n
def nmB (b : UInt8) : Bool := (decide (65 ≤ b.toNat) && decide (b.toNat ≤ 90)) || (decide (48 ≤ b.toNat) && decide (b.toNat ≤ 57)) || b.toNat == 95 || b.toNat == 45
def isNm (s : List UInt8) : Bool := match s with
  | [] => false
  | b :: _ => decide (s.length ≤ 16) && (decide (65 ≤ b.toNat) && decide (b.toNat ≤ 90)) && s.all nmB
theorem isNm_at (s : List UInt8) (h1 : 1 ≤ s.length) : isNm s = true ↔ (s.length ≤ 16 ∧ (65 ≤ s[0].toNat ∧ s[0].toNat ≤ 90) ∧ ∀ i (h : i < s.length), nmB s[i] = true) := by
  match s, h1 with
  | b :: t, _ =>
    simp only [isNm, Bool.and_eq_true, decide_eq_true_eq, List.all_eq_true]
    constructor
    · rintro ⟨⟨h1, h2⟩, h3⟩
      exact ⟨h1, by simpa using h2, fun i h => h3 _ (List.getElem_mem h)⟩
    · rintro ⟨h1, h2, h3⟩
      refine ⟨⟨h1, by simpa using h2⟩, fun x hx => ?_⟩
      obtain ⟨i, hi, rfl⟩ := List.getElem_of_mem hx
      exact h3 i hi
theorem lines_Name_loop (s : List UInt8) (hs : s.length ≤ 16) : ∃ e, iter (g_lines_Name_s1 s) 0 = some e ∧ (e = .inr () ↔ ∀ i (h : i < s.length), nmB s[i] = true) := by
  refine iter_cnt s.length (by omega) (fun n => ∀ i (h : i < s.length), i < n → nmB s[i] = true) _ (by intro i _ h; omega) ?_ ?_
  · intro i hi hI
    have hw := wrap_i64 ((i : Int) + 1) (by omega) (by omega)
    simp only [g_lines_Name_s1, atI_nat hi, Option.bind_some, hw]
    have hb := u8lt s[i]
    have hk : nmB s[i] = true ∨ nmB s[i] = false := by cases nmB s[i] <;> simp
    rcases hk with hk | hk
    · left
      refine ⟨?_, fun j hj hlt => ?_⟩
      · simp only [nmB] at hk; grind
      · by_cases hji : j = i
        · subst hji; exact hk
        · exact hI j hj (by omega)
    · right
      refine ⟨.inl (), ?_, ?_⟩
      · simp only [nmB] at hk; grind
      · simp only [reduceCtorEq, false_iff]
        intro h
        have := h i hi
        simp [hk] at this
  · intro hI
    refine ⟨.inr (), by simp [g_lines_Name_s1], ?_⟩
    simp only [true_iff]
    exact fun i h => hI i h h
theorem lines_Name_eq (s : List UInt8) : g_lines_Name s = some (isNm s) := by
  by_cases h0 : s.length < 1
  · match s, h0 with
    | [], _ => rfl
  · by_cases h1 : s.length ≤ 16
    · obtain ⟨e, he, hi⟩ := lines_Name_loop s h1
      have hn := isNm_at s (by omega)
      have h0' : atI s 0 = some s[0] := atI_nat (n := 0) (by omega)
      simp only [g_lines_Name, he, h0', Option.bind_some]
      rcases e with ⟨⟩ | ⟨⟩ <;> grind
    · have : isNm s = false := by
        cases hh : isNm s with
        | false => rfl
        | true => exact absurd ((isNm_at s (by omega)).1 hh).1 h1
      simp only [g_lines_Name, this]
      grind
theorem digit_eq (c : Int) : g_ref07_digit c = some (decide (48 ≤ c) && decide (c ≤ 57)) := by
  simp only [g_ref07_digit]; grind
theorem ref07_Name_loop (s : List UInt8) (hs : s.length ≤ 16) (hs1 : 1 ≤ s.length) : ∃ e, iter (g_ref07_Name_s1 s) 0 = some e ∧ (e = .inr () ↔ (65 ≤ s[0].toNat ∧ s[0].toNat ≤ 90) ∧ ∀ i (h : i < s.length), nmB s[i] = true) := by
  refine iter_cnt s.length (by omega) (fun n => (0 < n → 65 ≤ s[0].toNat ∧ s[0].toNat ≤ 90) ∧ ∀ i (h : i < s.length), i < n → nmB s[i] = true) _ ⟨by omega, by intro i _ h; omega⟩ ?_ ?_
  · intro i hi ⟨hI0, hI⟩
    have hw := wrap_i64 ((i : Int) + 1) (by omega) (by omega)
    simp only [g_ref07_Name_s1, atI_nat hi, Option.bind_some, hw, digit_eq]
    have hb := u8lt s[i]
    by_cases hk : nmB s[i] = true ∧ (i = 0 → 65 ≤ s[0].toNat ∧ s[0].toNat ≤ 90)
    · left
      obtain ⟨hk, hk0⟩ := hk
      refine ⟨?_, fun _ => ?_, fun j hj hlt => ?_⟩
      · simp only [nmB] at hk
        by_cases h0 : i = 0
        · subst h0; grind
        · grind
      · by_cases h0 : i = 0
        · exact hk0 h0
        · exact hI0 (by omega)
      · by_cases hji : j = i
        · subst hji; exact hk
        · exact hI j hj (by omega)
    · right
      refine ⟨.inl (), ?_, ?_⟩
      · simp only [nmB] at hk
        by_cases h0 : i = 0
        · subst h0; grind
        · grind
      · simp only [reduceCtorEq, false_iff]
        rintro ⟨h1, h2⟩
        exact hk ⟨h2 i hi, fun _ => h1⟩
  · intro ⟨hI0, hI⟩
    refine ⟨.inr (), by simp [g_ref07_Name_s1], ?_⟩
    simp only [true_iff]
    exact ⟨hI0 (by omega), fun i h => hI i h h⟩
theorem ref07_Name_eq (s : List UInt8) : g_ref07_Name s = some (isNm s) := by
  by_cases h0 : s.length < 1
  · match s, h0 with
    | [], _ => rfl
  · by_cases h1 : s.length ≤ 16
    · obtain ⟨e, he, hi⟩ := ref07_Name_loop s h1 (by omega)
      have hn := isNm_at s (by omega)
      simp only [g_ref07_Name, he, Option.bind_some]
      rcases e with ⟨⟩ | ⟨⟩ <;> grind
    · have : isNm s = false := by
        cases hh : isNm s with
        | false => rfl
        | true => exact absurd ((isNm_at s (by omega)).1 hh).1 h1
      simp only [g_ref07_Name, this]
      grind
theorem wrap_u64 (x : Int) (h : 0 ≤ x) (h' : x ≤ 18446744073709551615) : IntKind.u64.wrap x = x := by
  simp [IntKind.wrap, IntKind.bits, IntKind.signed]
  omega
theorem decDigits_len (u : Nat) (hu : u ≤ 18446744073709551615) : (Lib.decDigits u).length ≤ 20 := by
  rw [Lib.decDigits_length]; exact Lib.nDigits_le20 u (by omega)
def quB (b : UInt8) : List UInt8 := if b.toNat = 34 ∨ b.toNat = 92 then [92, b] else if b.toNat = 10 then [92, 110] else [b]
def quS (s : List UInt8) : List UInt8 := 34 :: (s.flatMap quB ++ [34])
theorem toI_append (l m : List UInt8) : toI (l ++ m) = toI l ++ toI m := by simp [toI]
theorem quB_len (b : UInt8) : (quB b).length ≤ 2 := by
  unfold quB; split
  · simp
  · split <;> simp
theorem qu_len : ∀ (s : List UInt8), (s.flatMap quB).length ≤ 2 * s.length
  | [] => by simp
  | b :: t => by
    have := qu_len t; have := quB_len b
    simp only [List.flatMap_cons, List.length_append, List.length_cons]; omega
theorem qu_take {s : List UInt8} {i : Nat} (h : i < s.length) : (s.take (i + 1)).flatMap quB = (s.take i).flatMap quB ++ quB s[i] := by
  rw [List.take_add_one, List.getElem?_eq_getElem h]; simp only [List.flatMap_append, Option.toList_some, List.flatMap_cons, List.flatMap_nil, List.append_nil]
theorem take_len (s : List UInt8) (i : Nat) : ((s.take i).flatMap quB).length ≤ 2 * s.length := by
  have h1 := qu_len (s.take i)
  have h2 : (s.take i).length ≤ s.length := by simp; omega
  omega
theorem lines_Quote_loop (s : List UInt8) (hs : s.length ≤ 70000000000000) : iter (g_lines_Quote_s1 s) (0, [34]) = some (toI (34 :: s.flatMap quB)) := by
  refine iter_of (fun x e => ∃ i : Nat, x.1 = (i : Int) ∧ i ≤ s.length ∧ x.2 = toI (34 :: (s.take i).flatMap quB) ∧ e = toI (34 :: s.flatMap quB)) (fun x => s.length - x.1.toNat) ?_ (x := (0, [34])) ⟨0, rfl, Nat.zero_le _, by simp [toI], rfl⟩ (by show s.length - _ < _; omega)
  rintro ⟨z, acc⟩ e ⟨i, hz, hi, ha, rfl⟩
  simp only at hz ha ⊢
  subst hz ha
  by_cases h : i < s.length
  · left
    have hw := wrap_i64 ((i : Int) + 1) (by omega) (by omega)
    have hcnd : decide ((i : Int) < (s.length : Int)) = true := by simpa using h
    have hl := take_len s i
    have hlen : (toI (34 :: (s.take i).flatMap quB)).length = ((s.take i).flatMap quB).length + 1 := by simp [toI]
    refine ⟨((i : Int) + 1, toI (34 :: (s.take (i + 1)).flatMap quB)), ?_, ⟨i + 1, by simp, by omega, (by first | rfl | trivial), (by first | rfl | trivial)⟩, by simp; omega⟩
    have e1 : toI (34 :: (s.take (i + 1)).flatMap quB) = toI (34 :: (s.take i).flatMap quB) ++ toI (quB s[i]) := by
      rw [qu_take h, ← List.cons_append, toI_append]
    rw [e1]
    generalize hA : toI (34 :: (s.take i).flatMap quB) = A at hlen ⊢
    have g2 : (A.length + 2) * 1 ≤ 140737488355328 := by omega
    have g1 : (A.length + 1) * 1 ≤ 140737488355328 := by omega
    simp only [g_lines_Quote_s1, hcnd, if_true, atI_nat h, Option.bind_some, hw, g1, g2, quB, beq_iff_eq]
    by_cases h1 : s[i].toNat = 34
    · simp [h1, toI]
    · by_cases h2 : s[i].toNat = 92
      · simp [h2, toI]
      · by_cases h3 : s[i].toNat = 10
        · simp [h3, toI]
        · have k1 : ¬ ((s[i].toNat : Int) = 34) := by omega
          have k2 : ¬ ((s[i].toNat : Int) = 92) := by omega
          have k3 : ¬ ((s[i].toNat : Int) = 10) := by omega
          simp [h1, h2, h3, k1, k2, k3, toI]
  · right
    obtain rfl : i = s.length := by omega
    simp [g_lines_Quote_s1]
theorem lines_Quote_eq (s : List UInt8) (hs : s.length ≤ 70000000000000) : g_lines_Quote s = some (quS s) := by
  have hl := qu_len s
  have g1 : ((toI (34 :: s.flatMap quB)).length + 1) * 1 ≤ 140737488355328 := by simp only [toI, List.length_map, List.length_cons]; omega
  have : toI (34 :: s.flatMap quB) ++ [34] = toI (quS s) := by simp [toI, quS]
  simp only [g_lines_Quote, lines_Quote_loop s hs, Option.bind_some, g1, if_true, this, bytesOf_toI]
theorem ref_Quote_loop (s : List UInt8) (hs : s.length ≤ 70000000000000) : iter (g_ref07_Quote_s1 s) ([34], 0) = some (34 :: s.flatMap quB) := by
  refine iter_of (fun x e => ∃ i : Nat, x.2 = (i : Int) ∧ i ≤ s.length ∧ x.1 = 34 :: (s.take i).flatMap quB ∧ e = 34 :: s.flatMap quB) (fun x => s.length - x.2.toNat) ?_ (x := ([34], 0)) ⟨0, rfl, Nat.zero_le _, by simp, rfl⟩ (by show s.length - _ < _; omega)
  rintro ⟨acc, z⟩ e ⟨i, hz, hi, ha, rfl⟩
  simp only at hz ha ⊢
  subst hz ha
  by_cases h : i < s.length
  · left
    have hw := wrap_i64 ((i : Int) + 1) (by omega) (by omega)
    have hcnd : decide ((i : Int) < (s.length : Int)) = true := by simpa using h
    have hl := take_len s i
    have hlen : (34 :: (s.take i).flatMap quB).length = ((s.take i).flatMap quB).length + 1 := by simp
    refine ⟨(34 :: (s.take (i + 1)).flatMap quB, (i : Int) + 1), ?_, ⟨i + 1, by simp, by omega, (by first | rfl | trivial), (by first | rfl | trivial)⟩, by simp; omega⟩
    have e1 : 34 :: (s.take (i + 1)).flatMap quB = (34 :: (s.take i).flatMap quB) ++ quB s[i] := by
      rw [qu_take h, ← List.cons_append]
    rw [e1]
    generalize hA : 34 :: (s.take i).flatMap quB = A at hlen ⊢
    have g2 : A.length + 2 ≤ 9223372036854775807 := by omega
    have g1 : A.length + 1 ≤ 9223372036854775807 := by omega
    have g3 : A.length + (1 + 1) ≤ 9223372036854775807 := by omega
    simp only [g_ref07_Quote_s1, hcnd, if_true, atI_nat h, Option.bind_some, hw, sub1 h, quB, beq_iff_eq]
    by_cases h1 : s[i].toNat = 34
    · simp [h1, g1, g2, g3]
    · by_cases h2 : s[i].toNat = 92
      · simp [h2, g1, g2, g3]
      · by_cases h3 : s[i].toNat = 10
        · simp [h3, g1, g2, g3]
        · have k1 : ¬ ((s[i].toNat : Int) = 34) := by omega
          have k2 : ¬ ((s[i].toNat : Int) = 92) := by omega
          have k3 : ¬ ((s[i].toNat : Int) = 10) := by omega
          simp [h1, h2, h3, k1, k2, k3, g1]
  · right
    obtain rfl : i = s.length := by omega
    simp [g_ref07_Quote_s1]
theorem ref_Quote_eq (s : List UInt8) (hs : s.length ≤ 70000000000000) : g_ref07_Quote s = some (quS s) := by
  have hl := qu_len s
  have g1 : (34 :: s.flatMap quB).length + 1 ≤ 9223372036854775807 := by simp only [List.length_cons]; omega
  simp only [g_ref07_Quote, ref_Quote_loop s hs, Option.bind_some, g1, if_true, quS, List.cons_append]
theorem Decimal_eq (n : Int) : g_lines_Decimal n = some (Lib.itoa n) := by
  simp [g_lines_Decimal, g_strconv_FormatInt]
theorem nm_len {s : List UInt8} (h : isNm s = true) : 1 ≤ s.length ∧ s.length ≤ 16 := by
  cases s with
  | nil => simp [isNm] at h
  | cons b t => simp only [isNm, Bool.and_eq_true, decide_eq_true_eq] at h; exact ⟨by simp, h.1.1⟩
theorem itoa_len {n : Int} (h : -9223372036854775808 ≤ n ∧ n ≤ 9223372036854775807) : (Lib.itoa n).length ≤ 21 := Lib.itoa_length_le n h.1 h.2
end Go.Proofs.YtnjjdbljoligdaaGreatDoor
namespace Go.Proofs.YtnjjdbljoligdaaGreatDoor
set_option maxRecDepth 100000
theorem gcd_iter {step : Int × Int → Option (Nx (Int × Int) Int)} (hst : ∀ x, step x = (if (x.2 != 0) = true then (if ¬ x.2 = 0 then some (.go (x.2, Int.tmod x.1 x.2)) else none) else some (.out x.1))) (a b : Nat) (hb : b < 73786976294838206464) : iter step ((a : Int), (b : Int)) = some ((Nat.gcd a b : Nat) : Int) := by
  refine iter_of (fun x e => ∃ m n : Nat, x = ((m : Int), (n : Int)) ∧ e = ((Nat.gcd m n : Nat) : Int)) (fun x => x.2.toNat) ?_ ⟨a, b, rfl, rfl⟩ (by simpa using hb)
  rintro x e ⟨m, n, rfl, rfl⟩
  rw [hst]
  by_cases h : n = 0
  · subst h; right; simp
  · left
    have h1 : ((n : Int) != 0) = true := by simp; omega
    have h2 : ¬ ((n : Nat) : Int) = 0 := by omega
    dsimp only
    rw [if_pos h1, if_pos h2]
    have h3 : Int.tmod (m : Int) (n : Int) = ((m % n : Nat) : Int) := by rw [Int.tmod_eq_emod_of_nonneg (by omega)]; simp
    refine ⟨_, rfl, ⟨n, m % n, by rw [h3], ?_⟩, ?_⟩
    · rw [Nat.gcd_comm m n, Nat.gcd_rec n m, Nat.gcd_comm]
    · dsimp only
      rw [h3]
      have := Nat.mod_lt m (Nat.pos_of_ne_zero h)
      simp only [Int.toNat_natCast]; exact this
def gcS (a b : Int) : Int := ((Nat.gcd a.natAbs b.natAbs : Nat) : Int)
theorem max_abs {a : Int} (h : -9223372036854775807 ≤ a ∧ a ≤ 9223372036854775807) : (if IntKind.i64.wrap (0 - a) > a then IntKind.i64.wrap (0 - a) else a) = ((a.natAbs : Nat) : Int) := by
  rw [wr64 (by omega)]
  split <;> omega
theorem prog_Gcd {a b : Int} (ha : -9223372036854775807 ≤ a ∧ a ≤ 9223372036854775807) (hb : -9223372036854775807 ≤ b ∧ b ≤ 9223372036854775807) : g_ratio_Gcd a b = some (gcS a b) := by
  unfold g_ratio_Gcd
  rw [if_neg (by simp; omega)]
  simp only [Option.bind_some]
  rw [if_neg (by simp; omega), max_abs ha, max_abs hb, gcd_iter (fun x => by unfold g_ratio_Gcd_s1; rfl) _ _ (by omega)]
  rfl
theorem ref_Gcd {a b : Int} (ha : -9223372036854775807 ≤ a ∧ a ≤ 9223372036854775807) (hb : -9223372036854775807 ≤ b ∧ b ≤ 9223372036854775807) : g_ref01_Gcd a b = some (gcS a b) := by
  have hs : ∀ x : Int, -9223372036854775807 ≤ x ∧ x ≤ 9223372036854775807 → g_ref01_Size x = some ((x.natAbs : Nat) : Int) := by
    intro x hx
    unfold g_ref01_Size
    by_cases h : x < 0
    · rw [if_pos (by simpa using h), wr64 (by omega)]
      congr 1; omega
    · rw [if_neg (by simpa using h)]
      congr 1; omega
  unfold g_ref01_Gcd
  rw [if_neg (by simp; omega)]
  simp only [Option.bind_some]
  rw [if_neg (by simp; omega), hs a ha, hs b hb]
  simp only [Option.bind_some]
  rw [gcd_iter (fun x => by unfold g_ref01_Gcd_s1; rfl) _ _ (by omega)]
  rfl
def inP (x : T_api_Ratio) : Prop := -2147483648 ≤ x.Num ∧ x.Num ≤ 2147483648 ∧ 1 ≤ x.Den ∧ x.Den ≤ 2147483648
instance (x : T_api_Ratio) : Decidable (inP x) := by unfold inP; infer_instance
def vR (x : T_api_Ratio) : Bool := decide (inP x) && (gcS x.Num x.Den == 1)
theorem ratio_Valid (x : T_api_Ratio) : g_ratio_Valid x = some (vR x) := by
  have hp : g_ratio_inParts x.Num x.Den = some (decide (inP x)) := by
    unfold g_ratio_inParts inP
    by_cases h1 : -2147483648 ≤ x.Num <;> by_cases h2 : x.Num ≤ 2147483648 <;> by_cases h3 : 1 ≤ x.Den <;> by_cases h4 : x.Den ≤ 2147483648 <;> simp [h1, h2, h3, h4]
  unfold g_ratio_Valid vR
  rw [hp]
  simp only [Option.bind_some]
  by_cases h : inP x
  · have h' := h
    unfold inP at h'
    rw [if_pos (by simpa using h), prog_Gcd (by omega) (by omega)]
    simp [h]
  · rw [if_neg (by simpa using h)]
    simp [h]
theorem ref_ratio_Valid (x : T_api_Ratio) : g_ref01_Valid x = some (vR x) := by
  unfold g_ref01_Valid vR
  by_cases h : inP x
  · have h' := h
    unfold inP at h'
    rw [if_pos (by simpa using h'.2.2.1), if_pos (by simpa using h'.2.2.2), if_pos (by simpa using h'.1), if_pos (by simpa using h'.2.1), ref_Gcd (by omega) (by omega)]
    simp [h]
  · have h' := h
    unfold inP at h'
    by_cases h1 : -2147483648 ≤ x.Num <;> by_cases h2 : x.Num ≤ 2147483648 <;> by_cases h3 : 1 ≤ x.Den <;> by_cases h4 : x.Den ≤ 2147483648 <;> simp [h1, h2, h3, h4] <;> simp_all
theorem size_nn {n : Int} (h : 0 ≤ n ∧ n ≤ 9223372036854775807) : g_ratio_size n = some n := by
  unfold g_ratio_size
  rw [if_neg (by simp; omega), wrap_u64 n (by omega) (by omega)]
theorem Quot_floor {n d : Int} (hn : 0 ≤ n ∧ n ≤ 9223372036854775807) (hd : 1 ≤ d ∧ d ≤ 9223372036854775807) : g_ratio_Quotient n d 1 = some (n / d, 0) := by
  have hq : 0 ≤ n / d ∧ n / d ≤ n := ⟨Int.ediv_nonneg hn.1 (by omega), Int.ediv_le_self _ hn.1⟩
  have ha : ∀ r, g_ratio_away false r d 1 = some false := by
    intro r
    unfold g_ratio_away
    by_cases h : (r == 0) = true
    · rw [if_pos h]
    · rw [if_neg h]; rfl
  unfold g_ratio_Quotient
  rw [if_neg (by simp; omega)]
  simp only [show g_ratio_known 1 = some true from rfl, Option.bind_some, if_true, size_nn hn, size_nn (n := d) (by omega)]
  rw [if_pos (by omega), if_pos (by omega)]
  have e1 : decide (n < 0) = false := by simp; omega
  have e2 : decide (d < 0) = false := by simp; omega
  simp only [e1, e2, beq_self_eq_true, Bool.not_true, ha, Option.bind_some, Bool.false_eq_true, if_false, if_true, Int.tdiv_eq_ediv_of_nonneg hn.1]
  rw [wrap_u64 _ (by omega) (by omega), if_neg (by simp; omega), wr64 (by omega)]
def rT (x : T_api_Ratio) : List UInt8 := (Lib.itoa x.Num ++ [47]) ++ Lib.itoa x.Den
def rTx (x : T_api_Ratio) : List UInt8 := if vR x then rT x else []
theorem vR_in {x : T_api_Ratio} (h : vR x = true) : inP x := by
  unfold vR at h; simp at h; exact h.1
theorem itl {n : Int} (h : -2147483648 ≤ n ∧ n ≤ 2147483648) : (Lib.itoa n).length ≤ 21 := Lib.itoa_length_le n (by omega) (by omega)
theorem ratio_Text (x : T_api_Ratio) : g_ratio_Text x = some (rTx x) := by
  unfold g_ratio_Text rTx
  rw [ratio_Valid]
  simp only [Option.bind_some]
  cases hv : vR x
  · rfl
  · have hp := vR_in hv
    unfold inP at hp
    have l1 := itl (n := x.Num) (by omega)
    have l2 := itl (n := x.Den) (by omega)
    simp only [if_true, show ∀ n : Int, g_strconv_FormatInt n 10 = some (Lib.itoa n) from fun n => rfl, Option.bind_some]
    rw [if_pos (by omega), if_pos (by omega)]
    rfl
theorem dec_small {u : Nat} (h : u < 10) : Lib.decDigits u = bytesOf [IntKind.u8.wrap (IntKind.i64.wrap (48 + Int.tmod (u : Int) 10))] := by
  rw [Lib.decDigits_one h]
  match u, h with
  | 0, _ | 1, _ | 2, _ | 3, _ | 4, _ | 5, _ | 6, _ | 7, _ | 8, _ | 9, _ => rfl
theorem ref_Dec_nat : ∀ (k u : Nat), u < 10 ^ (k + 1) → u ≤ 9223372036854775807 → g_ref01_Decimal_n (k + 1) (u : Int) = some (Lib.decDigits u) := by
  intro k
  induction k with
  | zero =>
    intro u hu _
    show g_ref01_Decimal_b _ _ = _
    unfold g_ref01_Decimal_b
    rw [if_neg (by simp), if_neg (by simp; omega), dec_small (by omega)]
  | succ k ih =>
    intro u hu hm
    show g_ref01_Decimal_b (g_ref01_Decimal_n (k + 1)) _ = _
    unfold g_ref01_Decimal_b
    rw [if_neg (by simp)]
    by_cases h : 10 ≤ u
    · have e1 : Int.tdiv (u : Int) 10 = ((u / 10 : Nat) : Int) := by rw [Int.tdiv_eq_ediv_of_nonneg (by omega)]; simp
      rw [if_pos (by simp; omega), e1, wr64 (by omega), ih (u / 10) (by rw [Nat.pow_succ] at hu; omega) (by omega)]
      simp only [Option.bind_some]
      have hl := decDigits_len (u / 10) (by omega)
      rw [if_pos (by rw [show ∀ x : Int, (bytesOf [x]).length = 1 from fun _ => rfl]; omega)]
      congr 1
      rw [show Lib.decDigits u = Lib.decDigits (u / 10) ++ [UInt8.ofNat (48 + u % 10)] by rw [Lib.decDigits, dif_neg (by omega)]]
      congr 1
      have : Int.tmod (u : Int) 10 = ((u % 10 : Nat) : Int) := by rw [Int.tmod_eq_emod_of_nonneg (by omega)]; simp
      rw [this]
      have hlt : u % 10 < 10 := Nat.mod_lt _ (by omega)
      generalize u % 10 = v at hlt
      match v, hlt with
      | 0, _ | 1, _ | 2, _ | 3, _ | 4, _ | 5, _ | 6, _ | 7, _ | 8, _ | 9, _ => rfl
    · rw [if_neg (by simp; omega), dec_small (by omega)]
theorem ref_Decimal {n : Int} (h : -9223372036854775807 ≤ n ∧ n ≤ 9223372036854775807) : g_ref01_Decimal n = some (Lib.itoa n) := by
  unfold g_ref01_Decimal
  by_cases h0 : n < 0
  · obtain ⟨u, rfl⟩ : ∃ u : Nat, n = -(u : Int) := ⟨n.natAbs, by omega⟩
    show g_ref01_Decimal_b (g_ref01_Decimal_n 99) _ = _
    unfold g_ref01_Decimal_b
    rw [if_pos (by simpa using h0), wr64 (by omega), show (0 : Int) - -(u : Int) = (u : Int) by omega, ref_Dec_nat 98 u (Nat.lt_of_le_of_lt (m := 9223372036854775807) (by omega) (by decide)) (by omega)]
    have hl := decDigits_len u (by omega)
    simp only [Option.bind_some]
    rw [if_pos (by omega), Lib.itoa_neg u (by omega)]
    rfl
  · obtain ⟨u, rfl⟩ : ∃ u : Nat, n = (u : Int) := ⟨n.toNat, by omega⟩
    rw [Lib.itoa_nonneg]
    exact ref_Dec_nat 99 u (Nat.lt_of_le_of_lt (m := 9223372036854775807) (by omega) (by decide)) (by omega)
theorem ref_ratio_Text (x : T_api_Ratio) : g_ref01_Text x = some (rTx x) := by
  unfold g_ref01_Text rTx
  rw [ref_ratio_Valid]
  simp only [Option.bind_some]
  cases hv : vR x
  · rfl
  · have hp := vR_in hv
    unfold inP at hp
    have l1 := itl (n := x.Num) (by omega)
    have l2 := itl (n := x.Den) (by omega)
    simp only [if_true, ref_Decimal (n := x.Num) (by omega), ref_Decimal (n := x.Den) (by omega), Option.bind_some]
    rw [if_pos (by omega), if_pos (by omega)]
    rfl
end Go.Proofs.YtnjjdbljoligdaaGreatDoor
namespace Go.Proofs.YtnjjdbljoligdaaGreatDoor
def insU (c : List UInt8) : List (List UInt8) → List (List UInt8)
  | [] => [c]
  | x :: t => if x < c then x :: insU c t else if x = c then x :: t else c :: x :: t
theorem bs_irr (x : List UInt8) : ¬ x < x := List.lt_irrefl x
theorem bs_tr {x y z : List UInt8} (h : x < y) (k : y < z) : x < z := List.lt_trans h k
theorem bs_tri {x y : List UInt8} (h : ¬ x < y) (k : x ≠ y) : y < x := by
  have h1 : y ≤ x := List.not_lt.1 h
  rcases Decidable.em (y < x) with h2 | h2
  · exact h2
  · exact absurd (List.le_antisymm (List.not_lt.1 h2) h1) k
theorem bs_le {x y : List UInt8} (h : x ≤ y) (k : x ≠ y) : x < y := bs_tri (List.not_lt.2 h) (Ne.symm k)
theorem mem_insU {c z : List UInt8} : ∀ {l : List (List UInt8)}, z ∈ insU c l ↔ z = c ∨ z ∈ l
  | [] => by simp [insU]
  | x :: t => by
    simp only [insU]
    split
    · simp only [List.mem_cons, mem_insU (l := t)]; constructor <;> rintro (h | h | h) <;> simp [h]
    · split
      · rename_i h; subst h; simp only [List.mem_cons]; constructor
        · exact .inr
        · rintro (h | h)
          · exact .inl h
          · exact h
      · simp only [List.mem_cons]
theorem insU_up {c : List UInt8} : ∀ {l : List (List UInt8)}, l.Pairwise (· < ·) → (insU c l).Pairwise (· < ·)
  | [], _ => by simp [insU]
  | x :: t, h => by
    rw [List.pairwise_cons] at h
    simp only [insU]
    split
    · rename_i hx
      refine List.pairwise_cons.2 ⟨fun z hz => ?_, insU_up h.2⟩
      rcases mem_insU.1 hz with rfl | hz
      · exact hx
      · exact h.1 z hz
    · split
      · exact List.pairwise_cons.2 h
      · rename_i h1 h2
        have hc := bs_tri h1 h2
        refine List.pairwise_cons.2 ⟨fun z hz => ?_, List.pairwise_cons.2 h⟩
        rcases List.mem_cons.1 hz with rfl | hz
        · exact hc
        · exact bs_tr hc (h.1 z hz)
theorem up_ext : ∀ (a b : List (List UInt8)), a.Pairwise (· < ·) → b.Pairwise (· < ·) → (∀ x, x ∈ a ↔ x ∈ b) → a = b
  | [], [], _, _, _ => rfl
  | [], y :: b, _, _, h => by have := (h y).2 (by simp); simp at this
  | x :: a, [], _, _, h => by have := (h x).1 (by simp); simp at this
  | x :: a, y :: b, ha, hb, h => by
    rw [List.pairwise_cons] at ha hb
    have hxy : x = y := by
      rcases List.mem_cons.1 ((h x).1 (by simp)) with h1 | h1
      · exact h1
      · rcases List.mem_cons.1 ((h y).2 (by simp)) with h2 | h2
        · exact h2.symm
        · exact absurd (bs_tr (hb.1 x h1) (ha.1 y h2)) (bs_irr y)
    subst hxy
    congr 1
    refine up_ext a b ha.2 hb.2 fun z => ⟨fun hz => ?_, fun hz => ?_⟩
    · rcases List.mem_cons.1 ((h z).1 (by simp [hz])) with h1 | h1
      · subst h1; exact absurd (ha.1 z hz) (bs_irr z)
      · exact h1
    · rcases List.mem_cons.1 ((h z).2 (by simp [hz])) with h1 | h1
      · subst h1; exact absurd (hb.1 z hz) (bs_irr z)
      · exact h1
theorem compact_up (d : Array (List UInt8)) (hd : ∀ i j, i < j → j < d.size → d[i]! ≤ d[j]!) : ∀ m, m ≤ d.size → (Lib.compactUpTo d m).Pairwise (· < ·) ∧ ∀ x, x ∈ Lib.compactUpTo d m ↔ ∃ i, i < m ∧ d[i]! = x
  | 0, _ => by simp [Lib.compactUpTo]
  | m + 1, hm => by
    obtain ⟨h1, h2⟩ := compact_up d hd m (by omega)
    rw [Lib.compactUpTo_succ]
    by_cases hk : Lib.keeps d m = true
    · rw [if_pos hk]
      have hlt : ∀ i, i < m → d[i]! < d[m]! := by
        intro i hi
        have hne : d[m]! ≠ d[m - 1]! := by
          rcases of_decide_eq_true hk with h | h
          · omega
          · exact h
        have hl : d[m - 1]! < d[m]! := bs_le (hd (m - 1) m (by omega) (by omega)) (Ne.symm hne)
        rcases Nat.lt_or_ge i (m - 1) with hi' | hi'
        · rcases Decidable.em (d[i]! = d[m - 1]!) with he | he
          · rw [he]; exact hl
          · exact bs_tr (bs_le (hd i (m - 1) hi' (by omega)) he) hl
        · rw [show i = m - 1 by omega]; exact hl
      refine ⟨List.pairwise_append.2 ⟨h1, by simp, fun x hx y hy => ?_⟩, fun x => ?_⟩
      · simp only [List.mem_singleton] at hy
        subst hy
        obtain ⟨i, hi, rfl⟩ := (h2 x).1 hx
        exact hlt i hi
      · rw [List.mem_append, h2, List.mem_singleton]
        constructor
        · rintro (⟨i, hi, h⟩ | h)
          · exact ⟨i, by omega, h⟩
          · exact ⟨m, by omega, h.symm⟩
        · rintro ⟨i, hi, h⟩
          rcases Nat.lt_or_ge i m with hi' | hi'
          · exact .inl ⟨i, hi', h⟩
          · exact .inr (by rw [← h, show i = m by omega])
    · rw [if_neg hk, List.append_nil]
      refine ⟨h1, fun x => ?_⟩
      rw [h2]
      have hk' : ¬ (m = 0 ∨ d[m]! ≠ d[m - 1]!) := fun h => hk (decide_eq_true h)
      have hm0 : m ≠ 0 := fun h => hk' (.inl h)
      have he : d[m]! = d[m - 1]! := Decidable.byContradiction fun h => hk' (.inr h)
      constructor
      · rintro ⟨i, hi, h⟩; exact ⟨i, by omega, h⟩
      · rintro ⟨i, hi, h⟩
        rcases Nat.lt_or_ge i m with hi' | hi'
        · exact ⟨i, hi', h⟩
        · exact ⟨m - 1, by omega, by rw [← he, ← h, show i = m by omega]⟩
theorem foldl_insU : ∀ (l o : List (List UInt8)), o.Pairwise (· < ·) → (l.foldl (fun o c => insU c o) o).Pairwise (· < ·) ∧ ∀ x, x ∈ l.foldl (fun o c => insU c o) o ↔ x ∈ o ∨ x ∈ l
  | [], o, h => ⟨h, by simp⟩
  | c :: l, o, h => by
    obtain ⟨h1, h2⟩ := foldl_insU l (insU c o) (insU_up h)
    refine ⟨h1, fun x => ?_⟩
    rw [List.foldl_cons, h2, mem_insU, List.mem_cons]
    constructor
    · rintro ((h | h) | h) <;> simp [h]
    · rintro (h | h | h) <;> simp [h]
theorem reels_eq (l : List (List UInt8)) : Lib.compact (l.mergeSort fun x y => decide (x ≤ y)) = l.foldl (fun o c => insU c o) [] := by
  have hs : (l.mergeSort fun x y => decide (x ≤ y)).Pairwise fun x y => decide (x ≤ y) = true :=
    List.pairwise_mergeSort (le := fun x y : List UInt8 => decide (x ≤ y)) (fun a b c h1 h2 => decide_eq_true (List.le_trans (of_decide_eq_true h1) (of_decide_eq_true h2))) (fun a b => by
      rcases List.le_total a b with h | h <;> simp [h]) l
  have hp := List.mergeSort_perm l fun x y => decide (x ≤ y)
  generalize hz : l.mergeSort (fun x y => decide (x ≤ y)) = zs at hs hp
  obtain ⟨h1, h2⟩ := compact_up zs.toArray (fun i j hij hj => by
    have hj' : j < zs.length := by simpa using hj
    have := List.pairwise_iff_getElem.1 hs i j (by omega) hj' hij
    simpa [getElem!_pos, hj', show i < zs.length by omega] using this) zs.length (by simp)
  obtain ⟨h3, h4⟩ := foldl_insU l [] List.Pairwise.nil
  refine up_ext _ _ h1 h3 fun x => ?_
  rw [h4, show Lib.compact zs = Lib.compactUpTo zs.toArray zs.length from rfl, h2]
  constructor
  · rintro ⟨i, hi, rfl⟩
    refine .inr (hp.subset ?_)
    simp [getElem!_pos, hi]
  · rintro (h | h)
    · simp at h
    · obtain ⟨i, hi, he⟩ := List.getElem_of_mem (hp.symm.subset h)
      exact ⟨i, hi, by simp [getElem!_pos, hi, he]⟩
end Go.Proofs.YtnjjdbljoligdaaGreatDoor
namespace Go.Proofs.YtnjjdbljoligdaaGreatDoor
open Go.RowKit Go.Sort
section
variable {P : Program} {I : World → Prop} {f : FuncId}
theorem vals_strs {w : World} {C : Cx} : ∀ {vals : List Value} {zs : List (List UInt8)}, RepL C w vals (zs.map D.str) → vals = zs.map encStr ∧ ∀ z ∈ zs, z.length ≤ maxLen := by
  intro vals zs h
  have hl : vals.length = zs.length := by simpa using h.len
  have key : ∀ (i : Nat) (hi : i < zs.length), vals[i]? = some (encStr zs[i]) ∧ zs[i].length ≤ maxLen := by
    intro i hi
    obtain ⟨hv, hm⟩ := rep_str1 (h.rep i (vals[i]'(by omega)) (.str zs[i]) (List.getElem?_eq_getElem _) (by simp [hi]))
    exact ⟨by rw [List.getElem?_eq_getElem (by omega : i < vals.length), hv], hm⟩
  refine ⟨List.ext_getElem? fun i => ?_, fun z hz => ?_⟩
  · by_cases hi : i < zs.length
    · rw [(key i hi).1]; simp [hi]
    · rw [List.getElem?_eq_none (by omega), List.getElem?_eq_none (by simp; omega)]
  · obtain ⟨i, hi, rfl⟩ := List.getElem_of_mem hz
    exact (key i hi).2
theorem strs_vals {w : World} {C : Cx} {zs : List (List UInt8)} (hz : ∀ z ∈ zs, z.length ≤ maxLen) : RepL C w (zs.map encStr) (zs.map D.str) := by
  refine ⟨by simp, fun v hv => ?_, fun i v d hv hd => ?_⟩
  · obtain ⟨z, _, rfl⟩ := List.mem_map.1 hv; rfl
  · simp only [List.getElem?_map] at hv hd
    cases hi : zs[i]? with
    | none => rw [hi] at hv; simp at hv
    | some s =>
      rw [hi] at hv hd
      simp at hv hd
      subst hv hd
      exact .str s (hz s (List.mem_of_getElem? hi))
theorem put_block (w : World) (n g : Nat) (d : Array (List UInt8)) (os : Array Obj) (k : Nat) (hk : k < w.heap.size) (hne : k ≠ g) : (grow (putRow encStr (Sort.ahead w n) g 0 d) os).heap[k]? = w.heap[k]? := by
  simp only [grow, putRow, mapBlock, Sort.ahead]
  rw [Array.getElem?_append_left (by simpa using hk), Array.getElem?_modify, if_neg (Ne.symm hne)]
theorem put_bel (w : World) (n g : Nat) (d : Array (List UInt8)) (os : Array Obj) {M : Nat → Prop} (hg : M g) : BelM M w (grow (putRow encStr (Sort.ahead w n) g 0 d) os) :=
  ⟨rfl, rfl, rfl, by simp [grow, putRow, mapBlock, Sort.ahead], fun k hk hm => put_block w n g d os k hk fun e => hm (e ▸ hg)⟩
theorem CallOK.put_strs (he : enterable P f = true) {e : TypeId} {id nid : Nat} {zs ts : List (List UInt8)} {H : Nat → Option Blk} (hH : H id = some (.vec e 1 (zs.map D.str) false)) (hlt : ts.length = zs.length) (hts : ∀ t ∈ ts, t ∈ zs)
    (h0 : zs = [] → ∀ (w : World) (A : Option Addr) (cap : Nat), Calls P f #[.slice A 0 cap] w fun e w' => e = .returned (.tuple #[]) ∧ w' = w)
    (h1 : zs ≠ [] → ∀ (w : World) (blk cap : Nat), Holds encStr w blk 0 zs.toArray → blk < w.heap.size → zs.length ≤ cap → cap ≤ maxLen → Calls P f #[.slice (some ⟨blk, 0, none⟩) zs.length cap] w fun e w' => e = .returned (.tuple #[]) ∧ ∃ n os, w' = grow (putRow encStr (Sort.ahead w n) blk 0 ts.toArray) os) :
    CallOK P I f [.own id zs.length] H nid (.tup []) [(id, some (.vec e 1 (ts.map D.str) false))] := by
  refine ⟨he, fun i0 w C B args hI hb0 hM hok hF hbase hnid hal hrep => ?_⟩
  obtain ⟨v, rfl⟩ : ∃ v, args = [v] := by
    match args, hal with
    | [v], _ => exact ⟨v, rfl⟩
  have hv := hrep 0 v _ rfl rfl
  obtain ⟨hlv, hB⟩ := hok.rep id _ hH
  obtain ⟨vals, hown, hcl, hRL, hfz⟩ := hB
  rw [flat_strs] at hRL
  obtain ⟨rfl, hzm⟩ := vals_strs hRL
  have hcase : ∀ id' b, appEff H [(id, some (.vec e 1 (ts.map D.str) false))] id' = some b → (id' = id ∧ b = .vec e 1 (ts.map D.str) false) ∨ (id' ≠ id ∧ H id' = some b) := by
    intro id' b hb
    rcases appEff_cases _ _ _ _ hb with ⟨k1, k2⟩ | k1
    · exact .inr ⟨fun e' => k1 (id, some (.vec e 1 (ts.map D.str) false)) (List.mem_singleton.2 rfl) e'.symm, k2⟩
    · simp only [List.mem_singleton, Prod.mk.injEq, Option.some.injEq] at k1
      exact .inl k1
  cases hv with
  | own _ _ c A _ hm hs =>
  rw [hs, List.length_map] at hown
  by_cases hz : zs = []
  · subst hz
    obtain rfl : ts = [] := List.eq_nil_of_length_eq_zero hlt
    refine (h0 rfl w A c).mono ?_
    rintro e' w' ⟨rfl, rfl⟩
    refine ⟨_, C, rfl, BelM.refl _ _, Ext.refl _ _, .tup [] [] rfl (by simp), ?_, hF, fun _ h => .inl h, fun _ _ h => .inl h⟩
    have : appEff H [(id, some (.vec e 1 (([] : List (List UInt8)).map D.str) false))] = H := by
      funext j
      cases hb : appEff H [(id, some (.vec e 1 (([] : List (List UInt8)).map D.str) false))] j with
      | some b =>
        rcases hcase j b hb with ⟨rfl, rfl⟩ | ⟨_, k⟩
        · exact hH.symm
        · exact k.symm
      | none =>
        by_cases hj : j = id
        · subst hj; simp [appEff, upd] at hb
        · simp [appEff, upd, hj] at hb; exact hb.symm
    rw [this]; exact hok
  · have hnz : zs.length ≠ 0 := fun h => hz (List.eq_nil_of_length_eq_zero h)
    obtain ⟨g, cap, e1, _, hgl, hncap, hcm, _, hHolds⟩ := Lib.holds_of_ownsRow hown (by intro h; injection h with _ h; exact hnz h)
    cases e1
    rcases hown.2 with ⟨h2, _⟩ | ⟨g', cap', cur, h2, _, hb, hn1, hn2, hn3, _⟩
    · cases h2
    cases h2
    refine (h1 hz w g c hHolds hgl hncap hcm).mono ?_
    rintro e' w' ⟨rfl, n, os, rfl⟩
    have hMg : B.M g := hok.own id _ hH g (by rw [hs]; rfl)
    have hnF : ∀ o, ¬ C.F g o := fun o ho => by
      have := ((hfz g (by rw [hs]; rfl)).1 o ho).1
      cases this
    have hbel := put_bel w n g ts.toArray os hMg
    have hext : Ext C w C (grow (putRow encStr (Sort.ahead w n) g 0 ts.toArray) os) := ⟨fun _ _ h => h, fun b o hbo => put_block w n g _ os b (hF b o hbo) fun e => hnF o (e ▸ hbo), fun _ h => h, fun _ _ => rfl⟩
    refine ⟨_, C, rfl, hbel, hext, .tup [] [] rfl (by simp), ?_, fun b o hbo => Nat.lt_of_lt_of_le (hF b o hbo) hbel.size, fun _ h => .inl h, fun _ _ h => .inl h⟩
    refine ⟨fun id' b hb' => ?_, fun id' b hb' g' hg => ?_, fun id' kk cs hb' => ?_, fun id1 id2 b1 b2 hb1 hb2 hne2 g' hg hg' => ?_⟩
    · rcases hcase id' b hb' with ⟨rfl, rfl⟩ | ⟨hne, k⟩
      · refine ⟨hlv, ts.map encStr, ?_, fun x hx => ?_, ?_, fun g' hg' => ⟨fun o ho => ?_, fun h => by cases h⟩⟩
        · rw [hs, List.length_map, hlt]
          exact ownsRow_sorted (w := w) (n := n) (os := os) (ts := ts) (ss := zs) hlt (Nat.zero_le _) hb hn1 hn2 hn3
        · obtain ⟨t, _, rfl⟩ := List.mem_map.1 hx; rfl
        · rw [flat_strs]; exact strs_vals fun t ht => hzm t (hts t ht)
        · rw [hs] at hg'; cases hg'; exact absurd ho (hnF o)
      · obtain ⟨k1, k2⟩ := hok.rep id' b k
        refine ⟨k1, k2.keep k1 hext (fun g' hg' => put_block w n g _ os g' (k2.lt g' hg').2 fun e => ?_) fun _ _ _ h => h⟩
        exact hok.apart _ _ _ _ hH k (Ne.symm hne) g (by rw [hs]; rfl) (e ▸ hg')
    · rcases hcase id' b hb' with ⟨rfl, rfl⟩ | ⟨hne, k⟩
      · exact hok.own _ _ hH g' hg
      · exact hok.own _ _ k g' hg
    · rcases hcase id' _ hb' with ⟨rfl, h⟩ | ⟨hne, k⟩
      · cases h
      · exact hok.pin _ _ _ k
    · rcases hcase id1 b1 hb1 with ⟨rfl, rfl⟩ | ⟨hne, k⟩
      · rcases hcase id2 b2 hb2 with ⟨rfl, rfl⟩ | ⟨hne', k'⟩
        · exact hne2 rfl
        · exact hok.apart _ _ _ _ hH k' hne2 g' hg hg'
      · rcases hcase id2 b2 hb2 with ⟨rfl, rfl⟩ | ⟨hne', k'⟩
        · exact hok.apart _ _ _ _ k hH hne2 g' hg hg'
        · exact hok.apart _ _ _ _ k k' hne2 g' hg hg'
theorem CallOK.cut_strs (he : enterable P f = true) {e : TypeId} {id nid : Nat} {zs ys ps : List (List UInt8)} {H : Nat → Option Blk} (hH : H id = some (.vec e 1 (zs.map D.str) false)) (hlt : (ys ++ ps).length = zs.length) (hts : ∀ t ∈ ys, t ∈ zs)
    (h0 : zs = [] → ∀ (w : World) (A : Option Addr) (cap : Nat), Calls P f #[.slice A 0 cap] w fun e w' => e = .returned (.slice A 0 cap) ∧ w' = w)
    (h1 : zs ≠ [] → ∀ (w : World) (blk cap : Nat), Holds encStr w blk 0 zs.toArray → blk < w.heap.size → zs.length ≤ cap → cap ≤ maxLen → Calls P f #[.slice (some ⟨blk, 0, none⟩) zs.length cap] w fun e w' => e = .returned (.slice (some ⟨blk, 0, none⟩) ys.length cap) ∧ ∃ q, w' = putRow encStr (Sort.ahead w q) blk 0 (ys ++ ps).toArray) :
    CallOK P I f [.own id zs.length] H nid (.own nid ys.length) [(id, none), (nid, some (.vec e 1 (ys.map D.str) false))] := by
  refine ⟨he, fun i0 w C B args hI hb0 hM hok hF hbase hnid hal hrep => ?_⟩
  obtain ⟨v, rfl⟩ : ∃ v, args = [v] := by
    match args, hal with
    | [v], _ => exact ⟨v, rfl⟩
  have hv := hrep 0 v _ rfl rfl
  obtain ⟨hlv, hB⟩ := hok.rep id _ hH
  obtain ⟨vals, hown, hcl, hRL, hfz⟩ := hB
  rw [flat_strs] at hRL
  obtain ⟨rfl, hzm⟩ := vals_strs hRL
  have hnoid : H nid = none := by
    cases hn2 : H nid with
    | none => rfl
    | some b => exact absurd (hok.rep _ _ hn2).1 hnid
  have hcase : ∀ id' b, appEff H [(id, none), (nid, some (.vec e 1 (ys.map D.str) false))] id' = some b → (id' = nid ∧ b = .vec e 1 (ys.map D.str) false) ∨ (id' ≠ nid ∧ id' ≠ id ∧ H id' = some b) := by
    intro id' b hb
    rcases appEff_cases _ _ _ _ hb with ⟨k1, k2⟩ | k1
    · exact .inr ⟨fun e' => k1 (nid, some (.vec e 1 (ys.map D.str) false)) (by simp) e'.symm, fun e' => k1 (id, none) (by simp) e'.symm, k2⟩
    · simp only [List.mem_cons, Prod.mk.injEq, reduceCtorEq, and_false, false_or, Option.some.injEq, List.not_mem_nil, or_false] at k1
      exact .inl k1
  have hlen : ys.length ≤ zs.length := by rw [List.length_append] at hlt; omega
  cases hv with
  | own _ _ c A _ hm hs =>
  rw [hs, List.length_map] at hown
  -- what follows, whatever the world behind the call is
  have fin : ∀ w' : World, BelM B.M w w' → (∀ k, k < w.heap.size → blockOf (C.σ id) ≠ some k → w'.heap[k]? = w.heap[k]?) → w'.ownsRow 0 e 1 (.slice A ys.length c) ys.length (ys.map encStr) →
      ∃ v' C', Ending.returned (.slice A ys.length c) = .returned v' ∧ BelM B.M w w' ∧ Ext C w C' w' ∧ Rep w' C' v' (.own nid ys.length) ∧ HOK C' w' B (appEff H [(id, none), (nid, some (.vec e 1 (ys.map D.str) false))]) ∧ FB C' w' ∧ (∀ id, C'.live id → C.live id ∨ id = nid) ∧ ∀ b o, C'.F b o → C.F b o ∨ B.M b := by
    intro w' hbel hblk hown'
    let C2 : Cx := ⟨C.F, fun i => if i = nid then .slice A ys.length c else C.σ i, fun i => C.live i ∨ i = nid⟩
    have hσ2 : ∀ i, C.live i → C2.σ i = C.σ i := fun i hid => by
      have : i ≠ nid := fun e => hnid (e ▸ hid)
      simp only [C2, if_neg this]
    have hσn : C2.σ nid = .slice A ys.length c := by simp only [C2, if_true]
    have hbo : blockOf (C2.σ nid) = blockOf (C.σ id) := by rw [hσn, hs]; cases A <;> rfl
    have hnF : ∀ b o, C.F b o → blockOf (C.σ id) ≠ some b := fun b o ho hb => by
      have := ((hfz b (by rw [hs] at hb ⊢; cases A <;> simp_all [blockOf, Value.ownBlock])).1 o ho).1
      cases this
    have hext : Ext C w C2 w' := ⟨fun _ _ h => h, fun b o hbo' => hblk b (hF b o hbo') (hnF b o hbo'), fun _ h => .inl h, hσ2⟩
    refine ⟨_, C2, rfl, hbel, hext, .own nid ys.length c A (.inr rfl) (Nat.le_trans hlen hm) hσn, ?_, fun b o hbo' => Nat.lt_of_lt_of_le (hF b o hbo') hbel.size, fun _ h => h, fun _ _ h => .inl h⟩
    refine ⟨fun id' b hb' => ?_, fun id' b hb' g' hg => ?_, fun id' kk cs hb' => ?_, fun id1 id2 b1 b2 hb1 hb2 hne2 g' hg hg' => ?_⟩
    · rcases hcase id' b hb' with ⟨rfl, rfl⟩ | ⟨hne, hne', k⟩
      · refine ⟨.inr rfl, ys.map encStr, ?_, fun x hx => ?_, ?_, fun g' hg' => ⟨fun o ho => ?_, fun h => by cases h⟩⟩
        · rw [hσn, List.length_map]; exact hown'
        · obtain ⟨t, _, rfl⟩ := List.mem_map.1 hx; rfl
        · rw [flat_strs]; exact strs_vals fun t ht => hzm t (hts t ht)
        · refine absurd ?_ (hnF g' o ho)
          rw [hσn] at hg'
          rw [hs]
          cases A <;> simp_all [blockOf, Value.ownBlock]
      · obtain ⟨k1, k2⟩ := hok.rep id' b k
        refine ⟨.inl k1, k2.keep k1 hext (fun g' hg' => hblk g' (k2.lt g' hg').2 fun e' => ?_) fun _ _ _ h => h⟩
        exact hok.apart _ _ _ _ hH k (Ne.symm hne') g' e' hg'
    · rcases hcase id' b hb' with ⟨rfl, rfl⟩ | ⟨hne, hne', k⟩
      · rw [hbo] at hg; exact hok.own _ _ hH g' hg
      · rw [hσ2 id' (hok.rep _ _ k).1] at hg; exact hok.own _ _ k g' hg
    · rcases hcase id' _ hb' with ⟨rfl, h⟩ | ⟨hne, hne', k⟩
      · cases h
      · rw [hσ2 id' (hok.rep _ _ k).1]; exact hok.pin _ _ _ k
    · rcases hcase id1 b1 hb1 with ⟨rfl, rfl⟩ | ⟨hne, hne', k⟩
      · rcases hcase id2 b2 hb2 with ⟨rfl, rfl⟩ | ⟨hne3, hne4, k'⟩
        · exact hne2 rfl
        · rw [hbo] at hg
          rw [hσ2 id2 (hok.rep _ _ k').1] at hg'
          exact hok.apart _ _ _ _ hH k' (Ne.symm hne4) g' hg hg'
      · rw [hσ2 id1 (hok.rep _ _ k).1] at hg
        rcases hcase id2 b2 hb2 with ⟨rfl, rfl⟩ | ⟨hne3, hne4, k'⟩
        · rw [hbo] at hg'
          exact hok.apart _ _ _ _ k hH hne' g' hg hg'
        · rw [hσ2 id2 (hok.rep _ _ k').1] at hg'
          exact hok.apart _ _ _ _ k k' hne2 g' hg hg'
  by_cases hz : zs = []
  · subst hz
    obtain rfl : ys = [] := List.eq_nil_of_length_eq_zero (by simpa using hlen)
    refine (h0 rfl w A c).mono ?_
    rintro e' w' ⟨rfl, rfl⟩
    exact fin w' (BelM.refl _ _) (fun _ _ _ => rfl) hown
  · have hnz : zs.length ≠ 0 := fun h => hz (List.eq_nil_of_length_eq_zero h)
    obtain ⟨g, cap, e1, _, hgl, hncap, hcm, _, hHolds⟩ := Lib.holds_of_ownsRow hown (by intro h; injection h with _ h; exact hnz h)
    cases e1
    refine (h1 hz w g c hHolds hgl hncap hcm).mono ?_
    rintro e' w' ⟨rfl, q, rfl⟩
    have hMg : B.M g := hok.own id _ hH g (by rw [hs]; rfl)
    have hput := put_bel w q g (ys ++ ps).toArray #[] hMg
    rw [grow_empty] at hput
    have hrow := Lib.ownsRow_putRow (q := q) (k := ys.length) (ys := ys ++ ps) hown hlt hlen
    rw [List.take_left] at hrow
    refine fin _ hput (fun k hk hne => ?_) hrow
    have := put_block w q g (ys ++ ps).toArray #[] k hk fun e' => hne (by rw [hs, e']; rfl)
    rwa [grow_empty] at this
end
end Go.Proofs.YtnjjdbljoligdaaGreatDoor
namespace Go.Proofs.YtnjjdbljoligdaaGreatDoor
open Go.RowKit Go.Shelf Go.Sort
theorem calls_of_all {L : List FuncId} {n : Nat} {P : Program} {f : FuncId} {args : Array Value} {w : World} {R : Ending → World → Prop} (h : ∀ D, CallsIn (Fence.list L (some D)) n P f args w R) : Calls P f args w R := fun cs => by
  obtain ⟨e, w', fr, r, s, x⟩ := (h (cs.length + 1 + n)).2 cs (by simp [Fence.room, Fence.list])
  exact ⟨e, w', fr, r, s.comes, x⟩
section
variable {P : Program} {I : World → Prop} {ρ : Ren}
theorem c_Sort (L : Lays.n190 P ρ) (he : enterable P (ρ.f 190) = true) {e : TypeId} {id nid : Nat} {zs : List (List UInt8)} {H : Nat → Option Blk} (hH : H id = some (.vec e 1 (zs.map D.str) false)) (hz : zs.length < 4611686018427387904) :
    CallOK P I (ρ.f 190) [.own id zs.length] H nid (.tup []) [(id, some (.vec e 1 ((zs.mergeSort fun x y => decide (x ≤ y)).map D.str) false))] := by
  refine CallOK.put_strs he hH (List.length_mergeSort zs) (fun t ht => (List.mergeSort_perm zs _).subset ht) (fun _ w A cap => calls_of_all fun D => AnyS.slices_Sort_string_none_alone L D A cap w) fun _ w blk cap hh hb _ _ => ?_
  exact calls_of_all fun D => AnyS.slices_Sort_string_alone L D blk 0 cap zs w hh hb hz
theorem c_mem_compact {zs : List (List UInt8)} {x : List UInt8} (h : x ∈ Lib.compact zs) : x ∈ zs := by
  unfold Lib.compact Lib.compactUpTo at h
  obtain ⟨i, hi, rfl⟩ := List.mem_map.1 h
  have hi' : i < zs.length := List.mem_range.1 (List.mem_filter.1 hi).1
  simp [getElem!_pos, hi']
theorem c_Compact (L : Lays.n194 P ρ) (he : enterable P (ρ.f 194) = true) {e : TypeId} {id nid : Nat} {zs : List (List UInt8)} {H : Nat → Option Blk} (hH : H id = some (.vec e 1 (zs.map D.str) false)) (hz : zs.length ≤ 9223372036854775807) :
    CallOK P I (ρ.f 194) [.own id zs.length] H nid (.own nid (Lib.compact zs).length) [(id, none), (nid, some (.vec e 1 ((Lib.compact zs).map D.str) false))] := by
  refine CallOK.cut_strs (ps := List.replicate (zs.length - (Lib.compact zs).length) []) he hH (by have := Lib.compact_length_le zs; simp; omega) (fun t ht => c_mem_compact ht) (fun _ w A cap => calls_of_all fun D => AnyS.slices_Compact_string_empty_in L D A cap w) fun _ w blk cap hh hb hc _ => ?_
  exact calls_of_all fun D => AnyS.slices_Compact_string_in L D blk 0 cap zs w hh hz hc
end
end Go.Proofs.YtnjjdbljoligdaaGreatDoor
namespace Go.Proofs.YtnjjdbljoligdaaGreatDoor
open Go.RowKit Go.Shelf
set_option maxRecDepth 100000
def sortS (l : List (List UInt8)) : List (List UInt8) := l.mergeSort fun x y => decide (x ≤ y)
@[simp] theorem sortS_length (l : List (List UInt8)) : (sortS l).length = l.length := List.length_mergeSort l
theorem c_SortS {I : World → Prop} {e : TypeId} {id nid : Nat} {l : List (List UInt8)} {H : Nat → Option Blk} (hH : H id = some (.vec e 1 (l.map D.str) false)) (hz : l.length < 4611686018427387904) :
    CallOK Tryz.prog I 34 [.own id l.length] H nid (.tup []) [(id, some (.vec e 1 ((sortS l).map D.str) false))] := c_Sort Tryz.lays190 (by kernel_rfl) hH hz
theorem c_CompactS {I : World → Prop} {e : TypeId} {id nid : Nat} {l : List (List UInt8)} {H : Nat → Option Blk} (hH : H id = some (.vec e 1 (l.map D.str) false)) (hz : l.length < 4611686018427387904) :
    CallOK Tryz.prog I 35 [.own id l.length] H nid (.own nid (Lib.compact l).length) [(id, none), (nid, some (.vec e 1 ((Lib.compact l).map D.str) false))] := c_Compact Tryz.lays194 (by kernel_rfl) hH (by omega)
end Go.Proofs.YtnjjdbljoligdaaGreatDoor
namespace Go.Proofs.YtnjjdbljoligdaaGreatDoor
open Go.RowKit
set_option maxRecDepth 100000
set_option maxHeartbeats 10000000
structure T_api_Span where
  In : Int
  Out : Int
  deriving DecidableEq
def T_api_Span.d (x : T_api_Span) : D := .agg [.int .i64 x.In, .int .i64 x.Out]
structure T_api_Cut where
  Number : Int
  Reel : List UInt8
  Source : Int
  Record : T_api_Span
  Speed : T_api_Ratio
  deriving DecidableEq
def T_api_Cut.d (x : T_api_Cut) : D := .agg [.int .i64 x.Number, .str x.Reel, .int .i64 x.Source, .int .i64 x.Record.In, .int .i64 x.Record.Out, .int .i64 x.Speed.Num, .int .i64 x.Speed.Den]
structure T_edl_List where
  Title : List UInt8
  Rate : Int
  Drop : Bool
  Cuts : List T_api_Cut
  deriving DecidableEq
def T_edl_List.d (x : T_edl_List) : D := .agg [.str x.Title, .int .u8 x.Rate, .bool x.Drop, .sl (x.Cuts.map T_api_Cut.d)]
structure TRL where
  Title : List UInt8
  Rate : Int
  Drop : Bool
  Cuts : List T_api_Cut
  deriving DecidableEq
def TRL.d (x : TRL) : D := .agg [.str x.Title, .int .u8 x.Rate, .bool x.Drop, .sl (x.Cuts.map T_api_Cut.d)]
theorem dd_EC : (∀ x, T_api_Field.d x = .agg [.str x.Text, .int .i64 x.Column, .bool x.Quoted]) ∧ (∀ x, T_api_Line.d x = .agg [.int .i64 x.Number, .sl (x.Fields.map T_api_Field.d)]) ∧ (∀ x, T_api_Diag.d x = .agg [.int .i64 x.Line, .int .i64 x.Column, .int .i64 x.Code]) ∧ (∀ x, T_api_Span.d x = .agg [.int .i64 x.In, .int .i64 x.Out]) ∧ (∀ x, T_api_Ratio.d x = .agg [.int .i64 x.Num, .int .i64 x.Den]) ∧ (∀ x, T_api_Cut.d x = .agg [.int .i64 x.Number, .str x.Reel, .int .i64 x.Source, .int .i64 x.Record.In, .int .i64 x.Record.Out, .int .i64 x.Speed.Num, .int .i64 x.Speed.Den]) ∧ (∀ x, T_edl_List.d x = .agg [.str x.Title, .int .u8 x.Rate, .bool x.Drop, .sl (x.Cuts.map T_api_Cut.d)]) ∧ (∀ x, TLS.d x = .agg [.int .i64 x.line_.Number, .sl (x.line_.Fields.map T_api_Field.d), .int .i64 x.next_, .int .i64 x.last_, .int .i64 x.bad_.Line, .int .i64 x.bad_.Column, .int .i64 x.bad_.Code]) ∧ (∀ x, T_api_Label.d x = .agg [.int .i64 x.H, .int .i64 x.M, .int .i64 x.S, .int .i64 x.F, .bool x.Drop]) ∧ (∀ x, TRL.d x = .agg [.str x.Title, .int .u8 x.Rate, .bool x.Drop, .sl (x.Cuts.map T_api_Cut.d)]) := ⟨fun _ => rfl, fun _ => rfl, fun _ => rfl, fun _ => rfl, fun _ => rfl, fun _ => rfl, fun _ => rfl, fun _ => rfl, fun _ => rfl, fun _ => rfl⟩
def g_edl_head (x_0 : T_api_Line) : Option (T_edl_List × (List T_api_Diag)) :=
  ((atI x_0.Fields 0).bind fun y7 => (((if y7.Quoted then (some true) else (some (!(y7.Text == ([69, 68, 76] : List UInt8))))) : Option (Bool)).bind fun v11 => (if v11 then (some ((T_edl_List.mk [] 0 false []), [(T_api_Diag.mk x_0.Number y7.Column 8)])) else ((g_lines_Scan x_0).bind fun r22 => ((gLS_Choice r22 [[69, 68, 76]]).bind fun r28 => ((gLS_Quoted r28.2).bind fun r34 => ((gLS_Word r34.2).bind fun r42 => ((g_timebase_Parse r42.1).bind fun r44 => (if (r44.2 != 0) then ((gLS_Fail r42.2 4).bind fun r50 => ((gLS_Choice r50 [[68, 82, 79, 80], [78, 68, 70]]).bind fun r56 => (((if (r56.1 == 0) then ((g_timebase_CanDrop r44.1).bind fun r65 => (some (!r65))) else (some false)) : Option (Bool)).bind fun v62 => (if v62 then ((gLS_Fail r56.2 13).bind fun r70 => ((gLS_End r70).bind fun r76 => (if r76.2.1 then (some ((T_edl_List.mk [] 0 false []), [r76.1])) else (some ((T_edl_List.mk r34.1 r44.1 (r56.1 == 0) []), []))))) else ((gLS_End r56.2).bind fun r89 => (if r89.2.1 then (some ((T_edl_List.mk [] 0 false []), [r89.1])) else (some ((T_edl_List.mk r34.1 r44.1 (r56.1 == 0) []), [])))))))) else ((gLS_Choice r42.2 [[68, 82, 79, 80], [78, 68, 70]]).bind fun r102 => (((if (r102.1 == 0) then ((g_timebase_CanDrop r44.1).bind fun r111 => (some (!r111))) else (some false)) : Option (Bool)).bind fun v108 => (if v108 then ((gLS_Fail r102.2 13).bind fun r116 => ((gLS_End r116).bind fun r122 => (if r122.2.1 then (some ((T_edl_List.mk [] 0 false []), [r122.1])) else (some ((T_edl_List.mk r34.1 r44.1 (r102.1 == 0) []), []))))) else ((gLS_End r102.2).bind fun r135 => (if r135.2.1 then (some ((T_edl_List.mk [] 0 false []), [r135.1])) else (some ((T_edl_List.mk r34.1 r44.1 (r102.1 == 0) []), []))))))))))))))))
theorem a_edl_head {I : World → Prop} (hI : Stab I) {x_0 : T_api_Line} {r : T_edl_List × (List T_api_Diag)} (h : g_edl_head x_0 = some r) : AFun Tryz.prog I 50 [T_api_Line.d x_0] (.tup [.agg [.str r.1.Title, .int .u8 r.1.Rate, .bool r.1.Drop, .nils], nslD (r.2.map T_api_Diag.d)]) := by
  have dd := dd_EC; have k := True.intro; have q := k; have rs := Tryz.results50
  unfold g_edl_head at h
  refine .enN hI Tryz.func50 Tryz.ntmps50 ?_
  refine xs <| rz ?_
  refine es <| xs <| xs <| rK fun K6 RK6 hK6 gK6 => zz ?_
  obtain ⟨y7, q, h⟩ := bK q h
  refine zz ?_
  subst hK6 gK6
  refine es ?_
  obtain ⟨v11, h14, h⟩ := bs h
  refine rb_cut (fun v11 => ⟨envL [(1, .ptr 0 0), (2, .ptr 1 0), (4, .ptr 2 0), (21, .bool v11)], heapL [(0, .box none [.int .i64 x_0.Number, .sl (x_0.Fields.map T_api_Field.d)]), (1, .box none [.str [], .int .u8 0, .bool false, .nils]), (2, .box none [.str y7.Text, .int .i64 y7.Column, .bool y7.Quoted])], 3, 74⟩) h14 ?_ ?_
  · clear h
    intro v11 h
    refine rK fun K12 RK12 hK12 gK12 => zz ?_
    rcases iK k h with ⟨k, h⟩ | ⟨k, h⟩
    · refine zz ?_
      subst hK12 gK12
      cases h
      exact en ⟨rfl, wk [(2, some 7)]⟩
    · refine zz ?_
      subst hK12 gK12
      cases h
      exact en ⟨rfl, wk [(2, some 7)]⟩
  · rcases iK k h with ⟨k, h⟩ | ⟨k, h⟩
    · refine xt <| xs <| rP hI fun K17 hK17 => rgP_cons <| zq ?_
      refine sP.light rfl fd <| rgP_cons <| zq ?_
      refine sP.light rfl fd <| rgP_cons <| zq ?_
      refine sP.foot (.cell 0 0 1) (fun _ => FootOK.ld rfl rfl rfl (by kernel_rfl) (by decide)) fd (by first | exact .inl (by first | rfl | decide) | exact .inr (by kernel_rfl)) <| rgP_cons <| zq ?_
      refine sP.light rfl fd <| rgP_cons <| zq ?_
      refine sP.foot (.cell 2 1 1) (fun _ => FootOK.ld rfl rfl rfl (by kernel_rfl) (by decide)) fd (by first | exact .inl (by first | rfl | decide) | exact .inr (by kernel_rfl)) <| rgP_cons <| zq ?_
      refine sP.light rfl fd <| rgP_cons <| zq ?_
      refine sP.foot (.ids []) (fun hN => FootOK.idsB [] (by rfl) rfl hN) fd (by first | exact .inl (by first | rfl | decide) | exact .inr (by kernel_rfl)) <| rgP_cons <| zq ?_
      refine sP.pat 1 0 4 rfl rfl rfl <| rgP_cons <| zq ?_
      refine sP.light rfl fd <| zq ?_
      refine rgP_nil fk ?_
      subst hK17
      refine es <| xr <| er ?_
      cases h
      exact en fn
    · refine xf <| xk <| es <| xs <| rK fun K21 RK21 hK21 gK21 => zz ?_
      obtain ⟨r22, h23, h⟩ := bs h
      refine cW.introE (a_lines_Scan hI (nid := 4) h23) fz rfl <| zz ?_
      subst hK21 gK21
      refine es <| xs <| rK fun K27 RK27 hK27 gK27 => zz ?_
      obtain ⟨r28, h29, h⟩ := bs h
      refine eW.intro (aLS_Choice hI (nid := 8) (i0 := 4) (p0 := none) h29 fz) fi rfl <| zz ?_
      subst hK27 gK27
      refine es <| xs <| rK fun K33 RK33 hK33 gK33 => zz ?_
      obtain ⟨r34, h35, h⟩ := bs h
      refine eW.intro (aLS_Quoted hI (nid := 10) (i0 := 4) (p0 := none) h35 fz) fi rfl <| zz ?_
      subst hK33 gK33
      refine es <| xs <| rK fun K41 RK41 hK41 gK41 => zz ?_
      obtain ⟨r42, h43, h⟩ := bs h
      refine eW.intro (aLS_Word hI (nid := 15) (i0 := 4) (p0 := none) h43 fz) fi rfl <| zz ?_
      obtain ⟨r44, h45, h⟩ := bs h
      refine cw (a_timebase_Parse hI h45) <| zz ?_
      subst hK41 gK41
      refine es <| xs <| xs <| rz ?_
      refine es ?_
      rcases iK k h with ⟨k, h⟩ | ⟨k, h⟩
      · refine xt <| rK fun K49 RK49 hK49 gK49 => zz ?_
        obtain ⟨r50, h51, h⟩ := bs h
        refine eW.intro (aLS_Fail hI (nid := 25) (i0 := 4) (p0 := none) h51 fz) fi rfl <| zz ?_
        subst hK49 gK49
        refine es <| xs <| rK fun K55 RK55 hK55 gK55 => zz ?_
        obtain ⟨r56, h57, h⟩ := bs h
        refine eW.intro (aLS_Choice hI (nid := 29) (i0 := 4) (p0 := none) h57 fz) fi rfl <| zz ?_
        subst hK55 gK55
        refine es <| xs ?_
        obtain ⟨v62, h67, h⟩ := bs h
        refine rb_cut (fun v62 => ⟨envL [(2, .ptr 0 0), (5, .ptr 1 0), (6, .ptr 2 0), (61, .bool v62)], heapL [(0, .box none [.str [], .int .u8 0, .bool false, .nils]), (1, .box none [.int .i64 r56.2.line_.Number, .sl (r56.2.line_.Fields.map T_api_Field.d), .int .i64 r56.2.next_, .int .i64 r56.2.last_, .int .i64 r56.2.bad_.Line, .int .i64 r56.2.bad_.Column, .int .i64 r56.2.bad_.Code]), (2, .box none [.str r34.1, .int .u8 r44.1, .bool (r56.1 == 0), .nils])], 3, 74⟩) h67 ?_ ?_
        · clear h
          intro v62 h
          refine rK fun K63 RK63 hK63 gK63 => zz ?_
          rcases iK k h with ⟨k, h⟩ | ⟨k, h⟩
          · refine zz ?_
            obtain ⟨r65, h66, h⟩ := bs h
            refine cw (a_timebase_CanDrop hI h66) <| zz ?_
            subst hK63 gK63
            cases h
            exact en ⟨rfl, wk [(0, some 1), (1, some 4), (2, some 12)]⟩
          · refine zz ?_
            subst hK63 gK63
            cases h
            exact en ⟨rfl, wk [(0, some 1), (1, some 4), (2, some 12)]⟩
        · rcases iK k h with ⟨k, h⟩ | ⟨k, h⟩
          · refine xt <| rK fun K69 RK69 hK69 gK69 => zz ?_
            obtain ⟨r70, h71, h⟩ := bs h
            refine eW.intro (aLS_Fail hI (nid := 4) (i0 := 1) (p0 := none) h71 fz) fi rfl <| zz ?_
            subst hK69 gK69
            refine es <| xs <| xs <| rK fun K75 RK75 hK75 gK75 => zz ?_
            obtain ⟨r76, h77, h⟩ := bs h
            refine eW.intro (aLS_End hI (nid := 6) (i0 := 1) (p0 := none) h77 fz) fi rfl <| zz ?_
            subst hK75 gK75
            refine es <| xs <| rz ?_
            refine es ?_
            rcases iK k h with ⟨k, h⟩ | ⟨k, h⟩
            · refine xt <| xs <| rP hI fun K82 hK82 => rgP_cons <| zq ?_
              refine sP.light rfl fd <| rgP_cons <| zq ?_
              refine sP.foot (.cell 10 0 3) (fun _ => FootOK.ld rfl rfl rfl (by kernel_rfl) (by decide)) fd (by first | exact .inl (by first | rfl | decide) | exact .inr (by kernel_rfl)) <| rgP_cons <| zq ?_
              refine sP.foot (.ids []) (fun hN => FootOK.idsB [] (by rfl) rfl hN) fd (by first | exact .inl (by first | rfl | decide) | exact .inr (by kernel_rfl)) <| rgP_cons <| zq ?_
              refine sP.pat 0 0 4 rfl rfl rfl <| rgP_cons <| zq ?_
              refine sP.light rfl fd <| zq ?_
              refine rgP_nil fk ?_
              subst hK82
              refine es <| xr <| er ?_
              cases h
              exact en fn
            · refine xf <| xk <| es <| xs <| rz ?_
              refine es <| xr ?_
              cases h
              exact en fn
          · refine xf <| xk <| es <| xs <| xs <| rK fun K88 RK88 hK88 gK88 => zz ?_
            obtain ⟨r89, h90, h⟩ := bs h
            refine eW.intro (aLS_End hI (nid := 4) (i0 := 1) (p0 := none) h90 fz) fi rfl <| zz ?_
            subst hK88 gK88
            refine es <| xs <| rz ?_
            refine es ?_
            rcases iK k h with ⟨k, h⟩ | ⟨k, h⟩
            · refine xt <| xs <| rP hI fun K95 hK95 => rgP_cons <| zq ?_
              refine sP.light rfl fd <| rgP_cons <| zq ?_
              refine sP.foot (.cell 8 0 3) (fun _ => FootOK.ld rfl rfl rfl (by kernel_rfl) (by decide)) fd (by first | exact .inl (by first | rfl | decide) | exact .inr (by kernel_rfl)) <| rgP_cons <| zq ?_
              refine sP.foot (.ids []) (fun hN => FootOK.idsB [] (by rfl) rfl hN) fd (by first | exact .inl (by first | rfl | decide) | exact .inr (by kernel_rfl)) <| rgP_cons <| zq ?_
              refine sP.pat 0 0 4 rfl rfl rfl <| rgP_cons <| zq ?_
              refine sP.light rfl fd <| zq ?_
              refine rgP_nil fk ?_
              subst hK95
              refine es <| xr <| er ?_
              cases h
              exact en fn
            · refine xf <| xk <| es <| xs <| rz ?_
              refine es <| xr ?_
              cases h
              exact en fn
      · refine xf <| xk <| es <| xs <| rK fun K101 RK101 hK101 gK101 => zz ?_
        obtain ⟨r102, h103, h⟩ := bs h
        refine eW.intro (aLS_Choice hI (nid := 27) (i0 := 4) (p0 := none) h103 fz) fi rfl <| zz ?_
        subst hK101 gK101
        refine es <| xs ?_
        obtain ⟨v108, h113, h⟩ := bs h
        refine rb_cut (fun v108 => ⟨envL [(2, .ptr 0 0), (5, .ptr 1 0), (6, .ptr 2 0), (61, .bool v108)], heapL [(0, .box none [.str [], .int .u8 0, .bool false, .nils]), (1, .box none [.int .i64 r102.2.line_.Number, .sl (r102.2.line_.Fields.map T_api_Field.d), .int .i64 r102.2.next_, .int .i64 r102.2.last_, .int .i64 r102.2.bad_.Line, .int .i64 r102.2.bad_.Column, .int .i64 r102.2.bad_.Code]), (2, .box none [.str r34.1, .int .u8 r44.1, .bool (r102.1 == 0), .nils])], 3, 74⟩) h113 ?_ ?_
        · clear h
          intro v108 h
          refine rK fun K109 RK109 hK109 gK109 => zz ?_
          rcases iK k h with ⟨k, h⟩ | ⟨k, h⟩
          · refine zz ?_
            obtain ⟨r111, h112, h⟩ := bs h
            refine cw (a_timebase_CanDrop hI h112) <| zz ?_
            subst hK109 gK109
            cases h
            exact en ⟨rfl, wk [(0, some 1), (1, some 4), (2, some 12)]⟩
          · refine zz ?_
            subst hK109 gK109
            cases h
            exact en ⟨rfl, wk [(0, some 1), (1, some 4), (2, some 12)]⟩
        · rcases iK k h with ⟨k, h⟩ | ⟨k, h⟩
          · refine xt <| rK fun K115 RK115 hK115 gK115 => zz ?_
            obtain ⟨r116, h117, h⟩ := bs h
            refine eW.intro (aLS_Fail hI (nid := 4) (i0 := 1) (p0 := none) h117 fz) fi rfl <| zz ?_
            subst hK115 gK115
            refine es <| xs <| xs <| rK fun K121 RK121 hK121 gK121 => zz ?_
            obtain ⟨r122, h123, h⟩ := bs h
            refine eW.intro (aLS_End hI (nid := 6) (i0 := 1) (p0 := none) h123 fz) fi rfl <| zz ?_
            subst hK121 gK121
            refine es <| xs <| rz ?_
            refine es ?_
            rcases iK k h with ⟨k, h⟩ | ⟨k, h⟩
            · refine xt <| xs <| rP hI fun K128 hK128 => rgP_cons <| zq ?_
              refine sP.light rfl fd <| rgP_cons <| zq ?_
              refine sP.foot (.cell 10 0 3) (fun _ => FootOK.ld rfl rfl rfl (by kernel_rfl) (by decide)) fd (by first | exact .inl (by first | rfl | decide) | exact .inr (by kernel_rfl)) <| rgP_cons <| zq ?_
              refine sP.foot (.ids []) (fun hN => FootOK.idsB [] (by rfl) rfl hN) fd (by first | exact .inl (by first | rfl | decide) | exact .inr (by kernel_rfl)) <| rgP_cons <| zq ?_
              refine sP.pat 0 0 4 rfl rfl rfl <| rgP_cons <| zq ?_
              refine sP.light rfl fd <| zq ?_
              refine rgP_nil fk ?_
              subst hK128
              refine es <| xr <| er ?_
              cases h
              exact en fn
            · refine xf <| xk <| es <| xs <| rz ?_
              refine es <| xr ?_
              cases h
              exact en fn
          · refine xf <| xk <| es <| xs <| xs <| rK fun K134 RK134 hK134 gK134 => zz ?_
            obtain ⟨r135, h136, h⟩ := bs h
            refine eW.intro (aLS_End hI (nid := 4) (i0 := 1) (p0 := none) h136 fz) fi rfl <| zz ?_
            subst hK134 gK134
            refine es <| xs <| rz ?_
            refine es ?_
            rcases iK k h with ⟨k, h⟩ | ⟨k, h⟩
            · refine xt <| xs <| rP hI fun K141 hK141 => rgP_cons <| zq ?_
              refine sP.light rfl fd <| rgP_cons <| zq ?_
              refine sP.foot (.cell 8 0 3) (fun _ => FootOK.ld rfl rfl rfl (by kernel_rfl) (by decide)) fd (by first | exact .inl (by first | rfl | decide) | exact .inr (by kernel_rfl)) <| rgP_cons <| zq ?_
              refine sP.foot (.ids []) (fun hN => FootOK.idsB [] (by rfl) rfl hN) fd (by first | exact .inl (by first | rfl | decide) | exact .inr (by kernel_rfl)) <| rgP_cons <| zq ?_
              refine sP.pat 0 0 4 rfl rfl rfl <| rgP_cons <| zq ?_
              refine sP.light rfl fd <| zq ?_
              refine rgP_nil fk ?_
              subst hK141
              refine es <| xr <| er ?_
              cases h
              exact en fn
            · refine xf <| xk <| es <| xs <| rz ?_
              refine es <| xr ?_
              cases h
              exact en fn
def g_edl_frame (s_0 : TLS) (l_1 : T_edl_List) : Option (Int × TLS) :=
  ((gLS_Word s_0).bind fun r9 => ((g_timecode_Parse l_1.Rate r9.1).bind fun r11 => (((if (r11.2 == 0) then (some (!(r11.1.Drop == l_1.Drop))) else (some false)) : Option (Bool)).bind fun v15 => (if v15 then ((gLS_Fail r9.2 4).bind fun r25 => ((g_timecode_Frame l_1.Rate r11.1).bind fun r31 => (some (r31.1, r25)))) else ((gLS_Fail r9.2 r11.2).bind fun r39 => ((g_timecode_Frame l_1.Rate r11.1).bind fun r45 => (some (r45.1, r39))))))))
theorem a_edl_frame {I : World → Prop} (hI : Stab I) {H : Nat → Option Blk} {nid : Nat} {i0 : Nat} {p0 : Option Nat} {s_0 : TLS} {l_1 : T_edl_List} {r : Int × TLS} (h : g_edl_frame s_0 l_1 = some r) (b0 : H i0 = some (.box p0 [.int .i64 s_0.line_.Number, .sl (s_0.line_.Fields.map T_api_Field.d), .int .i64 s_0.next_, .int .i64 s_0.last_, .int .i64 s_0.bad_.Line, .int .i64 s_0.bad_.Column, .int .i64 s_0.bad_.Code])) : CallOK Tryz.prog I 92 [.ptr i0 0, .agg [.str l_1.Title, .int .u8 l_1.Rate, .bool l_1.Drop, .any]] H nid (.int .i64 r.1) [(i0, some (.box p0 [.int .i64 r.2.line_.Number, .sl (r.2.line_.Fields.map T_api_Field.d), .int .i64 r.2.next_, .int .i64 r.2.last_, .int .i64 r.2.bad_.Line, .int .i64 r.2.bad_.Column, .int .i64 r.2.bad_.Code]))] := by
  refine CallOK.intro (is := [(i0, p0)]) (css := [[.int .i64 s_0.line_.Number, .sl (s_0.line_.Fields.map T_api_Field.d), .int .i64 s_0.next_, .int .i64 s_0.last_, .int .i64 s_0.bad_.Line, .int .i64 s_0.bad_.Column, .int .i64 s_0.bad_.Code]]) (ds0 := [.ptr 0 0, .agg [.str l_1.Title, .int .u8 l_1.Rate, .bool l_1.Drop, .any]]) (pl := [(0, none)]) hI Tryz.func92 rfl (by decide) (by simp [Tryz.f92]) (by kernel_rfl) rfl rfl rfl rfl (lentAll_of ⟨⟨b0, rfl⟩, trivial⟩) (by simp) ?_
  have dd := dd_EC; have k := True.intro; have q := k; have rs := Tryz.results92
  unfold g_edl_frame at h
  simp only [lentH, List.length_cons, List.length_nil, Nat.zero_add, Nat.reduceAdd, Tryz.ntmps92, dd_EC]
  refine xs <| rz ?_
  refine es <| xs <| rP hI fun K8 hK8 => rgP_cons <| zq ?_
  refine sP.light rfl fd <| rgP_cons <| zq ?_
  refine sP.foot (.cell 1 1 1) (fun _ => FootOK.ld rfl rfl rfl (by kernel_rfl) (by decide)) fd (by first | exact .inl (by first | rfl | decide) | exact .inr (by kernel_rfl)) <| rgP_cons <| zq ?_
  refine sP.light rfl fd <| rgP_cons <| zq ?_
  obtain ⟨r9, h10, h⟩ := bs h
  refine eP.intro (ep := []) (fun H' hs => aLS_Word hI (nid := 6) (i0 := 0) (p0 := (some 0)) h10 (hs 0 (by simp [D.ids, D.ids1]) _ fz)) fz rfl (.ids [0]) (fun hN => FootOK.idsB [0] (by rfl) rfl hN) fd (by first | exact .inl (by first | rfl | decide) | exact .inr (by kernel_rfl)) <| rgP_cons <| zq ?_
  obtain ⟨r11, h12, h⟩ := bs h
  refine cP.intro (a_timecode_Parse hI h12) fi (.ids []) (fun hN => FootOK.idsB [] (by rfl) rfl hN) fd (by first | exact .inl (by first | rfl | decide) | exact .inr (by kernel_rfl)) <| rgP_cons <| zq ?_
  refine sP.light rfl fd <| rgP_cons <| zq ?_
  refine sP.light rfl fd <| rgP_cons <| zq ?_
  refine sP.light rfl fd <| rgP_cons <| zq ?_
  refine sP.light rfl fd <| rgP_cons <| zq ?_
  refine sP.pat 11 0 5 rfl rfl rfl <| rgP_cons <| zq ?_
  refine sP.light rfl fd <| zq ?_
  refine rgP_nil fk ?_
  subst hK8
  refine es <| xs ?_
  obtain ⟨v15, h18, h⟩ := bs h
  refine rb_cut (fun v15 => ⟨envL [(0, .ptr 0 0), (3, .ptr 1 0), (5, .ptr 2 0), (6, .int .i64 r11.2), (25, .bool v15)], heapL [(0, .box (some 0) [.int .i64 r9.2.line_.Number, .sl (r9.2.line_.Fields.map T_api_Field.d), .int .i64 r9.2.next_, .int .i64 r9.2.last_, .int .i64 r9.2.bad_.Line, .int .i64 r9.2.bad_.Column, .int .i64 r9.2.bad_.Code]), (1, .box none [.str l_1.Title, .int .u8 l_1.Rate, .bool l_1.Drop, .any]), (2, .box none [.int .i64 r11.1.H, .int .i64 r11.1.M, .int .i64 r11.1.S, .int .i64 r11.1.F, .bool r11.1.Drop])], 3, 37⟩) h18 ?_ ?_
  · clear h
    intro v15 h
    refine rK fun K16 RK16 hK16 gK16 => zz ?_
    rcases iK k h with ⟨k, h⟩ | ⟨k, h⟩
    · refine zz ?_
      subst hK16 gK16
      cases h
      exact en ⟨rfl, wk [(2, some 11)]⟩
    · refine zz ?_
      subst hK16 gK16
      cases h
      exact en ⟨rfl, wk [(2, some 11)]⟩
  · rcases iK k h with ⟨k, h⟩ | ⟨k, h⟩
    · refine xt <| rz ?_
      refine es <| xs <| rK fun K24 RK24 hK24 gK24 => zz ?_
      obtain ⟨r25, h26, h⟩ := bs h
      refine eW.intro (aLS_Fail hI (nid := 6) (i0 := 0) (p0 := (some 0)) h26 fz) fi rfl <| zz ?_
      subst hK24 gK24
      refine es <| xs <| rK fun K30 RK30 hK30 gK30 => zz ?_
      obtain ⟨r31, h32, h⟩ := bs h
      refine cw (a_timecode_Frame hI h32) <| zz ?_
      subst hK30 gK30
      refine es <| xs <| rz ?_
      refine es <| xr ?_
      cases h
      exact en fp
    · refine xf <| xk <| es <| xs <| rK fun K38 RK38 hK38 gK38 => zz ?_
      obtain ⟨r39, h40, h⟩ := bs h
      refine eW.intro (aLS_Fail hI (nid := 5) (i0 := 0) (p0 := (some 0)) h40 fz) fi rfl <| zz ?_
      subst hK38 gK38
      refine es <| xs <| rK fun K44 RK44 hK44 gK44 => zz ?_
      obtain ⟨r45, h46, h⟩ := bs h
      refine cw (a_timecode_Frame hI h46) <| zz ?_
      subst hK44 gK44
      refine es <| xs <| rz ?_
      refine es <| xr ?_
      cases h
      exact en fp
def g_edl_cut (x_0 : T_api_Line) (l_1 : T_edl_List) : Option (T_api_Cut × T_api_Diag × Bool) :=
  ((g_lines_Scan x_0).bind fun r7 => ((gLS_Choice r7 [[67, 85, 84]]).bind fun r13 => ((gLS_Number r13.2 1 999).bind fun r21 => ((gLS_Name r21.2 false).bind fun r23 => ((g_edl_frame r23.2 (T_edl_List.mk l_1.Title l_1.Rate l_1.Drop [])).bind fun r29 => ((g_edl_frame r29.2 (T_edl_List.mk l_1.Title l_1.Rate l_1.Drop [])).bind fun r35 => ((g_edl_frame r35.2 (T_edl_List.mk l_1.Title l_1.Rate l_1.Drop [])).bind fun r41 => ((gLS_Left r41.2).bind fun r47 => (if (decide (0 < r47.1)) then ((gLS_Choice r47.2 [[83, 80, 69, 69, 68]]).bind fun r54 => ((gLS_Word r54.2).bind fun r62 => ((g_ratio_Parse r62.1).bind fun r64 => ((gLS_Fail r62.2 r64.2).bind fun r70 => ((gLS_End r70).bind fun r77 => (some ((T_api_Cut.mk r21.1 r23.1 r29.1 (T_api_Span.mk r35.1 r41.1) r64.1), r77.1, r77.2.1))))))) else ((gLS_End r47.2).bind fun r85 => (some ((T_api_Cut.mk r21.1 r23.1 r29.1 (T_api_Span.mk r35.1 r41.1) (T_api_Ratio.mk 1 1)), r85.1, r85.2.1))))))))))))
theorem a_edl_cut {I : World → Prop} (hI : Stab I) (hPIv : ∀ w, I w → PIv w) (hShp : ∀ w, I w → Shp w) (hTab : ∀ w, I w → Tab w) {x_0 : T_api_Line} {l_1 : T_edl_List} {r : T_api_Cut × T_api_Diag × Bool} (h : g_edl_cut x_0 l_1 = some r) : AFun Tryz.prog I 51 [T_api_Line.d x_0, .agg [.str l_1.Title, .int .u8 l_1.Rate, .bool l_1.Drop, .any]] (.tup [T_api_Cut.d r.1, T_api_Diag.d r.2.1, .bool r.2.2]) := by
  have dd := dd_EC; have k := True.intro; have q := k; have rs := Tryz.results51
  unfold g_edl_cut at h
  refine .en hI Tryz.func51 Tryz.ntmps51 ?_
  refine xs <| rz ?_
  refine es <| xs <| rK fun K6 RK6 hK6 gK6 => zz ?_
  obtain ⟨r7, h8, h⟩ := bs h
  refine cW.introE (a_lines_Scan hI (nid := 6) h8) fz rfl <| zz ?_
  subst hK6 gK6
  refine es <| xs <| rK fun K12 RK12 hK12 gK12 => zz ?_
  obtain ⟨r13, h14, h⟩ := bs h
  refine eW.intro (aLS_Choice hI (nid := 10) (i0 := 6) (p0 := none) h14 fz) fi rfl <| zz ?_
  subst hK12 gK12
  refine es <| xs <| rK fun K20 RK20 hK20 gK20 => zz ?_
  obtain ⟨r21, h22, h⟩ := bs h
  refine eW.intro (aLS_Number hI hPIv (nid := 12) (i0 := 6) (p0 := none) h22 fz) fi rfl <| zz ?_
  obtain ⟨r23, h24, h⟩ := bs h
  refine eW.intro (aLS_Name hI (nid := 14) (i0 := 6) (p0 := none) h24 fz) fi rfl <| zz ?_
  subst hK20 gK20
  refine es <| xs <| rK fun K28 RK28 hK28 gK28 => zz ?_
  obtain ⟨r29, h30, h⟩ := bs h
  refine rW.intro (a_edl_frame hI (nid := 21) (i0 := 6) (p0 := none) h30 fz) fi rfl <| zz ?_
  subst hK28 gK28
  refine es <| xs <| rK fun K34 RK34 hK34 gK34 => zz ?_
  obtain ⟨r35, h36, h⟩ := bs h
  refine rW.intro (a_edl_frame hI (nid := 26) (i0 := 6) (p0 := none) h36 fz) fi rfl <| zz ?_
  subst hK34 gK34
  refine es <| xs <| rK fun K40 RK40 hK40 gK40 => zz ?_
  obtain ⟨r41, h42, h⟩ := bs h
  refine rW.intro (a_edl_frame hI (nid := 32) (i0 := 6) (p0 := none) h42 fz) fi rfl <| zz ?_
  subst hK40 gK40
  refine es <| xs <| xs <| rK fun K46 RK46 hK46 gK46 => zz ?_
  obtain ⟨r47, h48, h⟩ := bs h
  refine eW.intro (aLS_Left hI (nid := 37) (i0 := 6) (p0 := none) h48 fz) fi rfl <| zz ?_
  subst hK46 gK46
  refine es ?_
  rcases iK k h with ⟨k, h⟩ | ⟨k, h⟩
  · refine xt <| xs <| rK fun K53 RK53 hK53 gK53 => zz ?_
    obtain ⟨r54, h55, h⟩ := bs h
    refine eW.intro (aLS_Choice hI (nid := 41) (i0 := 6) (p0 := none) h55 fz) fi rfl <| zz ?_
    subst hK53 gK53
    refine es <| xs <| rK fun K61 RK61 hK61 gK61 => zz ?_
    obtain ⟨r62, h63, h⟩ := bs h
    refine eW.intro (aLS_Word hI (nid := 43) (i0 := 6) (p0 := none) h63 fz) fi rfl <| zz ?_
    obtain ⟨r64, h65, h⟩ := bs h
    refine cw (a_ratio_Parse hI hPIv hShp hTab h65) <| zz ?_
    subst hK61 gK61
    refine es <| xs <| rK fun K69 RK69 hK69 gK69 => zz ?_
    obtain ⟨r70, h71, h⟩ := bs h
    refine eW.intro (aLS_Fail hI (nid := 53) (i0 := 6) (p0 := none) h71 fz) fi rfl <| zz ?_
    subst hK69 gK69
    refine es <| rz ?_
    refine es <| xs <| rK fun K76 RK76 hK76 gK76 => zz ?_
    obtain ⟨r77, h78, h⟩ := bs h
    refine eW.intro (aLS_End hI (nid := 58) (i0 := 6) (p0 := none) h78 fz) fi rfl <| zz ?_
    subst hK76 gK76
    refine es <| xs <| rP hI fun K80 hK80 => rgP_cons <| zq ?_
    refine sP.foot (.cell 17 0 7) (fun _ => FootOK.ld rfl rfl rfl (by kernel_rfl) (by decide)) fd (by first | exact .inl (by first | rfl | decide) | exact .inr (by kernel_rfl)) <| rgP_cons <| zq ?_
    refine sP.foot (.cell 62 0 3) (fun _ => FootOK.ld rfl rfl rfl (by kernel_rfl) (by decide)) fd (by first | exact .inl (by first | rfl | decide) | exact .inr (by kernel_rfl)) <| rgP_cons <| zq ?_
    refine sP.light rfl fd <| rgP_cons <| zq ?_
    refine sP.pat 2 0 7 rfl rfl rfl <| rgP_cons <| zq ?_
    refine sP.pat 3 0 3 rfl rfl rfl <| rgP_cons <| zq ?_
    refine sP.light rfl fd <| zq ?_
    refine rgP_nil fk ?_
    subst hK80
    refine es <| xr ?_
    cases h
    exact en fr
  · refine xf <| xk <| es <| xs <| rK fun K84 RK84 hK84 gK84 => zz ?_
    obtain ⟨r85, h86, h⟩ := bs h
    refine eW.intro (aLS_End hI (nid := 40) (i0 := 6) (p0 := none) h86 fz) fi rfl <| zz ?_
    subst hK84 gK84
    refine es <| xs <| rP hI fun K88 hK88 => rgP_cons <| zq ?_
    refine sP.foot (.cell 17 0 7) (fun _ => FootOK.ld rfl rfl rfl (by kernel_rfl) (by decide)) fd (by first | exact .inl (by first | rfl | decide) | exact .inr (by kernel_rfl)) <| rgP_cons <| zq ?_
    refine sP.foot (.cell 44 0 3) (fun _ => FootOK.ld rfl rfl rfl (by kernel_rfl) (by decide)) fd (by first | exact .inl (by first | rfl | decide) | exact .inr (by kernel_rfl)) <| rgP_cons <| zq ?_
    refine sP.light rfl fd <| rgP_cons <| zq ?_
    refine sP.pat 2 0 7 rfl rfl rfl <| rgP_cons <| zq ?_
    refine sP.pat 3 0 3 rfl rfl rfl <| rgP_cons <| zq ?_
    refine sP.light rfl fd <| zq ?_
    refine rgP_nil fk ?_
    subst hK88
    refine es <| xr ?_
    cases h
    exact en fr
def g_edl_last (c_0 : T_api_Cut) : Option (Int) :=
  ((g_ratio_Quotient (IntKind.i64.wrap ((IntKind.i64.wrap ((IntKind.i64.wrap (c_0.Record.Out - 1)) - c_0.Record.In)) * c_0.Speed.Num)) c_0.Speed.Den 1).bind fun r7 => (some (IntKind.i64.wrap (c_0.Source + r7.1))))
theorem a_edl_last {I : World → Prop} (hI : Stab I) {c_0 : T_api_Cut} {r : Int} (h : g_edl_last c_0 = some r) : AFun Tryz.prog I 63 [T_api_Cut.d c_0] (.int .i64 r) := by
  have dd := dd_EC; have k := True.intro; have q := k; have rs := Tryz.results63
  unfold g_edl_last at h
  refine .en hI Tryz.func63 Tryz.ntmps63 ?_
  refine xs <| rz ?_
  refine es <| xs <| rK fun K6 RK6 hK6 gK6 => zz ?_
  obtain ⟨r7, h8, h⟩ := bs h
  refine cw (a_ratio_Quotient hI h8) <| zz ?_
  subst hK6 gK6
  refine es <| xs <| rz ?_
  refine es <| xr ?_
  cases h
  exact en fr
def g_edl_checkCut (c_0 : T_api_Cut) (day_1 : Int) : Option (Int) :=
  ((g_lines_Name c_0.Reel).bind fun r64 => (if r64 then (if (decide (c_0.Record.Out ≤ c_0.Record.In)) then (some 1) else (((if (decide (c_0.Record.In < 0)) then (some true) else (some (decide (day_1 ≤ c_0.Record.Out)))) : Option (Bool)).bind fun v74 => (if v74 then (some 2) else ((((g_ratio_Valid c_0.Speed).bind fun r89 => (if r89 then (if (decide (c_0.Speed.Num < 0)) then (some true) else (if (decide (8 < c_0.Speed.Num)) then (some true) else (some (decide (8 < c_0.Speed.Den))))) else (some true))) : Option (Bool)).bind fun v87 => (if v87 then (some 3) else (if (decide (c_0.Source < 0)) then (some 2) else (if (decide (day_1 ≤ c_0.Source)) then (some 2) else ((g_edl_last c_0).bind fun r110 => (if (decide (day_1 ≤ r110)) then (some 2) else (some 0)))))))))) else (some 5)))
theorem a_edl_checkCut {I : World → Prop} (hI : Stab I) {c_0 : T_api_Cut} {day_1 : Int} {r : Int} (h : g_edl_checkCut c_0 day_1 = some r) : AFun Tryz.prog I 30 [T_api_Cut.d c_0, .int .i64 day_1] (.int .i64 r) := by
  have dd := dd_EC; have k := True.intro; have q := k; have rs := Tryz.results30
  unfold g_edl_checkCut at h
  refine .en hI Tryz.func30 Tryz.ntmps30 ?_
  refine xs <| rz ?_
  refine es <| xs <| xb <| xs <| rK fun K63 RK63 hK63 gK63 => zz ?_
  obtain ⟨r64, h65, h⟩ := bs h
  refine cw (a_lines_Name hI h65) <| zz ?_
  subst hK63 gK63
  refine es ?_
  rcases iK k h with ⟨k, h⟩ | ⟨k, h⟩
  · refine xf <| xs <| rz ?_
    refine es ?_
    rcases iK k h with ⟨k, h⟩ | ⟨k, h⟩
    · refine xt <| xs <| rz ?_
      refine es <| xr <| br <| er ?_
      cases h
      exact en fr
    · refine xf ?_
      obtain ⟨v74, h77, h⟩ := bs h
      refine rb_cut (fun v74 => ⟨envL [(1, .int .i64 day_1), (2, .ptr 0 0), (18, .bool v74)], heapL [(0, .box none [.int .i64 c_0.Number, .str c_0.Reel, .int .i64 c_0.Source, .int .i64 c_0.Record.In, .int .i64 c_0.Record.Out, .int .i64 c_0.Speed.Num, .int .i64 c_0.Speed.Den])], 1, 69⟩) h77 ?_ ?_
      · clear h
        intro v74 h
        refine rK fun K75 RK75 hK75 gK75 => zz ?_
        rcases iK k h with ⟨k, h⟩ | ⟨k, h⟩
        · refine zz ?_
          subst hK75 gK75
          cases h
          exact en ⟨rfl, wk []⟩
        · refine zz ?_
          subst hK75 gK75
          cases h
          exact en ⟨rfl, wk []⟩
      · rcases iK k h with ⟨k, h⟩ | ⟨k, h⟩
        · refine xt <| xs <| rz ?_
          refine es <| xr <| br <| er ?_
          cases h
          exact en fr
        · refine xf ?_
          obtain ⟨v87, h94, h⟩ := bs h
          refine rb_cut (fun v87 => ⟨envL [(1, .int .i64 day_1), (2, .ptr 0 0), (30, .bool v87)], heapL [(0, .box none [.int .i64 c_0.Number, .str c_0.Reel, .int .i64 c_0.Source, .int .i64 c_0.Record.In, .int .i64 c_0.Record.Out, .int .i64 c_0.Speed.Num, .int .i64 c_0.Speed.Den])], 1, 69⟩) h94 ?_ ?_
          · clear h
            intro v87 h
            refine rK fun K88 RK88 hK88 gK88 => zz ?_
            obtain ⟨r89, h90, h⟩ := bs h
            refine cw (a_ratio_Valid hI h90) <| zz ?_
            rcases iK k h with ⟨k, h⟩ | ⟨k, h⟩
            · refine zz ?_
              rcases iK k h with ⟨k, h⟩ | ⟨k, h⟩
              · refine zz ?_
                subst hK88 gK88
                cases h
                exact en ⟨rfl, wk []⟩
              · refine zz ?_
                rcases iK k h with ⟨k, h⟩ | ⟨k, h⟩
                · refine zz ?_
                  subst hK88 gK88
                  cases h
                  exact en ⟨rfl, wk []⟩
                · refine zz ?_
                  subst hK88 gK88
                  cases h
                  exact en ⟨rfl, wk []⟩
            · refine zz ?_
              subst hK88 gK88
              cases h
              exact en ⟨rfl, wk []⟩
          · rcases iK k h with ⟨k, h⟩ | ⟨k, h⟩
            · refine xt <| xs <| rz ?_
              refine es <| xr <| br <| er ?_
              cases h
              exact en fr
            · refine xf <| xs <| rK fun K103 RK103 hK103 gK103 => zz ?_
              rcases iK k h with ⟨k, h⟩ | ⟨k, h⟩
              · refine zz ?_
                subst hK103 gK103
                refine es <| xt <| xs <| rz ?_
                refine es <| xr <| br <| er ?_
                cases h
                exact en fr
              · refine zz ?_
                rcases iK k h with ⟨k, h⟩ | ⟨k, h⟩
                · refine zz ?_
                  subst hK103 gK103
                  refine es <| xt <| xs <| rz ?_
                  refine es <| xr <| br <| er ?_
                  cases h
                  exact en fr
                · refine zz ?_
                  obtain ⟨r110, h111, h⟩ := bs h
                  refine cw (a_edl_last hI h111) <| zz ?_
                  subst hK103 gK103
                  refine es ?_
                  rcases iK k h with ⟨k, h⟩ | ⟨k, h⟩
                  · refine xt <| xs <| rz ?_
                    refine es <| xr <| br <| er ?_
                    cases h
                    exact en fr
                  · refine xf <| xk <| bn <| es <| xs <| rz ?_
                    refine es <| xr ?_
                    cases h
                    exact en fr
  · refine xt <| xs <| rz ?_
    refine es <| xr <| br <| er ?_
    cases h
    exact en fr
def g_edl_Reels_s1 (l_0 : T_edl_List) (x7 : (List (List UInt8)) × Int) : Option (Nx ((List (List UInt8)) × Int) ((List (List UInt8)))) :=
  (if (decide (x7.2 < (l_0.Cuts.length : Int))) then ((atI l_0.Cuts x7.2).bind fun y68 => (if (x7.1.length + 1) * 16 ≤ 140737488355328 then (some (.go ((x7.1 ++ [y68.Reel]), (IntKind.i64.wrap (x7.2 + 1))))) else none)) else (some (.out x7.1)))
def g_edl_Reels (l_0 : T_edl_List) : Option ((List (List UInt8))) :=
  ((iter (g_edl_Reels_s1 l_0) ([], 0)).bind fun e8 => (if e8.length < 4611686018427387904 then (if (sortS e8).length < 4611686018427387904 then (some (Lib.compact (sortS e8))) else none) else none))
theorem a_edl_Reels {I : World → Prop} (hI : Stab I) {l_0 : T_edl_List} {r : (List (List UInt8))} (h : g_edl_Reels l_0 = some r) : AFun Tryz.prog I 15 [T_edl_List.d l_0] (.sl (r.map D.str)) := by
  have dd := dd_EC; have k := True.intro; have q := k; have rs := Tryz.results15
  unfold g_edl_Reels at h
  refine .en hI Tryz.func15 Tryz.ntmps15 ?_
  refine xs <| rz ?_
  refine es <| xs <| rz ?_
  refine es <| xs <| xs <| rz ?_
  refine es <| xb ?_
  obtain ⟨e8, h74, h⟩ := bs h
  refine rb_loop (fun x7 => ⟨envL [(3, .own 0 x7.1.length), (7, .sl (l_0.Cuts.map T_api_Cut.d)), (8, .int .i64 (l_0.Cuts.length : Int)), (9, .int .i64 x7.2)], heapL [(0, .vec 9 1 (x7.1.map D.str) false)], 1, 23⟩) (fun _ => .exit 0) (fun e8 => ⟨envL [(3, .own 0 e8.length)], heapL [(0, .vec 9 1 (e8.map D.str) false)], 1, 23⟩) h74 (wk [(0, none)]) (by intro w; simp) ?_ ?_
  · clear h
    intro x7 y h
    unfold g_edl_Reels_s1 at h
    refine xs <| rz ?_
    refine es <| xs ?_
    rcases iK k h with ⟨k, h⟩ | ⟨k, h⟩
    · refine xt <| xk <| es <| xs <| xb <| xs <| rK fun K67 RK67 hK67 gK67 => zz ?_
      obtain ⟨y68, q, h⟩ := bK q h
      refine zz ?_
      subst hK67 gK67
      refine es <| rK fun K70 RK70 hK70 gK70 => zz ?_
      obtain ⟨h71, h⟩ := ite_on h
      have h72 : x7.1.length + 1 ≤ 9223372036854775807 := by omega
      try simp only [Nat.reduceLeDiff] at h72
      have q := And.intro @h72 <| And.intro @h71 <| q
      refine zz ?_
      subst hK70 gK70
      refine bn <| es <| rz ?_
      cases h
      exact en ⟨rfl, wk [(0, some 10)]⟩
    · refine xf <| xx <| ee ?_
      cases h
      exact en ⟨rfl, wk []⟩
  · refine bh <| es <| xs <| rK fun K77 RK77 hK77 gK77 => zz ?_
    obtain ⟨h78, h⟩ := ite_on h
    have q := And.intro (sortS_length e8) q
    refine cW.introR (c_SortS (nid := 2) (id := 0) (l := e8) fz h78) fs rfl <| zz ?_
    subst hK77 gK77
    refine es <| xs <| rK fun K81 RK81 hK81 gK81 => zz ?_
    obtain ⟨h82, h⟩ := ite_on h
    refine cW.introR (c_CompactS (nid := 4) (id := 0) (l := (sortS e8)) fz h82) fs rfl <| zz ?_
    subst hK81 gK81
    refine es <| xr ?_
    cases h
    exact en fr
def g_edl_Check_s1 (l_0 : T_edl_List) (r81 : Int) (x85 : Int) : Option (Nx (Int) (Int ⊕ Unit)) :=
  (if (decide (x85 < (l_0.Cuts.length : Int))) then ((atI l_0.Cuts x85).bind fun y357 => (((if (decide (y357.Number < 1)) then (some true) else (some (decide (999 < y357.Number)))) : Option (Bool)).bind fun v361 => (if v361 then (some (.out (.inl 2))) else (((if (decide (0 < x85)) then ((atI l_0.Cuts (IntKind.i64.wrap (x85 - 1))).bind fun y375 => (some (decide (y357.Number ≤ y375.Number)))) else (some false)) : Option (Bool)).bind fun v372 => (if v372 then (some (.out (.inl 8))) else ((g_edl_checkCut y357 r81).bind fun r385 => (if (r385 != 0) then (some (.out (.inl r385))) else (if (decide (0 < x85)) then ((atI l_0.Cuts (IntKind.i64.wrap (x85 - 1))).bind fun y398 => (if (decide (y357.Record.In < y398.Record.Out)) then (some (.out (.inl 14))) else (some (.go (IntKind.i64.wrap (x85 + 1)))))) else (some (.go (IntKind.i64.wrap (x85 + 1)))))))))))) else (some (.out (.inr ()))))
def g_edl_Check (l_0 : T_edl_List) : Option (Int) :=
  ((g_charset_Valid l_0.Title).bind fun r45 => (if r45 then (if (decide (400 < (l_0.Title.length : Int))) then (some 9) else ((((g_timebase_Valid l_0.Rate).bind fun r62 => (if r62 then (if l_0.Drop then ((g_timebase_CanDrop l_0.Rate).bind fun r66 => (some (!r66))) else (some false)) else (some true))) : Option (Bool)).bind fun v60 => (if v60 then (some 13) else (if (decide (64 < (l_0.Cuts.length : Int))) then (some 9) else ((g_timecode_Day l_0.Rate l_0.Drop).bind fun r81 => ((iter (g_edl_Check_s1 l_0 r81) 0).bind fun e86 => (match e86 with | Sum.inl e86 => (some e86) | Sum.inr (e86) => ((g_edl_Reels l_0).bind fun r410 => (if (decide (16 < (r410.length : Int))) then (some 9) else (some 0)))))))))) else (some 10)))
theorem a_edl_Check {I : World → Prop} (hI : Stab I) (hU8T : ∀ w, I w → U8T w) {l_0 : T_edl_List} {r : Int} (h : g_edl_Check l_0 = some r) : AFun Tryz.prog I 12 [T_edl_List.d l_0] (.int .i64 r) := by
  have dd := dd_EC; have k := True.intro; have q := k; have rs := Tryz.results12
  unfold g_edl_Check at h
  refine .en hI Tryz.func12 Tryz.ntmps12 ?_
  refine xs <| rz ?_
  refine es <| xs <| xb <| xs <| rK fun K44 RK44 hK44 gK44 => zz ?_
  obtain ⟨r45, h46, h⟩ := bs h
  refine cw (a_charset_Valid hI hU8T h46) <| zz ?_
  subst hK44 gK44
  refine es ?_
  rcases iK k h with ⟨k, h⟩ | ⟨k, h⟩
  · refine xf <| xs <| rz ?_
    refine es ?_
    rcases iK k h with ⟨k, h⟩ | ⟨k, h⟩
    · refine xt <| xs <| rz ?_
      refine es <| xr <| br <| er ?_
      cases h
      exact en fr
    · refine xf ?_
      obtain ⟨v60, h68, h⟩ := bs h
      refine rb_cut (fun v60 => ⟨envL [(1, .ptr 0 0), (17, .bool v60)], heapL [(0, .box none [.str l_0.Title, .int .u8 l_0.Rate, .bool l_0.Drop, .sl (l_0.Cuts.map T_api_Cut.d)])], 1, 99⟩) h68 ?_ ?_
      · clear h
        intro v60 h
        refine rK fun K61 RK61 hK61 gK61 => zz ?_
        obtain ⟨r62, h63, h⟩ := bs h
        refine cw (a_timebase_Valid hI h63) <| zz ?_
        rcases iK k h with ⟨k, h⟩ | ⟨k, h⟩
        · refine zz ?_
          rcases iK k h with ⟨k, h⟩ | ⟨k, h⟩
          · refine zz ?_
            obtain ⟨r66, h67, h⟩ := bs h
            refine cw (a_timebase_CanDrop hI h67) <| zz ?_
            subst hK61 gK61
            cases h
            exact en ⟨rfl, wk []⟩
          · refine zz ?_
            subst hK61 gK61
            cases h
            exact en ⟨rfl, wk []⟩
        · refine zz ?_
          subst hK61 gK61
          cases h
          exact en ⟨rfl, wk []⟩
      · rcases iK k h with ⟨k, h⟩ | ⟨k, h⟩
        · refine xt <| xs <| rz ?_
          refine es <| xr <| br <| er ?_
          cases h
          exact en fr
        · refine xf <| xs <| rz ?_
          refine es ?_
          rcases iK k h with ⟨k, h⟩ | ⟨k, h⟩
          · refine xt <| xs <| rz ?_
            refine es <| xr <| br <| er ?_
            cases h
            exact en fr
          · refine xf <| xk <| bn <| es <| xs <| rK fun K80 RK80 hK80 gK80 => zz ?_
            obtain ⟨r81, h82, h⟩ := bs h
            refine cw (a_timecode_Day hI h82) <| zz ?_
            subst hK80 gK80
            refine es <| xs <| xs <| rz ?_
            refine es <| xb ?_
            obtain ⟨e86, h405, h⟩ := bs h
            refine rb_loop (fun x85 => ⟨envL [(1, .ptr 0 0), (3, .int .i64 r81), (43, .sl (l_0.Cuts.map T_api_Cut.d)), (44, .int .i64 (l_0.Cuts.length : Int)), (45, .int .i64 x85)], heapL [(0, .box none [.str l_0.Title, .int .u8 l_0.Rate, .bool l_0.Drop, .sl (l_0.Cuts.map T_api_Cut.d)])], 1, 99⟩) (fun w => match w with | Sum.inl _ => .ret | Sum.inr (_) => .exit 1) (fun w => match w with | Sum.inl e86 => ⟨envL [(2, .int .i64 e86)], heapL [], 0, 99⟩ | Sum.inr (e86) => ⟨envL [(1, .ptr 0 0)], heapL [(0, .box none [.str l_0.Title, .int .u8 l_0.Rate, .bool l_0.Drop, .sl (l_0.Cuts.map T_api_Cut.d)])], 1, 99⟩) h405 (wk []) (by intro w; rcases w with w | w <;> simp) ?_ ?_
            · clear h
              intro x85 y h
              unfold g_edl_Check_s1 at h
              refine xs <| rz ?_
              refine es <| xs ?_
              rcases iK k h with ⟨k, h⟩ | ⟨k, h⟩
              · refine xt <| xk <| es <| xs <| xb <| xs <| rK fun K356 RK356 hK356 gK356 => zz ?_
                obtain ⟨y357, q, h⟩ := bK q h
                refine zz ?_
                subst hK356 gK356
                refine es <| xs ?_
                obtain ⟨v361, h364, h⟩ := bs h
                refine rb_cut (fun v361 => ⟨envL [(1, .ptr 0 0), (3, .int .i64 r81), (4, .int .i64 x85), (5, .ptr 1 0), (43, .sl (l_0.Cuts.map T_api_Cut.d)), (44, .int .i64 (l_0.Cuts.length : Int)), (45, .int .i64 x85), (57, .bool v361)], heapL [(0, .box none [.str l_0.Title, .int .u8 l_0.Rate, .bool l_0.Drop, .sl (l_0.Cuts.map T_api_Cut.d)]), (1, .box none [.int .i64 y357.Number, .str y357.Reel, .int .i64 y357.Source, .int .i64 y357.Record.In, .int .i64 y357.Record.Out, .int .i64 y357.Speed.Num, .int .i64 y357.Speed.Den])], 2, 99⟩) h364 ?_ ?_
                · clear h
                  intro v361 h
                  refine rK fun K362 RK362 hK362 gK362 => zz ?_
                  rcases iK k h with ⟨k, h⟩ | ⟨k, h⟩
                  · refine zz ?_
                    subst hK362 gK362
                    cases h
                    exact en ⟨rfl, wk [(1, some 5)]⟩
                  · refine zz ?_
                    subst hK362 gK362
                    cases h
                    exact en ⟨rfl, wk [(1, some 5)]⟩
                · rcases iK k h with ⟨k, h⟩ | ⟨k, h⟩
                  · refine xt <| xs <| rz ?_
                    refine es <| xr <| er <| br <| er ?_
                    cases h
                    exact en ⟨rfl, wk []⟩
                  · refine xf <| xk <| es <| xs ?_
                    obtain ⟨v372, h377, h⟩ := bs h
                    refine rb_cut (fun v372 => ⟨envL [(1, .ptr 0 0), (3, .int .i64 r81), (4, .int .i64 x85), (5, .ptr 1 0), (43, .sl (l_0.Cuts.map T_api_Cut.d)), (44, .int .i64 (l_0.Cuts.length : Int)), (45, .int .i64 x85), (71, .bool v372)], heapL [(0, .box none [.str l_0.Title, .int .u8 l_0.Rate, .bool l_0.Drop, .sl (l_0.Cuts.map T_api_Cut.d)]), (1, .box none [.int .i64 y357.Number, .str y357.Reel, .int .i64 y357.Source, .int .i64 y357.Record.In, .int .i64 y357.Record.Out, .int .i64 y357.Speed.Num, .int .i64 y357.Speed.Den])], 2, 99⟩) h377 ?_ ?_
                    · clear h
                      intro v372 h
                      refine rD hI fun K373 RK373 hK373 gK373 => zz ?_
                      rcases iK k h with ⟨k, h⟩ | ⟨k, h⟩
                      · refine zz ?_
                        obtain ⟨y375, q, h⟩ := bK q h
                        refine zz ?_
                        subst hK373 gK373
                        cases h
                        exact en ⟨rfl, wk []⟩
                      · refine zz ?_
                        subst hK373 gK373
                        cases h
                        exact en ⟨rfl, wk []⟩
                    · rcases iK k h with ⟨k, h⟩ | ⟨k, h⟩
                      · refine xt <| xs <| rz ?_
                        refine es <| xr <| er <| br <| er ?_
                        cases h
                        exact en ⟨rfl, wk []⟩
                      · refine xf <| xk <| es <| xs <| xs <| rK fun K384 RK384 hK384 gK384 => zz ?_
                        obtain ⟨r385, h386, h⟩ := bs h
                        refine cw (a_edl_checkCut hI h386) <| zz ?_
                        subst hK384 gK384
                        refine es <| xs <| rz ?_
                        refine es ?_
                        rcases iK k h with ⟨k, h⟩ | ⟨k, h⟩
                        · refine xt <| xs <| rz ?_
                          refine es <| xr <| er <| br <| er ?_
                          cases h
                          exact en ⟨rfl, wk []⟩
                        · refine xf <| xk <| es <| xs <| rD hI fun K396 RK396 hK396 gK396 => zz ?_
                          rcases iK k h with ⟨k, h⟩ | ⟨k, h⟩
                          · refine zz ?_
                            obtain ⟨y398, q, h⟩ := bK q h
                            refine zz ?_
                            subst hK396 gK396
                            refine es ?_
                            rcases iK k h with ⟨k, h⟩ | ⟨k, h⟩
                            · refine xt <| xs <| rz ?_
                              refine es <| xr <| br <| er ?_
                              cases h
                              exact en ⟨rfl, wk []⟩
                            · refine xf <| xk <| bn <| es <| rz ?_
                              cases h
                              exact en ⟨rfl, wk []⟩
                          · refine zz ?_
                            subst hK396 gK396
                            refine es <| xf <| xk <| bn <| es <| rz ?_
                            cases h
                            exact en ⟨rfl, wk []⟩
              · refine xf <| xx <| ee ?_
                cases h
                exact en ⟨rfl, wk []⟩
            · rcases e86 with e86 | e86
              · try dsimp only at h ⊢
                refine br <| er ?_
                cases h
                exact en fr
              · try dsimp only at h ⊢
                refine bh <| es <| xs <| xs <| rK fun K409 RK409 hK409 gK409 => zz ?_
                obtain ⟨r410, h411, h⟩ := bs h
                refine cw (a_edl_Reels hI h411) <| zz ?_
                subst hK409 gK409
                refine es ?_
                rcases iK k h with ⟨k, h⟩ | ⟨k, h⟩
                · refine xt <| xs <| rz ?_
                  refine es <| xr <| er ?_
                  cases h
                  exact en fr
                · refine xf <| xk <| es <| xs <| rz ?_
                  refine es <| xr ?_
                  cases h
                  exact en fr
  · refine xt <| xs <| rz ?_
    refine es <| xr <| br <| er ?_
    cases h
    exact en fr
def g_edl_Parse_s1 (r37 : T_edl_List × (List T_api_Diag)) (z48 : List T_api_Line) (x53 : (List T_api_Diag) × Int × (List T_api_Cut)) : Option (Nx ((List T_api_Diag) × Int × (List T_api_Cut)) ((List T_api_Diag) × (List T_api_Cut))) :=
  (if (decide (x53.2.1 < (z48.length : Int))) then ((atI z48 x53.2.1).bind fun y290 => ((g_edl_cut y290 (T_edl_List.mk r37.1.Title r37.1.Rate r37.1.Drop x53.2.2)).bind fun r296 => (if r296.2.2 then (if (decide (((x53.1.length : Nat) : Int) < 50)) then (if (x53.1.length + 1) * 24 ≤ 140737488355328 then (some (.go ((x53.1 ++ [r296.2.1]), (IntKind.i64.wrap (x53.2.1 + 1)), x53.2.2))) else none) else (some (.go (x53.1, (IntKind.i64.wrap (x53.2.1 + 1)), x53.2.2)))) else (if (x53.2.2.length + 1) * 64 ≤ 140737488355328 then (some (.go (x53.1, (IntKind.i64.wrap (x53.2.1 + 1)), (x53.2.2 ++ [r296.1])))) else none)))) else (some (.out (x53.1, x53.2.2))))
def g_edl_Parse (src_0 : List UInt8) : Option (T_edl_List × (List T_api_Diag)) :=
  ((g_lines_Split src_0).bind fun r7 => (if (decide (0 < (r7.2.length : Int))) then (some ((T_edl_List.mk [] 0 false []), r7.2)) else (if ((r7.1.length : Int) == 0) then (some ((T_edl_List.mk [] 0 false []), [(T_api_Diag.mk 1 1 8)])) else ((atI r7.1 0).bind fun y35 => ((g_edl_head y35).bind fun r37 => (if r37.2.isEmpty then ((subL r7.1 1).bind fun z48 => ((iter (g_edl_Parse_s1 r37 z48) ([], 0, [])).bind fun e54 => (if (decide (0 < ((e54.1.length : Nat) : Int))) then (some ((T_edl_List.mk [] 0 false []), e54.1)) else ((g_edl_Check (T_edl_List.mk r37.1.Title r37.1.Rate r37.1.Drop e54.2)).bind fun r323 => (if (r323 != 0) then (some ((T_edl_List.mk [] 0 false []), [(T_api_Diag.mk 1 1 r323)])) else (some ((T_edl_List.mk r37.1.Title r37.1.Rate r37.1.Drop e54.2), []))))))) else (some ((T_edl_List.mk [] 0 false []), r37.2))))))))
theorem a_edl_Parse {I : World → Prop} (hI : Stab I) (hPIv : ∀ w, I w → PIv w) (hShp : ∀ w, I w → Shp w) (hTab : ∀ w, I w → Tab w) (hU8T : ∀ w, I w → U8T w) {src_0 : List UInt8} {r : T_edl_List × (List T_api_Diag)} (h : g_edl_Parse src_0 = some r) : AFun Tryz.prog I 21 [.str src_0] (.tup [T_edl_List.d r.1, .sl (r.2.map T_api_Diag.d)]) := by
  have dd := dd_EC; have k := True.intro; have q := k; have rs := Tryz.results21
  unfold g_edl_Parse at h
  refine .en hI Tryz.func21 Tryz.ntmps21 ?_
  refine xs <| rz ?_
  refine es <| xs <| rK fun K6 RK6 hK6 gK6 => zz ?_
  obtain ⟨r7, h8, h⟩ := bs h
  refine cw (a_lines_Split hI hShp h8) <| zz ?_
  subst hK6 gK6
  refine es <| xs <| xb <| xs <| rz ?_
  refine es ?_
  rcases iK k h with ⟨k, h⟩ | ⟨k, h⟩
  · refine xt <| xs <| rz ?_
    refine es <| xr <| br <| er ?_
    cases h
    exact en fr
  · refine xf <| xs <| rz ?_
    refine es ?_
    rcases iK k h with ⟨k, h⟩ | ⟨k, h⟩
    · refine xt <| xs <| rz ?_
      refine es <| xr <| br <| er ?_
      cases h
      exact en fr
    · refine xf <| xk <| bn <| es <| xs <| rK fun K34 RK34 hK34 gK34 => zz ?_
      obtain ⟨y35, q, h⟩ := bK q h
      refine zz ?_
      obtain ⟨r37, h38, h⟩ := bs h
      refine cw (a_edl_head hI h38) ?_
      rcases iK k h with ⟨k, h⟩ | ⟨k, h⟩
      · have q := And.intro (nslD_t (f := T_api_Diag.d) k.1) q
        refine zz ?_
        subst hK34 gK34
        refine es <| xs <| xs <| rz ?_
        refine es <| xf <| xk <| es <| xs <| xs <| rK fun K47 RK47 hK47 gK47 => zz ?_
        obtain ⟨z48, h49, h⟩ := bind_some h
        obtain ⟨⟨h50, h51⟩, h52⟩ := subL_some h49
        try simp only [List.length_cons, List.length_nil, Nat.zero_add, Nat.reduceAdd, Int.reduceToNat] at h51
        have q := And.intro @h51 <| q
        try simp -implicitDefEqProofs only [vt, vm, sevalprocAttr, dd, k, q] at h52
        have q := And.intro @h52 <| q
        refine zz ?_
        subst hK47 gK47
        refine es <| xb ?_
        obtain ⟨e54, h313, h⟩ := bs h
        refine rb_loop (fun x53 => ⟨envL [(2, .ptr 0 0), (5, .own 2 x53.1.length), (6, .ptr 1 0), (44, .sl (z48.map T_api_Line.d)), (45, .int .i64 (z48.length : Int)), (46, .int .i64 x53.2.1)], heapL [(0, .box none [.str [], .int .u8 0, .bool false, .nils]), (1, .box none [.str r37.1.Title, .int .u8 r37.1.Rate, .bool r37.1.Drop, .own 3 x53.2.2.length]), (2, .vec 57 3 (x53.1.map T_api_Diag.d) false), (3, .vec 43 7 (x53.2.2.map T_api_Cut.d) false)], 4, 87⟩) (fun _ => .exit 1) (fun e54 => ⟨envL [(2, .ptr 0 0), (5, .own 1 e54.1.length), (6, .ptr 2 0)], heapL [(0, .box none [.str [], .int .u8 0, .bool false, .nils]), (1, .vec 57 3 (e54.1.map T_api_Diag.d) false), (2, .box none [.str r37.1.Title, .int .u8 r37.1.Rate, .bool r37.1.Drop, .own 3 e54.2.length]), (3, .vec 43 7 (e54.2.map T_api_Cut.d) false)], 4, 87⟩) h313 (wk [(1, some 24), (2, none), (3, none)]) (by intro w; simp) ?_ ?_
        · clear h
          intro x53 y h
          unfold g_edl_Parse_s1 at h
          refine xs <| rz ?_
          refine es <| xs ?_
          rcases iK k h with ⟨k, h⟩ | ⟨k, h⟩
          · refine xt <| xk <| es <| xs <| xb <| xs <| rK fun K289 RK289 hK289 gK289 => zz ?_
            obtain ⟨y290, q, h⟩ := bK q h
            refine zz ?_
            subst hK289 gK289
            refine es <| xs <| rK fun K295 RK295 hK295 gK295 => zz ?_
            obtain ⟨r296, h297, h⟩ := bs h
            refine cW.introR (.of_any hI (a_edl_cut hI hPIv hShp hTab h297) (by simp [leDs, leD, leL, pur1, dd])) rfl rfl <| zz ?_
            subst hK295 gK295
            refine es <| xs <| rz ?_
            refine es ?_
            rcases iK k h with ⟨k, h⟩ | ⟨k, h⟩
            · refine xf <| xs <| rz ?_
              refine es ?_
              rcases iK k h with ⟨k, h⟩ | ⟨k, h⟩
              · refine xt <| rK fun K304 RK304 hK304 gK304 => zz ?_
                obtain ⟨h305, h⟩ := ite_on h
                have h306 : x53.1.length + 1 ≤ 9223372036854775807 := by omega
                try simp only [Nat.reduceLeDiff] at h306
                have q := And.intro @h306 <| And.intro @h305 <| q
                refine zz ?_
                subst hK304 gK304
                refine bn <| es <| rz ?_
                cases h
                exact en ⟨rfl, wk [(2, some 29)]⟩
              · refine xf <| xk <| bn <| es <| rz ?_
                cases h
                exact en ⟨rfl, wk []⟩
            · refine xt <| rK fun K309 RK309 hK309 gK309 => zz ?_
              obtain ⟨h310, h⟩ := ite_on h
              have h311 : x53.2.2.length + 1 ≤ 9223372036854775807 := by omega
              try simp only [Nat.reduceLeDiff] at h311
              have q := And.intro @h311 <| And.intro @h310 <| q
              refine zz ?_
              subst hK309 gK309
              refine bn <| es <| rz ?_
              cases h
              exact en ⟨rfl, wk [(3, some 27)]⟩
          · refine xf <| xx <| ee ?_
            cases h
            exact en ⟨rfl, wk [(1, some 2), (2, some 1)]⟩
        · refine bh <| es <| xs <| xs <| rz ?_
          refine es ?_
          rcases iK k h with ⟨k, h⟩ | ⟨k, h⟩
          · refine xt <| xs <| rz ?_
            refine es <| xr <| er ?_
            cases h
            exact en fr
          · refine xf <| xk <| es <| xs <| xs <| rK fun K322 RK322 hK322 gK322 => zz ?_
            obtain ⟨r323, h324, h⟩ := bs h
            refine cw (a_edl_Check hI hU8T h324) <| zz ?_
            subst hK322 gK322
            refine es <| xs <| rz ?_
            refine es ?_
            rcases iK k h with ⟨k, h⟩ | ⟨k, h⟩
            · refine xt <| xs <| rz ?_
              refine es <| xr <| er ?_
              cases h
              exact en fr
            · refine xf <| xk <| es <| xs <| rz ?_
              refine es <| xr ?_
              cases h
              exact en fr
      · have q := And.intro (nslD_f (f := T_api_Diag.d) k.1) q
        have k := And.intro (nsl_len k.1) k
        refine zz ?_
        subst hK34 gK34
        refine es <| xs <| xs <| rz ?_
        refine es <| xt <| xs <| rz ?_
        refine es <| xr <| er ?_
        cases h
        exact en fr
def g_edl_label (l_0 : T_edl_List) (frame_1 : Int) : Option ((List UInt8)) :=
  ((g_timecode_Label l_0.Rate l_0.Drop frame_1).bind fun r7 => ((g_timecode_Text l_0.Rate r7.1).bind fun r13 => (some r13.1)))
theorem a_edl_label {I : World → Prop} (hI : Stab I) {l_0 : T_edl_List} {frame_1 : Int} {r : (List UInt8)} (h : g_edl_label l_0 frame_1 = some r) : AFun Tryz.prog I 41 [T_edl_List.d l_0, .int .i64 frame_1] (.str r) := by
  have dd := dd_EC; have k := True.intro; have q := k; have rs := Tryz.results41
  unfold g_edl_label at h
  refine .en hI Tryz.func41 Tryz.ntmps41 ?_
  refine xs <| rz ?_
  refine es <| xs <| rK fun K6 RK6 hK6 gK6 => zz ?_
  obtain ⟨r7, h8, h⟩ := bs h
  refine cw (a_timecode_Label hI h8) <| zz ?_
  subst hK6 gK6
  refine es <| xs <| rK fun K12 RK12 hK12 gK12 => zz ?_
  obtain ⟨r13, h14, h⟩ := bs h
  refine cw (a_timecode_Text hI h14) <| zz ?_
  subst hK12 gK12
  refine es <| xs <| rz ?_
  refine es <| xr ?_
  cases h
  exact en fr
def g_edl_Text_s1 (l_0 : T_edl_List) (x60 : Int × (List Int)) : Option (Nx (Int × (List Int)) ((List Int))) :=
  (if (decide (x60.1 < (l_0.Cuts.length : Int))) then ((atI l_0.Cuts x60.1).bind fun y297 => ((g_lines_Decimal y297.Number).bind fun r312 => ((g_edl_label l_0 y297.Source).bind fun r314 => ((g_edl_label l_0 y297.Record.In).bind fun r316 => ((g_edl_label l_0 y297.Record.Out).bind fun r318 => ((g_strings_Join [[67, 85, 84], r312, y297.Reel, r314, r316, r318] [32]).bind fun r320 => (if x60.2.length + r320.length ≤ 140737488355328 then (if ((y297.Speed.Num == 1) && (y297.Speed.Den == 1)) then (if (x60.2 ++ toI r320).length + ([10] : List UInt8).length ≤ 140737488355328 then (some (.go ((IntKind.i64.wrap (x60.1 + 1)), ((x60.2 ++ toI r320) ++ toI ([10] : List UInt8))))) else none) else ((g_ratio_Text y297.Speed).bind fun r330 => (if 7 + r330.length ≤ 9223372036854775807 then (if (x60.2 ++ toI r320).length + ([32, 83, 80, 69, 69, 68, 32] ++ r330).length ≤ 140737488355328 then (if ((x60.2 ++ toI r320) ++ toI ([32, 83, 80, 69, 69, 68, 32] ++ r330)).length + ([10] : List UInt8).length ≤ 140737488355328 then (some (.go ((IntKind.i64.wrap (x60.1 + 1)), (((x60.2 ++ toI r320) ++ toI ([32, 83, 80, 69, 69, 68, 32] ++ r330)) ++ toI ([10] : List UInt8))))) else none) else none) else none))) else none))))))) else (some (.out x60.2)))
def g_edl_Text_s2 (l_0 : T_edl_List) (x379 : Int × (List Int)) : Option (Nx (Int × (List Int)) ((List Int))) :=
  (if (decide (x379.1 < (l_0.Cuts.length : Int))) then ((atI l_0.Cuts x379.1).bind fun y616 => ((g_lines_Decimal y616.Number).bind fun r631 => ((g_edl_label l_0 y616.Source).bind fun r633 => ((g_edl_label l_0 y616.Record.In).bind fun r635 => ((g_edl_label l_0 y616.Record.Out).bind fun r637 => ((g_strings_Join [[67, 85, 84], r631, y616.Reel, r633, r635, r637] [32]).bind fun r639 => (if x379.2.length + r639.length ≤ 140737488355328 then (if ((y616.Speed.Num == 1) && (y616.Speed.Den == 1)) then (if (x379.2 ++ toI r639).length + ([10] : List UInt8).length ≤ 140737488355328 then (some (.go ((IntKind.i64.wrap (x379.1 + 1)), ((x379.2 ++ toI r639) ++ toI ([10] : List UInt8))))) else none) else ((g_ratio_Text y616.Speed).bind fun r649 => (if 7 + r649.length ≤ 9223372036854775807 then (if (x379.2 ++ toI r639).length + ([32, 83, 80, 69, 69, 68, 32] ++ r649).length ≤ 140737488355328 then (if ((x379.2 ++ toI r639) ++ toI ([32, 83, 80, 69, 69, 68, 32] ++ r649)).length + ([10] : List UInt8).length ≤ 140737488355328 then (some (.go ((IntKind.i64.wrap (x379.1 + 1)), (((x379.2 ++ toI r639) ++ toI ([32, 83, 80, 69, 69, 68, 32] ++ r649)) ++ toI ([10] : List UInt8))))) else none) else none) else none))) else none))))))) else (some (.out x379.2)))
def g_edl_Text (l_0 : T_edl_List) : Option ((List UInt8) × Int) :=
  ((g_edl_Check l_0).bind fun r7 => (if (r7 != 0) then (some ([], r7)) else (if l_0.Drop then ((g_lines_Quote l_0.Title).bind fun r41 => (if 4 + r41.length ≤ 9223372036854775807 then (if (4 + r41.length) + 1 ≤ 9223372036854775807 then ((g_timebase_Name l_0.Rate).bind fun r47 => (if ((4 + r41.length) + 1) + r47.length ≤ 9223372036854775807 then (if (((4 + r41.length) + 1) + r47.length) + 1 ≤ 9223372036854775807 then (if ((((4 + r41.length) + 1) + r47.length) + 1) + 4 ≤ 9223372036854775807 then (if (((((4 + r41.length) + 1) + r47.length) + 1) + 4) + 1 ≤ 9223372036854775807 then (if (((((([69, 68, 76, 32] ++ r41) ++ [32]) ++ r47) ++ [32]) ++ [68, 82, 79, 80]) ++ [10]).length ≤ 140737488355328 then ((iter (g_edl_Text_s1 l_0) (0, (toI (((((([69, 68, 76, 32] ++ r41) ++ [32]) ++ r47) ++ [32]) ++ [68, 82, 79, 80]) ++ [10])))).bind fun e61 => (some ((bytesOf e61), 0))) else none) else none) else none) else none) else none)) else none) else none)) else ((g_lines_Quote l_0.Title).bind fun r360 => (if 4 + r360.length ≤ 9223372036854775807 then (if (4 + r360.length) + 1 ≤ 9223372036854775807 then ((g_timebase_Name l_0.Rate).bind fun r366 => (if ((4 + r360.length) + 1) + r366.length ≤ 9223372036854775807 then (if (((4 + r360.length) + 1) + r366.length) + 1 ≤ 9223372036854775807 then (if ((((4 + r360.length) + 1) + r366.length) + 1) + 3 ≤ 9223372036854775807 then (if (((((4 + r360.length) + 1) + r366.length) + 1) + 3) + 1 ≤ 9223372036854775807 then (if (((((([69, 68, 76, 32] ++ r360) ++ [32]) ++ r366) ++ [32]) ++ [78, 68, 70]) ++ [10]).length ≤ 140737488355328 then ((iter (g_edl_Text_s2 l_0) (0, (toI (((((([69, 68, 76, 32] ++ r360) ++ [32]) ++ r366) ++ [32]) ++ [78, 68, 70]) ++ [10])))).bind fun e380 => (some ((bytesOf e380), 0))) else none) else none) else none) else none) else none)) else none) else none)))))
theorem a_edl_Text {I : World → Prop} (hI : Stab I) (hTab : ∀ w, I w → Tab w) (hU8T : ∀ w, I w → U8T w) {l_0 : T_edl_List} {r : (List UInt8) × Int} (h : g_edl_Text l_0 = some r) : AFun Tryz.prog I 19 [T_edl_List.d l_0] (.tup [.str r.1, .int .i64 r.2]) := by
  have dd := dd_EC; have k := True.intro; have q := k; have rs := Tryz.results19
  unfold g_edl_Text at h
  refine .en hI Tryz.func19 Tryz.ntmps19 ?_
  refine xs <| rz ?_
  refine es <| xs <| xs <| rK fun K6 RK6 hK6 gK6 => zz ?_
  obtain ⟨r7, h8, h⟩ := bs h
  refine cw (a_edl_Check hI hU8T h8) <| zz ?_
  subst hK6 gK6
  refine es <| xs <| rz ?_
  refine es ?_
  rcases iK k h with ⟨k, h⟩ | ⟨k, h⟩
  · refine xt <| xs <| rz ?_
    refine es <| xr <| er ?_
    cases h
    exact en fr
  · refine xf <| xk <| es <| xs <| rz ?_
    refine es <| xs <| rz ?_
    refine es <| xs <| xs <| rz ?_
    refine es ?_
    rcases iK k h with ⟨k, h⟩ | ⟨k, h⟩
    · refine xt <| rz ?_
      refine es <| xs <| rD hI fun K40 RK40 hK40 gK40 => zz ?_
      obtain ⟨r41, h42, h⟩ := bs h
      refine cd (a_lines_Quote hI h42) <| zz ?_
      obtain ⟨h43, h⟩ := ite_on h
      have h44 : ([69, 68, 76, 32] : List UInt8).length + r41.length ≤ 9223372036854775807 := by (try simp only [List.length_append, List.length_cons, List.length_nil]); omega
      try simp -implicitDefEqProofs only [vt, vm, sevalprocAttr, dd, k, q] at h44
      have q := And.intro @h44 <| And.intro @h43 <| q
      refine zz ?_
      obtain ⟨h45, h⟩ := ite_on h
      have h46 : ([69, 68, 76, 32] ++ r41).length + ([32] : List UInt8).length ≤ 9223372036854775807 := by (try simp only [List.length_append, List.length_cons, List.length_nil]); omega
      try simp -implicitDefEqProofs only [vt, vm, sevalprocAttr, dd, k, q] at h46
      have q := And.intro @h46 <| And.intro @h45 <| q
      refine zz ?_
      obtain ⟨r47, h48, h⟩ := bs h
      refine cd (a_timebase_Name hI h48) <| zz ?_
      obtain ⟨h49, h⟩ := ite_on h
      have h50 : (([69, 68, 76, 32] ++ r41) ++ [32]).length + r47.length ≤ 9223372036854775807 := by (try simp only [List.length_append, List.length_cons, List.length_nil]); omega
      try simp -implicitDefEqProofs only [vt, vm, sevalprocAttr, dd, k, q] at h50
      have q := And.intro @h50 <| And.intro @h49 <| q
      refine zz ?_
      obtain ⟨h51, h⟩ := ite_on h
      have h52 : ((([69, 68, 76, 32] ++ r41) ++ [32]) ++ r47).length + ([32] : List UInt8).length ≤ 9223372036854775807 := by (try simp only [List.length_append, List.length_cons, List.length_nil]); omega
      try simp -implicitDefEqProofs only [vt, vm, sevalprocAttr, dd, k, q] at h52
      have q := And.intro @h52 <| And.intro @h51 <| q
      refine zz ?_
      obtain ⟨h53, h⟩ := ite_on h
      have h54 : (((([69, 68, 76, 32] ++ r41) ++ [32]) ++ r47) ++ [32]).length + ([68, 82, 79, 80] : List UInt8).length ≤ 9223372036854775807 := by (try simp only [List.length_append, List.length_cons, List.length_nil]); omega
      try simp -implicitDefEqProofs only [vt, vm, sevalprocAttr, dd, k, q] at h54
      have q := And.intro @h54 <| And.intro @h53 <| q
      refine zz ?_
      obtain ⟨h55, h⟩ := ite_on h
      have h56 : ((((([69, 68, 76, 32] ++ r41) ++ [32]) ++ r47) ++ [32]) ++ [68, 82, 79, 80]).length + ([10] : List UInt8).length ≤ 9223372036854775807 := by (try simp only [List.length_append, List.length_cons, List.length_nil]); omega
      try simp -implicitDefEqProofs only [vt, vm, sevalprocAttr, dd, k, q] at h56
      have q := And.intro @h56 <| And.intro @h55 <| q
      refine zz ?_
      obtain ⟨h57, h⟩ := ite_on h
      refine eD.intro (fun H' ho hs => (c_WriteString0 I (H := H') (id := 8) (nid := 26) (s := (((((([69, 68, 76, 32] ++ r41) ++ [32]) ++ r47) ++ [32]) ++ [68, 82, 79, 80]) ++ [10])) (ho 8 _ (by dsimp only; decide) fz) h57 (by decide))) fi rfl fk <| zz ?_
      subst hK40 gK40
      refine es <| xs <| xs <| rz ?_
      refine es <| xb ?_
      obtain ⟨e61, h338, h⟩ := bs h
      refine rb_loop (fun x60 => ⟨envL [(1, .ptr 0 0), (5, .ptr 1 0), (31, .sl (l_0.Cuts.map T_api_Cut.d)), (32, .int .i64 (l_0.Cuts.length : Int)), (33, .int .i64 x60.1)], heapL [(0, .box none [.str l_0.Title, .int .u8 l_0.Rate, .bool l_0.Drop, .sl (l_0.Cuts.map T_api_Cut.d)]), (1, .bbox 67 [.sp 1, .own 2 x60.2.length]), (2, .vec 5 1 (x60.2.map (D.int .u8)) false)], 3, 71⟩) (fun _ => .exit 0) (fun e61 => ⟨envL [(5, .ptr 0 0)], heapL [(0, .bbox 67 [.sp 0, .own 1 e61.length]), (1, .vec 5 1 (e61.map (D.int .u8)) false)], 2, 71⟩) h338 (wk [(1, some 8), (2, some 26)]) (by intro w; simp) ?_ ?_
      · clear h
        intro x60 y h
        unfold g_edl_Text_s1 at h
        refine xs <| rz ?_
        refine es <| xs ?_
        rcases iK k h with ⟨k, h⟩ | ⟨k, h⟩
        · refine xt <| xk <| es <| xs <| xb <| xs <| rK fun K296 RK296 hK296 gK296 => zz ?_
          obtain ⟨y297, q, h⟩ := bK q h
          refine zz ?_
          subst hK296 gK296
          refine es <| xs <| rD hI fun K311 RK311 hK311 gK311 => zz ?_
          obtain ⟨r312, h313, h⟩ := bs h
          refine cd (a_lines_Decimal hI hTab h313) <| zz ?_
          obtain ⟨r314, h315, h⟩ := bs h
          refine cd (a_edl_label hI h315) <| zz ?_
          obtain ⟨r316, h317, h⟩ := bs h
          refine cd (a_edl_label hI h317) <| zz ?_
          obtain ⟨r318, h319, h⟩ := bs h
          refine cd (a_edl_label hI h319) <| zz ?_
          obtain ⟨r320, h321, h⟩ := bs h
          refine cd (a_strings_Join I hI [[67, 85, 84], r312, y297.Reel, r314, r316, r318] [32] h321) <| zz ?_
          obtain ⟨h322, h⟩ := ite_on h
          refine eD.intro (fun H' ho hs => (c_WriteString1 I (H := H') (id := 1) (nid := 29) (id2 := 2) (n := x60.2.length) (s := r320) (l := x60.2) (ho 1 _ (by dsimp only; decide) fz) (ho 2 _ (by dsimp only; decide) fz) fs h322 (by decide))) fi rfl fk <| zz ?_
          subst hK311 gK311
          refine es <| xs <| xs <| rz ?_
          refine es ?_
          rcases iK k h with ⟨k, h⟩ | ⟨k, h⟩
          · refine xf <| xk <| es <| rK fun K326 RK326 hK326 gK326 => zz ?_
            obtain ⟨h327, h⟩ := ite_on h
            refine eW.intro (c_WriteString1 I (id := 1) (nid := 34) (id2 := 29) (n := ((x60.2 ++ toI r320).length)) (s := ([10] : List UInt8)) (l := (x60.2 ++ toI r320)) fz fz fs h327 (by decide)) fi rfl <| zz ?_
            subst hK326 gK326
            refine bn <| es <| rz ?_
            cases h
            exact en ⟨rfl, wk [(2, some 34)]⟩
          · refine xt <| rK fun K329 RK329 hK329 gK329 => zz ?_
            obtain ⟨r330, h331, h⟩ := bs h
            refine cw (a_ratio_Text hI hTab h331) <| zz ?_
            obtain ⟨h332, h⟩ := ite_on h
            have h333 : ([32, 83, 80, 69, 69, 68, 32] : List UInt8).length + r330.length ≤ 9223372036854775807 := by (try simp only [List.length_append, List.length_cons, List.length_nil]); omega
            try simp -implicitDefEqProofs only [vt, vm, sevalprocAttr, dd, k, q] at h333
            have q := And.intro @h333 <| And.intro @h332 <| q
            refine zz ?_
            obtain ⟨h334, h⟩ := ite_on h
            refine eW.intro (c_WriteString1 I (id := 1) (nid := 38) (id2 := 29) (n := ((x60.2 ++ toI r320).length)) (s := ([32, 83, 80, 69, 69, 68, 32] ++ r330)) (l := (x60.2 ++ toI r320)) fz fz fs h334 (by decide)) fi rfl <| zz ?_
            subst hK329 gK329
            refine es <| rK fun K335 RK335 hK335 gK335 => zz ?_
            obtain ⟨h336, h⟩ := ite_on h
            refine eW.intro (c_WriteString1 I (id := 1) (nid := 39) (id2 := 38) (n := (((x60.2 ++ toI r320) ++ toI ([32, 83, 80, 69, 69, 68, 32] ++ r330)).length)) (s := ([10] : List UInt8)) (l := ((x60.2 ++ toI r320) ++ toI ([32, 83, 80, 69, 69, 68, 32] ++ r330))) fz fz fs h336 (by decide)) fi rfl <| zz ?_
            subst hK335 gK335
            refine bn <| es <| rz ?_
            cases h
            exact en ⟨rfl, wk [(2, some 39)]⟩
        · refine xf <| xx <| ee ?_
          cases h
          exact en ⟨rfl, wk [(0, some 1), (1, some 2)]⟩
      · refine bh <| es <| xs <| rK fun K340 RK340 hK340 gK340 => zz ?_
        refine eW.intro (c_String1 I (id := 0) (nid := 2) (id2 := 1) (n := e61.length) (l := e61) fz fz fs) fi rfl <| zz ?_
        subst hK340 gK340
        refine es <| xr ?_
        cases h
        exact en fr
    · refine xf <| xk <| es <| xs <| rD hI fun K359 RK359 hK359 gK359 => zz ?_
      obtain ⟨r360, h361, h⟩ := bs h
      refine cd (a_lines_Quote hI h361) <| zz ?_
      obtain ⟨h362, h⟩ := ite_on h
      have h363 : ([69, 68, 76, 32] : List UInt8).length + r360.length ≤ 9223372036854775807 := by (try simp only [List.length_append, List.length_cons, List.length_nil]); omega
      try simp -implicitDefEqProofs only [vt, vm, sevalprocAttr, dd, k, q] at h363
      have q := And.intro @h363 <| And.intro @h362 <| q
      refine zz ?_
      obtain ⟨h364, h⟩ := ite_on h
      have h365 : ([69, 68, 76, 32] ++ r360).length + ([32] : List UInt8).length ≤ 9223372036854775807 := by (try simp only [List.length_append, List.length_cons, List.length_nil]); omega
      try simp -implicitDefEqProofs only [vt, vm, sevalprocAttr, dd, k, q] at h365
      have q := And.intro @h365 <| And.intro @h364 <| q
      refine zz ?_
      obtain ⟨r366, h367, h⟩ := bs h
      refine cd (a_timebase_Name hI h367) <| zz ?_
      obtain ⟨h368, h⟩ := ite_on h
      have h369 : (([69, 68, 76, 32] ++ r360) ++ [32]).length + r366.length ≤ 9223372036854775807 := by (try simp only [List.length_append, List.length_cons, List.length_nil]); omega
      try simp -implicitDefEqProofs only [vt, vm, sevalprocAttr, dd, k, q] at h369
      have q := And.intro @h369 <| And.intro @h368 <| q
      refine zz ?_
      obtain ⟨h370, h⟩ := ite_on h
      have h371 : ((([69, 68, 76, 32] ++ r360) ++ [32]) ++ r366).length + ([32] : List UInt8).length ≤ 9223372036854775807 := by (try simp only [List.length_append, List.length_cons, List.length_nil]); omega
      try simp -implicitDefEqProofs only [vt, vm, sevalprocAttr, dd, k, q] at h371
      have q := And.intro @h371 <| And.intro @h370 <| q
      refine zz ?_
      obtain ⟨h372, h⟩ := ite_on h
      have h373 : (((([69, 68, 76, 32] ++ r360) ++ [32]) ++ r366) ++ [32]).length + ([78, 68, 70] : List UInt8).length ≤ 9223372036854775807 := by (try simp only [List.length_append, List.length_cons, List.length_nil]); omega
      try simp -implicitDefEqProofs only [vt, vm, sevalprocAttr, dd, k, q] at h373
      have q := And.intro @h373 <| And.intro @h372 <| q
      refine zz ?_
      obtain ⟨h374, h⟩ := ite_on h
      have h375 : ((((([69, 68, 76, 32] ++ r360) ++ [32]) ++ r366) ++ [32]) ++ [78, 68, 70]).length + ([10] : List UInt8).length ≤ 9223372036854775807 := by (try simp only [List.length_append, List.length_cons, List.length_nil]); omega
      try simp -implicitDefEqProofs only [vt, vm, sevalprocAttr, dd, k, q] at h375
      have q := And.intro @h375 <| And.intro @h374 <| q
      refine zz ?_
      obtain ⟨h376, h⟩ := ite_on h
      refine eD.intro (fun H' ho hs => (c_WriteString0 I (H := H') (id := 8) (nid := 25) (s := (((((([69, 68, 76, 32] ++ r360) ++ [32]) ++ r366) ++ [32]) ++ [78, 68, 70]) ++ [10])) (ho 8 _ (by dsimp only; decide) fz) h376 (by decide))) fi rfl fk <| zz ?_
      subst hK359 gK359
      refine es <| xs <| xs <| rz ?_
      refine es <| xb ?_
      obtain ⟨e380, h657, h⟩ := bs h
      refine rb_loop (fun x379 => ⟨envL [(1, .ptr 0 0), (5, .ptr 1 0), (31, .sl (l_0.Cuts.map T_api_Cut.d)), (32, .int .i64 (l_0.Cuts.length : Int)), (33, .int .i64 x379.1)], heapL [(0, .box none [.str l_0.Title, .int .u8 l_0.Rate, .bool l_0.Drop, .sl (l_0.Cuts.map T_api_Cut.d)]), (1, .bbox 67 [.sp 1, .own 2 x379.2.length]), (2, .vec 5 1 (x379.2.map (D.int .u8)) false)], 3, 71⟩) (fun _ => .exit 0) (fun e380 => ⟨envL [(5, .ptr 0 0)], heapL [(0, .bbox 67 [.sp 0, .own 1 e380.length]), (1, .vec 5 1 (e380.map (D.int .u8)) false)], 2, 71⟩) h657 (wk [(1, some 8), (2, some 25)]) (by intro w; simp) ?_ ?_
      · clear h
        intro x379 y h
        unfold g_edl_Text_s2 at h
        refine xs <| rz ?_
        refine es <| xs ?_
        rcases iK k h with ⟨k, h⟩ | ⟨k, h⟩
        · refine xt <| xk <| es <| xs <| xb <| xs <| rK fun K615 RK615 hK615 gK615 => zz ?_
          obtain ⟨y616, q, h⟩ := bK q h
          refine zz ?_
          subst hK615 gK615
          refine es <| xs <| rD hI fun K630 RK630 hK630 gK630 => zz ?_
          obtain ⟨r631, h632, h⟩ := bs h
          refine cd (a_lines_Decimal hI hTab h632) <| zz ?_
          obtain ⟨r633, h634, h⟩ := bs h
          refine cd (a_edl_label hI h634) <| zz ?_
          obtain ⟨r635, h636, h⟩ := bs h
          refine cd (a_edl_label hI h636) <| zz ?_
          obtain ⟨r637, h638, h⟩ := bs h
          refine cd (a_edl_label hI h638) <| zz ?_
          obtain ⟨r639, h640, h⟩ := bs h
          refine cd (a_strings_Join I hI [[67, 85, 84], r631, y616.Reel, r633, r635, r637] [32] h640) <| zz ?_
          obtain ⟨h641, h⟩ := ite_on h
          refine eD.intro (fun H' ho hs => (c_WriteString1 I (H := H') (id := 1) (nid := 29) (id2 := 2) (n := x379.2.length) (s := r639) (l := x379.2) (ho 1 _ (by dsimp only; decide) fz) (ho 2 _ (by dsimp only; decide) fz) fs h641 (by decide))) fi rfl fk <| zz ?_
          subst hK630 gK630
          refine es <| xs <| xs <| rz ?_
          refine es ?_
          rcases iK k h with ⟨k, h⟩ | ⟨k, h⟩
          · refine xf <| xk <| es <| rK fun K645 RK645 hK645 gK645 => zz ?_
            obtain ⟨h646, h⟩ := ite_on h
            refine eW.intro (c_WriteString1 I (id := 1) (nid := 34) (id2 := 29) (n := ((x379.2 ++ toI r639).length)) (s := ([10] : List UInt8)) (l := (x379.2 ++ toI r639)) fz fz fs h646 (by decide)) fi rfl <| zz ?_
            subst hK645 gK645
            refine bn <| es <| rz ?_
            cases h
            exact en ⟨rfl, wk [(2, some 34)]⟩
          · refine xt <| rK fun K648 RK648 hK648 gK648 => zz ?_
            obtain ⟨r649, h650, h⟩ := bs h
            refine cw (a_ratio_Text hI hTab h650) <| zz ?_
            obtain ⟨h651, h⟩ := ite_on h
            have h652 : ([32, 83, 80, 69, 69, 68, 32] : List UInt8).length + r649.length ≤ 9223372036854775807 := by (try simp only [List.length_append, List.length_cons, List.length_nil]); omega
            try simp -implicitDefEqProofs only [vt, vm, sevalprocAttr, dd, k, q] at h652
            have q := And.intro @h652 <| And.intro @h651 <| q
            refine zz ?_
            obtain ⟨h653, h⟩ := ite_on h
            refine eW.intro (c_WriteString1 I (id := 1) (nid := 38) (id2 := 29) (n := ((x379.2 ++ toI r639).length)) (s := ([32, 83, 80, 69, 69, 68, 32] ++ r649)) (l := (x379.2 ++ toI r639)) fz fz fs h653 (by decide)) fi rfl <| zz ?_
            subst hK648 gK648
            refine es <| rK fun K654 RK654 hK654 gK654 => zz ?_
            obtain ⟨h655, h⟩ := ite_on h
            refine eW.intro (c_WriteString1 I (id := 1) (nid := 39) (id2 := 38) (n := (((x379.2 ++ toI r639) ++ toI ([32, 83, 80, 69, 69, 68, 32] ++ r649)).length)) (s := ([10] : List UInt8)) (l := ((x379.2 ++ toI r639) ++ toI ([32, 83, 80, 69, 69, 68, 32] ++ r649))) fz fz fs h655 (by decide)) fi rfl <| zz ?_
            subst hK654 gK654
            refine bn <| es <| rz ?_
            cases h
            exact en ⟨rfl, wk [(2, some 39)]⟩
        · refine xf <| xx <| ee ?_
          cases h
          exact en ⟨rfl, wk [(0, some 1), (1, some 2)]⟩
      · refine bh <| es <| xs <| rK fun K659 RK659 hK659 gK659 => zz ?_
        refine eW.intro (c_String1 I (id := 0) (nid := 2) (id2 := 1) (n := e380.length) (l := e380) fz fz fs) fi rfl <| zz ?_
        subst hK659 gK659
        refine es <| xr ?_
        cases h
        exact en fr
def g_edl_Length_s1 (l_0 : T_edl_List) (x7 : Int × Int) : Option (Nx (Int × Int) (Int)) :=
  (if (decide (x7.2 < (l_0.Cuts.length : Int))) then ((atI l_0.Cuts x7.2).bind fun y43 => (some (.go ((if y43.Record.Out > x7.1 then y43.Record.Out else x7.1), (IntKind.i64.wrap (x7.2 + 1)))))) else (some (.out x7.1)))
def g_edl_Length (l_0 : T_edl_List) : Option (Int) :=
  ((iter (g_edl_Length_s1 l_0) (0, 0)).bind fun e8 => (some e8))
theorem a_edl_Length {I : World → Prop} (hI : Stab I) {l_0 : T_edl_List} {r : Int} (h : g_edl_Length l_0 = some r) : AFun Tryz.prog I 17 [T_edl_List.d l_0] (.int .i64 r) := by
  have dd := dd_EC; have k := True.intro; have q := k; have rs := Tryz.results17
  unfold g_edl_Length at h
  refine .en hI Tryz.func17 Tryz.ntmps17 ?_
  refine xs <| rz ?_
  refine es <| xs <| rz ?_
  refine es <| xs <| xs <| rz ?_
  refine es <| xb ?_
  obtain ⟨e8, h47, h⟩ := bs h
  refine rb_loop (fun x7 => ⟨envL [(3, .int .i64 x7.1), (7, .sl (l_0.Cuts.map T_api_Cut.d)), (8, .int .i64 (l_0.Cuts.length : Int)), (9, .int .i64 x7.2)], heapL [], 0, 20⟩) (fun _ => .exit 0) (fun e8 => ⟨envL [(3, .int .i64 e8)], heapL [], 0, 20⟩) h47 (wk []) (by intro w; simp) ?_ ?_
  · clear h
    intro x7 y h
    unfold g_edl_Length_s1 at h
    refine xs <| rz ?_
    refine es <| xs ?_
    rcases iK k h with ⟨k, h⟩ | ⟨k, h⟩
    · refine xt <| xk <| es <| xs <| xb <| xs <| rK fun K42 RK42 hK42 gK42 => zz ?_
      obtain ⟨y43, q, h⟩ := bK q h
      refine zz ?_
      subst hK42 gK42
      refine es <| rz ?_
      refine bn <| es <| rz ?_
      cases h
      exact en ⟨rfl, wk []⟩
    · refine xf <| xx <| ee ?_
      cases h
      exact en ⟨rfl, wk []⟩
  · refine bh <| es <| xs <| rz ?_
    refine es <| xr ?_
    cases h
    exact en fr
def g_law44_awake  : Option (Bool) :=
  ((g_edl_Parse [69, 68, 76, 32, 34, 82, 101, 101, 108, 32, 116, 101, 115, 116, 34, 32, 50, 53, 32, 78, 68, 70, 10, 67, 85, 84, 32, 49, 32, 65, 32, 48, 48, 58, 48, 48, 58, 49, 48, 58, 48, 48, 32, 48, 48, 58, 48, 48, 58, 48, 48, 58, 48, 48, 32, 48, 48, 58, 48, 48, 58, 48, 52, 58, 48, 48, 10]).bind fun r7 => (((if ((r7.2.length : Int) != 0) then (some true) else (if ((r7.1.Cuts.length : Int) != 1) then (some true) else ((atI r7.1.Cuts 0).bind fun y18 => (some (!((y18.Number == 1) && ((y18.Reel == ([65] : List UInt8)) && ((y18.Source == 250) && ((y18.Record.In == 0) && ((y18.Record.Out == 100) && ((y18.Speed.Num == 1) && (y18.Speed.Den == 1)))))))))))) : Option (Bool)).bind fun v14 => (if v14 then (some false) else ((g_edl_Text r7.1).bind fun r28 => (if (r28.2 == 0) then (if (r28.1 == ([69, 68, 76, 32, 34, 82, 101, 101, 108, 32, 116, 101, 115, 116, 34, 32, 50, 53, 32, 78, 68, 70, 10, 67, 85, 84, 32, 49, 32, 65, 32, 48, 48, 58, 48, 48, 58, 49, 48, 58, 48, 48, 32, 48, 48, 58, 48, 48, 58, 48, 48, 58, 48, 48, 32, 48, 48, 58, 48, 48, 58, 48, 52, 58, 48, 48, 10] : List UInt8)) then ((g_edl_Length r7.1).bind fun r38 => (some (r38 == 100))) else (some false)) else (some false))))))
theorem a_law44_awake {I : World → Prop} (hI : Stab I) (hPIv : ∀ w, I w → PIv w) (hShp : ∀ w, I w → Shp w) (hTab : ∀ w, I w → Tab w) (hU8T : ∀ w, I w → U8T w)  {r : Bool} (h : g_law44_awake  = some r) : AFun Tryz.prog I 10 [] (.bool r) := by
  have dd := dd_EC; have k := True.intro; have q := k; have rs := Tryz.results10
  unfold g_law44_awake at h
  refine .en hI Tryz.func10 Tryz.ntmps10 ?_
  refine xs <| rz ?_
  refine es <| xs <| rK fun K6 RK6 hK6 gK6 => zz ?_
  obtain ⟨r7, h8, h⟩ := bs h
  refine cw (a_edl_Parse hI hPIv hShp hTab hU8T h8) <| zz ?_
  subst hK6 gK6
  refine es <| xs ?_
  obtain ⟨v14, h20, h⟩ := bs h
  refine rb_cut (fun v14 => ⟨envL [(1, .ptr 0 0), (27, .bool v14)], heapL [(0, .box none [.str r7.1.Title, .int .u8 r7.1.Rate, .bool r7.1.Drop, .sl (r7.1.Cuts.map T_api_Cut.d)])], 1, 44⟩) h20 ?_ ?_
  · clear h
    intro v14 h
    refine rK fun K15 RK15 hK15 gK15 => zz ?_
    rcases iK k h with ⟨k, h⟩ | ⟨k, h⟩
    · refine zz ?_
      subst hK15 gK15
      cases h
      exact en ⟨rfl, wk [(0, some 5)]⟩
    · refine zz ?_
      rcases iK k h with ⟨k, h⟩ | ⟨k, h⟩
      · refine zz ?_
        subst hK15 gK15
        cases h
        exact en ⟨rfl, wk [(0, some 5)]⟩
      · refine zz ?_
        obtain ⟨y18, q, h⟩ := bK q h
        refine zz ?_
        subst hK15 gK15
        cases h
        exact en ⟨rfl, wk [(0, some 5)]⟩
  · rcases iK k h with ⟨k, h⟩ | ⟨k, h⟩
    · refine xt <| xs <| rz ?_
      refine es <| xr <| er ?_
      cases h
      exact en fr
    · refine xf <| xk <| es <| xs <| rK fun K27 RK27 hK27 gK27 => zz ?_
      obtain ⟨r28, h29, h⟩ := bs h
      refine cw (a_edl_Text hI hTab hU8T h29) <| zz ?_
      subst hK27 gK27
      refine es <| xs <| rK fun K35 RK35 hK35 gK35 => zz ?_
      rcases iK k h with ⟨k, h⟩ | ⟨k, h⟩
      · refine zz ?_
        rcases iK k h with ⟨k, h⟩ | ⟨k, h⟩
        · refine zz ?_
          obtain ⟨r38, h39, h⟩ := bs h
          refine cw (a_edl_Length hI h39) <| zz ?_
          subst hK35 gK35
          refine es <| xr ?_
          cases h
          exact en fr
        · refine zz ?_
          subst hK35 gK35
          refine es <| xr ?_
          cases h
          exact en fr
      · refine zz ?_
        subst hK35 gK35
        refine es <| xr ?_
        cases h
        exact en fr
def g_law44_small (l_0 : TRL) : Option (Bool) :=
  (if (decide ((l_0.Cuts.length : Int) ≤ 128)) then (some (decide ((l_0.Title.length : Int) ≤ 800))) else (some false))
theorem a_law44_small {I : World → Prop} (hI : Stab I) {l_0 : TRL} {r : Bool} (h : g_law44_small l_0 = some r) : AFun Tryz.prog I 11 [TRL.d l_0] (.bool r) := by
  have dd := dd_EC; have k := True.intro; have q := k; have rs := Tryz.results11
  unfold g_law44_small at h
  refine .en hI Tryz.func11 Tryz.ntmps11 ?_
  refine xs <| rz ?_
  refine es <| xs <| rK fun K5 RK5 hK5 gK5 => zz ?_
  rcases iK k h with ⟨k, h⟩ | ⟨k, h⟩
  · refine zz ?_
    subst hK5 gK5
    refine es <| xr ?_
    cases h
    exact en fr
  · refine zz ?_
    subst hK5 gK5
    refine es <| xr ?_
    cases h
    exact en fr
def g_law44_Of (l_0 : TRL) : Option (T_edl_List) :=
  (some (T_edl_List.mk l_0.Title l_0.Rate l_0.Drop l_0.Cuts))
theorem a_law44_Of {I : World → Prop} (hI : Stab I) {l_0 : TRL} {r : T_edl_List} (h : g_law44_Of l_0 = some r) : AFun Tryz.prog I 13 [TRL.d l_0] (T_edl_List.d r) := by
  have dd := dd_EC; have k := True.intro; have q := k; have rs := Tryz.results13
  unfold g_law44_Of at h
  refine .en hI Tryz.func13 Tryz.ntmps13 ?_
  refine xs <| rz ?_
  refine es <| xs <| rz ?_
  refine es <| xr ?_
  cases h
  exact en fr
end Go.Proofs.YtnjjdbljoligdaaGreatDoor
namespace Go.Proofs.YtnjjdbljoligdaaGreatDoor
open Go.RowKit
set_option maxRecDepth 100000
set_option maxHeartbeats 10000000
theorem dd_EF : (∀ x, T_api_Span.d x = .agg [.int .i64 x.In, .int .i64 x.Out]) ∧ (∀ x, T_api_Ratio.d x = .agg [.int .i64 x.Num, .int .i64 x.Den]) ∧ (∀ x, T_api_Cut.d x = .agg [.int .i64 x.Number, .str x.Reel, .int .i64 x.Source, .int .i64 x.Record.In, .int .i64 x.Record.Out, .int .i64 x.Speed.Num, .int .i64 x.Speed.Den]) ∧ (∀ x, TRL.d x = .agg [.str x.Title, .int .u8 x.Rate, .bool x.Drop, .sl (x.Cuts.map T_api_Cut.d)]) ∧ (∀ x, T_api_Label.d x = .agg [.int .i64 x.H, .int .i64 x.M, .int .i64 x.S, .int .i64 x.F, .bool x.Drop]) ∧ (∀ x, T_edl_List.d x = .agg [.str x.Title, .int .u8 x.Rate, .bool x.Drop, .sl (x.Cuts.map T_api_Cut.d)]) ∧ (∀ x, T_api_Field.d x = .agg [.str x.Text, .int .i64 x.Column, .bool x.Quoted]) ∧ (∀ x, T_api_Line.d x = .agg [.int .i64 x.Number, .sl (x.Fields.map T_api_Field.d)]) ∧ (∀ x, T_api_Diag.d x = .agg [.int .i64 x.Line, .int .i64 x.Column, .int .i64 x.Code]) ∧ (∀ x, TRS.d x = .agg [.int .i64 x.Line.Number, .sl (x.Line.Fields.map T_api_Field.d), .int .i64 x.At, .int .i64 x.Code, .int .i64 x.Col]) := ⟨fun _ => rfl, fun _ => rfl, fun _ => rfl, fun _ => rfl, fun _ => rfl, fun _ => rfl, fun _ => rfl, fun _ => rfl, fun _ => rfl, fun _ => rfl⟩
def g_ref44_Played (c_0 : T_api_Cut) (t_1 : Int) : Option (Int) :=
  (if ¬ c_0.Speed.Den = 0 then (some (IntKind.i64.wrap (c_0.Source + (IntKind.i64.wrap (Int.tdiv (IntKind.i64.wrap ((IntKind.i64.wrap (t_1 - c_0.Record.In)) * c_0.Speed.Num)) c_0.Speed.Den))))) else none)
theorem a_ref44_Played {I : World → Prop} (hI : Stab I) {c_0 : T_api_Cut} {t_1 : Int} {r : Int} (h : g_ref44_Played c_0 t_1 = some r) : AFun Tryz.prog I 71 [T_api_Cut.d c_0, .int .i64 t_1] (.int .i64 r) := by
  have dd := dd_EF; have k := True.intro; have q := k; have rs := Tryz.results71
  unfold g_ref44_Played at h
  refine .en hI Tryz.func71 Tryz.ntmps71 ?_
  refine xs <| rz ?_
  refine es <| xs <| rD hI fun K4 RK4 hK4 gK4 => zz ?_
  obtain ⟨q, h⟩ := oK q h
  refine zz ?_
  subst hK4 gK4
  refine es <| xr ?_
  cases h
  exact en fr
def g_ref44_single (c_0 : T_api_Cut) (last_1 : Int) (day_2 : Int) : Option (Int) :=
  (((if (decide (c_0.Number < 1)) then (some true) else (some (decide (999 < c_0.Number)))) : Option (Bool)).bind fun v5 => (if v5 then (some 2) else (if (decide (c_0.Number ≤ last_1)) then (some 8) else ((g_ref07_Name c_0.Reel).bind fun r21 => (if r21 then (if (decide (c_0.Record.Out ≤ c_0.Record.In)) then (some 1) else (((if (decide (c_0.Record.In < 0)) then (some true) else (some (decide (day_2 ≤ c_0.Record.Out)))) : Option (Bool)).bind fun v31 => (if v31 then (some 2) else ((((g_ref01_Valid c_0.Speed).bind fun r46 => (if r46 then (if (decide (c_0.Speed.Num < 0)) then (some true) else (if (decide (8 < c_0.Speed.Num)) then (some true) else (some (decide (8 < c_0.Speed.Den))))) else (some true))) : Option (Bool)).bind fun v44 => (if v44 then (some 3) else (if (decide (c_0.Source < 0)) then (some 2) else (if (decide (day_2 ≤ c_0.Source)) then (some 2) else ((g_ref44_Played c_0 (IntKind.i64.wrap (c_0.Record.Out - 1))).bind fun r67 => (if (decide (day_2 ≤ r67)) then (some 2) else (some 0)))))))))) else (some 5))))))
theorem a_ref44_single {I : World → Prop} (hI : Stab I) {c_0 : T_api_Cut} {last_1 : Int} {day_2 : Int} {r : Int} (h : g_ref44_single c_0 last_1 day_2 = some r) : AFun Tryz.prog I 33 [T_api_Cut.d c_0, .int .i64 last_1, .int .i64 day_2] (.int .i64 r) := by
  have dd := dd_EF; have k := True.intro; have q := k; have rs := Tryz.results33
  unfold g_ref44_single at h
  refine .en hI Tryz.func33 Tryz.ntmps33 ?_
  refine xs <| rz ?_
  refine es <| xs ?_
  obtain ⟨v5, h8, h⟩ := bs h
  refine rb_cut (fun v5 => ⟨envL [(1, .int .i64 last_1), (2, .int .i64 day_2), (3, .ptr 0 0), (14, .bool v5)], heapL [(0, .box none [.int .i64 c_0.Number, .str c_0.Reel, .int .i64 c_0.Source, .int .i64 c_0.Record.In, .int .i64 c_0.Record.Out, .int .i64 c_0.Speed.Num, .int .i64 c_0.Speed.Den])], 1, 82⟩) h8 ?_ ?_
  · clear h
    intro v5 h
    refine rK fun K6 RK6 hK6 gK6 => zz ?_
    rcases iK k h with ⟨k, h⟩ | ⟨k, h⟩
    · refine zz ?_
      subst hK6 gK6
      cases h
      exact en ⟨rfl, wk []⟩
    · refine zz ?_
      subst hK6 gK6
      cases h
      exact en ⟨rfl, wk []⟩
  · rcases iK k h with ⟨k, h⟩ | ⟨k, h⟩
    · refine xt <| xs <| rz ?_
      refine es <| xr <| er ?_
      cases h
      exact en fr
    · refine xf <| xk <| es <| xs <| xs <| rz ?_
      refine es ?_
      rcases iK k h with ⟨k, h⟩ | ⟨k, h⟩
      · refine xt <| xs <| rz ?_
        refine es <| xr <| er ?_
        cases h
        exact en fr
      · refine xf <| xk <| es <| xs <| xs <| rK fun K20 RK20 hK20 gK20 => zz ?_
        obtain ⟨r21, h22, h⟩ := bs h
        refine cw (a_ref07_Name hI h22) <| zz ?_
        subst hK20 gK20
        refine es ?_
        rcases iK k h with ⟨k, h⟩ | ⟨k, h⟩
        · refine xf <| xk <| es <| xs <| xs <| rz ?_
          refine es ?_
          rcases iK k h with ⟨k, h⟩ | ⟨k, h⟩
          · refine xt <| xs <| rz ?_
            refine es <| xr <| er ?_
            cases h
            exact en fr
          · refine xf <| xk <| es <| xs ?_
            obtain ⟨v31, h34, h⟩ := bs h
            refine rb_cut (fun v31 => ⟨envL [(2, .int .i64 day_2), (3, .ptr 0 0), (40, .bool v31)], heapL [(0, .box none [.int .i64 c_0.Number, .str c_0.Reel, .int .i64 c_0.Source, .int .i64 c_0.Record.In, .int .i64 c_0.Record.Out, .int .i64 c_0.Speed.Num, .int .i64 c_0.Speed.Den])], 1, 82⟩) h34 ?_ ?_
            · clear h
              intro v31 h
              refine rK fun K32 RK32 hK32 gK32 => zz ?_
              rcases iK k h with ⟨k, h⟩ | ⟨k, h⟩
              · refine zz ?_
                subst hK32 gK32
                cases h
                exact en ⟨rfl, wk []⟩
              · refine zz ?_
                subst hK32 gK32
                cases h
                exact en ⟨rfl, wk []⟩
            · rcases iK k h with ⟨k, h⟩ | ⟨k, h⟩
              · refine xt <| xs <| rz ?_
                refine es <| xr <| er ?_
                cases h
                exact en fr
              · refine xf <| xk <| es <| xs ?_
                obtain ⟨v44, h51, h⟩ := bs h
                refine rb_cut (fun v44 => ⟨envL [(2, .int .i64 day_2), (3, .ptr 0 0), (62, .bool v44)], heapL [(0, .box none [.int .i64 c_0.Number, .str c_0.Reel, .int .i64 c_0.Source, .int .i64 c_0.Record.In, .int .i64 c_0.Record.Out, .int .i64 c_0.Speed.Num, .int .i64 c_0.Speed.Den])], 1, 82⟩) h51 ?_ ?_
                · clear h
                  intro v44 h
                  refine rK fun K45 RK45 hK45 gK45 => zz ?_
                  obtain ⟨r46, h47, h⟩ := bs h
                  refine cw (a_ref01_Valid hI h47) <| zz ?_
                  rcases iK k h with ⟨k, h⟩ | ⟨k, h⟩
                  · refine zz ?_
                    rcases iK k h with ⟨k, h⟩ | ⟨k, h⟩
                    · refine zz ?_
                      subst hK45 gK45
                      cases h
                      exact en ⟨rfl, wk []⟩
                    · refine zz ?_
                      rcases iK k h with ⟨k, h⟩ | ⟨k, h⟩
                      · refine zz ?_
                        subst hK45 gK45
                        cases h
                        exact en ⟨rfl, wk []⟩
                      · refine zz ?_
                        subst hK45 gK45
                        cases h
                        exact en ⟨rfl, wk []⟩
                  · refine zz ?_
                    subst hK45 gK45
                    cases h
                    exact en ⟨rfl, wk []⟩
                · rcases iK k h with ⟨k, h⟩ | ⟨k, h⟩
                  · refine xt <| xs <| rz ?_
                    refine es <| xr <| er ?_
                    cases h
                    exact en fr
                  · refine xf <| xk <| es <| xs <| xs <| rK fun K60 RK60 hK60 gK60 => zz ?_
                    rcases iK k h with ⟨k, h⟩ | ⟨k, h⟩
                    · refine zz ?_
                      subst hK60 gK60
                      refine es <| xt <| xs <| rz ?_
                      refine es <| xr <| er ?_
                      cases h
                      exact en fr
                    · refine zz ?_
                      rcases iK k h with ⟨k, h⟩ | ⟨k, h⟩
                      · refine zz ?_
                        subst hK60 gK60
                        refine es <| xt <| xs <| rz ?_
                        refine es <| xr <| er ?_
                        cases h
                        exact en fr
                      · refine zz ?_
                        obtain ⟨r67, h68, h⟩ := bs h
                        refine cw (a_ref44_Played hI h68) <| zz ?_
                        subst hK60 gK60
                        refine es ?_
                        rcases iK k h with ⟨k, h⟩ | ⟨k, h⟩
                        · refine xt <| xs <| rz ?_
                          refine es <| xr <| er ?_
                          cases h
                          exact en fr
                        · refine xf <| xk <| es <| xs <| rz ?_
                          refine es <| xr ?_
                          cases h
                          exact en fr
        · refine xt <| xs <| rz ?_
          refine es <| xr <| er ?_
          cases h
          exact en fr
def g_ref44_Reels_s2 (x7 : (List (List UInt8)) × Int) (y562 : T_api_Cut) (x593 : Int) : Option (Nx (Int) (Int)) :=
  (if (decide (x593 < ((x7.1.length : Nat) : Int))) then ((atI x7.1 x593).bind fun y616 => (if (Op.bytesLess y616 y562.Reel) then (some (.go (IntKind.i64.wrap (x593 + 1)))) else (some (.out x593)))) else (some (.out x593)))
def g_ref44_Reels_s1 (l_0 : TRL) (x7 : (List (List UInt8)) × Int) : Option (Nx ((List (List UInt8)) × Int) ((List (List UInt8)))) :=
  (if (decide (x7.2 < (l_0.Cuts.length : Int))) then ((atI l_0.Cuts x7.2).bind fun y562 => ((iter (g_ref44_Reels_s2 x7 y562) 0).bind fun e594 => (((if (decide (e594 < ((x7.1.length : Nat) : Int))) then ((atI x7.1 e594).bind fun y626 => (some (y626 == y562.Reel))) else (some false)) : Option (Bool)).bind fun v623 => (if v623 then (some (.go (x7.1, (IntKind.i64.wrap (x7.2 + 1))))) else ((subH x7.1 e594).bind fun z639 => (if z639.length * 16 ≤ 140737488355328 then (if (z639.length + 1) * 16 ≤ 140737488355328 then ((subL x7.1 e594).bind fun z653 => (if ((z639.length + 1) + z653.length) * 16 ≤ 140737488355328 then (some (.go (((z639 ++ [y562.Reel]) ++ z653), (IntKind.i64.wrap (x7.2 + 1))))) else none)) else none) else none)))))) else (some (.out x7.1)))
def g_ref44_Reels (l_0 : TRL) : Option ((List (List UInt8))) :=
  ((iter (g_ref44_Reels_s1 l_0) ([], 0)).bind fun e8 => (some e8))
theorem a_ref44_Reels {I : World → Prop} (hI : Stab I) {l_0 : TRL} {r : (List (List UInt8))} (h : g_ref44_Reels l_0 = some r) : AFun Tryz.prog I 16 [TRL.d l_0] (.sl (r.map D.str)) := by
  have dd := dd_EF; have k := True.intro; have q := k; have rs := Tryz.results16
  unfold g_ref44_Reels at h
  refine .en hI Tryz.func16 Tryz.ntmps16 ?_
  refine xs <| rz ?_
  refine es <| xs <| rz ?_
  refine es <| xs <| xs <| rz ?_
  refine es <| xb ?_
  obtain ⟨e8, h661, h⟩ := bs h
  refine rb_loop (fun x7 => ⟨envL [(3, .own 0 x7.1.length), (9, .sl (l_0.Cuts.map T_api_Cut.d)), (10, .int .i64 (l_0.Cuts.length : Int)), (11, .int .i64 x7.2)], heapL [(0, .vec 9 1 (x7.1.map D.str) false)], 1, 60⟩) (fun _ => .exit 0) (fun e8 => ⟨envL [(3, .own 0 e8.length)], heapL [(0, .vec 9 1 (e8.map D.str) false)], 1, 60⟩) h661 (wk [(0, none)]) (by intro w; simp) ?_ ?_
  · clear h
    intro x7 y h
    unfold g_ref44_Reels_s1 at h
    refine xs <| rz ?_
    refine es <| xs ?_
    rcases iK k h with ⟨k, h⟩ | ⟨k, h⟩
    · refine xt <| xk <| es <| xs <| xb <| xs <| rK fun K561 RK561 hK561 gK561 => zz ?_
      obtain ⟨y562, q, h⟩ := bK q h
      refine zz ?_
      subst hK561 gK561
      refine es <| xs <| rz ?_
      refine es <| xs <| xb ?_
      obtain ⟨e594, h619, h⟩ := bs h
      refine rb_loop (fun x593 => ⟨envL [(3, .own 0 x7.1.length), (5, .ptr 1 0), (6, .int .i64 x593), (9, .sl (l_0.Cuts.map T_api_Cut.d)), (10, .int .i64 (l_0.Cuts.length : Int)), (11, .int .i64 x7.2)], heapL [(0, .vec 9 1 (x7.1.map D.str) false), (1, .box none [.int .i64 y562.Number, .str y562.Reel, .int .i64 y562.Source, .int .i64 y562.Record.In, .int .i64 y562.Record.Out, .int .i64 y562.Speed.Num, .int .i64 y562.Speed.Den])], 2, 60⟩) (fun _ => .exit 2) (fun e594 => ⟨envL [(3, .own 0 x7.1.length), (5, .ptr 1 0), (6, .int .i64 e594), (9, .sl (l_0.Cuts.map T_api_Cut.d)), (10, .int .i64 (l_0.Cuts.length : Int)), (11, .int .i64 x7.2)], heapL [(0, .vec 9 1 (x7.1.map D.str) false), (1, .box none [.int .i64 y562.Number, .str y562.Reel, .int .i64 y562.Source, .int .i64 y562.Record.In, .int .i64 y562.Record.Out, .int .i64 y562.Speed.Num, .int .i64 y562.Speed.Den])], 2, 60⟩) h619 (wk [(1, some 4)]) (by intro w; simp) ?_ ?_
      · clear h
        intro x593 y h
        unfold g_ref44_Reels_s2 at h
        refine xs <| xs <| rD hI fun K614 RK614 hK614 gK614 => zz ?_
        rcases iK k h with ⟨k, h⟩ | ⟨k, h⟩
        · refine zz ?_
          obtain ⟨y616, q, h⟩ := oN q h
          refine zz ?_
          subst hK614 gK614
          refine es ?_
          rcases iK k h with ⟨k, h⟩ | ⟨k, h⟩
          · refine xt <| xk <| es <| xb <| rz ?_
            refine bn ?_
            cases h
            exact en ⟨rfl, wk []⟩
          · refine xf <| xx <| ee ?_
            cases h
            exact en ⟨rfl, wk []⟩
        · refine zz ?_
          subst hK614 gK614
          refine es <| xf <| xx <| ee ?_
          cases h
          exact en ⟨rfl, wk []⟩
      · refine bh <| es <| xs ?_
        obtain ⟨v623, h627, h⟩ := bs h
        refine rb_cut (fun v623 => ⟨envL [(3, .own 0 x7.1.length), (5, .ptr 1 0), (6, .int .i64 e594), (9, .sl (l_0.Cuts.map T_api_Cut.d)), (10, .int .i64 (l_0.Cuts.length : Int)), (11, .int .i64 x7.2), (42, .bool v623)], heapL [(0, .vec 9 1 (x7.1.map D.str) false), (1, .box none [.int .i64 y562.Number, .str y562.Reel, .int .i64 y562.Source, .int .i64 y562.Record.In, .int .i64 y562.Record.Out, .int .i64 y562.Speed.Num, .int .i64 y562.Speed.Den])], 2, 60⟩) h627 ?_ ?_
        · clear h
          intro v623 h
          refine rD hI fun K624 RK624 hK624 gK624 => zz ?_
          rcases iK k h with ⟨k, h⟩ | ⟨k, h⟩
          · refine zz ?_
            obtain ⟨y626, q, h⟩ := oN q h
            refine zz ?_
            subst hK624 gK624
            cases h
            exact en ⟨rfl, wk []⟩
          · refine zz ?_
            subst hK624 gK624
            cases h
            exact en ⟨rfl, wk []⟩
        · rcases iK k h with ⟨k, h⟩ | ⟨k, h⟩
          · refine xt <| xx <| ee <| bh <| es <| rz ?_
            cases h
            exact en ⟨rfl, wk []⟩
          · refine xf <| xk <| es <| xs <| rK fun K638 RK638 hK638 gK638 => zz ?_
            obtain ⟨z639, h640, h⟩ := bind_some h
            obtain ⟨⟨h641, h642⟩, h643⟩ := subH_some h640
            have q := And.intro @h641 <| And.intro @h642 <| q
            try simp -implicitDefEqProofs only [vt, vm, sevalprocAttr, dd, k, q] at h643
            have q := And.intro @h643 <| q
            refine zz ?_
            obtain ⟨h644, h⟩ := ite_on h
            have h645 : z639.length ≤ 9223372036854775807 := by omega
            try simp only [Nat.reduceLeDiff] at h645
            have q := And.intro @h645 <| And.intro @h644 <| q
            refine zz ?_
            subst hK638 gK638
            refine es <| xs <| rK fun K649 RK649 hK649 gK649 => zz ?_
            obtain ⟨h650, h⟩ := ite_on h
            have h651 : z639.length + 1 ≤ 9223372036854775807 := by omega
            try simp only [Nat.reduceLeDiff] at h651
            have q := And.intro @h651 <| And.intro @h650 <| q
            refine zz ?_
            subst hK649 gK649
            refine es <| rK fun K652 RK652 hK652 gK652 => zz ?_
            obtain ⟨z653, h654, h⟩ := bind_some h
            obtain ⟨⟨h655, h656⟩, h657⟩ := subL_some h654
            have q := And.intro @h655 <| And.intro @h656 <| q
            try simp -implicitDefEqProofs only [vt, vm, sevalprocAttr, dd, k, q] at h657
            have q := And.intro @h657 <| q
            refine zz ?_
            obtain ⟨h658, h⟩ := ite_on h
            have h659 : (z639.length + 1) + z653.length ≤ 9223372036854775807 := by omega
            try simp only [Nat.reduceLeDiff] at h659
            have q := And.intro @h659 <| And.intro @h658 <| q
            refine zz ?_
            subst hK652 gK652
            refine bn <| es <| rz ?_
            cases h
            exact en ⟨rfl, wk [(0, some 18)]⟩
    · refine xf <| xx <| ee ?_
      cases h
      exact en ⟨rfl, wk []⟩
  · refine bh <| es <| xs <| rz ?_
    refine es <| xr ?_
    cases h
    exact en fr
def g_ref44_Check_s1 (l_0 : TRL) (r19 : Int) (x35 : Int × Int × Int) : Option (Nx (Int × Int × Int) (Int ⊕ Unit)) :=
  (if (decide (x35.2.2 < (l_0.Cuts.length : Int))) then ((atI l_0.Cuts x35.2.2).bind fun y170 => ((g_ref44_single y170 x35.1 r19).bind fun r176 => (if (r176 != 0) then (some (.out (.inl r176))) else (if (decide (y170.Record.In < x35.2.1)) then (some (.out (.inl 14))) else (some (.go (y170.Number, y170.Record.Out, (IntKind.i64.wrap (x35.2.2 + 1))))))))) else (some (.out (.inr ()))))
def g_ref44_Check (l_0 : TRL) : Option (Int) :=
  ((g_ref08_Valid l_0.Title).bind fun r7 => (if r7 then (if (decide (400 < (l_0.Title.length : Int))) then (some 9) else ((g_ref03_Day l_0.Rate l_0.Drop).bind fun r19 => (if (r19 == 0) then (some 13) else (if (decide (64 < (l_0.Cuts.length : Int))) then (some 9) else ((iter (g_ref44_Check_s1 l_0 r19) (0, 0, 0)).bind fun e36 => (match e36 with | Sum.inl e36 => (some e36) | Sum.inr (e36) => ((g_ref44_Reels l_0).bind fun r195 => (if (decide (16 < (r195.length : Int))) then (some 9) else (some 0))))))))) else (some 10)))
theorem a_ref44_Check {I : World → Prop} (hI : Stab I) {l_0 : TRL} {r : Int} (h : g_ref44_Check l_0 = some r) : AFun Tryz.prog I 14 [TRL.d l_0] (.int .i64 r) := by
  have dd := dd_EF; have k := True.intro; have q := k; have rs := Tryz.results14
  unfold g_ref44_Check at h
  refine .en hI Tryz.func14 Tryz.ntmps14 ?_
  refine xs <| rz ?_
  refine es <| xs <| xs <| rK fun K6 RK6 hK6 gK6 => zz ?_
  obtain ⟨r7, h8, h⟩ := bs h
  refine cw (a_ref08_Valid hI h8) <| zz ?_
  subst hK6 gK6
  refine es ?_
  rcases iK k h with ⟨k, h⟩ | ⟨k, h⟩
  · refine xf <| xk <| es <| xs <| xs <| rz ?_
    refine es ?_
    rcases iK k h with ⟨k, h⟩ | ⟨k, h⟩
    · refine xt <| xs <| rz ?_
      refine es <| xr <| er ?_
      cases h
      exact en fr
    · refine xf <| xk <| es <| xs <| rK fun K18 RK18 hK18 gK18 => zz ?_
      obtain ⟨r19, h20, h⟩ := bs h
      refine cw (a_ref03_Day hI h20) <| zz ?_
      subst hK18 gK18
      refine es <| xs <| xs <| rz ?_
      refine es ?_
      rcases iK k h with ⟨k, h⟩ | ⟨k, h⟩
      · refine xt <| xs <| rz ?_
        refine es <| xr <| er ?_
        cases h
        exact en fr
      · refine xf <| xk <| es <| xs <| xs <| rz ?_
        refine es ?_
        rcases iK k h with ⟨k, h⟩ | ⟨k, h⟩
        · refine xt <| xs <| rz ?_
          refine es <| xr <| er ?_
          cases h
          exact en fr
        · refine xf <| xk <| es <| xs <| rz ?_
          refine es <| xs <| xs <| rz ?_
          refine es <| xb ?_
          obtain ⟨e36, h190, h⟩ := bs h
          refine rb_loop (fun x35 => ⟨envL [(1, .ptr 0 0), (3, .int .i64 r19), (4, .int .i64 x35.1), (5, .int .i64 x35.2.1), (29, .sl (l_0.Cuts.map T_api_Cut.d)), (30, .int .i64 (l_0.Cuts.length : Int)), (31, .int .i64 x35.2.2)], heapL [(0, .box none [.str l_0.Title, .int .u8 l_0.Rate, .bool l_0.Drop, .sl (l_0.Cuts.map T_api_Cut.d)])], 1, 57⟩) (fun w => match w with | Sum.inl _ => .ret | Sum.inr (_) => .exit 0) (fun w => match w with | Sum.inl e36 => ⟨envL [(2, .int .i64 e36)], heapL [], 0, 57⟩ | Sum.inr (e36) => ⟨envL [(1, .ptr 0 0)], heapL [(0, .box none [.str l_0.Title, .int .u8 l_0.Rate, .bool l_0.Drop, .sl (l_0.Cuts.map T_api_Cut.d)])], 1, 57⟩) h190 (wk []) (by intro w; rcases w with w | w <;> simp) ?_ ?_
          · clear h
            intro x35 y h
            unfold g_ref44_Check_s1 at h
            refine xs <| rz ?_
            refine es <| xs ?_
            rcases iK k h with ⟨k, h⟩ | ⟨k, h⟩
            · refine xt <| xk <| es <| xs <| xb <| xs <| rK fun K169 RK169 hK169 gK169 => zz ?_
              obtain ⟨y170, q, h⟩ := bK q h
              refine zz ?_
              subst hK169 gK169
              refine es <| xs <| xs <| rK fun K175 RK175 hK175 gK175 => zz ?_
              obtain ⟨r176, h177, h⟩ := bs h
              refine cw (a_ref44_single hI h177) <| zz ?_
              subst hK175 gK175
              refine es <| xs <| rz ?_
              refine es ?_
              rcases iK k h with ⟨k, h⟩ | ⟨k, h⟩
              · refine xt <| xs <| rz ?_
                refine es <| xr <| er <| br <| er ?_
                cases h
                exact en ⟨rfl, wk []⟩
              · refine xf <| xk <| es <| xs <| xs <| rz ?_
                refine es ?_
                rcases iK k h with ⟨k, h⟩ | ⟨k, h⟩
                · refine xt <| xs <| rz ?_
                  refine es <| xr <| er <| br <| er ?_
                  cases h
                  exact en ⟨rfl, wk []⟩
                · refine xf <| xk <| es <| rd hI ?_
                  refine bn <| es <| rz ?_
                  cases h
                  exact en ⟨rfl, wk []⟩
            · refine xf <| xx <| ee ?_
              cases h
              exact en ⟨rfl, wk []⟩
          · rcases e36 with e36 | e36
            · try dsimp only at h ⊢
              refine br <| er ?_
              cases h
              exact en fr
            · try dsimp only at h ⊢
              refine bh <| es <| xs <| xs <| rK fun K194 RK194 hK194 gK194 => zz ?_
              obtain ⟨r195, h196, h⟩ := bs h
              refine cw (a_ref44_Reels hI h196) <| zz ?_
              subst hK194 gK194
              refine es ?_
              rcases iK k h with ⟨k, h⟩ | ⟨k, h⟩
              · refine xt <| xs <| rz ?_
                refine es <| xr <| er ?_
                cases h
                exact en fr
              · refine xf <| xk <| es <| xs <| rz ?_
                refine es <| xr ?_
                cases h
                exact en fr
  · refine xt <| xs <| rz ?_
    refine es <| xr <| er ?_
    cases h
    exact en fr
def g_ref44_label (l_0 : TRL) (frame_1 : Int) : Option ((List UInt8)) :=
  ((g_ref03_Label l_0.Rate l_0.Drop frame_1).bind fun r7 => ((g_ref03_Text l_0.Rate r7.1).bind fun r13 => (some r13.1)))
theorem a_ref44_label {I : World → Prop} (hI : Stab I) {l_0 : TRL} {frame_1 : Int} {r : (List UInt8)} (h : g_ref44_label l_0 frame_1 = some r) : AFun Tryz.prog I 47 [TRL.d l_0, .int .i64 frame_1] (.str r) := by
  have dd := dd_EF; have k := True.intro; have q := k; have rs := Tryz.results47
  unfold g_ref44_label at h
  refine .en hI Tryz.func47 Tryz.ntmps47 ?_
  refine xs <| rz ?_
  refine es <| xs <| rK fun K6 RK6 hK6 gK6 => zz ?_
  obtain ⟨r7, h8, h⟩ := bs h
  refine cw (a_ref03_Label hI h8) <| zz ?_
  subst hK6 gK6
  refine es <| xs <| rK fun K12 RK12 hK12 gK12 => zz ?_
  obtain ⟨r13, h14, h⟩ := bs h
  refine cw (a_ref03_Text hI h14) <| zz ?_
  subst hK12 gK12
  refine es <| xs <| rz ?_
  refine es <| xr ?_
  cases h
  exact en fr
def g_ref44_Text_s1 (l_0 : TRL) (x58 : (List UInt8) × Int) : Option (Nx ((List UInt8) × Int) ((List UInt8))) :=
  (if (decide (x58.2 < (l_0.Cuts.length : Int))) then ((atI l_0.Cuts x58.2).bind fun y480 => ((g_ref01_Decimal y480.Number).bind fun r512 => (if 4 + r512.length ≤ 9223372036854775807 then (if (4 + r512.length) + 1 ≤ 9223372036854775807 then (if ((4 + r512.length) + 1) + y480.Reel.length ≤ 9223372036854775807 then (if (((4 + r512.length) + 1) + y480.Reel.length) + 1 ≤ 9223372036854775807 then ((g_ref44_label l_0 y480.Source).bind fun r522 => (if ((((4 + r512.length) + 1) + y480.Reel.length) + 1) + r522.length ≤ 9223372036854775807 then (if (((((4 + r512.length) + 1) + y480.Reel.length) + 1) + r522.length) + 1 ≤ 9223372036854775807 then ((g_ref44_label l_0 y480.Record.In).bind fun r528 => (if ((((((4 + r512.length) + 1) + y480.Reel.length) + 1) + r522.length) + 1) + r528.length ≤ 9223372036854775807 then (if (((((((4 + r512.length) + 1) + y480.Reel.length) + 1) + r522.length) + 1) + r528.length) + 1 ≤ 9223372036854775807 then ((g_ref44_label l_0 y480.Record.Out).bind fun r534 => (if ((((((((4 + r512.length) + 1) + y480.Reel.length) + 1) + r522.length) + 1) + r528.length) + 1) + r534.length ≤ 9223372036854775807 then (if x58.1.length + (((((((((4 + r512.length) + 1) + y480.Reel.length) + 1) + r522.length) + 1) + r528.length) + 1) + r534.length) ≤ 9223372036854775807 then (if ((y480.Speed.Num == 1) && (y480.Speed.Den == 1)) then (if (x58.1.length + (((((((((4 + r512.length) + 1) + y480.Reel.length) + 1) + r522.length) + 1) + r528.length) + 1) + r534.length)) + 1 ≤ 9223372036854775807 then (some (.go (((x58.1 ++ ((((((((([67, 85, 84, 32] ++ r512) ++ [32]) ++ y480.Reel) ++ [32]) ++ r522) ++ [32]) ++ r528) ++ [32]) ++ r534)) ++ [10]), (IntKind.i64.wrap (x58.2 + 1))))) else none) else ((g_ref01_Text y480.Speed).bind fun r548 => (if 7 + r548.length ≤ 9223372036854775807 then (if (x58.1.length + (((((((((4 + r512.length) + 1) + y480.Reel.length) + 1) + r522.length) + 1) + r528.length) + 1) + r534.length)) + (7 + r548.length) ≤ 9223372036854775807 then (if ((x58.1.length + (((((((((4 + r512.length) + 1) + y480.Reel.length) + 1) + r522.length) + 1) + r528.length) + 1) + r534.length)) + (7 + r548.length)) + 1 ≤ 9223372036854775807 then (some (.go ((((x58.1 ++ ((((((((([67, 85, 84, 32] ++ r512) ++ [32]) ++ y480.Reel) ++ [32]) ++ r522) ++ [32]) ++ r528) ++ [32]) ++ r534)) ++ ([32, 83, 80, 69, 69, 68, 32] ++ r548)) ++ [10]), (IntKind.i64.wrap (x58.2 + 1))))) else none) else none) else none))) else none) else none)) else none) else none)) else none) else none)) else none) else none) else none) else none))) else (some (.out x58.1)))
def g_ref44_Text_s2 (l_0 : TRL) (x563 : (List UInt8) × Int) : Option (Nx ((List UInt8) × Int) ((List UInt8))) :=
  (if (decide (x563.2 < (l_0.Cuts.length : Int))) then ((atI l_0.Cuts x563.2).bind fun y985 => ((g_ref01_Decimal y985.Number).bind fun r1017 => (if 4 + r1017.length ≤ 9223372036854775807 then (if (4 + r1017.length) + 1 ≤ 9223372036854775807 then (if ((4 + r1017.length) + 1) + y985.Reel.length ≤ 9223372036854775807 then (if (((4 + r1017.length) + 1) + y985.Reel.length) + 1 ≤ 9223372036854775807 then ((g_ref44_label l_0 y985.Source).bind fun r1027 => (if ((((4 + r1017.length) + 1) + y985.Reel.length) + 1) + r1027.length ≤ 9223372036854775807 then (if (((((4 + r1017.length) + 1) + y985.Reel.length) + 1) + r1027.length) + 1 ≤ 9223372036854775807 then ((g_ref44_label l_0 y985.Record.In).bind fun r1033 => (if ((((((4 + r1017.length) + 1) + y985.Reel.length) + 1) + r1027.length) + 1) + r1033.length ≤ 9223372036854775807 then (if (((((((4 + r1017.length) + 1) + y985.Reel.length) + 1) + r1027.length) + 1) + r1033.length) + 1 ≤ 9223372036854775807 then ((g_ref44_label l_0 y985.Record.Out).bind fun r1039 => (if ((((((((4 + r1017.length) + 1) + y985.Reel.length) + 1) + r1027.length) + 1) + r1033.length) + 1) + r1039.length ≤ 9223372036854775807 then (if x563.1.length + (((((((((4 + r1017.length) + 1) + y985.Reel.length) + 1) + r1027.length) + 1) + r1033.length) + 1) + r1039.length) ≤ 9223372036854775807 then (if ((y985.Speed.Num == 1) && (y985.Speed.Den == 1)) then (if (x563.1.length + (((((((((4 + r1017.length) + 1) + y985.Reel.length) + 1) + r1027.length) + 1) + r1033.length) + 1) + r1039.length)) + 1 ≤ 9223372036854775807 then (some (.go (((x563.1 ++ ((((((((([67, 85, 84, 32] ++ r1017) ++ [32]) ++ y985.Reel) ++ [32]) ++ r1027) ++ [32]) ++ r1033) ++ [32]) ++ r1039)) ++ [10]), (IntKind.i64.wrap (x563.2 + 1))))) else none) else ((g_ref01_Text y985.Speed).bind fun r1053 => (if 7 + r1053.length ≤ 9223372036854775807 then (if (x563.1.length + (((((((((4 + r1017.length) + 1) + y985.Reel.length) + 1) + r1027.length) + 1) + r1033.length) + 1) + r1039.length)) + (7 + r1053.length) ≤ 9223372036854775807 then (if ((x563.1.length + (((((((((4 + r1017.length) + 1) + y985.Reel.length) + 1) + r1027.length) + 1) + r1033.length) + 1) + r1039.length)) + (7 + r1053.length)) + 1 ≤ 9223372036854775807 then (some (.go ((((x563.1 ++ ((((((((([67, 85, 84, 32] ++ r1017) ++ [32]) ++ y985.Reel) ++ [32]) ++ r1027) ++ [32]) ++ r1033) ++ [32]) ++ r1039)) ++ ([32, 83, 80, 69, 69, 68, 32] ++ r1053)) ++ [10]), (IntKind.i64.wrap (x563.2 + 1))))) else none) else none) else none))) else none) else none)) else none) else none)) else none) else none)) else none) else none) else none) else none))) else (some (.out x563.1)))
def g_ref44_Text (l_0 : TRL) : Option ((List UInt8) × Int) :=
  ((g_ref44_Check l_0).bind fun r7 => (if (r7 != 0) then (some ([], r7)) else ((g_ref07_Quote l_0.Title).bind fun r28 => (if 4 + r28.length ≤ 9223372036854775807 then (if (4 + r28.length) + 1 ≤ 9223372036854775807 then ((g_ref02_Name l_0.Rate).bind fun r34 => (if ((4 + r28.length) + 1) + r34.length ≤ 9223372036854775807 then (if (((4 + r28.length) + 1) + r34.length) + 5 ≤ 9223372036854775807 then (if l_0.Drop then ((g_ref07_Quote l_0.Title).bind fun r44 => (if 4 + r44.length ≤ 9223372036854775807 then (if (4 + r44.length) + 1 ≤ 9223372036854775807 then ((g_ref02_Name l_0.Rate).bind fun r50 => (if ((4 + r44.length) + 1) + r50.length ≤ 9223372036854775807 then (if (((4 + r44.length) + 1) + r50.length) + 6 ≤ 9223372036854775807 then ((iter (g_ref44_Text_s1 l_0) ((((([69, 68, 76, 32] ++ r44) ++ [32]) ++ r50) ++ [32, 68, 82, 79, 80, 10]), 0)).bind fun e59 => (some (e59, 0))) else none) else none)) else none) else none)) else ((iter (g_ref44_Text_s2 l_0) ((((([69, 68, 76, 32] ++ r28) ++ [32]) ++ r34) ++ [32, 78, 68, 70, 10]), 0)).bind fun e564 => (some (e564, 0)))) else none) else none)) else none) else none))))
theorem a_ref44_Text {I : World → Prop} (hI : Stab I) {l_0 : TRL} {r : (List UInt8) × Int} (h : g_ref44_Text l_0 = some r) : AFun Tryz.prog I 20 [TRL.d l_0] (.tup [.str r.1, .int .i64 r.2]) := by
  have dd := dd_EF; have k := True.intro; have q := k; have rs := Tryz.results20
  unfold g_ref44_Text at h
  refine .en hI Tryz.func20 Tryz.ntmps20 ?_
  refine xs <| rz ?_
  refine es <| xs <| xs <| rK fun K6 RK6 hK6 gK6 => zz ?_
  obtain ⟨r7, h8, h⟩ := bs h
  refine cw (a_ref44_Check hI h8) <| zz ?_
  subst hK6 gK6
  refine es <| xs <| rz ?_
  refine es ?_
  rcases iK k h with ⟨k, h⟩ | ⟨k, h⟩
  · refine xt <| xs <| rz ?_
    refine es <| xr <| er ?_
    cases h
    exact en fr
  · refine xf <| xk <| es <| xs <| rD hI fun K27 RK27 hK27 gK27 => zz ?_
    obtain ⟨r28, h29, h⟩ := bs h
    refine cd (a_ref07_Quote hI h29) <| zz ?_
    obtain ⟨h30, h⟩ := ite_on h
    have h31 : ([69, 68, 76, 32] : List UInt8).length + r28.length ≤ 9223372036854775807 := by (try simp only [List.length_append, List.length_cons, List.length_nil]); omega
    try simp -implicitDefEqProofs only [vt, vm, sevalprocAttr, dd, k, q] at h31
    have q := And.intro @h31 <| And.intro @h30 <| q
    refine zz ?_
    obtain ⟨h32, h⟩ := ite_on h
    have h33 : ([69, 68, 76, 32] ++ r28).length + ([32] : List UInt8).length ≤ 9223372036854775807 := by (try simp only [List.length_append, List.length_cons, List.length_nil]); omega
    try simp -implicitDefEqProofs only [vt, vm, sevalprocAttr, dd, k, q] at h33
    have q := And.intro @h33 <| And.intro @h32 <| q
    refine zz ?_
    obtain ⟨r34, h35, h⟩ := bs h
    refine cd (a_ref02_Name hI h35) <| zz ?_
    obtain ⟨h36, h⟩ := ite_on h
    have h37 : (([69, 68, 76, 32] ++ r28) ++ [32]).length + r34.length ≤ 9223372036854775807 := by (try simp only [List.length_append, List.length_cons, List.length_nil]); omega
    try simp -implicitDefEqProofs only [vt, vm, sevalprocAttr, dd, k, q] at h37
    have q := And.intro @h37 <| And.intro @h36 <| q
    refine zz ?_
    obtain ⟨h38, h⟩ := ite_on h
    have h39 : ((([69, 68, 76, 32] ++ r28) ++ [32]) ++ r34).length + ([32, 78, 68, 70, 10] : List UInt8).length ≤ 9223372036854775807 := by (try simp only [List.length_append, List.length_cons, List.length_nil]); omega
    try simp -implicitDefEqProofs only [vt, vm, sevalprocAttr, dd, k, q] at h39
    have q := And.intro @h39 <| And.intro @h38 <| q
    refine zz ?_
    subst hK27 gK27
    refine es <| xs <| xs <| rz ?_
    refine es ?_
    rcases iK k h with ⟨k, h⟩ | ⟨k, h⟩
    · refine xt <| rD hI fun K43 RK43 hK43 gK43 => zz ?_
      obtain ⟨r44, h45, h⟩ := bs h
      refine cd (a_ref07_Quote hI h45) <| zz ?_
      obtain ⟨h46, h⟩ := ite_on h
      have h47 : ([69, 68, 76, 32] : List UInt8).length + r44.length ≤ 9223372036854775807 := by (try simp only [List.length_append, List.length_cons, List.length_nil]); omega
      try simp -implicitDefEqProofs only [vt, vm, sevalprocAttr, dd, k, q] at h47
      have q := And.intro @h47 <| And.intro @h46 <| q
      refine zz ?_
      obtain ⟨h48, h⟩ := ite_on h
      have h49 : ([69, 68, 76, 32] ++ r44).length + ([32] : List UInt8).length ≤ 9223372036854775807 := by (try simp only [List.length_append, List.length_cons, List.length_nil]); omega
      try simp -implicitDefEqProofs only [vt, vm, sevalprocAttr, dd, k, q] at h49
      have q := And.intro @h49 <| And.intro @h48 <| q
      refine zz ?_
      obtain ⟨r50, h51, h⟩ := bs h
      refine cd (a_ref02_Name hI h51) <| zz ?_
      obtain ⟨h52, h⟩ := ite_on h
      have h53 : (([69, 68, 76, 32] ++ r44) ++ [32]).length + r50.length ≤ 9223372036854775807 := by (try simp only [List.length_append, List.length_cons, List.length_nil]); omega
      try simp -implicitDefEqProofs only [vt, vm, sevalprocAttr, dd, k, q] at h53
      have q := And.intro @h53 <| And.intro @h52 <| q
      refine zz ?_
      obtain ⟨h54, h⟩ := ite_on h
      have h55 : ((([69, 68, 76, 32] ++ r44) ++ [32]) ++ r50).length + ([32, 68, 82, 79, 80, 10] : List UInt8).length ≤ 9223372036854775807 := by (try simp only [List.length_append, List.length_cons, List.length_nil]); omega
      try simp -implicitDefEqProofs only [vt, vm, sevalprocAttr, dd, k, q] at h55
      have q := And.intro @h55 <| And.intro @h54 <| q
      refine zz ?_
      subst hK43 gK43
      refine es <| xs <| xs <| rz ?_
      refine es <| xb ?_
      obtain ⟨e59, h558, h⟩ := bs h
      refine rb_loop (fun x58 => ⟨envL [(1, .ptr 0 0), (5, .str x58.1), (36, .sl (l_0.Cuts.map T_api_Cut.d)), (37, .int .i64 (l_0.Cuts.length : Int)), (38, .int .i64 x58.2)], heapL [(0, .box none [.str l_0.Title, .int .u8 l_0.Rate, .bool l_0.Drop, .sl (l_0.Cuts.map T_api_Cut.d)])], 1, 86⟩) (fun _ => .exit 0) (fun e59 => ⟨envL [(5, .str e59)], heapL [], 0, 86⟩) h558 (wk []) (by intro w; simp) ?_ ?_
      · clear h
        intro x58 y h
        unfold g_ref44_Text_s1 at h
        refine xs <| rz ?_
        refine es <| xs ?_
        rcases iK k h with ⟨k, h⟩ | ⟨k, h⟩
        · refine xt <| xk <| es <| xs <| xb <| xs <| rK fun K479 RK479 hK479 gK479 => zz ?_
          obtain ⟨y480, q, h⟩ := bK q h
          refine zz ?_
          subst hK479 gK479
          refine es <| xs <| rD hI fun K511 RK511 hK511 gK511 => zz ?_
          obtain ⟨r512, h513, h⟩ := bs h
          refine cd (a_ref01_Decimal hI h513) <| zz ?_
          obtain ⟨h514, h⟩ := ite_on h
          have h515 : ([67, 85, 84, 32] : List UInt8).length + r512.length ≤ 9223372036854775807 := by (try simp only [List.length_append, List.length_cons, List.length_nil]); omega
          try simp -implicitDefEqProofs only [vt, vm, sevalprocAttr, dd, k, q] at h515
          have q := And.intro @h515 <| And.intro @h514 <| q
          refine zz ?_
          obtain ⟨h516, h⟩ := ite_on h
          have h517 : ([67, 85, 84, 32] ++ r512).length + ([32] : List UInt8).length ≤ 9223372036854775807 := by (try simp only [List.length_append, List.length_cons, List.length_nil]); omega
          try simp -implicitDefEqProofs only [vt, vm, sevalprocAttr, dd, k, q] at h517
          have q := And.intro @h517 <| And.intro @h516 <| q
          refine zz ?_
          obtain ⟨h518, h⟩ := ite_on h
          have h519 : (([67, 85, 84, 32] ++ r512) ++ [32]).length + y480.Reel.length ≤ 9223372036854775807 := by (try simp only [List.length_append, List.length_cons, List.length_nil]); omega
          try simp -implicitDefEqProofs only [vt, vm, sevalprocAttr, dd, k, q] at h519
          have q := And.intro @h519 <| And.intro @h518 <| q
          refine zz ?_
          obtain ⟨h520, h⟩ := ite_on h
          have h521 : ((([67, 85, 84, 32] ++ r512) ++ [32]) ++ y480.Reel).length + ([32] : List UInt8).length ≤ 9223372036854775807 := by (try simp only [List.length_append, List.length_cons, List.length_nil]); omega
          try simp -implicitDefEqProofs only [vt, vm, sevalprocAttr, dd, k, q] at h521
          have q := And.intro @h521 <| And.intro @h520 <| q
          refine zz ?_
          obtain ⟨r522, h523, h⟩ := bs h
          refine cd (a_ref44_label hI h523) <| zz ?_
          obtain ⟨h524, h⟩ := ite_on h
          have h525 : (((([67, 85, 84, 32] ++ r512) ++ [32]) ++ y480.Reel) ++ [32]).length + r522.length ≤ 9223372036854775807 := by (try simp only [List.length_append, List.length_cons, List.length_nil]); omega
          try simp -implicitDefEqProofs only [vt, vm, sevalprocAttr, dd, k, q] at h525
          have q := And.intro @h525 <| And.intro @h524 <| q
          refine zz ?_
          obtain ⟨h526, h⟩ := ite_on h
          have h527 : ((((([67, 85, 84, 32] ++ r512) ++ [32]) ++ y480.Reel) ++ [32]) ++ r522).length + ([32] : List UInt8).length ≤ 9223372036854775807 := by (try simp only [List.length_append, List.length_cons, List.length_nil]); omega
          try simp -implicitDefEqProofs only [vt, vm, sevalprocAttr, dd, k, q] at h527
          have q := And.intro @h527 <| And.intro @h526 <| q
          refine zz ?_
          obtain ⟨r528, h529, h⟩ := bs h
          refine cd (a_ref44_label hI h529) <| zz ?_
          obtain ⟨h530, h⟩ := ite_on h
          have h531 : (((((([67, 85, 84, 32] ++ r512) ++ [32]) ++ y480.Reel) ++ [32]) ++ r522) ++ [32]).length + r528.length ≤ 9223372036854775807 := by (try simp only [List.length_append, List.length_cons, List.length_nil]); omega
          try simp -implicitDefEqProofs only [vt, vm, sevalprocAttr, dd, k, q] at h531
          have q := And.intro @h531 <| And.intro @h530 <| q
          refine zz ?_
          obtain ⟨h532, h⟩ := ite_on h
          have h533 : ((((((([67, 85, 84, 32] ++ r512) ++ [32]) ++ y480.Reel) ++ [32]) ++ r522) ++ [32]) ++ r528).length + ([32] : List UInt8).length ≤ 9223372036854775807 := by (try simp only [List.length_append, List.length_cons, List.length_nil]); omega
          try simp -implicitDefEqProofs only [vt, vm, sevalprocAttr, dd, k, q] at h533
          have q := And.intro @h533 <| And.intro @h532 <| q
          refine zz ?_
          obtain ⟨r534, h535, h⟩ := bs h
          refine cd (a_ref44_label hI h535) <| zz ?_
          obtain ⟨h536, h⟩ := ite_on h
          have h537 : (((((((([67, 85, 84, 32] ++ r512) ++ [32]) ++ y480.Reel) ++ [32]) ++ r522) ++ [32]) ++ r528) ++ [32]).length + r534.length ≤ 9223372036854775807 := by (try simp only [List.length_append, List.length_cons, List.length_nil]); omega
          try simp -implicitDefEqProofs only [vt, vm, sevalprocAttr, dd, k, q] at h537
          have q := And.intro @h537 <| And.intro @h536 <| q
          refine zz ?_
          obtain ⟨h538, h⟩ := ite_on h
          have h539 : x58.1.length + ((((((((([67, 85, 84, 32] ++ r512) ++ [32]) ++ y480.Reel) ++ [32]) ++ r522) ++ [32]) ++ r528) ++ [32]) ++ r534).length ≤ 9223372036854775807 := by (try simp only [List.length_append, List.length_cons, List.length_nil]); omega
          try simp -implicitDefEqProofs only [vt, vm, sevalprocAttr, dd, k, q] at h539
          have q := And.intro @h539 <| And.intro @h538 <| q
          refine zz ?_
          subst hK511 gK511
          refine es <| xs <| xs <| rz ?_
          refine es ?_
          rcases iK k h with ⟨k, h⟩ | ⟨k, h⟩
          · refine xf <| xk <| es <| rK fun K543 RK543 hK543 gK543 => zz ?_
            obtain ⟨h544, h⟩ := ite_on h
            have h545 : (x58.1 ++ ((((((((([67, 85, 84, 32] ++ r512) ++ [32]) ++ y480.Reel) ++ [32]) ++ r522) ++ [32]) ++ r528) ++ [32]) ++ r534)).length + ([10] : List UInt8).length ≤ 9223372036854775807 := by (try simp only [List.length_append, List.length_cons, List.length_nil]); omega
            try simp -implicitDefEqProofs only [vt, vm, sevalprocAttr, dd, k, q] at h545
            have q := And.intro @h545 <| And.intro @h544 <| q
            refine zz ?_
            subst hK543 gK543
            refine bn <| es <| rz ?_
            cases h
            exact en ⟨rfl, wk []⟩
          · refine xt <| rK fun K547 RK547 hK547 gK547 => zz ?_
            obtain ⟨r548, h549, h⟩ := bs h
            refine cw (a_ref01_Text hI h549) <| zz ?_
            obtain ⟨h550, h⟩ := ite_on h
            have h551 : ([32, 83, 80, 69, 69, 68, 32] : List UInt8).length + r548.length ≤ 9223372036854775807 := by (try simp only [List.length_append, List.length_cons, List.length_nil]); omega
            try simp -implicitDefEqProofs only [vt, vm, sevalprocAttr, dd, k, q] at h551
            have q := And.intro @h551 <| And.intro @h550 <| q
            refine zz ?_
            obtain ⟨h552, h⟩ := ite_on h
            have h553 : (x58.1 ++ ((((((((([67, 85, 84, 32] ++ r512) ++ [32]) ++ y480.Reel) ++ [32]) ++ r522) ++ [32]) ++ r528) ++ [32]) ++ r534)).length + ([32, 83, 80, 69, 69, 68, 32] ++ r548).length ≤ 9223372036854775807 := by (try simp only [List.length_append, List.length_cons, List.length_nil]); omega
            try simp -implicitDefEqProofs only [vt, vm, sevalprocAttr, dd, k, q] at h553
            have q := And.intro @h553 <| And.intro @h552 <| q
            refine zz ?_
            subst hK547 gK547
            refine es <| rK fun K554 RK554 hK554 gK554 => zz ?_
            obtain ⟨h555, h⟩ := ite_on h
            have h556 : ((x58.1 ++ ((((((((([67, 85, 84, 32] ++ r512) ++ [32]) ++ y480.Reel) ++ [32]) ++ r522) ++ [32]) ++ r528) ++ [32]) ++ r534)) ++ ([32, 83, 80, 69, 69, 68, 32] ++ r548)).length + ([10] : List UInt8).length ≤ 9223372036854775807 := by (try simp only [List.length_append, List.length_cons, List.length_nil]); omega
            try simp -implicitDefEqProofs only [vt, vm, sevalprocAttr, dd, k, q] at h556
            have q := And.intro @h556 <| And.intro @h555 <| q
            refine zz ?_
            subst hK554 gK554
            refine bn <| es <| rz ?_
            cases h
            exact en ⟨rfl, wk []⟩
        · refine xf <| xx <| ee ?_
          cases h
          exact en ⟨rfl, wk []⟩
      · refine bh <| es <| xs <| rz ?_
        refine es <| xr ?_
        cases h
        exact en fr
    · refine xf <| xk <| es <| xs <| xs <| rz ?_
      refine es <| xb ?_
      obtain ⟨e564, h1063, h⟩ := bs h
      refine rb_loop (fun x563 => ⟨envL [(1, .ptr 0 0), (5, .str x563.1), (36, .sl (l_0.Cuts.map T_api_Cut.d)), (37, .int .i64 (l_0.Cuts.length : Int)), (38, .int .i64 x563.2)], heapL [(0, .box none [.str l_0.Title, .int .u8 l_0.Rate, .bool l_0.Drop, .sl (l_0.Cuts.map T_api_Cut.d)])], 1, 86⟩) (fun _ => .exit 0) (fun e564 => ⟨envL [(5, .str e564)], heapL [], 0, 86⟩) h1063 (wk []) (by intro w; simp) ?_ ?_
      · clear h
        intro x563 y h
        unfold g_ref44_Text_s2 at h
        refine xs <| rz ?_
        refine es <| xs ?_
        rcases iK k h with ⟨k, h⟩ | ⟨k, h⟩
        · refine xt <| xk <| es <| xs <| xb <| xs <| rK fun K984 RK984 hK984 gK984 => zz ?_
          obtain ⟨y985, q, h⟩ := bK q h
          refine zz ?_
          subst hK984 gK984
          refine es <| xs <| rD hI fun K1016 RK1016 hK1016 gK1016 => zz ?_
          obtain ⟨r1017, h1018, h⟩ := bs h
          refine cd (a_ref01_Decimal hI h1018) <| zz ?_
          obtain ⟨h1019, h⟩ := ite_on h
          have h1020 : ([67, 85, 84, 32] : List UInt8).length + r1017.length ≤ 9223372036854775807 := by (try simp only [List.length_append, List.length_cons, List.length_nil]); omega
          try simp -implicitDefEqProofs only [vt, vm, sevalprocAttr, dd, k, q] at h1020
          have q := And.intro @h1020 <| And.intro @h1019 <| q
          refine zz ?_
          obtain ⟨h1021, h⟩ := ite_on h
          have h1022 : ([67, 85, 84, 32] ++ r1017).length + ([32] : List UInt8).length ≤ 9223372036854775807 := by (try simp only [List.length_append, List.length_cons, List.length_nil]); omega
          try simp -implicitDefEqProofs only [vt, vm, sevalprocAttr, dd, k, q] at h1022
          have q := And.intro @h1022 <| And.intro @h1021 <| q
          refine zz ?_
          obtain ⟨h1023, h⟩ := ite_on h
          have h1024 : (([67, 85, 84, 32] ++ r1017) ++ [32]).length + y985.Reel.length ≤ 9223372036854775807 := by (try simp only [List.length_append, List.length_cons, List.length_nil]); omega
          try simp -implicitDefEqProofs only [vt, vm, sevalprocAttr, dd, k, q] at h1024
          have q := And.intro @h1024 <| And.intro @h1023 <| q
          refine zz ?_
          obtain ⟨h1025, h⟩ := ite_on h
          have h1026 : ((([67, 85, 84, 32] ++ r1017) ++ [32]) ++ y985.Reel).length + ([32] : List UInt8).length ≤ 9223372036854775807 := by (try simp only [List.length_append, List.length_cons, List.length_nil]); omega
          try simp -implicitDefEqProofs only [vt, vm, sevalprocAttr, dd, k, q] at h1026
          have q := And.intro @h1026 <| And.intro @h1025 <| q
          refine zz ?_
          obtain ⟨r1027, h1028, h⟩ := bs h
          refine cd (a_ref44_label hI h1028) <| zz ?_
          obtain ⟨h1029, h⟩ := ite_on h
          have h1030 : (((([67, 85, 84, 32] ++ r1017) ++ [32]) ++ y985.Reel) ++ [32]).length + r1027.length ≤ 9223372036854775807 := by (try simp only [List.length_append, List.length_cons, List.length_nil]); omega
          try simp -implicitDefEqProofs only [vt, vm, sevalprocAttr, dd, k, q] at h1030
          have q := And.intro @h1030 <| And.intro @h1029 <| q
          refine zz ?_
          obtain ⟨h1031, h⟩ := ite_on h
          have h1032 : ((((([67, 85, 84, 32] ++ r1017) ++ [32]) ++ y985.Reel) ++ [32]) ++ r1027).length + ([32] : List UInt8).length ≤ 9223372036854775807 := by (try simp only [List.length_append, List.length_cons, List.length_nil]); omega
          try simp -implicitDefEqProofs only [vt, vm, sevalprocAttr, dd, k, q] at h1032
          have q := And.intro @h1032 <| And.intro @h1031 <| q
          refine zz ?_
          obtain ⟨r1033, h1034, h⟩ := bs h
          refine cd (a_ref44_label hI h1034) <| zz ?_
          obtain ⟨h1035, h⟩ := ite_on h
          have h1036 : (((((([67, 85, 84, 32] ++ r1017) ++ [32]) ++ y985.Reel) ++ [32]) ++ r1027) ++ [32]).length + r1033.length ≤ 9223372036854775807 := by (try simp only [List.length_append, List.length_cons, List.length_nil]); omega
          try simp -implicitDefEqProofs only [vt, vm, sevalprocAttr, dd, k, q] at h1036
          have q := And.intro @h1036 <| And.intro @h1035 <| q
          refine zz ?_
          obtain ⟨h1037, h⟩ := ite_on h
          have h1038 : ((((((([67, 85, 84, 32] ++ r1017) ++ [32]) ++ y985.Reel) ++ [32]) ++ r1027) ++ [32]) ++ r1033).length + ([32] : List UInt8).length ≤ 9223372036854775807 := by (try simp only [List.length_append, List.length_cons, List.length_nil]); omega
          try simp -implicitDefEqProofs only [vt, vm, sevalprocAttr, dd, k, q] at h1038
          have q := And.intro @h1038 <| And.intro @h1037 <| q
          refine zz ?_
          obtain ⟨r1039, h1040, h⟩ := bs h
          refine cd (a_ref44_label hI h1040) <| zz ?_
          obtain ⟨h1041, h⟩ := ite_on h
          have h1042 : (((((((([67, 85, 84, 32] ++ r1017) ++ [32]) ++ y985.Reel) ++ [32]) ++ r1027) ++ [32]) ++ r1033) ++ [32]).length + r1039.length ≤ 9223372036854775807 := by (try simp only [List.length_append, List.length_cons, List.length_nil]); omega
          try simp -implicitDefEqProofs only [vt, vm, sevalprocAttr, dd, k, q] at h1042
          have q := And.intro @h1042 <| And.intro @h1041 <| q
          refine zz ?_
          obtain ⟨h1043, h⟩ := ite_on h
          have h1044 : x563.1.length + ((((((((([67, 85, 84, 32] ++ r1017) ++ [32]) ++ y985.Reel) ++ [32]) ++ r1027) ++ [32]) ++ r1033) ++ [32]) ++ r1039).length ≤ 9223372036854775807 := by (try simp only [List.length_append, List.length_cons, List.length_nil]); omega
          try simp -implicitDefEqProofs only [vt, vm, sevalprocAttr, dd, k, q] at h1044
          have q := And.intro @h1044 <| And.intro @h1043 <| q
          refine zz ?_
          subst hK1016 gK1016
          refine es <| xs <| xs <| rz ?_
          refine es ?_
          rcases iK k h with ⟨k, h⟩ | ⟨k, h⟩
          · refine xf <| xk <| es <| rK fun K1048 RK1048 hK1048 gK1048 => zz ?_
            obtain ⟨h1049, h⟩ := ite_on h
            have h1050 : (x563.1 ++ ((((((((([67, 85, 84, 32] ++ r1017) ++ [32]) ++ y985.Reel) ++ [32]) ++ r1027) ++ [32]) ++ r1033) ++ [32]) ++ r1039)).length + ([10] : List UInt8).length ≤ 9223372036854775807 := by (try simp only [List.length_append, List.length_cons, List.length_nil]); omega
            try simp -implicitDefEqProofs only [vt, vm, sevalprocAttr, dd, k, q] at h1050
            have q := And.intro @h1050 <| And.intro @h1049 <| q
            refine zz ?_
            subst hK1048 gK1048
            refine bn <| es <| rz ?_
            cases h
            exact en ⟨rfl, wk []⟩
          · refine xt <| rK fun K1052 RK1052 hK1052 gK1052 => zz ?_
            obtain ⟨r1053, h1054, h⟩ := bs h
            refine cw (a_ref01_Text hI h1054) <| zz ?_
            obtain ⟨h1055, h⟩ := ite_on h
            have h1056 : ([32, 83, 80, 69, 69, 68, 32] : List UInt8).length + r1053.length ≤ 9223372036854775807 := by (try simp only [List.length_append, List.length_cons, List.length_nil]); omega
            try simp -implicitDefEqProofs only [vt, vm, sevalprocAttr, dd, k, q] at h1056
            have q := And.intro @h1056 <| And.intro @h1055 <| q
            refine zz ?_
            obtain ⟨h1057, h⟩ := ite_on h
            have h1058 : (x563.1 ++ ((((((((([67, 85, 84, 32] ++ r1017) ++ [32]) ++ y985.Reel) ++ [32]) ++ r1027) ++ [32]) ++ r1033) ++ [32]) ++ r1039)).length + ([32, 83, 80, 69, 69, 68, 32] ++ r1053).length ≤ 9223372036854775807 := by (try simp only [List.length_append, List.length_cons, List.length_nil]); omega
            try simp -implicitDefEqProofs only [vt, vm, sevalprocAttr, dd, k, q] at h1058
            have q := And.intro @h1058 <| And.intro @h1057 <| q
            refine zz ?_
            subst hK1052 gK1052
            refine es <| rK fun K1059 RK1059 hK1059 gK1059 => zz ?_
            obtain ⟨h1060, h⟩ := ite_on h
            have h1061 : ((x563.1 ++ ((((((((([67, 85, 84, 32] ++ r1017) ++ [32]) ++ y985.Reel) ++ [32]) ++ r1027) ++ [32]) ++ r1033) ++ [32]) ++ r1039)) ++ ([32, 83, 80, 69, 69, 68, 32] ++ r1053)).length + ([10] : List UInt8).length ≤ 9223372036854775807 := by (try simp only [List.length_append, List.length_cons, List.length_nil]); omega
            try simp -implicitDefEqProofs only [vt, vm, sevalprocAttr, dd, k, q] at h1061
            have q := And.intro @h1061 <| And.intro @h1060 <| q
            refine zz ?_
            subst hK1059 gK1059
            refine bn <| es <| rz ?_
            cases h
            exact en ⟨rfl, wk []⟩
        · refine xf <| xx <| ee ?_
          cases h
          exact en ⟨rfl, wk []⟩
      · refine bh <| es <| xs <| rz ?_
        refine es <| xr ?_
        cases h
        exact en fr
def g_law44_EdlTexts (l_0 : TRL) : Option (Bool) :=
  ((g_law44_awake).bind fun r7 => (if r7 then ((g_law44_small l_0).bind fun r14 => (if r14 then ((g_law44_Of l_0).bind fun r23 => ((g_edl_Text r23).bind fun r25 => ((g_ref44_Text l_0).bind fun r31 => (if (r25.1 == r31.1) then (some (r25.2 == r31.2)) else (some false))))) else (some true))) else (some false)))
theorem a_law44_EdlTexts {I : World → Prop} (hI : Stab I) (hPIv : ∀ w, I w → PIv w) (hShp : ∀ w, I w → Shp w) (hTab : ∀ w, I w → Tab w) (hU8T : ∀ w, I w → U8T w) {l_0 : TRL} {r : Bool} (h : g_law44_EdlTexts l_0 = some r) : AFun Tryz.prog I 6 [TRL.d l_0] (.bool r) := by
  have dd := dd_EF; have k := True.intro; have q := k; have rs := Tryz.results6
  unfold g_law44_EdlTexts at h
  refine .en hI Tryz.func6 Tryz.ntmps6 ?_
  refine xs <| rz ?_
  refine es <| xs <| xs <| rK fun K6 RK6 hK6 gK6 => zz ?_
  obtain ⟨r7, h8, h⟩ := bs h
  refine cw (a_law44_awake hI hPIv hShp hTab hU8T h8) <| zz ?_
  subst hK6 gK6
  refine es ?_
  rcases iK k h with ⟨k, h⟩ | ⟨k, h⟩
  · refine xf <| xk <| es <| xs <| xs <| rK fun K13 RK13 hK13 gK13 => zz ?_
    obtain ⟨r14, h15, h⟩ := bs h
    refine cw (a_law44_small hI h15) <| zz ?_
    subst hK13 gK13
    refine es ?_
    rcases iK k h with ⟨k, h⟩ | ⟨k, h⟩
    · refine xf <| xk <| es <| xs <| rK fun K22 RK22 hK22 gK22 => zz ?_
      obtain ⟨r23, h24, h⟩ := bs h
      refine cw (a_law44_Of hI h24) <| zz ?_
      obtain ⟨r25, h26, h⟩ := bs h
      refine cw (a_edl_Text hI hTab hU8T h26) <| zz ?_
      subst hK22 gK22
      refine es <| xs <| rK fun K30 RK30 hK30 gK30 => zz ?_
      obtain ⟨r31, h32, h⟩ := bs h
      refine cw (a_ref44_Text hI h32) <| zz ?_
      subst hK30 gK30
      refine es <| xs <| rK fun K35 RK35 hK35 gK35 => zz ?_
      rcases iK k h with ⟨k, h⟩ | ⟨k, h⟩
      · refine zz ?_
        subst hK35 gK35
        refine es <| xr ?_
        cases h
        exact en fr
      · refine zz ?_
        subst hK35 gK35
        refine es <| xr ?_
        cases h
        exact en fr
    · refine xt <| xs <| rz ?_
      refine es <| xr <| er ?_
      cases h
      exact en fr
  · refine xt <| xs <| rz ?_
    refine es <| xr <| er ?_
    cases h
    exact en fr
end Go.Proofs.YtnjjdbljoligdaaGreatDoor
namespace Go.Proofs.YtnjjdbljoligdaaGreatDoor
open Go.Sort
set_option maxRecDepth 100000
theorem bl_eq (x y : List UInt8) : Op.bytesLess x y = decide (x < y) := bytesLess_eq x y
theorem iter_fold {A : Type} {step : A × Int → Option (Nx (A × Int) A)} (cs : List T_api_Cut) (hn : cs.length ≤ 1000000) (F : A → T_api_Cut → A) (Inv : Nat → A → Prop) (a0 : A) (h0 : Inv 0 a0)
    (hgo : ∀ (i : Nat) (h : i < cs.length) (a : A), Inv i a → step (a, (i : Int)) = some (.go (F a cs[i], (i : Int) + 1)) ∧ Inv (i + 1) (F a cs[i])) (hend : ∀ a, Inv cs.length a → step (a, (cs.length : Int)) = some (.out a)) : iter step (a0, 0) = some (cs.foldl F a0) ∧ Inv cs.length (cs.foldl F a0) := by
  have key : iter step (a0, 0) = some (cs.foldl F a0) := by
    refine iter_of (fun x e => ∃ i : Nat, x.2 = (i : Int) ∧ i ≤ cs.length ∧ Inv i x.1 ∧ e = (cs.drop i).foldl F x.1) (fun x => cs.length - x.2.toNat) ?_ (x := (a0, 0)) ⟨0, rfl, Nat.zero_le _, h0, by simp⟩ (by show cs.length - _ < _; omega)
    rintro ⟨a, z⟩ e ⟨i, hz, hi, hI, rfl⟩
    dsimp only at hz hI ⊢
    subst hz
    by_cases h : i < cs.length
    · left
      obtain ⟨h1, h2⟩ := hgo i h a hI
      refine ⟨_, h1, ⟨i + 1, by simp, by omega, h2, ?_⟩, by simp; omega⟩
      rw [List.drop_eq_getElem_cons h, List.foldl_cons]
    · right
      obtain rfl : i = cs.length := by omega
      rw [hend a hI]; simp
  refine ⟨key, ?_⟩
  have : ∀ (i : Nat) (a : A), i ≤ cs.length → Inv i a → Inv cs.length ((cs.drop i).foldl F a) := by
    intro i
    induction hk : cs.length - i generalizing i with
    | zero => intro a hi hI; obtain rfl : i = cs.length := by omega
              simpa using hI
    | succ k ih =>
      intro a hi hI
      have h : i < cs.length := by omega
      rw [List.drop_eq_getElem_cons h, List.foldl_cons]
      exact ih (i + 1) (by omega) _ (by omega) (hgo i h a hI).2
  simpa using this 0 a0 (Nat.zero_le _) h0
theorem cut_at {cs : List T_api_Cut} {i : Nat} (h : i < cs.length) : decide ((i : Int) < (cs.length : Int)) = true ∧ atI cs (i : Int) = some cs[i] := ⟨by simpa using h, atI_nat h⟩
theorem cut_end (cs : List T_api_Cut) : decide ((cs.length : Int) < (cs.length : Int)) = false := by simp
def reelS (cs : List T_api_Cut) : List (List UInt8) := cs.foldl (fun o c => insU c.Reel o) []
theorem insU_len (c : List UInt8) : ∀ (o : List (List UInt8)), (insU c o).length ≤ o.length + 1
  | [] => by simp [insU]
  | x :: t => by
    simp only [insU]
    split
    · have := insU_len c t; simp; omega
    · split <;> simp
theorem prog_Reels (l : T_edl_List) (hn : l.Cuts.length ≤ 1000) : g_edl_Reels l = some (reelS l.Cuts) := by
  have h := iter_fold (step := g_edl_Reels_s1 l) l.Cuts (by omega) (fun o c => o ++ [c.Reel]) (fun i o => o.length = i) [] rfl (fun i h a ha => ⟨?_, by simp [ha]⟩) (fun a _ => ?_)
  · have hm : ∀ (cs : List T_api_Cut) (o : List (List UInt8)), cs.foldl (fun o c => o ++ [c.Reel]) o = o ++ cs.map T_api_Cut.Reel := by
      intro cs
      induction cs with
      | nil => simp
      | cons c cs ih => intro o; simp [ih]
    have h1 := h.1
    rw [hm] at h1
    unfold g_edl_Reels
    rw [h1]
    simp only [Option.bind_some, List.nil_append]
    rw [if_pos (by simp; omega), if_pos (by simp; omega)]
    unfold sortS reelS
    rw [reels_eq, List.foldl_map]
  · unfold g_edl_Reels_s1
    dsimp only
    rw [if_pos (cut_at h).1, (cut_at h).2, wr64 (by omega)]
    simp only [Option.bind_some]
    rw [if_pos (by omega)]
  · unfold g_edl_Reels_s1
    dsimp only
    rw [cut_end]; rfl
def headL (c : List UInt8) : List (List UInt8) → Nat
  | [] => 0
  | x :: t => if x < c then headL c t + 1 else 0
theorem headL_le (c : List UInt8) : ∀ o, headL c o ≤ o.length
  | [] => Nat.le_refl _
  | x :: t => by simp only [headL]; split
                 · have := headL_le c t; simp; omega
                 · simp
theorem headL_lt (c : List UInt8) : ∀ (o : List (List UInt8)) (i : Nat) (h : i < o.length), (i < headL c o → o[i] < c) ∧ (i = headL c o → ¬ o[i] < c)
  | x :: t, 0, h => by simp only [headL]; split
                       · rename_i hx; exact ⟨fun _ => hx, fun h => by omega⟩
                       · rename_i hx; exact ⟨fun h => by omega, fun _ => hx⟩
  | x :: t, i + 1, h => by
    simp only [headL, List.getElem_cons_succ]
    have := headL_lt c t i (by simpa using h)
    split
    · exact ⟨fun h => this.1 (by omega), fun h => this.2 (by omega)⟩
    · exact ⟨fun h => by omega, fun h => by omega⟩
theorem insU_eq (c : List UInt8) : ∀ (o : List (List UInt8)), insU c o = if o[headL c o]? = some c then o else o.take (headL c o) ++ [c] ++ o.drop (headL c o)
  | [] => by simp [insU, headL]
  | x :: t => by
    by_cases h : x < c
    · have e1 : headL c (x :: t) = headL c t + 1 := by simp [headL, h]
      have e2 : insU c (x :: t) = x :: insU c t := by simp [insU, h]
      rw [e1, e2, insU_eq c t]
      simp only [List.getElem?_cons_succ, List.take_succ_cons, List.drop_succ_cons, List.cons_append]
      split <;> rfl
    · have e1 : headL c (x :: t) = 0 := by simp [headL, h]
      rw [e1]
      by_cases h2 : x = c
      · subst h2; simp [insU, h]
      · have e2 : insU c (x :: t) = c :: x :: t := by simp [insU, h, h2]
        rw [e2]; simp [h2]
theorem ref_Reels (l : TRL) (hn : l.Cuts.length ≤ 1000) : g_ref44_Reels l = some (reelS l.Cuts) := by
  unfold g_ref44_Reels reelS
  rw [(iter_fold (step := g_ref44_Reels_s1 l) l.Cuts (by omega) (fun o c => insU c.Reel o) (fun i o => o.length ≤ i) [] (by simp) (fun i h a ha => ⟨?_, by have := insU_len l.Cuts[i].Reel a; omega⟩) (fun a _ => ?_)).1]
  · rfl
  · generalize hc : l.Cuts[i].Reel = c
    have hle := headL_le c a
    have hin : iter (g_ref44_Reels_s2 (a, (i : Int)) l.Cuts[i]) 0 = some ((headL c a : Nat) : Int) := by
      refine iter_of (fun (x : Int) e => ∃ j : Nat, x = (j : Int) ∧ j ≤ headL c a ∧ e = ((headL c a : Nat) : Int)) (fun (x : Int) => a.length - x.toNat) ?_ (x := 0) ⟨0, rfl, Nat.zero_le _, rfl⟩ (by show a.length - _ < _; omega)
      rintro x e ⟨j, rfl, hj, rfl⟩
      unfold g_ref44_Reels_s2
      dsimp only
      by_cases h2 : j < a.length
      · rw [if_pos (by simpa using h2), atI_nat h2]
        simp only [Option.bind_some, bl_eq, hc, decide_eq_true_eq]
        have := headL_lt c a j h2
        by_cases h3 : a[j] < c
        · left
          rw [if_pos h3, wr64 (by omega)]
          refine ⟨_, rfl, ⟨j + 1, by simp, ?_, (by first | rfl | trivial)⟩, by simp; omega⟩
          rcases Nat.lt_or_ge j (headL c a) with h4 | h4
          · omega
          · exact absurd h3 (this.2 (by omega))
        · right
          rw [if_neg h3]
          have : j = headL c a := by
            rcases Nat.lt_or_ge j (headL c a) with h4 | h4
            · exact absurd (this.1 h4) h3
            · omega
          rw [this]
      · right
        rw [if_neg (by simpa using h2)]
        have : j = headL c a := by omega
        rw [this]
    have hv : (if decide (((headL c a : Nat) : Int) < ((a.length : Nat) : Int)) = true then (atI a ((headL c a : Nat) : Int)).bind fun y626 => some (y626 == c) else some false : Option Bool) = some (decide (a[headL c a]? = some c)) := by
      by_cases h2 : headL c a < a.length
      · rw [if_pos (by simpa using h2), atI_nat h2, List.getElem?_eq_getElem h2]
        simp only [Option.bind_some, Option.some.injEq]
        by_cases h3 : a[headL c a] = c <;> simp [h3]
      · rw [if_neg (by simpa using h2), List.getElem?_eq_none (by omega)]
        simp
    unfold g_ref44_Reels_s1
    dsimp only
    rw [if_pos (cut_at h).1, (cut_at h).2, wr64 (by omega)]
    simp only [Option.bind_some, hin]
    rw [hc, hv, insU_eq]
    simp only [Option.bind_some, decide_eq_true_eq]
    by_cases h3 : a[headL c a]? = some c
    · rw [if_pos h3, if_pos h3]
    · have e1 : subH a ((headL c a : Nat) : Int) = some (a.take (headL c a)) := by
        unfold subH
        rw [if_pos ⟨by omega, by simpa using hle⟩]; simp
      have e2 : subL a ((headL c a : Nat) : Int) = some (a.drop (headL c a)) := by
        unfold subL
        rw [if_pos ⟨by omega, by simpa using hle⟩]
        congr 1
        exact List.take_of_length_le (by simp)
      rw [if_neg h3, if_neg h3, e1]
      simp only [Option.bind_some, e2]
      simp only [List.length_take, List.length_drop]
      rw [if_pos (by omega), if_pos (by omega), if_pos (by omega)]
  · unfold g_ref44_Reels_s1
    dsimp only
    rw [cut_end]; rfl
end Go.Proofs.YtnjjdbljoligdaaGreatDoor
