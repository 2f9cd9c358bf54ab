/- Texts of one proof, put together (EA, EE, RE, M4). No condition but those that each theorem states. -/
import Derived.Test.YtnjjdbljoligdaaGreatDoorZ4
import Derived.Lib.ItoaMem
import Derived.Lib.ItoaLen
set_option linter.unusedSimpArgs false
set_option linter.unusedVariables false
namespace Go.Proofs.YtnjjdbljoligdaaGreatDoor
open Go.RowKit
set_option maxRecDepth 100000
set_option maxHeartbeats 10000000
structure T_api_Field where
  Text : List UInt8
  Column : Int
  Quoted : Bool
  deriving DecidableEq
def T_api_Field.d (x : T_api_Field) : D := .agg [.str x.Text, .int .i64 x.Column, .bool x.Quoted]
structure T_api_Diag where
  Line : Int
  Column : Int
  Code : Int
  deriving DecidableEq
def T_api_Diag.d (x : T_api_Diag) : D := .agg [.int .i64 x.Line, .int .i64 x.Column, .int .i64 x.Code]
structure T_api_Line where
  Number : Int
  Fields : List T_api_Field
  deriving DecidableEq
def T_api_Line.d (x : T_api_Line) : D := .agg [.int .i64 x.Number, .sl (x.Fields.map T_api_Field.d)]
structure TLS where
  line_ : T_api_Line
  next_ : Int
  last_ : Int
  bad_ : T_api_Diag
  deriving DecidableEq
def TLS.d (x : TLS) : D := .agg [.int .i64 x.line_.Number, .sl (x.line_.Fields.map T_api_Field.d), .int .i64 x.next_, .int .i64 x.last_, .int .i64 x.bad_.Line, .int .i64 x.bad_.Column, .int .i64 x.bad_.Code]
theorem dd_EA : (∀ x, T_api_Field.d x = .agg [.str x.Text, .int .i64 x.Column, .bool x.Quoted]) ∧ (∀ x, T_api_Diag.d x = .agg [.int .i64 x.Line, .int .i64 x.Column, .int .i64 x.Code]) ∧ (∀ x, T_api_Line.d x = .agg [.int .i64 x.Number, .sl (x.Fields.map T_api_Field.d)]) ∧ (∀ x, TLS.d x = .agg [.int .i64 x.line_.Number, .sl (x.line_.Fields.map T_api_Field.d), .int .i64 x.next_, .int .i64 x.last_, .int .i64 x.bad_.Line, .int .i64 x.bad_.Column, .int .i64 x.bad_.Code]) := ⟨fun _ => rfl, fun _ => rfl, fun _ => rfl, fun _ => rfl⟩
def g_lines_quoted_s1 (s_0 : List UInt8) (x7 : (List Int) × Int) : Option (Nx ((List Int) × Int) (((List UInt8) × Int × Int) ⊕ Unit)) :=
  (if (decide (x7.2 < (s_0.length : Int))) then ((atI s_0 x7.2).bind fun b367 => (if ((b367.toNat : Int) == 34) then (((if (decide ((IntKind.i64.wrap (x7.2 + 1)) < (s_0.length : Int))) then ((atI s_0 (IntKind.i64.wrap (x7.2 + 1))).bind fun b379 => (some ((b379.toNat : Int) != 32))) else (some false)) : Option (Bool)).bind fun v376 => (if v376 then (some (.out (.inl ([], 0, (IntKind.i64.wrap (x7.2 + 1)))))) else (some (.out (.inl ((bytesOf x7.1), (IntKind.i64.wrap (x7.2 + 1)), -1)))))) else (if ((b367.toNat : Int) == 92) then (((if ((IntKind.i64.wrap (x7.2 + 1)) == (s_0.length : Int)) then (some true) else ((atI s_0 (IntKind.i64.wrap (x7.2 + 1))).bind fun b399 => ((g_strings_IndexByte [34, 92, 110] (b399.toNat : Int)).bind fun r401 => (some (decide (r401 < 0)))))) : Option (Bool)).bind fun v396 => (if v396 then (some (.out (.inl ([], 0, x7.2)))) else ((atI s_0 (IntKind.i64.wrap (x7.2 + 1))).bind fun b413 => (if ((b413.toNat : Int) == 110) then (if (x7.1.length + 1) * 1 ≤ 140737488355328 then (some (.go ((x7.1 ++ [10]), (IntKind.i64.wrap ((IntKind.i64.wrap (x7.2 + 1)) + 1))))) else none) else (if (x7.1.length + 1) * 1 ≤ 140737488355328 then (some (.go ((x7.1 ++ [(b413.toNat : Int)]), (IntKind.i64.wrap ((IntKind.i64.wrap (x7.2 + 1)) + 1))))) else none))))) else (((if (decide ((b367.toNat : Int) < 32)) then (some true) else (some ((b367.toNat : Int) == 127))) : Option (Bool)).bind fun v428 => (if v428 then (some (.out (.inl ([], 0, x7.2)))) else (if (x7.1.length + 1) * 1 ≤ 140737488355328 then (some (.go ((x7.1 ++ [(b367.toNat : Int)]), (IntKind.i64.wrap (x7.2 + 1))))) else none)))))) else (some (.out (.inr ()))))
def g_lines_quoted (s_0 : List UInt8) : Option ((List UInt8) × Int × Int) :=
  ((iter (g_lines_quoted_s1 s_0) ([], 1)).bind fun e8 => (match e8 with | Sum.inl e8 => (some (e8.1, e8.2.1, e8.2.2)) | Sum.inr (e8) => (some ([], 0, (s_0.length : Int)))))
theorem a_lines_quoted {I : World → Prop} (hI : Stab I) {s_0 : List UInt8} {r : (List UInt8) × Int × Int} (h : g_lines_quoted s_0 = some r) : AFun Tryz.prog I 136 [.str s_0] (.tup [.str r.1, .int .i64 r.2.1, .int .i64 r.2.2]) := by
  have dd := dd_EA; have k := True.intro; have q := k; have rs := Tryz.results136
  unfold g_lines_quoted at h
  refine .en hI Tryz.func136 Tryz.ntmps136 ?_
  refine xs <| rz ?_
  refine es <| xs <| rz ?_
  refine es <| xs <| xs <| rz ?_
  refine es <| xb ?_
  obtain ⟨e8, h440, h⟩ := bs h
  refine rb_loop (fun x7 => ⟨envL [(0, .str s_0), (5, .own 0 x7.1.length), (6, .int .i64 x7.2)], heapL [(0, .vec 5 1 (x7.1.map (D.int .u8)) false)], 1, 84⟩) (fun w => match w with | Sum.inl _ => .ret | Sum.inr (_) => .exit 0) (fun w => match w with | Sum.inl e8 => ⟨envL [(2, .str e8.1), (3, .int .i64 e8.2.1), (4, .int .i64 e8.2.2)], heapL [], 0, 84⟩ | Sum.inr (e8) => ⟨envL [(0, .str s_0)], heapL [], 0, 84⟩) h440 (wk [(0, none)]) (by intro w; rcases w with w | w <;> simp) ?_ ?_
  · clear h
    intro x7 y h
    unfold g_lines_quoted_s1 at h
    refine xs <| xs <| rz ?_
    refine es ?_
    rcases iK k h with ⟨k, h⟩ | ⟨k, h⟩
    · refine xt <| xk <| es <| xs <| xb <| xs <| rK fun K366 RK366 hK366 gK366 => zz ?_
      obtain ⟨b367, q, h⟩ := bK q h
      refine zz ?_
      subst hK366 gK366
      refine es <| xb <| xs <| rz ?_
      refine es ?_
      rcases iK k h with ⟨k, h⟩ | ⟨k, h⟩
      · refine xt <| xs ?_
        obtain ⟨v376, h381, h⟩ := bs h
        refine rb_cut (fun v376 => ⟨envL [(5, .own 0 x7.1.length), (6, .int .i64 x7.2), (35, .bool v376)], heapL [(0, .vec 5 1 (x7.1.map (D.int .u8)) false)], 1, 84⟩) h381 ?_ ?_
        · clear h
          intro v376 h
          refine rK fun K377 RK377 hK377 gK377 => zz ?_
          rcases iK k h with ⟨k, h⟩ | ⟨k, h⟩
          · refine zz ?_
            obtain ⟨b379, q, h⟩ := bK q h
            refine zz ?_
            subst hK377 gK377
            cases h
            exact en ⟨rfl, wk []⟩
          · refine zz ?_
            subst hK377 gK377
            cases h
            exact en ⟨rfl, wk []⟩
        · rcases iK k h with ⟨k, h⟩ | ⟨k, h⟩
          · refine xt <| xs <| rz ?_
            refine es <| xr <| er <| br <| br <| er ?_
            cases h
            exact en ⟨rfl, wk []⟩
          · refine xf <| xk <| es <| xs <| rz ?_
            refine es <| xr <| br <| br <| er ?_
            cases h
            exact en ⟨rfl, wk []⟩
      · refine xf <| xs <| rz ?_
        refine es ?_
        rcases iK k h with ⟨k, h⟩ | ⟨k, h⟩
        · refine xt <| xs ?_
          obtain ⟨v396, h403, h⟩ := bs h
          refine rb_cut (fun v396 => ⟨envL [(0, .str s_0), (5, .own 0 x7.1.length), (6, .int .i64 x7.2), (57, .bool v396)], heapL [(0, .vec 5 1 (x7.1.map (D.int .u8)) false)], 1, 84⟩) h403 ?_ ?_
          · clear h
            intro v396 h
            refine rK fun K397 RK397 hK397 gK397 => zz ?_
            rcases iK k h with ⟨k, h⟩ | ⟨k, h⟩
            · refine zz ?_
              subst hK397 gK397
              cases h
              exact en ⟨rfl, wk []⟩
            · refine zz ?_
              obtain ⟨b399, q, h⟩ := bK q h
              refine zz ?_
              obtain ⟨r401, h402, h⟩ := bs h
              refine cw (a_strings_IndexByte I hI [34, 92, 110] (b399.toNat : Int) h402) <| zz ?_
              subst hK397 gK397
              cases h
              exact en ⟨rfl, wk []⟩
          · rcases iK k h with ⟨k, h⟩ | ⟨k, h⟩
            · refine xt <| xs <| rz ?_
              refine es <| xr <| er <| br <| br <| er ?_
              cases h
              exact en ⟨rfl, wk []⟩
            · refine xf <| xk <| es <| xs <| rz ?_
              refine es <| xs <| rK fun K412 RK412 hK412 gK412 => zz ?_
              obtain ⟨b413, q, h⟩ := bK q h
              refine zz ?_
              subst hK412 gK412
              refine es ?_
              rcases iK k h with ⟨k, h⟩ | ⟨k, h⟩
              · refine xt <| rK fun K416 RK416 hK416 gK416 => zz ?_
                obtain ⟨h417, h⟩ := ite_on h
                have h418 : x7.1.length + 1 ≤ 9223372036854775807 := by omega
                try simp only [Nat.reduceLeDiff] at h418
                have h419 : x7.1.length + 1 ≤ 140737488355328 := by omega
                try simp only [Nat.reduceLeDiff] at h419
                have q := And.intro @h418 <| And.intro @h419 <| And.intro @h417 <| q
                refine zz ?_
                subst hK416 gK416
                refine bn <| bn <| es <| rz ?_
                cases h
                exact en ⟨rfl, wk [(0, some 10)]⟩
              · refine xf <| rK fun K421 RK421 hK421 gK421 => zz ?_
                obtain ⟨h422, h⟩ := ite_on h
                have h423 : x7.1.length + 1 ≤ 9223372036854775807 := by omega
                try simp only [Nat.reduceLeDiff] at h423
                have h424 : x7.1.length + 1 ≤ 140737488355328 := by omega
                try simp only [Nat.reduceLeDiff] at h424
                have q := And.intro @h423 <| And.intro @h424 <| And.intro @h422 <| q
                refine zz ?_
                subst hK421 gK421
                refine bn <| bn <| es <| rz ?_
                cases h
                exact en ⟨rfl, wk [(0, some 13)]⟩
        · refine xf ?_
          obtain ⟨v428, h431, h⟩ := bs h
          refine rb_cut (fun v428 => ⟨envL [(0, .str s_0), (5, .own 0 x7.1.length), (6, .int .i64 x7.2), (7, .int .u8 (b367.toNat : Int)), (74, .bool v428)], heapL [(0, .vec 5 1 (x7.1.map (D.int .u8)) false)], 1, 84⟩) h431 ?_ ?_
          · clear h
            intro v428 h
            refine rK fun K429 RK429 hK429 gK429 => zz ?_
            rcases iK k h with ⟨k, h⟩ | ⟨k, h⟩
            · refine zz ?_
              subst hK429 gK429
              cases h
              exact en ⟨rfl, wk []⟩
            · refine zz ?_
              subst hK429 gK429
              cases h
              exact en ⟨rfl, wk []⟩
          · rcases iK k h with ⟨k, h⟩ | ⟨k, h⟩
            · refine xt <| xs <| rz ?_
              refine es <| xr <| br <| br <| er ?_
              cases h
              exact en ⟨rfl, wk []⟩
            · refine xf <| rK fun K435 RK435 hK435 gK435 => zz ?_
              obtain ⟨h436, h⟩ := ite_on h
              have h437 : x7.1.length + 1 ≤ 9223372036854775807 := by omega
              try simp only [Nat.reduceLeDiff] at h437
              have h438 : x7.1.length + 1 ≤ 140737488355328 := by omega
              try simp only [Nat.reduceLeDiff] at h438
              have q := And.intro @h437 <| And.intro @h438 <| And.intro @h436 <| q
              refine zz ?_
              subst hK435 gK435
              refine bn <| bn <| es <| rz ?_
              cases h
              exact en ⟨rfl, wk [(0, some 4)]⟩
    · refine xf <| xx <| ee ?_
      cases h
      exact en ⟨rfl, wk []⟩
  · rcases e8 with e8 | e8
    · try dsimp only at h ⊢
      refine br <| er ?_
      cases h
      exact en fr
    · try dsimp only at h ⊢
      refine bh <| es <| xs <| rz ?_
      refine es <| xr ?_
      cases h
      exact en fr
def g_lines_isWord (b_0 : Int) : Option (Bool) :=
  (if (decide (32 < b_0)) then (if (decide (b_0 < 127)) then (some (b_0 != 34)) else (some false)) else (some false))
theorem a_lines_isWord {I : World → Prop} (hI : Stab I) {b_0 : Int} {r : Bool} (h : g_lines_isWord b_0 = some r) : AFun Tryz.prog I 175 [.int .u8 b_0] (.bool r) := by
  have dd := dd_EA; have k := True.intro; have q := k; have rs := Tryz.results175
  unfold g_lines_isWord at h
  refine .en hI Tryz.func175 Tryz.ntmps175 ?_
  refine xs <| rz ?_
  refine es <| xs <| rK fun K6 RK6 hK6 gK6 => zz ?_
  rcases iK k h with ⟨k, h⟩ | ⟨k, h⟩
  · refine zz ?_
    rcases iK k h with ⟨k, h⟩ | ⟨k, h⟩
    · refine zz ?_
      subst hK6 gK6
      refine es <| xr ?_
      cases h
      exact en fr
    · refine zz ?_
      subst hK6 gK6
      refine es <| xr ?_
      cases h
      exact en fr
  · refine zz ?_
    subst hK6 gK6
    refine es <| xr ?_
    cases h
    exact en fr
def g_lines_word_s1 (s_0 : List UInt8) (x5 : Int) : Option (Nx (Int) ((Int × Int) ⊕ Unit)) :=
  (if (decide (x5 < (s_0.length : Int))) then ((atI s_0 x5).bind fun b100 => (if ((b100.toNat : Int) == 32) then (some (.out (.inl (x5, -1)))) else ((((g_lines_isWord (b100.toNat : Int)).bind fun r112 => (if r112 then (if (x5 == 0) then (some ((b100.toNat : Int) == 35)) else (some false)) else (some true))) : Option (Bool)).bind fun v110 => (if v110 then (some (.out (.inl (0, x5)))) else (some (.go (IntKind.i64.wrap (x5 + 1)))))))) else (some (.out (.inr ()))))
def g_lines_word (s_0 : List UInt8) : Option (Int × Int) :=
  ((iter (g_lines_word_s1 s_0) 0).bind fun e6 => (match e6 with | Sum.inl e6 => (some (e6.1, e6.2)) | Sum.inr (e6) => (some ((s_0.length : Int), -1))))
theorem a_lines_word {I : World → Prop} (hI : Stab I) {s_0 : List UInt8} {r : Int × Int} (h : g_lines_word s_0 = some r) : AFun Tryz.prog I 137 [.str s_0] (.tup [.int .i64 r.1, .int .i64 r.2]) := by
  have dd := dd_EA; have k := True.intro; have q := k; have rs := Tryz.results137
  unfold g_lines_word at h
  refine .en hI Tryz.func137 Tryz.ntmps137 ?_
  refine xs <| rz ?_
  refine es <| xs <| xs <| rz ?_
  refine es <| xb ?_
  obtain ⟨e6, h121, h⟩ := bs h
  refine rb_loop (fun x5 => ⟨envL [(0, .str s_0), (6, .int .i64 (s_0.length : Int)), (7, .int .i64 x5)], heapL [], 0, 34⟩) (fun w => match w with | Sum.inl _ => .ret | Sum.inr (_) => .exit 0) (fun w => match w with | Sum.inl e6 => ⟨envL [(2, .int .i64 e6.1), (3, .int .i64 e6.2)], heapL [], 0, 34⟩ | Sum.inr (e6) => ⟨envL [(0, .str s_0)], heapL [], 0, 34⟩) h121 (wk []) (by intro w; rcases w with w | w <;> simp) ?_ ?_
  · clear h
    intro x5 y h
    unfold g_lines_word_s1 at h
    refine xs <| rz ?_
    refine es <| xs ?_
    rcases iK k h with ⟨k, h⟩ | ⟨k, h⟩
    · refine xt <| xk <| es <| xs <| xb <| xs <| rz ?_
      refine es <| xs <| xs <| rK fun K99 RK99 hK99 gK99 => zz ?_
      obtain ⟨b100, q, h⟩ := bK q h
      refine zz ?_
      subst hK99 gK99
      refine es ?_
      rcases iK k h with ⟨k, h⟩ | ⟨k, h⟩
      · refine xt <| xs <| rz ?_
        refine es <| xr <| er <| br <| er ?_
        cases h
        exact en ⟨rfl, wk []⟩
      · refine xf <| xk <| es ?_
        obtain ⟨v110, h116, h⟩ := bs h
        refine rb_cut (fun v110 => ⟨envL [(0, .str s_0), (4, .int .i64 x5), (6, .int .i64 (s_0.length : Int)), (7, .int .i64 x5), (29, .bool v110)], heapL [], 0, 34⟩) h116 ?_ ?_
        · clear h
          intro v110 h
          refine rK fun K111 RK111 hK111 gK111 => zz ?_
          obtain ⟨r112, h113, h⟩ := bs h
          refine cw (a_lines_isWord hI h113) <| zz ?_
          rcases iK k h with ⟨k, h⟩ | ⟨k, h⟩
          · refine zz ?_
            rcases iK k h with ⟨k, h⟩ | ⟨k, h⟩
            · refine zz ?_
              subst hK111 gK111
              cases h
              exact en ⟨rfl, wk []⟩
            · refine zz ?_
              subst hK111 gK111
              cases h
              exact en ⟨rfl, wk []⟩
          · refine zz ?_
            subst hK111 gK111
            cases h
            exact en ⟨rfl, wk []⟩
        · rcases iK k h with ⟨k, h⟩ | ⟨k, h⟩
          · refine xt <| xs <| rz ?_
            refine es <| xr <| br <| er ?_
            cases h
            exact en ⟨rfl, wk []⟩
          · refine xf <| xk <| bn <| es <| rz ?_
            cases h
            exact en ⟨rfl, wk []⟩
    · refine xf <| xx <| ee ?_
      cases h
      exact en ⟨rfl, wk []⟩
  · rcases e6 with e6 | e6
    · try dsimp only at h ⊢
      refine br <| er ?_
      cases h
      exact en fr
    · try dsimp only at h ⊢
      refine bh <| es <| xs <| rz ?_
      refine es <| xr ?_
      cases h
      exact en fr
def g_lines_fields_s1 (s_0 : List UInt8) (x7 : (List T_api_Field) × Int) : Option (Nx ((List T_api_Field) × Int) (((List T_api_Field)) ⊕ Int)) :=
  (if (decide (x7.2 < (s_0.length : Int))) then ((atI s_0 x7.2).bind fun b136 => (if ((b136.toNat : Int) == 32) then (some (.go (x7.1, (IntKind.i64.wrap (x7.2 + 1))))) else (if ((b136.toNat : Int) == 35) then (some (.out (.inl x7.1))) else (if ((b136.toNat : Int) == 34) then ((subL s_0 x7.2).bind fun z154 => ((g_lines_quoted z154).bind fun r159 => (if (decide (0 ≤ r159.2.2)) then (some (.out (.inr (IntKind.i64.wrap ((IntKind.i64.wrap (x7.2 + r159.2.2)) + 1))))) else (if (x7.1.length + 1) * 32 ≤ 140737488355328 then (some (.go ((x7.1 ++ [(T_api_Field.mk r159.1 (IntKind.i64.wrap (x7.2 + 1)) true)]), (IntKind.i64.wrap (x7.2 + r159.2.1))))) else none)))) else ((subL s_0 x7.2).bind fun z182 => ((g_lines_word z182).bind fun r187 => ((subI s_0 x7.2 (IntKind.i64.wrap (x7.2 + r187.1))).bind fun z190 => (if (decide (0 ≤ r187.2)) then (some (.out (.inr (IntKind.i64.wrap ((IntKind.i64.wrap (x7.2 + r187.2)) + 1))))) else (if (x7.1.length + 1) * 32 ≤ 140737488355328 then (some (.go ((x7.1 ++ [(T_api_Field.mk z190 (IntKind.i64.wrap (x7.2 + 1)) false)]), (IntKind.i64.wrap (x7.2 + r187.1))))) else none))))))))) else (some (.out (.inl x7.1))))
def g_lines_fields (s_0 : List UInt8) : Option ((List T_api_Field) × Int) :=
  ((iter (g_lines_fields_s1 s_0) ([], 0)).bind fun e8 => (match e8 with | Sum.inl e8 => (some (e8, 0)) | Sum.inr (e8) => (some ([], e8))))
theorem a_lines_fields {I : World → Prop} (hI : Stab I) {s_0 : List UInt8} {r : (List T_api_Field) × Int} (h : g_lines_fields s_0 = some r) : AFun Tryz.prog I 82 [.str s_0] (.tup [.sl (r.1.map T_api_Field.d), .int .i64 r.2]) := by
  have dd := dd_EA; have k := True.intro; have q := k; have rs := Tryz.results82
  unfold g_lines_fields at h
  refine .en hI Tryz.func82 Tryz.ntmps82 ?_
  refine xs <| rz ?_
  refine es <| xs <| rz ?_
  refine es <| xs <| xs <| rz ?_
  refine es <| xb ?_
  obtain ⟨e8, h209, h⟩ := bs h
  refine rb_loop (fun x7 => ⟨envL [(0, .str s_0), (4, .own 0 x7.1.length), (5, .int .i64 x7.2)], heapL [(0, .vec 117 3 (x7.1.map T_api_Field.d) false)], 1, 68⟩) (fun w => match w with | Sum.inl _ => .exit 0 | Sum.inr (_) => .ret) (fun w => match w with | Sum.inl e8 => ⟨envL [(4, .own 0 e8.length)], heapL [(0, .vec 117 3 (e8.map T_api_Field.d) false)], 1, 68⟩ | Sum.inr (e8) => ⟨envL [(2, .nils), (3, .int .i64 e8)], heapL [], 0, 68⟩) h209 (wk [(0, none)]) (by intro w; rcases w with w | w <;> simp) ?_ ?_
  · clear h
    intro x7 y h
    unfold g_lines_fields_s1 at h
    refine xs <| xs <| rz ?_
    refine es ?_
    rcases iK k h with ⟨k, h⟩ | ⟨k, h⟩
    · refine xt <| xk <| es <| xb <| xs <| xs <| rK fun K135 RK135 hK135 gK135 => zz ?_
      obtain ⟨b136, q, h⟩ := bK q h
      refine zz ?_
      subst hK135 gK135
      refine es ?_
      rcases iK k h with ⟨k, h⟩ | ⟨k, h⟩
      · refine xt <| xs <| rz ?_
        refine es <| xx <| ee <| bh ?_
        cases h
        exact en ⟨rfl, wk []⟩
      · refine xf <| xk <| es <| xs <| xs <| rz ?_
        refine es ?_
        rcases iK k h with ⟨k, h⟩ | ⟨k, h⟩
        · refine xt <| xx <| ee <| bm ?_
          cases h
          exact en ⟨rfl, wk []⟩
        · refine xf <| xk <| es <| xs <| rz ?_
          refine es <| xs <| rz ?_
          refine es <| xs <| xs <| rz ?_
          refine es ?_
          rcases iK k h with ⟨k, h⟩ | ⟨k, h⟩
          · refine xt <| xs <| rz ?_
            refine es <| rK fun K153 RK153 hK153 gK153 => zz ?_
            obtain ⟨z154, h155, h⟩ := bind_some h
            obtain ⟨⟨h156, h157⟩, h158⟩ := subL_some h155
            have q := And.intro @h156 <| And.intro @h157 <| q
            try simp -implicitDefEqProofs only [vt, vm, sevalprocAttr, dd, k, q] at h158
            have q := And.intro @h158 <| q
            refine zz ?_
            obtain ⟨r159, h160, h⟩ := bs h
            refine cw (a_lines_quoted hI h160) <| zz ?_
            subst hK153 gK153
            refine es <| xs <| xs <| rz ?_
            refine es ?_
            rcases iK k h with ⟨k, h⟩ | ⟨k, h⟩
            · refine xt <| xs <| rz ?_
              refine es <| xr <| er <| br ?_
              cases h
              exact en ⟨rfl, wk []⟩
            · refine xf <| xk <| es <| xs <| rK fun K169 RK169 hK169 gK169 => zz ?_
              obtain ⟨h170, h⟩ := ite_on h
              have h171 : x7.1.length + 1 ≤ 9223372036854775807 := by omega
              try simp only [Nat.reduceLeDiff] at h171
              have q := And.intro @h171 <| And.intro @h170 <| q
              refine zz ?_
              subst hK169 gK169
              refine es <| rz ?_
              refine bn ?_
              cases h
              exact en ⟨rfl, wk [(0, some 43)]⟩
          · refine xf <| xs <| rK fun K181 RK181 hK181 gK181 => zz ?_
            obtain ⟨z182, h183, h⟩ := bind_some h
            obtain ⟨⟨h184, h185⟩, h186⟩ := subL_some h183
            have q := And.intro @h184 <| And.intro @h185 <| q
            try simp -implicitDefEqProofs only [vt, vm, sevalprocAttr, dd, k, q] at h186
            have q := And.intro @h186 <| q
            refine zz ?_
            obtain ⟨r187, h188, h⟩ := bs h
            refine cw (a_lines_word hI h188) <| zz ?_
            subst hK181 gK181
            refine es <| rK fun K189 RK189 hK189 gK189 => zz ?_
            obtain ⟨z190, h191, h⟩ := bind_some h
            obtain ⟨⟨h192, h193, h194, h195⟩, h196⟩ := subI_some h191
            have q := And.intro @h192 <| And.intro @h193 <| And.intro @h194 <| And.intro @h195 <| q
            try simp -implicitDefEqProofs only [vt, vm, sevalprocAttr, dd, k, q] at h196
            have q := And.intro @h196 <| q
            refine zz ?_
            subst hK189 gK189
            refine es <| xs <| xs <| rz ?_
            refine es ?_
            rcases iK k h with ⟨k, h⟩ | ⟨k, h⟩
            · refine xt <| xs <| rz ?_
              refine es <| xr <| er <| br ?_
              cases h
              exact en ⟨rfl, wk []⟩
            · refine xf <| xk <| es <| xs <| rK fun K205 RK205 hK205 gK205 => zz ?_
              obtain ⟨h206, h⟩ := ite_on h
              have h207 : x7.1.length + 1 ≤ 9223372036854775807 := by omega
              try simp only [Nat.reduceLeDiff] at h207
              have q := And.intro @h207 <| And.intro @h206 <| q
              refine zz ?_
              subst hK205 gK205
              refine es <| rz ?_
              refine bn ?_
              cases h
              exact en ⟨rfl, wk [(0, some 46)]⟩
    · refine xf <| xx <| ee ?_
      cases h
      exact en ⟨rfl, wk []⟩
  · rcases e8 with e8 | e8
    · try dsimp only at h ⊢
      refine bh <| es <| xs <| rz ?_
      refine es <| xr ?_
      cases h
      exact en fr
    · try dsimp only at h ⊢
      refine br <| er ?_
      cases h
      exact en fr
def g_lines_Split_s1 (r16 : (List (List UInt8))) (x18 : (List T_api_Line) × (List T_api_Diag) × Int) : Option (Nx ((List T_api_Line) × (List T_api_Diag) × Int) ((List T_api_Line) × (List T_api_Diag))) :=
  (if (decide (x18.2.2 < (r16.length : Int))) then ((((atI r16 x18.2.2).bind fun y343 => (if (decide (1000 < (y343.length : Int))) then (if (decide (((x18.2.1.length : Nat) : Int) < 50)) then (if (x18.2.1.length + 1) * 24 ≤ 140737488355328 then (some (x18.1, (x18.2.1 ++ [(T_api_Diag.mk (IntKind.i64.wrap (x18.2.2 + 1)) 1001 9)]))) else none) else (some (x18.1, x18.2.1))) else ((g_lines_fields y343).bind fun r365 => (if (decide (0 < r365.2)) then (if (decide (((x18.2.1.length : Nat) : Int) < 50)) then (if (x18.2.1.length + 1) * 24 ≤ 140737488355328 then (some (x18.1, (x18.2.1 ++ [(T_api_Diag.mk (IntKind.i64.wrap (x18.2.2 + 1)) r365.2 4)]))) else none) else (some (x18.1, x18.2.1))) else (if (decide (0 < (r365.1.length : Int))) then (if (x18.1.length + 1) * 32 ≤ 140737488355328 then (some ((x18.1 ++ [(T_api_Line.mk (IntKind.i64.wrap (x18.2.2 + 1)) r365.1)]), x18.2.1)) else none) else (some (x18.1, x18.2.1))))))) : Option ((List T_api_Line) × (List T_api_Diag))).bind fun v338 => (some (.go (v338.1, v338.2, (IntKind.i64.wrap (x18.2.2 + 1)))))) else (some (.out (x18.1, x18.2.1))))
def g_lines_Split (src_0 : List UInt8) : Option ((List T_api_Line) × (List T_api_Diag)) :=
  (if (decide (262144 < (src_0.length : Int))) then (some ([], [(T_api_Diag.mk 1 1 9)])) else ((g_strings_Split src_0 [10]).bind fun r16 => ((iter (g_lines_Split_s1 r16) ([], [], 0)).bind fun e19 => (some (e19.1, e19.2)))))
theorem a_lines_Split {I : World → Prop} (hI : Stab I) (hShp : ∀ w, I w → Shp w) {src_0 : List UInt8} {r : (List T_api_Line) × (List T_api_Diag)} (h : g_lines_Split src_0 = some r) : AFun Tryz.prog I 49 [.str src_0] (.tup [.sl (r.1.map T_api_Line.d), .sl (r.2.map T_api_Diag.d)]) := by
  have dd := dd_EA; have k := True.intro; have q := k; have rs := Tryz.results49
  unfold g_lines_Split at h
  refine .en hI Tryz.func49 Tryz.ntmps49 ?_
  refine xs <| rz ?_
  refine es <| xs <| xs <| rz ?_
  refine es ?_
  rcases iK k h with ⟨k, h⟩ | ⟨k, h⟩
  · refine xt <| xs <| rz ?_
    refine es <| xr <| er ?_
    cases h
    exact en fr
  · refine xf <| xk <| es <| xs <| rz ?_
    refine es <| xs <| rz ?_
    refine es <| xs <| xs <| rK fun K15 RK15 hK15 gK15 => zz ?_
    obtain ⟨r16, h17, h⟩ := bs h
    refine cw (a_strings_Split I hI hShp src_0 [10] h17) <| zz ?_
    subst hK15 gK15
    refine es <| xb ?_
    obtain ⟨e19, h389, h⟩ := bs h
    refine rb_loop (fun x18 => ⟨envL [(4, .own 0 x18.1.length), (5, .own 1 x18.2.1.length), (16, .sl (r16.map D.str)), (17, .int .i64 (r16.length : Int)), (18, .int .i64 x18.2.2)], heapL [(0, .vec 86 2 (x18.1.map T_api_Line.d) false), (1, .vec 57 3 (x18.2.1.map T_api_Diag.d) false)], 2, 66⟩) (fun _ => .exit 0) (fun e19 => ⟨envL [(4, .own 0 e19.1.length), (5, .own 1 e19.2.length)], heapL [(0, .vec 86 2 (e19.1.map T_api_Line.d) false), (1, .vec 57 3 (e19.2.map T_api_Diag.d) false)], 2, 66⟩) h389 (wk [(0, none), (1, none)]) (by intro w; simp) ?_ ?_
    · clear h
      intro x18 y h
      unfold g_lines_Split_s1 at h
      refine xs <| rz ?_
      refine es <| xs ?_
      rcases iK k h with ⟨k, h⟩ | ⟨k, h⟩
      · refine xt <| xk <| es ?_
        obtain ⟨v338, h387, h⟩ := bs h
        refine rb_cut (fun v338 => ⟨envL [(4, .own 0 v338.1.length), (5, .own 1 v338.2.length), (16, .sl (r16.map D.str)), (17, .int .i64 (r16.length : Int)), (18, .int .i64 x18.2.2)], heapL [(0, .vec 86 2 (v338.1.map T_api_Line.d) false), (1, .vec 57 3 (v338.2.map T_api_Diag.d) false)], 2, 66⟩) h387 ?_ ?_
        · clear h
          intro v338 h
          refine xb <| xs <| rK fun K342 RK342 hK342 gK342 => zz ?_
          obtain ⟨y343, q, h⟩ := bK q h
          refine zz ?_
          subst hK342 gK342
          refine es <| xs <| rz ?_
          refine es <| xs <| rz ?_
          refine es <| xs <| xs <| rz ?_
          refine es ?_
          rcases iK k h with ⟨k, h⟩ | ⟨k, h⟩
          · refine xt <| rz ?_
            refine es <| xb <| xs <| rz ?_
            refine es <| xt <| xs <| rz ?_
            refine es ?_
            rcases iK k h with ⟨k, h⟩ | ⟨k, h⟩
            · refine xt <| rK fun K358 RK358 hK358 gK358 => zz ?_
              obtain ⟨h359, h⟩ := ite_on h
              have h360 : x18.2.1.length + 1 ≤ 9223372036854775807 := by omega
              try simp only [Nat.reduceLeDiff] at h360
              have q := And.intro @h360 <| And.intro @h359 <| q
              refine zz ?_
              subst hK358 gK358
              refine bn <| bn ?_
              cases h
              exact en ⟨rfl, wk [(1, some 31)]⟩
            · refine xf <| xk <| bn <| bn ?_
              cases h
              exact en ⟨rfl, wk []⟩
          · refine xf <| xs <| rK fun K364 RK364 hK364 gK364 => zz ?_
            obtain ⟨r365, h366, h⟩ := bs h
            refine cw (a_lines_fields hI h366) <| zz ?_
            subst hK364 gK364
            refine es <| xs <| rz ?_
            refine es ?_
            rcases iK k h with ⟨k, h⟩ | ⟨k, h⟩
            · refine xt <| rz ?_
              refine es <| xb <| xs <| rz ?_
              refine es <| xt <| xs <| rz ?_
              refine es ?_
              rcases iK k h with ⟨k, h⟩ | ⟨k, h⟩
              · refine xt <| rK fun K376 RK376 hK376 gK376 => zz ?_
                obtain ⟨h377, h⟩ := ite_on h
                have h378 : x18.2.1.length + 1 ≤ 9223372036854775807 := by omega
                try simp only [Nat.reduceLeDiff] at h378
                have q := And.intro @h378 <| And.intro @h377 <| q
                refine zz ?_
                subst hK376 gK376
                refine bn <| bn ?_
                cases h
                exact en ⟨rfl, wk [(1, some 40)]⟩
              · refine xf <| xk <| bn <| bn ?_
                cases h
                exact en ⟨rfl, wk []⟩
            · refine xf <| xk <| es <| xb <| xs <| rz ?_
              refine es <| xf <| xs <| rz ?_
              refine es ?_
              rcases iK k h with ⟨k, h⟩ | ⟨k, h⟩
              · refine xt <| rK fun K384 RK384 hK384 gK384 => zz ?_
                obtain ⟨h385, h⟩ := ite_on h
                have h386 : x18.1.length + 1 ≤ 9223372036854775807 := by omega
                try simp only [Nat.reduceLeDiff] at h386
                have q := And.intro @h386 <| And.intro @h385 <| q
                refine zz ?_
                subst hK384 gK384
                refine bn <| bn ?_
                cases h
                exact en ⟨rfl, wk [(0, some 42)]⟩
              · refine xf <| xk <| bn <| bn ?_
                cases h
                exact en ⟨rfl, wk []⟩
        · refine rz ?_
          cases h
          exact en ⟨rfl, wk []⟩
      · refine xf <| xx <| ee ?_
        cases h
        exact en ⟨rfl, wk []⟩
    · refine bh <| es <| xs <| rz ?_
      refine es <| xr ?_
      cases h
      exact en fr
def g_lines_Scan (l_0 : T_api_Line) : Option (TLS) :=
  (if l_0.Fields.length * 32 ≤ 140737488355328 then (some (TLS.mk l_0 0 0 (T_api_Diag.mk 0 0 0))) else none)
theorem a_lines_Scan {I : World → Prop} (hI : Stab I) {H : Nat → Option Blk} {nid : Nat} {l_0 : T_api_Line} {r : TLS} (h : g_lines_Scan l_0 = some r) : CallOK Tryz.prog I 83 [T_api_Line.d l_0] H nid (.ptr nid 0) [(nid, some (.box none [.int .i64 r.line_.Number, .sl (r.line_.Fields.map T_api_Field.d), .int .i64 r.next_, .int .i64 r.last_, .int .i64 r.bad_.Line, .int .i64 r.bad_.Column, .int .i64 r.bad_.Code]))] := by
  refine CallOK.intro (is := []) (css := []) (ds0 := [T_api_Line.d l_0]) (pl := []) hI Tryz.func83 rfl (by decide) (by simp [Tryz.f83]) (by kernel_rfl) rfl rfl rfl rfl (lentAll_of trivial) (by simp) ?_
  have dd := dd_EA; have k := True.intro; have q := k; have rs := Tryz.results83
  unfold g_lines_Scan at h
  simp only [lentH, List.length_cons, List.length_nil, Nat.zero_add, Nat.reduceAdd, Tryz.ntmps83, dd_EA]
  refine xs <| rz ?_
  refine es <| xs <| rD hI fun K6 RK6 hK6 gK6 => zz ?_
  obtain ⟨h7, h⟩ := ite_on h
  have h8 : l_0.Fields.length ≤ 9223372036854775807 := by omega
  try simp only [Nat.reduceLeDiff] at h8
  have q := And.intro @h8 <| And.intro @h7 <| q
  refine zz ?_
  subst hK6 gK6
  refine es <| xr ?_
  cases h
  exact en fp
def gLS_done (s_0 : TLS) : Option (Bool × TLS) :=
  (some ((s_0.bad_.Code != 0), s_0))
theorem aLS_done {I : World → Prop} (hI : Stab I) {H : Nat → Option Blk} {nid : Nat} {i0 : Nat} {p0 : Option Nat} {s_0 : TLS} {r : Bool × TLS} (h : gLS_done s_0 = some r) (b0 : H i0 = some (.box p0 [.int .i64 s_0.line_.Number, .sl (s_0.line_.Fields.map T_api_Field.d), .int .i64 s_0.next_, .int .i64 s_0.last_, .int .i64 s_0.bad_.Line, .int .i64 s_0.bad_.Column, .int .i64 s_0.bad_.Code])) : CallOK Tryz.prog I 144 [.ptr i0 0] H nid (.bool r.1) [(i0, some (.box p0 [.int .i64 r.2.line_.Number, .sl (r.2.line_.Fields.map T_api_Field.d), .int .i64 r.2.next_, .int .i64 r.2.last_, .int .i64 r.2.bad_.Line, .int .i64 r.2.bad_.Column, .int .i64 r.2.bad_.Code]))] := by
  refine CallOK.intro (is := [(i0, p0)]) (css := [[.int .i64 s_0.line_.Number, .sl (s_0.line_.Fields.map T_api_Field.d), .int .i64 s_0.next_, .int .i64 s_0.last_, .int .i64 s_0.bad_.Line, .int .i64 s_0.bad_.Column, .int .i64 s_0.bad_.Code]]) (ds0 := [.ptr 0 0]) (pl := [(0, none)]) hI Tryz.func144 rfl (by decide) (by simp [Tryz.f144]) (by kernel_rfl) rfl rfl rfl rfl (lentAll_of ⟨⟨b0, rfl⟩, trivial⟩) (by simp) ?_
  have dd := dd_EA; have k := True.intro; have q := k; have rs := Tryz.results144
  unfold gLS_done at h
  simp only [lentH, List.length_cons, List.length_nil, Nat.zero_add, Nat.reduceAdd, Tryz.ntmps144, dd_EA]
  refine xs <| rz ?_
  refine es <| xs <| rz ?_
  refine es <| xr ?_
  cases h
  exact en fp
def gLS_note (s_0 : TLS) (column_1 : Int) (e_2 : Int) : Option (TLS) :=
  ((((gLS_done s_0).bind fun r7 => (if r7.1 then (some (r7.2.line_.Number, r7.2.line_.Fields, r7.2.next_, r7.2.last_, r7.2.bad_.Line, r7.2.bad_.Column, r7.2.bad_.Code, false)) else (some (r7.2.line_.Number, r7.2.line_.Fields, r7.2.next_, r7.2.last_, r7.2.bad_.Line, r7.2.bad_.Column, r7.2.bad_.Code, (e_2 != 0))))) : Option (Int × (List T_api_Field) × Int × Int × Int × Int × Int × Bool)).bind fun v5 => (if v5.2.2.2.2.2.2.2 then (some (TLS.mk (T_api_Line.mk v5.1 v5.2.1) v5.2.2.1 v5.2.2.2.1 (T_api_Diag.mk v5.1 column_1 e_2))) else (some (TLS.mk (T_api_Line.mk v5.1 v5.2.1) v5.2.2.1 v5.2.2.2.1 (T_api_Diag.mk v5.2.2.2.2.1 v5.2.2.2.2.2.1 v5.2.2.2.2.2.2.1)))))
theorem aLS_note {I : World → Prop} (hI : Stab I) {H : Nat → Option Blk} {nid : Nat} {i0 : Nat} {p0 : Option Nat} {s_0 : TLS} {column_1 : Int} {e_2 : Int} {r : TLS} (h : gLS_note s_0 column_1 e_2 = some r) (b0 : H i0 = some (.box p0 [.int .i64 s_0.line_.Number, .sl (s_0.line_.Fields.map T_api_Field.d), .int .i64 s_0.next_, .int .i64 s_0.last_, .int .i64 s_0.bad_.Line, .int .i64 s_0.bad_.Column, .int .i64 s_0.bad_.Code])) : CallOK Tryz.prog I 139 [.ptr i0 0, .int .i64 column_1, .int .i64 e_2] H nid (.tup []) [(i0, some (.box p0 [.int .i64 r.line_.Number, .sl (r.line_.Fields.map T_api_Field.d), .int .i64 r.next_, .int .i64 r.last_, .int .i64 r.bad_.Line, .int .i64 r.bad_.Column, .int .i64 r.bad_.Code]))] := by
  refine CallOK.intro (is := [(i0, p0)]) (css := [[.int .i64 s_0.line_.Number, .sl (s_0.line_.Fields.map T_api_Field.d), .int .i64 s_0.next_, .int .i64 s_0.last_, .int .i64 s_0.bad_.Line, .int .i64 s_0.bad_.Column, .int .i64 s_0.bad_.Code]]) (ds0 := [.ptr 0 0, .int .i64 column_1, .int .i64 e_2]) (pl := [(0, none)]) hI Tryz.func139 rfl (by decide) (by simp [Tryz.f139]) (by kernel_rfl) rfl rfl rfl rfl (lentAll_of ⟨⟨b0, rfl⟩, trivial⟩) (by simp) ?_
  have dd := dd_EA; have k := True.intro; have q := k; have rs := Tryz.results139
  unfold gLS_note at h
  simp only [lentH, List.length_cons, List.length_nil, Nat.zero_add, Nat.reduceAdd, Tryz.ntmps139, dd_EA]
  obtain ⟨v5, h10, h⟩ := bs h
  refine rb_cut (fun v5 => ⟨envL [(0, .ptr 0 0), (1, .int .i64 column_1), (2, .int .i64 e_2), (12, .bool v5.2.2.2.2.2.2.2)], heapL [(0, .box (some 0) [.int .i64 v5.1, .sl (v5.2.1.map T_api_Field.d), .int .i64 v5.2.2.1, .int .i64 v5.2.2.2.1, .int .i64 v5.2.2.2.2.1, .int .i64 v5.2.2.2.2.2.1, .int .i64 v5.2.2.2.2.2.2.1])], 1, 24⟩) h10 ?_ ?_
  · clear h
    intro v5 h
    refine rK fun K6 RK6 hK6 gK6 => zz ?_
    obtain ⟨r7, h8, h⟩ := bs h
    refine eW.intro (aLS_done hI (nid := 2) (i0 := 0) (p0 := (some 0)) h8 fz) fi rfl <| zz ?_
    rcases iK k h with ⟨k, h⟩ | ⟨k, h⟩
    · refine zz ?_
      subst hK6 gK6
      cases h
      exact en ⟨rfl, wk []⟩
    · refine zz ?_
      subst hK6 gK6
      cases h
      exact en ⟨rfl, wk []⟩
  · rcases iK k h with ⟨k, h⟩ | ⟨k, h⟩
    · refine xt <| rz ?_
      cases h
      exact en fp
    · refine xf <| xk ?_
      cases h
      exact en fp
def gLS_take (s_0 : TLS) (quoted_1 : Bool) : Option ((List UInt8) × Bool × TLS) :=
  ((gLS_done s_0).bind fun r7 => (if r7.1 then (some ([], false, r7.2)) else (if (r7.2.next_ == (r7.2.line_.Fields.length : Int)) then ((gLS_note r7.2 0 4).bind fun r19 => (some ([], false, r19))) else ((atI r7.2.line_.Fields r7.2.next_).bind fun y27 => (if (y27.Quoted == quoted_1) then (some (y27.Text, true, (TLS.mk r7.2.line_ (IntKind.i64.wrap (r7.2.next_ + 1)) y27.Column r7.2.bad_))) else ((gLS_note r7.2 y27.Column 4).bind fun r42 => (some ([], false, r42))))))))
theorem aLS_take {I : World → Prop} (hI : Stab I) {H : Nat → Option Blk} {nid : Nat} {i0 : Nat} {p0 : Option Nat} {s_0 : TLS} {quoted_1 : Bool} {r : (List UInt8) × Bool × TLS} (h : gLS_take s_0 quoted_1 = some r) (b0 : H i0 = some (.box p0 [.int .i64 s_0.line_.Number, .sl (s_0.line_.Fields.map T_api_Field.d), .int .i64 s_0.next_, .int .i64 s_0.last_, .int .i64 s_0.bad_.Line, .int .i64 s_0.bad_.Column, .int .i64 s_0.bad_.Code])) : CallOK Tryz.prog I 138 [.ptr i0 0, .bool quoted_1] H nid (.tup [.str r.1, .bool r.2.1]) [(i0, some (.box p0 [.int .i64 r.2.2.line_.Number, .sl (r.2.2.line_.Fields.map T_api_Field.d), .int .i64 r.2.2.next_, .int .i64 r.2.2.last_, .int .i64 r.2.2.bad_.Line, .int .i64 r.2.2.bad_.Column, .int .i64 r.2.2.bad_.Code]))] := by
  refine CallOK.intro (is := [(i0, p0)]) (css := [[.int .i64 s_0.line_.Number, .sl (s_0.line_.Fields.map T_api_Field.d), .int .i64 s_0.next_, .int .i64 s_0.last_, .int .i64 s_0.bad_.Line, .int .i64 s_0.bad_.Column, .int .i64 s_0.bad_.Code]]) (ds0 := [.ptr 0 0, .bool quoted_1]) (pl := [(0, none)]) hI Tryz.func138 rfl (by decide) (by simp [Tryz.f138]) (by kernel_rfl) rfl rfl rfl rfl (lentAll_of ⟨⟨b0, rfl⟩, trivial⟩) (by simp) ?_
  have dd := dd_EA; have k := True.intro; have q := k; have rs := Tryz.results138
  unfold gLS_take at h
  simp only [lentH, List.length_cons, List.length_nil, Nat.zero_add, Nat.reduceAdd, Tryz.ntmps138, dd_EA]
  refine xs <| rz ?_
  refine es <| xs <| xs <| rK fun K6 RK6 hK6 gK6 => zz ?_
  obtain ⟨r7, h8, h⟩ := bs h
  refine eW.intro (aLS_done hI (nid := 4) (i0 := 0) (p0 := (some 0)) h8 fz) fi rfl <| zz ?_
  subst hK6 gK6
  refine es ?_
  rcases iK k h with ⟨k, h⟩ | ⟨k, h⟩
  · refine xt <| xs <| rz ?_
    refine es <| xr <| er ?_
    cases h
    exact en fp
  · refine xf <| xk <| es <| xs <| xs <| rd hI ?_
    refine es ?_
    rcases iK k h with ⟨k, h⟩ | ⟨k, h⟩
    · refine xt <| xs <| rK fun K18 RK18 hK18 gK18 => zz ?_
      obtain ⟨r19, h20, h⟩ := bs h
      refine eW.intro (aLS_note hI (nid := 17) (i0 := 0) (p0 := (some 0)) h20 fz) fi rfl <| zz ?_
      subst hK18 gK18
      refine es <| xs <| rz ?_
      refine es <| xr <| er ?_
      cases h
      exact en fp
    · refine xf <| xk <| es <| xs <| rD hI fun K26 RK26 hK26 gK26 => zz ?_
      obtain ⟨y27, q, h⟩ := bK q h
      refine zz ?_
      refine hd <| zz ?_
      subst hK26 gK26
      refine es <| xs <| xs <| rz ?_
      refine es ?_
      rcases iK k h with ⟨k, h⟩ | ⟨k, h⟩
      · refine xf <| xk <| es <| xs <| rz ?_
        refine es <| xs <| rz ?_
        refine es <| xs <| rz ?_
        refine es <| xr ?_
        cases h
        exact en fp
      · refine xt <| xs <| rK fun K41 RK41 hK41 gK41 => zz ?_
        obtain ⟨r42, h43, h⟩ := bs h
        refine eW.intro (aLS_note hI (nid := 36) (i0 := 0) (p0 := (some 0)) h43 fz) fi rfl <| zz ?_
        subst hK41 gK41
        refine es <| xs <| rz ?_
        refine es <| xr <| er ?_
        cases h
        exact en fp
def gLS_Choice_s1 (words_1 : List (List UInt8)) (r7 : (List UInt8) × Bool × TLS) (x14 : Int) : Option (Nx (Int) (Int ⊕ Unit)) :=
  (if (decide (x14 < (words_1.length : Int))) then ((atI words_1 x14).bind fun y89 => (if (y89 == r7.1) then (some (.out (.inl x14))) else (some (.go (IntKind.i64.wrap (x14 + 1)))))) else (some (.out (.inr ()))))
def gLS_Choice (s_0 : TLS) (words_1 : List (List UInt8)) : Option (Int × TLS) :=
  ((gLS_take s_0 false).bind fun r7 => (if r7.2.1 then ((iter (gLS_Choice_s1 words_1 r7) 0).bind fun e15 => (match e15 with | Sum.inl e15 => (some (e15, r7.2.2)) | Sum.inr (e15) => ((gLS_note r7.2.2 r7.2.2.last_ 4).bind fun r102 => (some (-1, r102))))) else (some (-1, r7.2.2))))
theorem aLS_Choice {I : World → Prop} (hI : Stab I) {H : Nat → Option Blk} {nid : Nat} {i0 : Nat} {p0 : Option Nat} {s_0 : TLS} {words_1 : List (List UInt8)} {r : Int × TLS} (h : gLS_Choice s_0 words_1 = some r) (b0 : H i0 = some (.box p0 [.int .i64 s_0.line_.Number, .sl (s_0.line_.Fields.map T_api_Field.d), .int .i64 s_0.next_, .int .i64 s_0.last_, .int .i64 s_0.bad_.Line, .int .i64 s_0.bad_.Column, .int .i64 s_0.bad_.Code])) : CallOK Tryz.prog I 84 [.ptr i0 0, .sl (words_1.map D.str)] H nid (.int .i64 r.1) [(i0, some (.box p0 [.int .i64 r.2.line_.Number, .sl (r.2.line_.Fields.map T_api_Field.d), .int .i64 r.2.next_, .int .i64 r.2.last_, .int .i64 r.2.bad_.Line, .int .i64 r.2.bad_.Column, .int .i64 r.2.bad_.Code]))] := by
  refine CallOK.intro (is := [(i0, p0)]) (css := [[.int .i64 s_0.line_.Number, .sl (s_0.line_.Fields.map T_api_Field.d), .int .i64 s_0.next_, .int .i64 s_0.last_, .int .i64 s_0.bad_.Line, .int .i64 s_0.bad_.Column, .int .i64 s_0.bad_.Code]]) (ds0 := [.ptr 0 0, .sl (words_1.map D.str)]) (pl := [(0, none)]) hI Tryz.func84 rfl (by decide) (by simp [Tryz.f84]) (by kernel_rfl) rfl rfl rfl rfl (lentAll_of ⟨⟨b0, rfl⟩, trivial⟩) (by simp) ?_
  have dd := dd_EA; have k := True.intro; have q := k; have rs := Tryz.results84
  unfold gLS_Choice at h
  simp only [lentH, List.length_cons, List.length_nil, Nat.zero_add, Nat.reduceAdd, Tryz.ntmps84, dd_EA]
  refine xs <| rz ?_
  refine es <| xs <| rK fun K6 RK6 hK6 gK6 => zz ?_
  obtain ⟨r7, h8, h⟩ := bs h
  refine eW.intro (aLS_take hI (nid := 3) (i0 := 0) (p0 := (some 0)) h8 fz) fi rfl <| zz ?_
  subst hK6 gK6
  refine es <| xs <| xs <| rz ?_
  refine es ?_
  rcases iK k h with ⟨k, h⟩ | ⟨k, h⟩
  · refine xf <| xk <| es <| xs <| xs <| rz ?_
    refine es <| xb ?_
    obtain ⟨e15, h97, h⟩ := bs h
    refine rb_loop (fun x14 => ⟨envL [(0, .ptr 0 0), (5, .str r7.1), (16, .sl (words_1.map D.str)), (17, .int .i64 (words_1.length : Int)), (18, .int .i64 x14)], heapL [(0, .box (some 0) [.int .i64 r7.2.2.line_.Number, .sl (r7.2.2.line_.Fields.map T_api_Field.d), .int .i64 r7.2.2.next_, .int .i64 r7.2.2.last_, .int .i64 r7.2.2.bad_.Line, .int .i64 r7.2.2.bad_.Column, .int .i64 r7.2.2.bad_.Code])], 1, 34⟩) (fun w => match w with | Sum.inl _ => .ret | Sum.inr (_) => .exit 0) (fun w => match w with | Sum.inl e15 => ⟨envL [(0, .ptr 0 0), (4, .int .i64 e15)], heapL [(0, .box (some 0) [.int .i64 r7.2.2.line_.Number, .sl (r7.2.2.line_.Fields.map T_api_Field.d), .int .i64 r7.2.2.next_, .int .i64 r7.2.2.last_, .int .i64 r7.2.2.bad_.Line, .int .i64 r7.2.2.bad_.Column, .int .i64 r7.2.2.bad_.Code])], 1, 34⟩ | Sum.inr (e15) => ⟨envL [(0, .ptr 0 0)], heapL [(0, .box (some 0) [.int .i64 r7.2.2.line_.Number, .sl (r7.2.2.line_.Fields.map T_api_Field.d), .int .i64 r7.2.2.next_, .int .i64 r7.2.2.last_, .int .i64 r7.2.2.bad_.Line, .int .i64 r7.2.2.bad_.Column, .int .i64 r7.2.2.bad_.Code])], 1, 34⟩) h97 (wk []) (by intro w; rcases w with w | w <;> simp) ?_ ?_
    · clear h
      intro x14 y h
      unfold gLS_Choice_s1 at h
      refine xs <| rz ?_
      refine es <| xs ?_
      rcases iK k h with ⟨k, h⟩ | ⟨k, h⟩
      · refine xt <| xk <| es <| xs <| xb <| xs <| rK fun K88 RK88 hK88 gK88 => zz ?_
        obtain ⟨y89, q, h⟩ := bK q h
        refine zz ?_
        subst hK88 gK88
        refine es <| xs <| rz ?_
        refine es ?_
        rcases iK k h with ⟨k, h⟩ | ⟨k, h⟩
        · refine xt <| xs <| rz ?_
          refine es <| xr <| br <| er ?_
          cases h
          exact en ⟨rfl, wk []⟩
        · refine xf <| xk <| bn <| es <| rz ?_
          cases h
          exact en ⟨rfl, wk []⟩
      · refine xf <| xx <| ee ?_
        cases h
        exact en ⟨rfl, wk []⟩
    · rcases e15 with e15 | e15
      · try dsimp only at h ⊢
        refine br <| er ?_
        cases h
        exact en fp
      · try dsimp only at h ⊢
        refine bh <| es <| xs <| rK fun K101 RK101 hK101 gK101 => zz ?_
        obtain ⟨r102, h103, h⟩ := bs h
        refine eW.intro (aLS_note hI (nid := 6) (i0 := 0) (p0 := (some 0)) h103 fz) fi rfl <| zz ?_
        subst hK101 gK101
        refine es <| xs <| rz ?_
        refine es <| xr ?_
        cases h
        exact en fp
  · refine xt <| xs <| rz ?_
    refine es <| xr <| er ?_
    cases h
    exact en fp
def gLS_Quoted (s_0 : TLS) : Option ((List UInt8) × TLS) :=
  ((gLS_take s_0 true).bind fun r7 => (some (r7.1, r7.2.2)))
theorem aLS_Quoted {I : World → Prop} (hI : Stab I) {H : Nat → Option Blk} {nid : Nat} {i0 : Nat} {p0 : Option Nat} {s_0 : TLS} {r : (List UInt8) × TLS} (h : gLS_Quoted s_0 = some r) (b0 : H i0 = some (.box p0 [.int .i64 s_0.line_.Number, .sl (s_0.line_.Fields.map T_api_Field.d), .int .i64 s_0.next_, .int .i64 s_0.last_, .int .i64 s_0.bad_.Line, .int .i64 s_0.bad_.Column, .int .i64 s_0.bad_.Code])) : CallOK Tryz.prog I 85 [.ptr i0 0] H nid (.str r.1) [(i0, some (.box p0 [.int .i64 r.2.line_.Number, .sl (r.2.line_.Fields.map T_api_Field.d), .int .i64 r.2.next_, .int .i64 r.2.last_, .int .i64 r.2.bad_.Line, .int .i64 r.2.bad_.Column, .int .i64 r.2.bad_.Code]))] := by
  refine CallOK.intro (is := [(i0, p0)]) (css := [[.int .i64 s_0.line_.Number, .sl (s_0.line_.Fields.map T_api_Field.d), .int .i64 s_0.next_, .int .i64 s_0.last_, .int .i64 s_0.bad_.Line, .int .i64 s_0.bad_.Column, .int .i64 s_0.bad_.Code]]) (ds0 := [.ptr 0 0]) (pl := [(0, none)]) hI Tryz.func85 rfl (by decide) (by simp [Tryz.f85]) (by kernel_rfl) rfl rfl rfl rfl (lentAll_of ⟨⟨b0, rfl⟩, trivial⟩) (by simp) ?_
  have dd := dd_EA; have k := True.intro; have q := k; have rs := Tryz.results85
  unfold gLS_Quoted at h
  simp only [lentH, List.length_cons, List.length_nil, Nat.zero_add, Nat.reduceAdd, Tryz.ntmps85, dd_EA]
  refine xs <| rz ?_
  refine es <| xs <| rK fun K6 RK6 hK6 gK6 => zz ?_
  obtain ⟨r7, h8, h⟩ := bs h
  refine eW.intro (aLS_take hI (nid := 3) (i0 := 0) (p0 := (some 0)) h8 fz) fi rfl <| zz ?_
  subst hK6 gK6
  refine es <| xs <| rz ?_
  refine es <| xr ?_
  cases h
  exact en fp
def gLS_Word (s_0 : TLS) : Option ((List UInt8) × TLS) :=
  ((gLS_take s_0 false).bind fun r7 => (some (r7.1, r7.2.2)))
theorem aLS_Word {I : World → Prop} (hI : Stab I) {H : Nat → Option Blk} {nid : Nat} {i0 : Nat} {p0 : Option Nat} {s_0 : TLS} {r : (List UInt8) × TLS} (h : gLS_Word s_0 = some r) (b0 : H i0 = some (.box p0 [.int .i64 s_0.line_.Number, .sl (s_0.line_.Fields.map T_api_Field.d), .int .i64 s_0.next_, .int .i64 s_0.last_, .int .i64 s_0.bad_.Line, .int .i64 s_0.bad_.Column, .int .i64 s_0.bad_.Code])) : CallOK Tryz.prog I 87 [.ptr i0 0] H nid (.str r.1) [(i0, some (.box p0 [.int .i64 r.2.line_.Number, .sl (r.2.line_.Fields.map T_api_Field.d), .int .i64 r.2.next_, .int .i64 r.2.last_, .int .i64 r.2.bad_.Line, .int .i64 r.2.bad_.Column, .int .i64 r.2.bad_.Code]))] := by
  refine CallOK.intro (is := [(i0, p0)]) (css := [[.int .i64 s_0.line_.Number, .sl (s_0.line_.Fields.map T_api_Field.d), .int .i64 s_0.next_, .int .i64 s_0.last_, .int .i64 s_0.bad_.Line, .int .i64 s_0.bad_.Column, .int .i64 s_0.bad_.Code]]) (ds0 := [.ptr 0 0]) (pl := [(0, none)]) hI Tryz.func87 rfl (by decide) (by simp [Tryz.f87]) (by kernel_rfl) rfl rfl rfl rfl (lentAll_of ⟨⟨b0, rfl⟩, trivial⟩) (by simp) ?_
  have dd := dd_EA; have k := True.intro; have q := k; have rs := Tryz.results87
  unfold gLS_Word at h
  simp only [lentH, List.length_cons, List.length_nil, Nat.zero_add, Nat.reduceAdd, Tryz.ntmps87, dd_EA]
  refine xs <| rz ?_
  refine es <| xs <| rK fun K6 RK6 hK6 gK6 => zz ?_
  obtain ⟨r7, h8, h⟩ := bs h
  refine eW.intro (aLS_take hI (nid := 3) (i0 := 0) (p0 := (some 0)) h8 fz) fi rfl <| zz ?_
  subst hK6 gK6
  refine es <| xs <| rz ?_
  refine es <| xr ?_
  cases h
  exact en fp
def gLS_Fail (s_0 : TLS) (e_1 : Int) : Option (TLS) :=
  ((gLS_note s_0 s_0.last_ e_1).bind fun r4 => (some r4))
theorem aLS_Fail {I : World → Prop} (hI : Stab I) {H : Nat → Option Blk} {nid : Nat} {i0 : Nat} {p0 : Option Nat} {s_0 : TLS} {e_1 : Int} {r : TLS} (h : gLS_Fail s_0 e_1 = some r) (b0 : H i0 = some (.box p0 [.int .i64 s_0.line_.Number, .sl (s_0.line_.Fields.map T_api_Field.d), .int .i64 s_0.next_, .int .i64 s_0.last_, .int .i64 s_0.bad_.Line, .int .i64 s_0.bad_.Column, .int .i64 s_0.bad_.Code])) : CallOK Tryz.prog I 88 [.ptr i0 0, .int .i64 e_1] H nid (.tup []) [(i0, some (.box p0 [.int .i64 r.line_.Number, .sl (r.line_.Fields.map T_api_Field.d), .int .i64 r.next_, .int .i64 r.last_, .int .i64 r.bad_.Line, .int .i64 r.bad_.Column, .int .i64 r.bad_.Code]))] := by
  refine CallOK.intro (is := [(i0, p0)]) (css := [[.int .i64 s_0.line_.Number, .sl (s_0.line_.Fields.map T_api_Field.d), .int .i64 s_0.next_, .int .i64 s_0.last_, .int .i64 s_0.bad_.Line, .int .i64 s_0.bad_.Column, .int .i64 s_0.bad_.Code]]) (ds0 := [.ptr 0 0, .int .i64 e_1]) (pl := [(0, none)]) hI Tryz.func88 rfl (by decide) (by simp [Tryz.f88]) (by kernel_rfl) rfl rfl rfl rfl (lentAll_of ⟨⟨b0, rfl⟩, trivial⟩) (by simp) ?_
  have dd := dd_EA; have k := True.intro; have q := k; have rs := Tryz.results88
  unfold gLS_Fail at h
  simp only [lentH, List.length_cons, List.length_nil, Nat.zero_add, Nat.reduceAdd, Tryz.ntmps88, dd_EA]
  refine xs <| rz ?_
  refine es <| xt <| rK fun K3 RK3 hK3 gK3 => zz ?_
  obtain ⟨r4, h5, h⟩ := bs h
  refine eW.intro (aLS_note hI (nid := 9) (i0 := 0) (p0 := (some 0)) h5 fz) fi rfl <| zz ?_
  subst hK3 gK3
  cases h
  exact en fp
def gLS_End (s_0 : TLS) : Option (T_api_Diag × Bool × TLS) :=
  (if (s_0.bad_.Code != 0) then (some (s_0.bad_, true, s_0)) else (if (decide (s_0.next_ < (s_0.line_.Fields.length : Int))) then ((atI s_0.line_.Fields s_0.next_).bind fun y33 => (some ((T_api_Diag.mk s_0.line_.Number y33.Column 4), true, s_0))) else (some ((T_api_Diag.mk 0 0 0), false, s_0))))
theorem aLS_End {I : World → Prop} (hI : Stab I) {H : Nat → Option Blk} {nid : Nat} {i0 : Nat} {p0 : Option Nat} {s_0 : TLS} {r : T_api_Diag × Bool × TLS} (h : gLS_End s_0 = some r) (b0 : H i0 = some (.box p0 [.int .i64 s_0.line_.Number, .sl (s_0.line_.Fields.map T_api_Field.d), .int .i64 s_0.next_, .int .i64 s_0.last_, .int .i64 s_0.bad_.Line, .int .i64 s_0.bad_.Column, .int .i64 s_0.bad_.Code])) : CallOK Tryz.prog I 89 [.ptr i0 0] H nid (.tup [T_api_Diag.d r.1, .bool r.2.1]) [(i0, some (.box p0 [.int .i64 r.2.2.line_.Number, .sl (r.2.2.line_.Fields.map T_api_Field.d), .int .i64 r.2.2.next_, .int .i64 r.2.2.last_, .int .i64 r.2.2.bad_.Line, .int .i64 r.2.2.bad_.Column, .int .i64 r.2.2.bad_.Code]))] := by
  refine CallOK.intro (is := [(i0, p0)]) (css := [[.int .i64 s_0.line_.Number, .sl (s_0.line_.Fields.map T_api_Field.d), .int .i64 s_0.next_, .int .i64 s_0.last_, .int .i64 s_0.bad_.Line, .int .i64 s_0.bad_.Column, .int .i64 s_0.bad_.Code]]) (ds0 := [.ptr 0 0]) (pl := [(0, none)]) hI Tryz.func89 rfl (by decide) (by simp [Tryz.f89]) (by kernel_rfl) rfl rfl rfl rfl (lentAll_of ⟨⟨b0, rfl⟩, trivial⟩) (by simp) ?_
  have dd := dd_EA; have k := True.intro; have q := k; have rs := Tryz.results89
  unfold gLS_End at h
  simp only [lentH, List.length_cons, List.length_nil, Nat.zero_add, Nat.reduceAdd, Tryz.ntmps89, dd_EA]
  refine xs <| rz ?_
  refine es <| xs <| xb <| xs <| rz ?_
  refine es <| xf <| xs <| rz ?_
  refine es ?_
  rcases iK k h with ⟨k, h⟩ | ⟨k, h⟩
  · refine xt <| xs <| rz ?_
    refine es <| xr <| br <| er ?_
    cases h
    exact en fp
  · refine xf <| xs <| rd hI ?_
    refine es ?_
    rcases iK k h with ⟨k, h⟩ | ⟨k, h⟩
    · refine xt <| xs <| rD hI fun K32 RK32 hK32 gK32 => zz ?_
      obtain ⟨y33, q, h⟩ := bK q h
      refine zz ?_
      refine hd <| zz ?_
      subst hK32 gK32
      refine es <| xr <| br <| er ?_
      cases h
      exact en fp
    · refine xf <| xk <| bn <| es <| xs <| rz ?_
      refine es <| xr ?_
      cases h
      exact en fp
def g_lines_Number_s1 (r7 : (List UInt8) × Bool) (x28 : Int) : Option (Nx (Int) (Unit ⊕ Unit)) :=
  (if (decide (x28 < (r7.1.length : Int))) then ((atI r7.1 x28).bind fun b91 => (if (decide ((b91.toNat : Int) < 48)) then (some (.out (.inl ()))) else (if (decide (57 < (b91.toNat : Int))) then (some (.out (.inl ()))) else (some (.go (IntKind.i64.wrap (x28 + 1))))))) else (some (.out (.inr ()))))
def g_lines_Number (s_0 : List UInt8) (lo_1 : Int) (hi_2 : Int) : Option (Int × Int) :=
  ((g_strings_CutPrefix s_0 [45]).bind fun r7 => (((if (r7.1 == ([] : List UInt8)) then (some true) else ((atI r7.1 0).bind fun b18 => (if ((b18.toNat : Int) == 48) then (if (decide (1 < (r7.1.length : Int))) then (some true) else (some r7.2)) else (some false)))) : Option (Bool)).bind fun v15 => (if v15 then (some (0, 4)) else ((iter (g_lines_Number_s1 r7) 0).bind fun e29 => (match e29 with | Sum.inl e29 => (some (0, 4)) | Sum.inr (e29) => ((g_strconv_ParseInt s_0 10 64).bind fun r105 => (((if r105.2 then (some true) else (if (decide (r105.1 < lo_1)) then (some true) else (some (decide (hi_2 < r105.1))))) : Option (Bool)).bind fun v110 => (if v110 then (some (0, 2)) else (some (r105.1, 0))))))))))
theorem a_lines_Number {I : World → Prop} (hI : Stab I) (hPIv : ∀ w, I w → PIv w) {s_0 : List UInt8} {lo_1 : Int} {hi_2 : Int} {r : Int × Int} (h : g_lines_Number s_0 lo_1 hi_2 = some r) : AFun Tryz.prog I 141 [.str s_0, .int .i64 lo_1, .int .i64 hi_2] (.tup [.int .i64 r.1, .int .i64 r.2]) := by
  have dd := dd_EA; have k := True.intro; have q := k; have rs := Tryz.results141
  unfold g_lines_Number at h
  refine .en hI Tryz.func141 Tryz.ntmps141 ?_
  refine xs <| rz ?_
  refine es <| xs <| rK fun K6 RK6 hK6 gK6 => zz ?_
  obtain ⟨r7, h8, h⟩ := bs h
  refine cw (a_strings_CutPrefix I hI s_0 [45] h8) <| zz ?_
  subst hK6 gK6
  refine es <| xs ?_
  obtain ⟨v15, h22, h⟩ := bs h
  refine rb_cut (fun v15 => ⟨envL [(0, .str s_0), (1, .int .i64 lo_1), (2, .int .i64 hi_2), (8, .str r7.1), (32, .bool v15)], heapL [], 0, 67⟩) h22 ?_ ?_
  · clear h
    intro v15 h
    refine rK fun K16 RK16 hK16 gK16 => zz ?_
    rcases iK k h with ⟨k, h⟩ | ⟨k, h⟩
    · refine zz ?_
      subst hK16 gK16
      cases h
      exact en ⟨rfl, wk []⟩
    · refine zz ?_
      obtain ⟨b18, q, h⟩ := bK q h
      refine zz ?_
      rcases iK k h with ⟨k, h⟩ | ⟨k, h⟩
      · refine zz ?_
        rcases iK k h with ⟨k, h⟩ | ⟨k, h⟩
        · refine zz ?_
          subst hK16 gK16
          cases h
          exact en ⟨rfl, wk []⟩
        · refine zz ?_
          subst hK16 gK16
          cases h
          exact en ⟨rfl, wk []⟩
      · refine zz ?_
        subst hK16 gK16
        cases h
        exact en ⟨rfl, wk []⟩
  · rcases iK k h with ⟨k, h⟩ | ⟨k, h⟩
    · refine xt <| xs <| rz ?_
      refine es <| xr <| er ?_
      cases h
      exact en fr
    · refine xf <| xk <| es <| xs <| xs <| rz ?_
      refine es <| xb ?_
      obtain ⟨e29, h100, h⟩ := bs h
      refine rb_loop (fun x28 => ⟨envL [(0, .str s_0), (1, .int .i64 lo_1), (2, .int .i64 hi_2), (8, .str r7.1), (34, .int .i64 (r7.1.length : Int)), (35, .int .i64 x28)], heapL [], 0, 67⟩) (fun w => match w with | Sum.inl _ => .ret | Sum.inr (_) => .exit 0) (fun w => match w with | Sum.inl e29 => ⟨envL [(6, .int .i64 0), (7, .int .i64 4)], heapL [], 0, 67⟩ | Sum.inr (e29) => ⟨envL [(0, .str s_0), (1, .int .i64 lo_1), (2, .int .i64 hi_2)], heapL [], 0, 67⟩) h100 (wk []) (by intro w; rcases w with w | w <;> simp) ?_ ?_
      · clear h
        intro x28 y h
        unfold g_lines_Number_s1 at h
        refine xs <| rz ?_
        refine es <| xs ?_
        rcases iK k h with ⟨k, h⟩ | ⟨k, h⟩
        · refine xt <| xk <| es <| xs <| xb <| xs <| rz ?_
          refine es <| xs <| rK fun K90 RK90 hK90 gK90 => zz ?_
          obtain ⟨b91, q, h⟩ := bK q h
          refine zz ?_
          rcases iK k h with ⟨k, h⟩ | ⟨k, h⟩
          · refine zz ?_
            subst hK90 gK90
            refine es <| xt <| xs <| rz ?_
            refine es <| xr <| br <| er ?_
            cases h
            exact en ⟨rfl, wk []⟩
          · refine zz ?_
            subst hK90 gK90
            refine es ?_
            rcases iK k h with ⟨k, h⟩ | ⟨k, h⟩
            · refine xt <| xs <| rz ?_
              refine es <| xr <| br <| er ?_
              cases h
              exact en ⟨rfl, wk []⟩
            · refine xf <| xk <| bn <| es <| rz ?_
              cases h
              exact en ⟨rfl, wk []⟩
        · refine xf <| xx <| ee ?_
          cases h
          exact en ⟨rfl, wk []⟩
      · rcases e29 with e29 | e29
        · try dsimp only at h ⊢
          refine br <| er ?_
          cases h
          exact en fr
        · try dsimp only at h ⊢
          refine bh <| es <| xs <| rK fun K104 RK104 hK104 gK104 => zz ?_
          obtain ⟨r105, h106, h⟩ := bs h
          refine cw (a_strconv_ParseInt I hI hPIv s_0 10 64 h106) <| zz ?_
          subst hK104 gK104
          refine es <| xs ?_
          obtain ⟨v110, h114, h⟩ := bs h
          refine rb_cut (fun v110 => ⟨envL [(11, .int .i64 r105.1), (65, .bool v110)], heapL [], 0, 67⟩) h114 ?_ ?_
          · clear h
            intro v110 h
            refine rK fun K111 RK111 hK111 gK111 => zz ?_
            rcases iK k h with ⟨k, h⟩ | ⟨k, h⟩
            · refine zz ?_
              subst hK111 gK111
              cases h
              exact en ⟨rfl, wk []⟩
            · refine zz ?_
              rcases iK k h with ⟨k, h⟩ | ⟨k, h⟩
              · refine zz ?_
                subst hK111 gK111
                cases h
                exact en ⟨rfl, wk []⟩
              · refine zz ?_
                subst hK111 gK111
                cases h
                exact en ⟨rfl, wk []⟩
          · rcases iK k h with ⟨k, h⟩ | ⟨k, h⟩
            · refine xt <| xs <| rz ?_
              refine es <| xr <| er ?_
              cases h
              exact en fr
            · refine xf <| xk <| es <| xs <| rz ?_
              refine es <| xr ?_
              cases h
              exact en fr
def gLS_Number (s_0 : TLS) (lo_1 : Int) (hi_2 : Int) : Option (Int × TLS) :=
  ((gLS_take s_0 false).bind fun r7 => (if r7.2.1 then ((g_lines_Number r7.1 lo_1 hi_2).bind fun r16 => (if (r16.2 != 0) then ((gLS_note r7.2.2 r7.2.2.last_ r16.2).bind fun r25 => (some (0, r25))) else (some (r16.1, r7.2.2)))) else (some (0, r7.2.2))))
theorem aLS_Number {I : World → Prop} (hI : Stab I) (hPIv : ∀ w, I w → PIv w) {H : Nat → Option Blk} {nid : Nat} {i0 : Nat} {p0 : Option Nat} {s_0 : TLS} {lo_1 : Int} {hi_2 : Int} {r : Int × TLS} (h : gLS_Number s_0 lo_1 hi_2 = some r) (b0 : H i0 = some (.box p0 [.int .i64 s_0.line_.Number, .sl (s_0.line_.Fields.map T_api_Field.d), .int .i64 s_0.next_, .int .i64 s_0.last_, .int .i64 s_0.bad_.Line, .int .i64 s_0.bad_.Column, .int .i64 s_0.bad_.Code])) : CallOK Tryz.prog I 90 [.ptr i0 0, .int .i64 lo_1, .int .i64 hi_2] H nid (.int .i64 r.1) [(i0, some (.box p0 [.int .i64 r.2.line_.Number, .sl (r.2.line_.Fields.map T_api_Field.d), .int .i64 r.2.next_, .int .i64 r.2.last_, .int .i64 r.2.bad_.Line, .int .i64 r.2.bad_.Column, .int .i64 r.2.bad_.Code]))] := by
  refine CallOK.intro (is := [(i0, p0)]) (css := [[.int .i64 s_0.line_.Number, .sl (s_0.line_.Fields.map T_api_Field.d), .int .i64 s_0.next_, .int .i64 s_0.last_, .int .i64 s_0.bad_.Line, .int .i64 s_0.bad_.Column, .int .i64 s_0.bad_.Code]]) (ds0 := [.ptr 0 0, .int .i64 lo_1, .int .i64 hi_2]) (pl := [(0, none)]) hI Tryz.func90 rfl (by decide) (by simp [Tryz.f90]) (by kernel_rfl) rfl rfl rfl rfl (lentAll_of ⟨⟨b0, rfl⟩, trivial⟩) (by simp) ?_
  have dd := dd_EA; have k := True.intro; have q := k; have rs := Tryz.results90
  unfold gLS_Number at h
  simp only [lentH, List.length_cons, List.length_nil, Nat.zero_add, Nat.reduceAdd, Tryz.ntmps90, dd_EA]
  refine xs <| rz ?_
  refine es <| xs <| rK fun K6 RK6 hK6 gK6 => zz ?_
  obtain ⟨r7, h8, h⟩ := bs h
  refine eW.intro (aLS_take hI (nid := 3) (i0 := 0) (p0 := (some 0)) h8 fz) fi rfl <| zz ?_
  subst hK6 gK6
  refine es <| xs <| xs <| rz ?_
  refine es ?_
  rcases iK k h with ⟨k, h⟩ | ⟨k, h⟩
  · refine xf <| xk <| es <| xs <| rK fun K15 RK15 hK15 gK15 => zz ?_
    obtain ⟨r16, h17, h⟩ := bs h
    refine cw (a_lines_Number hI hPIv h17) <| zz ?_
    subst hK15 gK15
    refine es <| xs <| xs <| rz ?_
    refine es ?_
    rcases iK k h with ⟨k, h⟩ | ⟨k, h⟩
    · refine xt <| xs <| rK fun K24 RK24 hK24 gK24 => zz ?_
      obtain ⟨r25, h26, h⟩ := bs h
      refine eW.intro (aLS_note hI (nid := 28) (i0 := 0) (p0 := (some 0)) h26 fz) fi rfl <| zz ?_
      subst hK24 gK24
      refine es <| xs <| rz ?_
      refine es <| xr <| er ?_
      cases h
      exact en fp
    · refine xf <| xk <| es <| xs <| rz ?_
      refine es <| xr ?_
      cases h
      exact en fp
  · refine xt <| xs <| rz ?_
    refine es <| xr <| er ?_
    cases h
    exact en fp
def g_lines_Name_s1 (s_0 : List UInt8) (x22 : Int) : Option (Nx (Int) (Unit ⊕ Unit)) :=
  (if (decide (x22 < (s_0.length : Int))) then ((atI s_0 x22).bind fun b144 => (((if (decide ((b144.toNat : Int) < 65)) then (if (decide ((b144.toNat : Int) < 48)) then (if ((b144.toNat : Int) != 95) then (some ((b144.toNat : Int) != 45)) else (some false)) else (if (decide (57 < (b144.toNat : Int))) then (if ((b144.toNat : Int) != 95) then (some ((b144.toNat : Int) != 45)) else (some false)) else (some false))) else (if (decide (90 < (b144.toNat : Int))) then (if (decide ((b144.toNat : Int) < 48)) then (if ((b144.toNat : Int) != 95) then (some ((b144.toNat : Int) != 45)) else (some false)) else (if (decide (57 < (b144.toNat : Int))) then (if ((b144.toNat : Int) != 95) then (some ((b144.toNat : Int) != 45)) else (some false)) else (some false))) else (some false))) : Option (Bool)).bind fun v157 => (if v157 then (some (.out (.inl ()))) else (some (.go (IntKind.i64.wrap (x22 + 1))))))) else (some (.out (.inr ()))))
def g_lines_Name (s_0 : List UInt8) : Option (Bool) :=
  (((if (decide ((s_0.length : Int) < 1)) then (some true) else (if (decide (16 < (s_0.length : Int))) then (some true) else ((atI s_0 0).bind fun b13 => (if (decide ((b13.toNat : Int) < 65)) then (some true) else (some (decide (90 < (b13.toNat : Int)))))))) : Option (Bool)).bind fun v9 => (if v9 then (some false) else ((iter (g_lines_Name_s1 s_0) 0).bind fun e23 => (match e23 with | Sum.inl e23 => (some false) | Sum.inr (e23) => (some true)))))
theorem a_lines_Name {I : World → Prop} (hI : Stab I) {s_0 : List UInt8} {r : Bool} (h : g_lines_Name s_0 = some r) : AFun Tryz.prog I 61 [.str s_0] (.bool r) := by
  have dd := dd_EA; have k := True.intro; have q := k; have rs := Tryz.results61
  unfold g_lines_Name at h
  refine .en hI Tryz.func61 Tryz.ntmps61 ?_
  refine xs <| rz ?_
  refine es <| xs ?_
  obtain ⟨v9, h16, h⟩ := bs h
  refine rb_cut (fun v9 => ⟨envL [(0, .str s_0), (22, .bool v9)], heapL [], 0, 54⟩) h16 ?_ ?_
  · clear h
    intro v9 h
    refine rK fun K10 RK10 hK10 gK10 => zz ?_
    rcases iK k h with ⟨k, h⟩ | ⟨k, h⟩
    · refine zz ?_
      subst hK10 gK10
      cases h
      exact en ⟨rfl, wk []⟩
    · refine zz ?_
      rcases iK k h with ⟨k, h⟩ | ⟨k, h⟩
      · refine zz ?_
        subst hK10 gK10
        cases h
        exact en ⟨rfl, wk []⟩
      · refine zz ?_
        obtain ⟨b13, q, h⟩ := bK q h
        refine zz ?_
        rcases iK k h with ⟨k, h⟩ | ⟨k, h⟩
        · refine zz ?_
          subst hK10 gK10
          cases h
          exact en ⟨rfl, wk []⟩
        · refine zz ?_
          subst hK10 gK10
          cases h
          exact en ⟨rfl, wk []⟩
  · rcases iK k h with ⟨k, h⟩ | ⟨k, h⟩
    · refine xt <| xs <| rz ?_
      refine es <| xr <| er ?_
      cases h
      exact en fr
    · refine xf <| xk <| es <| xs <| xs <| rz ?_
      refine es <| xb ?_
      obtain ⟨e23, h174, h⟩ := bs h
      refine rb_loop (fun x22 => ⟨envL [(0, .str s_0), (24, .int .i64 (s_0.length : Int)), (25, .int .i64 x22)], heapL [], 0, 54⟩) (fun w => match w with | Sum.inl _ => .ret | Sum.inr (_) => .exit 0) (fun w => match w with | Sum.inl e23 => ⟨envL [(2, .bool false)], heapL [], 0, 54⟩ | Sum.inr (e23) => ⟨envL [], heapL [], 0, 54⟩) h174 (wk []) (by intro w; rcases w with w | w <;> simp) ?_ ?_
      · clear h
        intro x22 y h
        unfold g_lines_Name_s1 at h
        refine xs <| rz ?_
        refine es <| xs ?_
        rcases iK k h with ⟨k, h⟩ | ⟨k, h⟩
        · refine xt <| xk <| es <| xs <| xb <| xs <| rz ?_
          refine es <| xs <| rK fun K143 RK143 hK143 gK143 => zz ?_
          obtain ⟨b144, q, h⟩ := bK q h
          refine zz ?_
          subst hK143 gK143
          refine es ?_
          obtain ⟨v157, h169, h⟩ := bs h
          refine rb_cut (fun v157 => ⟨envL [(0, .str s_0), (24, .int .i64 (s_0.length : Int)), (25, .int .i64 x22), (52, .bool v157)], heapL [], 0, 54⟩) h169 ?_ ?_
          · clear h
            intro v157 h
            refine rK fun K158 RK158 hK158 gK158 => zz ?_
            rcases iK k h with ⟨k, h⟩ | ⟨k, h⟩
            · refine zz ?_
              rcases iK k h with ⟨k, h⟩ | ⟨k, h⟩
              · refine zz ?_
                rcases iK k h with ⟨k, h⟩ | ⟨k, h⟩
                · refine zz ?_
                  subst hK158 gK158
                  cases h
                  exact en ⟨rfl, wk []⟩
                · refine zz ?_
                  subst hK158 gK158
                  cases h
                  exact en ⟨rfl, wk []⟩
              · refine zz ?_
                rcases iK k h with ⟨k, h⟩ | ⟨k, h⟩
                · refine zz ?_
                  rcases iK k h with ⟨k, h⟩ | ⟨k, h⟩
                  · refine zz ?_
                    subst hK158 gK158
                    cases h
                    exact en ⟨rfl, wk []⟩
                  · refine zz ?_
                    subst hK158 gK158
                    cases h
                    exact en ⟨rfl, wk []⟩
                · refine zz ?_
                  subst hK158 gK158
                  cases h
                  exact en ⟨rfl, wk []⟩
            · refine zz ?_
              rcases iK k h with ⟨k, h⟩ | ⟨k, h⟩
              · refine zz ?_
                rcases iK k h with ⟨k, h⟩ | ⟨k, h⟩
                · refine zz ?_
                  rcases iK k h with ⟨k, h⟩ | ⟨k, h⟩
                  · refine zz ?_
                    subst hK158 gK158
                    cases h
                    exact en ⟨rfl, wk []⟩
                  · refine zz ?_
                    subst hK158 gK158
                    cases h
                    exact en ⟨rfl, wk []⟩
                · refine zz ?_
                  rcases iK k h with ⟨k, h⟩ | ⟨k, h⟩
                  · refine zz ?_
                    rcases iK k h with ⟨k, h⟩ | ⟨k, h⟩
                    · refine zz ?_
                      subst hK158 gK158
                      cases h
                      exact en ⟨rfl, wk []⟩
                    · refine zz ?_
                      subst hK158 gK158
                      cases h
                      exact en ⟨rfl, wk []⟩
                  · refine zz ?_
                    subst hK158 gK158
                    cases h
                    exact en ⟨rfl, wk []⟩
              · refine zz ?_
                subst hK158 gK158
                cases h
                exact en ⟨rfl, wk []⟩
          · rcases iK k h with ⟨k, h⟩ | ⟨k, h⟩
            · refine xt <| xs <| rz ?_
              refine es <| xr <| br <| er ?_
              cases h
              exact en ⟨rfl, wk []⟩
            · refine xf <| xk <| bn <| es <| rz ?_
              cases h
              exact en ⟨rfl, wk []⟩
        · refine xf <| xx <| ee ?_
          cases h
          exact en ⟨rfl, wk []⟩
      · rcases e23 with e23 | e23
        · try dsimp only at h ⊢
          refine br <| er ?_
          cases h
          exact en fr
        · try dsimp only at h ⊢
          refine bh <| es <| xs <| rz ?_
          refine es <| xr ?_
          cases h
          exact en fr
def gLS_Name (s_0 : TLS) (empty_1 : Bool) : Option ((List UInt8) × TLS) :=
  ((gLS_take s_0 false).bind fun r7 => (((if r7.2.1 then (if empty_1 then (some (r7.1 == ([45] : List UInt8))) else (some false)) else (some true)) : Option (Bool)).bind fun v12 => (if v12 then (some ([], r7.2.2)) else ((g_lines_Name r7.1).bind fun r24 => (if r24 then (some (r7.1, r7.2.2)) else ((gLS_note r7.2.2 r7.2.2.last_ 5).bind fun r33 => (some ([], r33))))))))
theorem aLS_Name {I : World → Prop} (hI : Stab I) {H : Nat → Option Blk} {nid : Nat} {i0 : Nat} {p0 : Option Nat} {s_0 : TLS} {empty_1 : Bool} {r : (List UInt8) × TLS} (h : gLS_Name s_0 empty_1 = some r) (b0 : H i0 = some (.box p0 [.int .i64 s_0.line_.Number, .sl (s_0.line_.Fields.map T_api_Field.d), .int .i64 s_0.next_, .int .i64 s_0.last_, .int .i64 s_0.bad_.Line, .int .i64 s_0.bad_.Column, .int .i64 s_0.bad_.Code])) : CallOK Tryz.prog I 91 [.ptr i0 0, .bool empty_1] H nid (.str r.1) [(i0, some (.box p0 [.int .i64 r.2.line_.Number, .sl (r.2.line_.Fields.map T_api_Field.d), .int .i64 r.2.next_, .int .i64 r.2.last_, .int .i64 r.2.bad_.Line, .int .i64 r.2.bad_.Column, .int .i64 r.2.bad_.Code]))] := by
  refine CallOK.intro (is := [(i0, p0)]) (css := [[.int .i64 s_0.line_.Number, .sl (s_0.line_.Fields.map T_api_Field.d), .int .i64 s_0.next_, .int .i64 s_0.last_, .int .i64 s_0.bad_.Line, .int .i64 s_0.bad_.Column, .int .i64 s_0.bad_.Code]]) (ds0 := [.ptr 0 0, .bool empty_1]) (pl := [(0, none)]) hI Tryz.func91 rfl (by decide) (by simp [Tryz.f91]) (by kernel_rfl) rfl rfl rfl rfl (lentAll_of ⟨⟨b0, rfl⟩, trivial⟩) (by simp) ?_
  have dd := dd_EA; have k := True.intro; have q := k; have rs := Tryz.results91
  unfold gLS_Name at h
  simp only [lentH, List.length_cons, List.length_nil, Nat.zero_add, Nat.reduceAdd, Tryz.ntmps91, dd_EA]
  refine xs <| rz ?_
  refine es <| xs <| rK fun K6 RK6 hK6 gK6 => zz ?_
  obtain ⟨r7, h8, h⟩ := bs h
  refine eW.intro (aLS_take hI (nid := 3) (i0 := 0) (p0 := (some 0)) h8 fz) fi rfl <| zz ?_
  subst hK6 gK6
  refine es <| xs ?_
  obtain ⟨v12, h16, h⟩ := bs h
  refine rb_cut (fun v12 => ⟨envL [(0, .ptr 0 0), (5, .str r7.1), (20, .bool v12)], heapL [(0, .box (some 0) [.int .i64 r7.2.2.line_.Number, .sl (r7.2.2.line_.Fields.map T_api_Field.d), .int .i64 r7.2.2.next_, .int .i64 r7.2.2.last_, .int .i64 r7.2.2.bad_.Line, .int .i64 r7.2.2.bad_.Column, .int .i64 r7.2.2.bad_.Code])], 1, 31⟩) h16 ?_ ?_
  · clear h
    intro v12 h
    refine rK fun K13 RK13 hK13 gK13 => zz ?_
    rcases iK k h with ⟨k, h⟩ | ⟨k, h⟩
    · refine zz ?_
      rcases iK k h with ⟨k, h⟩ | ⟨k, h⟩
      · refine zz ?_
        subst hK13 gK13
        cases h
        exact en ⟨rfl, wk []⟩
      · refine zz ?_
        subst hK13 gK13
        cases h
        exact en ⟨rfl, wk []⟩
    · refine zz ?_
      subst hK13 gK13
      cases h
      exact en ⟨rfl, wk []⟩
  · rcases iK k h with ⟨k, h⟩ | ⟨k, h⟩
    · refine xt <| xs <| rz ?_
      refine es <| xr <| er ?_
      cases h
      exact en fp
    · refine xf <| xk <| es <| xs <| xs <| rK fun K23 RK23 hK23 gK23 => zz ?_
      obtain ⟨r24, h25, h⟩ := bs h
      refine cw (a_lines_Name hI h25) <| zz ?_
      subst hK23 gK23
      refine es ?_
      rcases iK k h with ⟨k, h⟩ | ⟨k, h⟩
      · refine xf <| xk <| es <| xs <| rz ?_
        refine es <| xr ?_
        cases h
        exact en fp
      · refine xt <| xs <| rK fun K32 RK32 hK32 gK32 => zz ?_
        obtain ⟨r33, h34, h⟩ := bs h
        refine eW.intro (aLS_note hI (nid := 9) (i0 := 0) (p0 := (some 0)) h34 fz) fi rfl <| zz ?_
        subst hK32 gK32
        refine es <| xs <| rz ?_
        refine es <| xr <| er ?_
        cases h
        exact en fp
def gLS_Left (s_0 : TLS) : Option (Int × TLS) :=
  ((gLS_done s_0).bind fun r7 => (if r7.1 then (some (0, r7.2)) else (some ((IntKind.i64.wrap ((r7.2.line_.Fields.length : Int) - r7.2.next_)), r7.2))))
theorem aLS_Left {I : World → Prop} (hI : Stab I) {H : Nat → Option Blk} {nid : Nat} {i0 : Nat} {p0 : Option Nat} {s_0 : TLS} {r : Int × TLS} (h : gLS_Left s_0 = some r) (b0 : H i0 = some (.box p0 [.int .i64 s_0.line_.Number, .sl (s_0.line_.Fields.map T_api_Field.d), .int .i64 s_0.next_, .int .i64 s_0.last_, .int .i64 s_0.bad_.Line, .int .i64 s_0.bad_.Column, .int .i64 s_0.bad_.Code])) : CallOK Tryz.prog I 93 [.ptr i0 0] H nid (.int .i64 r.1) [(i0, some (.box p0 [.int .i64 r.2.line_.Number, .sl (r.2.line_.Fields.map T_api_Field.d), .int .i64 r.2.next_, .int .i64 r.2.last_, .int .i64 r.2.bad_.Line, .int .i64 r.2.bad_.Column, .int .i64 r.2.bad_.Code]))] := by
  refine CallOK.intro (is := [(i0, p0)]) (css := [[.int .i64 s_0.line_.Number, .sl (s_0.line_.Fields.map T_api_Field.d), .int .i64 s_0.next_, .int .i64 s_0.last_, .int .i64 s_0.bad_.Line, .int .i64 s_0.bad_.Column, .int .i64 s_0.bad_.Code]]) (ds0 := [.ptr 0 0]) (pl := [(0, none)]) hI Tryz.func93 rfl (by decide) (by simp [Tryz.f93]) (by kernel_rfl) rfl rfl rfl rfl (lentAll_of ⟨⟨b0, rfl⟩, trivial⟩) (by simp) ?_
  have dd := dd_EA; have k := True.intro; have q := k; have rs := Tryz.results93
  unfold gLS_Left at h
  simp only [lentH, List.length_cons, List.length_nil, Nat.zero_add, Nat.reduceAdd, Tryz.ntmps93, dd_EA]
  refine xs <| rz ?_
  refine es <| xs <| xs <| rK fun K6 RK6 hK6 gK6 => zz ?_
  obtain ⟨r7, h8, h⟩ := bs h
  refine eW.intro (aLS_done hI (nid := 3) (i0 := 0) (p0 := (some 0)) h8 fz) fi rfl <| zz ?_
  subst hK6 gK6
  refine es ?_
  rcases iK k h with ⟨k, h⟩ | ⟨k, h⟩
  · refine xt <| xs <| rz ?_
    refine es <| xr <| er ?_
    cases h
    exact en fp
  · refine xf <| xk <| es <| xs <| rd hI ?_
    refine es <| xr ?_
    cases h
    exact en fp
def g_lines_Quote_s1 (s_0 : List UInt8) (x7 : Int × (List Int)) : Option (Nx (Int × (List Int)) ((List Int))) :=
  (if (decide (x7.1 < (s_0.length : Int))) then ((atI s_0 x7.1).bind fun b123 => (if ((b123.toNat : Int) == 34) then (if (x7.2.length + 2) * 1 ≤ 140737488355328 then (some (.go ((IntKind.i64.wrap (x7.1 + 1)), (x7.2 ++ [92, (b123.toNat : Int)])))) else none) else (if ((b123.toNat : Int) == 92) then (if (x7.2.length + 2) * 1 ≤ 140737488355328 then (some (.go ((IntKind.i64.wrap (x7.1 + 1)), (x7.2 ++ [92, (b123.toNat : Int)])))) else none) else (if ((b123.toNat : Int) == 10) then (if (x7.2.length + 2) * 1 ≤ 140737488355328 then (some (.go ((IntKind.i64.wrap (x7.1 + 1)), (x7.2 ++ [92, 110])))) else none) else (if (x7.2.length + 1) * 1 ≤ 140737488355328 then (some (.go ((IntKind.i64.wrap (x7.1 + 1)), (x7.2 ++ [(b123.toNat : Int)])))) else none))))) else (some (.out x7.2)))
def g_lines_Quote (s_0 : List UInt8) : Option ((List UInt8)) :=
  ((iter (g_lines_Quote_s1 s_0) (0, [34])).bind fun e8 => (if (e8.length + 1) * 1 ≤ 140737488355328 then (some (bytesOf (e8 ++ [34]))) else none))
theorem a_lines_Quote {I : World → Prop} (hI : Stab I) {s_0 : List UInt8} {r : (List UInt8)} (h : g_lines_Quote s_0 = some r) : AFun Tryz.prog I 37 [.str s_0] (.str r) := by
  have dd := dd_EA; have k := True.intro; have q := k; have rs := Tryz.results37
  unfold g_lines_Quote at h
  refine .en hI Tryz.func37 Tryz.ntmps37 ?_
  refine xs <| rz ?_
  refine es <| xs <| rz ?_
  refine es <| xs <| xs <| rz ?_
  refine es <| xb ?_
  obtain ⟨e8, h153, h⟩ := bs h
  refine rb_loop (fun x7 => ⟨envL [(0, .str s_0), (3, .own 0 x7.2.length), (7, .int .i64 (s_0.length : Int)), (8, .int .i64 x7.1)], heapL [(0, .vec 5 1 (x7.2.map (D.int .u8)) false)], 1, 39⟩) (fun _ => .exit 0) (fun e8 => ⟨envL [(3, .own 0 e8.length)], heapL [(0, .vec 5 1 (e8.map (D.int .u8)) false)], 1, 39⟩) h153 (wk [(0, some 1)]) (by intro w; simp) ?_ ?_
  · clear h
    intro x7 y h
    unfold g_lines_Quote_s1 at h
    refine xs <| rz ?_
    refine es <| xs ?_
    rcases iK k h with ⟨k, h⟩ | ⟨k, h⟩
    · refine xt <| xk <| es <| xs <| xb <| xs <| rz ?_
      refine es <| xs <| rK fun K122 RK122 hK122 gK122 => zz ?_
      obtain ⟨b123, q, h⟩ := bK q h
      refine zz ?_
      subst hK122 gK122
      refine es <| xb <| xs <| xs <| rz ?_
      refine es ?_
      rcases iK k h with ⟨k, h⟩ | ⟨k, h⟩
      · refine xt <| xk <| es <| xt <| rK fun K128 RK128 hK128 gK128 => zz ?_
        obtain ⟨h129, h⟩ := ite_on h
        have h130 : x7.2.length + 2 ≤ 9223372036854775807 := by omega
        try simp only [Nat.reduceLeDiff] at h130
        have h131 : x7.2.length + 2 ≤ 140737488355328 := by omega
        try simp only [Nat.reduceLeDiff] at h131
        have q := And.intro @h130 <| And.intro @h131 <| And.intro @h129 <| q
        refine zz ?_
        subst hK128 gK128
        refine bn <| bn <| es <| rz ?_
        cases h
        exact en ⟨rfl, wk [(0, some 14)]⟩
      · refine xf <| rz ?_
        refine es ?_
        rcases iK k h with ⟨k, h⟩ | ⟨k, h⟩
        · refine xt <| rK fun K135 RK135 hK135 gK135 => zz ?_
          obtain ⟨h136, h⟩ := ite_on h
          have h137 : x7.2.length + 2 ≤ 9223372036854775807 := by omega
          try simp only [Nat.reduceLeDiff] at h137
          have h138 : x7.2.length + 2 ≤ 140737488355328 := by omega
          try simp only [Nat.reduceLeDiff] at h138
          have q := And.intro @h137 <| And.intro @h138 <| And.intro @h136 <| q
          refine zz ?_
          subst hK135 gK135
          refine bn <| bn <| es <| rz ?_
          cases h
          exact en ⟨rfl, wk [(0, some 16)]⟩
        · refine xf <| xs <| rz ?_
          refine es ?_
          rcases iK k h with ⟨k, h⟩ | ⟨k, h⟩
          · refine xt <| rK fun K143 RK143 hK143 gK143 => zz ?_
            obtain ⟨h144, h⟩ := ite_on h
            have h145 : x7.2.length + 2 ≤ 9223372036854775807 := by omega
            try simp only [Nat.reduceLeDiff] at h145
            have h146 : x7.2.length + 2 ≤ 140737488355328 := by omega
            try simp only [Nat.reduceLeDiff] at h146
            have q := And.intro @h145 <| And.intro @h146 <| And.intro @h144 <| q
            refine zz ?_
            subst hK143 gK143
            refine bn <| bn <| es <| rz ?_
            cases h
            exact en ⟨rfl, wk [(0, some 15)]⟩
          · refine xf <| rK fun K148 RK148 hK148 gK148 => zz ?_
            obtain ⟨h149, h⟩ := ite_on h
            have h150 : x7.2.length + 1 ≤ 9223372036854775807 := by omega
            try simp only [Nat.reduceLeDiff] at h150
            have h151 : x7.2.length + 1 ≤ 140737488355328 := by omega
            try simp only [Nat.reduceLeDiff] at h151
            have q := And.intro @h150 <| And.intro @h151 <| And.intro @h149 <| q
            refine zz ?_
            subst hK148 gK148
            refine bn <| bn <| es <| rz ?_
            cases h
            exact en ⟨rfl, wk [(0, some 18)]⟩
    · refine xf <| xx <| ee ?_
      cases h
      exact en ⟨rfl, wk []⟩
  · refine bh <| es <| xs <| rK fun K158 RK158 hK158 gK158 => zz ?_
    obtain ⟨h159, h⟩ := ite_on h
    have h160 : e8.length + 1 ≤ 9223372036854775807 := by omega
    try simp only [Nat.reduceLeDiff] at h160
    have h161 : e8.length + 1 ≤ 140737488355328 := by omega
    try simp only [Nat.reduceLeDiff] at h161
    have q := And.intro @h160 <| And.intro @h161 <| And.intro @h159 <| q
    refine zz ?_
    subst hK158 gK158
    refine es <| xr ?_
    cases h
    exact en fr
def g_lines_Decimal (n_0 : Int) : Option ((List UInt8)) :=
  ((g_strconv_FormatInt n_0 10).bind fun r7 => (some r7))
theorem a_lines_Decimal {I : World → Prop} (hI : Stab I) (hTab : ∀ w, I w → Tab w) {n_0 : Int} {r : (List UInt8)} (h : g_lines_Decimal n_0 = some r) : AFun Tryz.prog I 40 [.int .i64 n_0] (.str r) := by
  have dd := dd_EA; have k := True.intro; have q := k; have rs := Tryz.results40
  unfold g_lines_Decimal at h
  refine .en hI Tryz.func40 Tryz.ntmps40 ?_
  refine xs <| rz ?_
  refine es <| xs <| rK fun K6 RK6 hK6 gK6 => zz ?_
  obtain ⟨r7, h8, h⟩ := bs h
  refine cw (a_strconv_FormatInt I hI hTab n_0 10 h8) <| zz ?_
  subst hK6 gK6
  refine es <| xr ?_
  cases h
  exact en fr
end Go.Proofs.YtnjjdbljoligdaaGreatDoor
namespace Go.Proofs.YtnjjdbljoligdaaGreatDoor
open Go.RowKit
set_option maxRecDepth 100000
set_option maxHeartbeats 10000000
structure TRS where
  Line : T_api_Line
  At : Int
  Code : Int
  Col : Int
  deriving DecidableEq
def TRS.d (x : TRS) : D := .agg [.int .i64 x.Line.Number, .sl (x.Line.Fields.map T_api_Field.d), .int .i64 x.At, .int .i64 x.Code, .int .i64 x.Col]
theorem dd_EE : (∀ x, T_api_Field.d x = .agg [.str x.Text, .int .i64 x.Column, .bool x.Quoted]) ∧ (∀ x, T_api_Diag.d x = .agg [.int .i64 x.Line, .int .i64 x.Column, .int .i64 x.Code]) ∧ (∀ x, T_api_Line.d x = .agg [.int .i64 x.Number, .sl (x.Fields.map T_api_Field.d)]) ∧ (∀ x, TRS.d x = .agg [.int .i64 x.Line.Number, .sl (x.Line.Fields.map T_api_Field.d), .int .i64 x.At, .int .i64 x.Code, .int .i64 x.Col]) := ⟨fun _ => rfl, fun _ => rfl, fun _ => rfl, fun _ => rfl⟩
def g_ref07_digit (c_0 : Int) : Option (Bool) :=
  (if (decide (48 ≤ c_0)) then (some (decide (c_0 ≤ 57))) else (some false))
theorem a_ref07_digit {I : World → Prop} (hI : Stab I) {c_0 : Int} {r : Bool} (h : g_ref07_digit c_0 = some r) : AFun Tryz.prog I 114 [.int .u8 c_0] (.bool r) := by
  have dd := dd_EE; have k := True.intro; have q := k; have rs := Tryz.results114
  unfold g_ref07_digit at h
  refine .en hI Tryz.func114 Tryz.ntmps114 ?_
  refine xs <| rz ?_
  refine es <| xs <| rK fun K5 RK5 hK5 gK5 => zz ?_
  rcases iK k h with ⟨k, h⟩ | ⟨k, h⟩
  · refine zz ?_
    subst hK5 gK5
    refine es <| xr ?_
    cases h
    exact en fr
  · refine zz ?_
    subst hK5 gK5
    refine es <| xr ?_
    cases h
    exact en fr
def g_ref07_Name_s1 (s_0 : List UInt8) (x14 : Int) : Option (Nx (Int) (Unit ⊕ Unit)) :=
  (if (decide (x14 < (s_0.length : Int))) then ((((((atI s_0 x14).bind fun b133 => (if (decide (65 ≤ (b133.toNat : Int))) then (some (decide ((b133.toNat : Int) ≤ 90))) else (some false))) : Option (Bool)).bind fun v131 => (if v131 then (some (.go ())) else (if (x14 == 0) then (some (.out ())) else ((atI s_0 x14).bind fun b151 => ((g_ref07_digit (b151.toNat : Int)).bind fun r153 => (if r153 then (some (.go ())) else (if ((b151.toNat : Int) != 95) then (if ((b151.toNat : Int) != 45) then (some (.out ())) else (some (.go ()))) else (some (.go ()))))))))) : Option (Nx (Unit) (Unit))).bind fun w161 => match w161 with | .go v126 => (some (.go (IntKind.i64.wrap (x14 + 1)))) | .out e162 => (some (.out (.inl ())))) else (some (.out (.inr ()))))
def g_ref07_Name (s_0 : List UInt8) : Option (Bool) :=
  (((if (decide ((s_0.length : Int) < 1)) then (some true) else (some (decide (16 < (s_0.length : Int))))) : Option (Bool)).bind fun v5 => (if v5 then (some false) else ((iter (g_ref07_Name_s1 s_0) 0).bind fun e15 => (match e15 with | Sum.inl e15 => (some false) | Sum.inr (e15) => (some true)))))
theorem a_ref07_Name {I : World → Prop} (hI : Stab I) {s_0 : List UInt8} {r : Bool} (h : g_ref07_Name s_0 = some r) : AFun Tryz.prog I 69 [.str s_0] (.bool r) := by
  have dd := dd_EE; have k := True.intro; have q := k; have rs := Tryz.results69
  unfold g_ref07_Name at h
  refine .en hI Tryz.func69 Tryz.ntmps69 ?_
  refine xs <| rz ?_
  refine es <| xs ?_
  obtain ⟨v5, h8, h⟩ := bs h
  refine rb_cut (fun v5 => ⟨envL [(0, .str s_0), (12, .bool v5)], heapL [], 0, 54⟩) h8 ?_ ?_
  · clear h
    intro v5 h
    refine rK fun K6 RK6 hK6 gK6 => zz ?_
    rcases iK k h with ⟨k, h⟩ | ⟨k, h⟩
    · refine zz ?_
      subst hK6 gK6
      cases h
      exact en ⟨rfl, wk []⟩
    · refine zz ?_
      subst hK6 gK6
      cases h
      exact en ⟨rfl, wk []⟩
  · rcases iK k h with ⟨k, h⟩ | ⟨k, h⟩
    · refine xt <| xs <| rz ?_
      refine es <| xr <| er ?_
      cases h
      exact en fr
    · refine xf <| xk <| es <| xs <| xs <| rz ?_
      refine es <| xb ?_
      obtain ⟨e15, h164, h⟩ := bs h
      refine rb_loop (fun x14 => ⟨envL [(0, .str s_0), (3, .int .i64 x14)], heapL [], 0, 54⟩) (fun w => match w with | Sum.inl _ => .ret | Sum.inr (_) => .exit 0) (fun w => match w with | Sum.inl e15 => ⟨envL [(2, .bool false)], heapL [], 0, 54⟩ | Sum.inr (e15) => ⟨envL [], heapL [], 0, 54⟩) h164 (wk []) (by intro w; rcases w with w | w <;> simp) ?_ ?_
      · clear h
        intro x14 y h
        unfold g_ref07_Name_s1 at h
        refine xs <| xs <| rz ?_
        refine es ?_
        rcases iK k h with ⟨k, h⟩ | ⟨k, h⟩
        · refine xt <| xk <| es ?_
          obtain ⟨w161, h160, h⟩ := bs h
          refine rb_seg (fun v126 => ⟨envL [(0, .str s_0), (3, .int .i64 x14)], heapL [], 0, 54⟩) (fun _ => .ret) (fun e162 => ⟨envL [(2, .bool false)], heapL [], 0, 54⟩) h160 (by intro w; simp) ?_ ?_ ?_
          · clear h
            intro w161 h
            refine xb ?_
            obtain ⟨v131, h136, h⟩ := bs h
            refine rb_cut (fun v131 => ⟨envL [(0, .str s_0), (3, .int .i64 x14), (4, .bool v131)], heapL [], 0, 54⟩) h136 ?_ ?_
            · clear h
              intro v131 h
              refine rK fun K132 RK132 hK132 gK132 => zz ?_
              obtain ⟨b133, q, h⟩ := bK q h
              refine zz ?_
              rcases iK k h with ⟨k, h⟩ | ⟨k, h⟩
              · refine zz ?_
                subst hK132 gK132
                cases h
                exact en ⟨rfl, wk []⟩
              · refine zz ?_
                subst hK132 gK132
                cases h
                exact en ⟨rfl, wk []⟩
            · refine xs <| rK fun K146 RK146 hK146 gK146 => zz ?_
              rcases iK k h with ⟨k, h⟩ | ⟨k, h⟩
              · refine zz ?_
                subst hK146 gK146
                refine es <| xf <| xk <| bn ?_
                cases h
                exact en ⟨rfl, wk []⟩
              · refine zz ?_
                rcases iK k h with ⟨k, h⟩ | ⟨k, h⟩
                · refine zz ?_
                  subst hK146 gK146
                  refine es <| xt <| xs <| rz ?_
                  refine es <| xr <| br ?_
                  cases h
                  exact en ⟨rfl, wk []⟩
                · refine zz ?_
                  obtain ⟨b151, q, h⟩ := bK q h
                  refine zz ?_
                  obtain ⟨r153, h154, h⟩ := bs h
                  refine cw (a_ref07_digit hI h154) <| zz ?_
                  rcases iK k h with ⟨k, h⟩ | ⟨k, h⟩
                  · refine zz ?_
                    subst hK146 gK146
                    refine es <| xf <| xk <| bn ?_
                    cases h
                    exact en ⟨rfl, wk []⟩
                  · refine zz ?_
                    rcases iK k h with ⟨k, h⟩ | ⟨k, h⟩
                    · refine zz ?_
                      subst hK146 gK146
                      refine es ?_
                      rcases iK k h with ⟨k, h⟩ | ⟨k, h⟩
                      · refine xt <| xs <| rz ?_
                        refine es <| xr <| br ?_
                        cases h
                        exact en ⟨rfl, wk []⟩
                      · refine xf <| xk <| bn ?_
                        cases h
                        exact en ⟨rfl, wk []⟩
                    · refine zz ?_
                      subst hK146 gK146
                      refine es <| xf <| xk <| bn ?_
                      cases h
                      exact en ⟨rfl, wk []⟩
          · rintro v126 rfl
            dsimp only at h
            refine rz ?_
            cases h
            exact en ⟨rfl, wk []⟩
          · rintro e162 rfl
            dsimp only at h
            cases h
            exact en ⟨rfl, wk []⟩
        · refine xf <| xx <| ee ?_
          cases h
          exact en ⟨rfl, wk []⟩
      · rcases e15 with e15 | e15
        · try dsimp only at h ⊢
          refine br <| er ?_
          cases h
          exact en fr
        · try dsimp only at h ⊢
          refine bh <| es <| xs <| rz ?_
          refine es <| xr ?_
          cases h
          exact en fr
def g_ref07_quoted_s1 (s_0 : List UInt8) (x226 : Int × (List UInt8)) : Option (Nx (Int × (List UInt8)) (((List UInt8) × Int × Int) ⊕ Unit)) :=
  (if (decide (x226.1 < (s_0.length : Int))) then ((atI s_0 x226.1).bind fun b343 => (if ((b343.toNat : Int) == 34) then (((if (decide ((IntKind.i64.wrap (x226.1 + 1)) < (s_0.length : Int))) then ((atI s_0 (IntKind.i64.wrap (x226.1 + 1))).bind fun b355 => (some ((b355.toNat : Int) != 32))) else (some false)) : Option (Bool)).bind fun v352 => (if v352 then (some (.out (.inl ([], 0, (IntKind.i64.wrap (x226.1 + 1)))))) else (some (.out (.inl (x226.2, (IntKind.i64.wrap (x226.1 + 1)), -1)))))) else (((if (decide ((b343.toNat : Int) < 32)) then (some true) else (some ((b343.toNat : Int) == 127))) : Option (Bool)).bind fun v365 => (if v365 then (some (.out (.inl ([], 0, x226.1)))) else (if ((b343.toNat : Int) != 92) then ((subI s_0 x226.1 (IntKind.i64.wrap (x226.1 + 1))).bind fun z386 => (if x226.2.length + z386.length ≤ 9223372036854775807 then (some (.go ((IntKind.i64.wrap (x226.1 + 1)), (x226.2 ++ z386)))) else none)) else (if (decide ((s_0.length : Int) ≤ (IntKind.i64.wrap (x226.1 + 1)))) then (some (.out (.inl ([], 0, x226.1)))) else ((atI s_0 (IntKind.i64.wrap (x226.1 + 1))).bind fun b406 => (if ((b406.toNat : Int) == 34) then ((subI s_0 (IntKind.i64.wrap (x226.1 + 1)) (IntKind.i64.wrap (x226.1 + 2))).bind fun z412 => (if x226.2.length + z412.length ≤ 9223372036854775807 then (some (.go ((IntKind.i64.wrap (x226.1 + 2)), (x226.2 ++ z412)))) else none)) else (if ((b406.toNat : Int) == 92) then ((subI s_0 (IntKind.i64.wrap (x226.1 + 1)) (IntKind.i64.wrap (x226.1 + 2))).bind fun z425 => (if x226.2.length + z425.length ≤ 9223372036854775807 then (some (.go ((IntKind.i64.wrap (x226.1 + 2)), (x226.2 ++ z425)))) else none)) else (if ((b406.toNat : Int) == 110) then (if x226.2.length + 1 ≤ 9223372036854775807 then (some (.go ((IntKind.i64.wrap (x226.1 + 2)), (x226.2 ++ [10])))) else none) else (some (.out (.inl ([], 0, x226.1)))))))))))))) else (some (.out (.inr ()))))
def g_ref07_quoted (s_0 : List UInt8) (i_1 : Int) : Option ((List UInt8) × Int × Int) :=
  ((iter (g_ref07_quoted_s1 s_0) ((IntKind.i64.wrap (i_1 + 1)), [])).bind fun e227 => (match e227 with | Sum.inl e227 => (some (e227.1, e227.2.1, e227.2.2)) | Sum.inr (e227) => (some ([], 0, (s_0.length : Int)))))
theorem a_ref07_quoted {I : World → Prop} (hI : Stab I) {s_0 : List UInt8} {i_1 : Int} {r : (List UInt8) × Int × Int} (h : g_ref07_quoted s_0 i_1 = some r) : AFun Tryz.prog I 147 [.str s_0, .int .i64 i_1] (.tup [.str r.1, .int .i64 r.2.1, .int .i64 r.2.2]) := by
  have dd := dd_EE; have k := True.intro; have q := k; have rs := Tryz.results147
  unfold g_ref07_quoted at h
  refine .en hI Tryz.func147 Tryz.ntmps147 ?_
  refine xs <| rz ?_
  refine es <| xs <| rz ?_
  refine es <| xs <| rz ?_
  refine es <| xs <| xb ?_
  obtain ⟨e227, h444, h⟩ := bs h
  refine rb_loop (fun x226 => ⟨envL [(0, .str s_0), (1, .int .i64 x226.1), (7, .str x226.2)], heapL [], 0, 85⟩) (fun w => match w with | Sum.inl _ => .ret | Sum.inr (_) => .exit 0) (fun w => match w with | Sum.inl e227 => ⟨envL [(4, .str e227.1), (5, .int .i64 e227.2.1), (6, .int .i64 e227.2.2)], heapL [], 0, 85⟩ | Sum.inr (e227) => ⟨envL [(0, .str s_0)], heapL [], 0, 85⟩) h444 (wk []) (by intro w; rcases w with w | w <;> simp) ?_ ?_
  · clear h
    intro x226 y h
    unfold g_ref07_quoted_s1 at h
    refine xs <| xs <| rz ?_
    refine es ?_
    rcases iK k h with ⟨k, h⟩ | ⟨k, h⟩
    · refine xt <| xk <| es <| xb <| xs <| rK fun K342 RK342 hK342 gK342 => zz ?_
      obtain ⟨b343, q, h⟩ := bK q h
      refine zz ?_
      subst hK342 gK342
      refine es <| xs <| xs <| rz ?_
      refine es ?_
      rcases iK k h with ⟨k, h⟩ | ⟨k, h⟩
      · refine xt <| xs ?_
        obtain ⟨v352, h357, h⟩ := bs h
        refine rb_cut (fun v352 => ⟨envL [(1, .int .i64 x226.1), (7, .str x226.2), (31, .bool v352)], heapL [], 0, 85⟩) h357 ?_ ?_
        · clear h
          intro v352 h
          refine rK fun K353 RK353 hK353 gK353 => zz ?_
          rcases iK k h with ⟨k, h⟩ | ⟨k, h⟩
          · refine zz ?_
            obtain ⟨b355, q, h⟩ := bK q h
            refine zz ?_
            subst hK353 gK353
            cases h
            exact en ⟨rfl, wk []⟩
          · refine zz ?_
            subst hK353 gK353
            cases h
            exact en ⟨rfl, wk []⟩
        · rcases iK k h with ⟨k, h⟩ | ⟨k, h⟩
          · refine xt <| xs <| rz ?_
            refine es <| xr <| er <| er <| br ?_
            cases h
            exact en ⟨rfl, wk []⟩
          · refine xf <| xk <| es <| xs <| rz ?_
            refine es <| xr <| er <| br ?_
            cases h
            exact en ⟨rfl, wk []⟩
      · refine xf <| xk <| es <| xs ?_
        obtain ⟨v365, h368, h⟩ := bs h
        refine rb_cut (fun v365 => ⟨envL [(0, .str s_0), (1, .int .i64 x226.1), (7, .str x226.2), (8, .int .u8 (b343.toNat : Int)), (42, .bool v365)], heapL [], 0, 85⟩) h368 ?_ ?_
        · clear h
          intro v365 h
          refine rK fun K366 RK366 hK366 gK366 => zz ?_
          rcases iK k h with ⟨k, h⟩ | ⟨k, h⟩
          · refine zz ?_
            subst hK366 gK366
            cases h
            exact en ⟨rfl, wk []⟩
          · refine zz ?_
            subst hK366 gK366
            cases h
            exact en ⟨rfl, wk []⟩
        · rcases iK k h with ⟨k, h⟩ | ⟨k, h⟩
          · refine xt <| xs <| rz ?_
            refine es <| xr <| er <| br ?_
            cases h
            exact en ⟨rfl, wk []⟩
          · refine xf <| xk <| es <| xs <| xs <| rz ?_
            refine es ?_
            rcases iK k h with ⟨k, h⟩ | ⟨k, h⟩
            · refine xt <| xs <| rK fun K385 RK385 hK385 gK385 => zz ?_
              obtain ⟨z386, h387, h⟩ := bind_some h
              obtain ⟨⟨h388, h389, h390, h391⟩, h392⟩ := subI_some h387
              have q := And.intro @h388 <| And.intro @h389 <| And.intro @h390 <| And.intro @h391 <| q
              try simp -implicitDefEqProofs only [vt, vm, sevalprocAttr, dd, k, q] at h392
              have q := And.intro @h392 <| q
              refine zz ?_
              obtain ⟨h393, h⟩ := ite_on h
              have h394 : x226.2.length + z386.length ≤ 9223372036854775807 := by (try simp only [List.length_append, List.length_cons, List.length_nil]); omega
              try simp -implicitDefEqProofs only [vt, vm, sevalprocAttr, dd, k, q] at h394
              have q := And.intro @h394 <| And.intro @h393 <| q
              refine zz ?_
              subst hK385 gK385
              refine es <| xs <| rz ?_
              refine es <| xx <| ee <| bh ?_
              cases h
              exact en ⟨rfl, wk []⟩
            · refine xf <| xk <| es <| xs <| xs <| rz ?_
              refine es ?_
              rcases iK k h with ⟨k, h⟩ | ⟨k, h⟩
              · refine xt <| xs <| rz ?_
                refine es <| xr <| er <| br ?_
                cases h
                exact en ⟨rfl, wk []⟩
              · refine xf <| xk <| es <| xs <| xs <| rK fun K405 RK405 hK405 gK405 => zz ?_
                obtain ⟨b406, q, h⟩ := bK q h
                refine zz ?_
                subst hK405 gK405
                refine es <| xb <| xs <| xs <| rz ?_
                refine es ?_
                rcases iK k h with ⟨k, h⟩ | ⟨k, h⟩
                · refine xt <| xk <| es <| xt <| rK fun K411 RK411 hK411 gK411 => zz ?_
                  obtain ⟨z412, h413, h⟩ := bind_some h
                  obtain ⟨⟨h414, h415, h416, h417⟩, h418⟩ := subI_some h413
                  have q := And.intro @h414 <| And.intro @h415 <| And.intro @h416 <| And.intro @h417 <| q
                  try simp -implicitDefEqProofs only [vt, vm, sevalprocAttr, dd, k, q] at h418
                  have q := And.intro @h418 <| q
                  refine zz ?_
                  obtain ⟨h419, h⟩ := ite_on h
                  have h420 : x226.2.length + z412.length ≤ 9223372036854775807 := by (try simp only [List.length_append, List.length_cons, List.length_nil]); omega
                  try simp -implicitDefEqProofs only [vt, vm, sevalprocAttr, dd, k, q] at h420
                  have q := And.intro @h420 <| And.intro @h419 <| q
                  refine zz ?_
                  subst hK411 gK411
                  refine bn <| es <| rz ?_
                  refine bn ?_
                  cases h
                  exact en ⟨rfl, wk []⟩
                · refine xf <| rz ?_
                  refine es ?_
                  rcases iK k h with ⟨k, h⟩ | ⟨k, h⟩
                  · refine xt <| rK fun K424 RK424 hK424 gK424 => zz ?_
                    obtain ⟨z425, h426, h⟩ := bind_some h
                    obtain ⟨⟨h427, h428, h429, h430⟩, h431⟩ := subI_some h426
                    have q := And.intro @h427 <| And.intro @h428 <| And.intro @h429 <| And.intro @h430 <| q
                    try simp -implicitDefEqProofs only [vt, vm, sevalprocAttr, dd, k, q] at h431
                    have q := And.intro @h431 <| q
                    refine zz ?_
                    obtain ⟨h432, h⟩ := ite_on h
                    have h433 : x226.2.length + z425.length ≤ 9223372036854775807 := by (try simp only [List.length_append, List.length_cons, List.length_nil]); omega
                    try simp -implicitDefEqProofs only [vt, vm, sevalprocAttr, dd, k, q] at h433
                    have q := And.intro @h433 <| And.intro @h432 <| q
                    refine zz ?_
                    subst hK424 gK424
                    refine bn <| es <| rz ?_
                    refine bn ?_
                    cases h
                    exact en ⟨rfl, wk []⟩
                  · refine xf <| xs <| rz ?_
                    refine es ?_
                    rcases iK k h with ⟨k, h⟩ | ⟨k, h⟩
                    · refine xt <| rK fun K438 RK438 hK438 gK438 => zz ?_
                      obtain ⟨h439, h⟩ := ite_on h
                      have h440 : x226.2.length + ([10] : List UInt8).length ≤ 9223372036854775807 := by (try simp only [List.length_append, List.length_cons, List.length_nil]); omega
                      try simp -implicitDefEqProofs only [vt, vm, sevalprocAttr, dd, k, q] at h440
                      have q := And.intro @h440 <| And.intro @h439 <| q
                      refine zz ?_
                      subst hK438 gK438
                      refine bn <| es <| rz ?_
                      refine bn ?_
                      cases h
                      exact en ⟨rfl, wk []⟩
                    · refine xf <| xs <| rz ?_
                      refine es <| xr <| br <| er <| br ?_
                      cases h
                      exact en ⟨rfl, wk []⟩
    · refine xf <| xx <| ee ?_
      cases h
      exact en ⟨rfl, wk []⟩
  · rcases e227 with e227 | e227
    · try dsimp only at h ⊢
      refine br <| er ?_
      cases h
      exact en fr
    · try dsimp only at h ⊢
      refine bh <| es <| xs <| rz ?_
      refine es <| xr ?_
      cases h
      exact en fr
def g_ref07_wordByte (c_0 : Int) : Option (Bool) :=
  (if (decide (33 ≤ c_0)) then (if (decide (c_0 ≤ 126)) then (some (c_0 != 34)) else (some false)) else (some false))
theorem a_ref07_wordByte {I : World → Prop} (hI : Stab I) {c_0 : Int} {r : Bool} (h : g_ref07_wordByte c_0 = some r) : AFun Tryz.prog I 148 [.int .u8 c_0] (.bool r) := by
  have dd := dd_EE; have k := True.intro; have q := k; have rs := Tryz.results148
  unfold g_ref07_wordByte at h
  refine .en hI Tryz.func148 Tryz.ntmps148 ?_
  refine xs <| rz ?_
  refine es <| xs <| rK fun K6 RK6 hK6 gK6 => zz ?_
  rcases iK k h with ⟨k, h⟩ | ⟨k, h⟩
  · refine zz ?_
    rcases iK k h with ⟨k, h⟩ | ⟨k, h⟩
    · refine zz ?_
      subst hK6 gK6
      refine es <| xr ?_
      cases h
      exact en fr
    · refine zz ?_
      subst hK6 gK6
      refine es <| xr ?_
      cases h
      exact en fr
  · refine zz ?_
    subst hK6 gK6
    refine es <| xr ?_
    cases h
    exact en fr
def g_ref07_fields_s2 (s_0 : List UInt8) (x398 : Int) : Option (Nx (Int) (Int)) :=
  (if (decide (x398 < (s_0.length : Int))) then ((atI s_0 x398).bind fun b426 => (if ((b426.toNat : Int) == 32) then (some (.go (IntKind.i64.wrap (x398 + 1)))) else (some (.out x398)))) else (some (.out x398)))
def g_ref07_fields_s3 (s_0 : List UInt8) (x550 : Int) : Option (Nx (Int) (Int ⊕ Int)) :=
  (((if (decide (x550 < (s_0.length : Int))) then ((atI s_0 x550).bind fun b609 => (some ((b609.toNat : Int) != 32))) else (some false)) : Option (Bool)).bind fun v606 => (if v606 then ((atI s_0 x550).bind fun b619 => ((g_ref07_wordByte (b619.toNat : Int)).bind fun r621 => (if r621 then (some (.go (IntKind.i64.wrap (x550 + 1)))) else (some (.out (.inl x550)))))) else (some (.out (.inr x550)))))
def g_ref07_fields_s1 (s_0 : List UInt8) (x7 : (List T_api_Field) × Int) : Option (Nx ((List T_api_Field) × Int) ((List T_api_Field) × Int)) :=
  ((iter (g_ref07_fields_s2 s_0) x7.2).bind fun e399 => (((if (decide ((s_0.length : Int) ≤ e399)) then (some true) else ((atI s_0 e399).bind fun b438 => (some ((b438.toNat : Int) == 35)))) : Option (Bool)).bind fun v435 => (if v435 then (some (.out (x7.1, -1))) else ((atI s_0 e399).bind fun b450 => (if ((b450.toNat : Int) == 34) then ((g_ref07_quoted s_0 e399).bind fun r457 => (if (decide (0 ≤ r457.2.2)) then (some (.out ([], r457.2.2))) else (if (x7.1.length + 1) * 32 ≤ 140737488355328 then (some (.go ((x7.1 ++ [(T_api_Field.mk r457.1 (IntKind.i64.wrap (e399 + 1)) true)]), r457.2.1))) else none))) else ((iter (g_ref07_fields_s3 s_0) e399).bind fun e551 => (match e551 with | Sum.inl e551 => (some (.out ([], e551))) | Sum.inr (e551) => ((subI s_0 e399 e551).bind fun z629 => (if (x7.1.length + 1) * 32 ≤ 140737488355328 then (some (.go ((x7.1 ++ [(T_api_Field.mk z629 (IntKind.i64.wrap (e399 + 1)) false)]), e551))) else none)))))))))
def g_ref07_fields (s_0 : List UInt8) : Option ((List T_api_Field) × Int) :=
  ((iter (g_ref07_fields_s1 s_0) ([], 0)).bind fun e8 => (some (e8.1, e8.2)))
theorem a_ref07_fields {I : World → Prop} (hI : Stab I) {s_0 : List UInt8} {r : (List T_api_Field) × Int} (h : g_ref07_fields s_0 = some r) : AFun Tryz.prog I 95 [.str s_0] (.tup [.sl (r.1.map T_api_Field.d), .int .i64 r.2]) := by
  have dd := dd_EE; have k := True.intro; have q := k; have rs := Tryz.results95
  unfold g_ref07_fields at h
  refine .en hI Tryz.func95 Tryz.ntmps95 ?_
  refine xs <| rz ?_
  refine es <| xs <| rz ?_
  refine es <| xs <| rz ?_
  refine es <| xb ?_
  obtain ⟨e8, h638, h⟩ := bs h
  refine rb_loop (fun x7 => ⟨envL [(0, .str s_0), (4, .own 0 x7.1.length), (5, .int .i64 x7.2)], heapL [(0, .vec 117 3 (x7.1.map T_api_Field.d) false)], 1, 84⟩) (fun _ => .ret) (fun e8 => ⟨envL [(2, .own 0 e8.1.length), (3, .int .i64 e8.2)], heapL [(0, .vec 117 3 (e8.1.map T_api_Field.d) false)], 1, 84⟩) h638 (wk [(0, none)]) (by intro w; simp) ?_ ?_
  · clear h
    intro x7 y h
    unfold g_ref07_fields_s1 at h
    refine xb <| xs <| xb ?_
    obtain ⟨e399, h430, h⟩ := bs h
    refine rb_loop (fun x398 => ⟨envL [(0, .str s_0), (4, .own 0 x7.1.length), (5, .int .i64 x398)], heapL [(0, .vec 117 3 (x7.1.map T_api_Field.d) false)], 1, 84⟩) (fun _ => .exit 2) (fun e399 => ⟨envL [(0, .str s_0), (4, .own 0 x7.1.length), (5, .int .i64 e399)], heapL [(0, .vec 117 3 (x7.1.map T_api_Field.d) false)], 1, 84⟩) h430 (wk []) (by intro w; simp) ?_ ?_
    · clear h
      intro x398 y h
      unfold g_ref07_fields_s2 at h
      refine xs <| xs <| rK fun K424 RK424 hK424 gK424 => zz ?_
      rcases iK k h with ⟨k, h⟩ | ⟨k, h⟩
      · refine zz ?_
        obtain ⟨b426, q, h⟩ := bK q h
        refine zz ?_
        subst hK424 gK424
        refine es ?_
        rcases iK k h with ⟨k, h⟩ | ⟨k, h⟩
        · refine xt <| xk <| es <| xb <| rz ?_
          refine bn ?_
          cases h
          exact en ⟨rfl, wk []⟩
        · refine xf <| xx <| ee ?_
          cases h
          exact en ⟨rfl, wk []⟩
      · refine zz ?_
        subst hK424 gK424
        refine es <| xf <| xx <| ee ?_
        cases h
        exact en ⟨rfl, wk []⟩
    · refine bh <| es <| xs ?_
      obtain ⟨v435, h440, h⟩ := bs h
      refine rb_cut (fun v435 => ⟨envL [(0, .str s_0), (4, .own 0 x7.1.length), (5, .int .i64 e399), (31, .bool v435)], heapL [(0, .vec 117 3 (x7.1.map T_api_Field.d) false)], 1, 84⟩) h440 ?_ ?_
      · clear h
        intro v435 h
        refine rK fun K436 RK436 hK436 gK436 => zz ?_
        rcases iK k h with ⟨k, h⟩ | ⟨k, h⟩
        · refine zz ?_
          subst hK436 gK436
          cases h
          exact en ⟨rfl, wk []⟩
        · refine zz ?_
          obtain ⟨b438, q, h⟩ := bK q h
          refine zz ?_
          subst hK436 gK436
          cases h
          exact en ⟨rfl, wk []⟩
      · rcases iK k h with ⟨k, h⟩ | ⟨k, h⟩
        · refine xt <| xs <| rz ?_
          refine es <| xr <| er <| br ?_
          cases h
          exact en ⟨rfl, wk []⟩
        · refine xf <| xk <| es <| xs <| rz ?_
          refine es <| xs <| xs <| rK fun K449 RK449 hK449 gK449 => zz ?_
          obtain ⟨b450, q, h⟩ := bK q h
          refine zz ?_
          subst hK449 gK449
          refine es ?_
          rcases iK k h with ⟨k, h⟩ | ⟨k, h⟩
          · refine xt <| xs <| rK fun K456 RK456 hK456 gK456 => zz ?_
            obtain ⟨r457, h458, h⟩ := bs h
            refine cw (a_ref07_quoted hI h458) <| zz ?_
            subst hK456 gK456
            refine es <| xs <| xs <| rz ?_
            refine es ?_
            rcases iK k h with ⟨k, h⟩ | ⟨k, h⟩
            · refine xt <| xs <| rz ?_
              refine es <| xr <| er <| er <| br ?_
              cases h
              exact en ⟨rfl, wk [(0, none)]⟩
            · refine xf <| xk <| es <| xs <| rK fun K467 RK467 hK467 gK467 => zz ?_
              obtain ⟨h468, h⟩ := ite_on h
              have h469 : x7.1.length + 1 ≤ 9223372036854775807 := by omega
              try simp only [Nat.reduceLeDiff] at h469
              have q := And.intro @h469 <| And.intro @h468 <| q
              refine zz ?_
              subst hK467 gK467
              refine es <| xs <| rz ?_
              refine es <| xx <| ee <| bh ?_
              cases h
              exact en ⟨rfl, wk [(0, some 25)]⟩
          · refine xf <| xk <| es <| xs <| xb ?_
            obtain ⟨e551, h627, h⟩ := bs h
            refine rb_loop (fun x550 => ⟨envL [(0, .str s_0), (4, .own 0 x7.1.length), (5, .int .i64 x550), (6, .int .i64 e399)], heapL [(0, .vec 117 3 (x7.1.map T_api_Field.d) false)], 1, 84⟩) (fun w => match w with | Sum.inl _ => .ret | Sum.inr (_) => .exit 4) (fun w => match w with | Sum.inl e551 => ⟨envL [(2, .nils), (3, .int .i64 e551)], heapL [], 0, 84⟩ | Sum.inr (e551) => ⟨envL [(0, .str s_0), (4, .own 0 x7.1.length), (5, .int .i64 e551), (6, .int .i64 e399)], heapL [(0, .vec 117 3 (x7.1.map T_api_Field.d) false)], 1, 84⟩) h627 (wk []) (by intro w; rcases w with w | w <;> simp) ?_ ?_
            · clear h
              intro x550 y h
              unfold g_ref07_fields_s3 at h
              refine xs ?_
              obtain ⟨v606, h611, h⟩ := bs h
              refine rb_cut (fun v606 => ⟨envL [(0, .str s_0), (4, .own 0 x7.1.length), (5, .int .i64 x550), (6, .int .i64 e399), (65, .bool v606)], heapL [(0, .vec 117 3 (x7.1.map T_api_Field.d) false)], 1, 84⟩) h611 ?_ ?_
              · clear h
                intro v606 h
                refine rK fun K607 RK607 hK607 gK607 => zz ?_
                rcases iK k h with ⟨k, h⟩ | ⟨k, h⟩
                · refine zz ?_
                  obtain ⟨b609, q, h⟩ := bK q h
                  refine zz ?_
                  subst hK607 gK607
                  cases h
                  exact en ⟨rfl, wk []⟩
                · refine zz ?_
                  subst hK607 gK607
                  cases h
                  exact en ⟨rfl, wk []⟩
              · rcases iK k h with ⟨k, h⟩ | ⟨k, h⟩
                · refine xt <| xk <| es <| xb <| xs <| xs <| rK fun K618 RK618 hK618 gK618 => zz ?_
                  obtain ⟨b619, q, h⟩ := bK q h
                  refine zz ?_
                  obtain ⟨r621, h622, h⟩ := bs h
                  refine cw (a_ref07_wordByte hI h622) <| zz ?_
                  subst hK618 gK618
                  refine es ?_
                  rcases iK k h with ⟨k, h⟩ | ⟨k, h⟩
                  · refine xf <| xk <| es <| rz ?_
                    refine bn ?_
                    cases h
                    exact en ⟨rfl, wk []⟩
                  · refine xt <| xs <| rz ?_
                    refine es <| xr <| er <| br ?_
                    cases h
                    exact en ⟨rfl, wk []⟩
                · refine xf <| xx <| ee ?_
                  cases h
                  exact en ⟨rfl, wk []⟩
            · rcases e551 with e551 | e551
              · try dsimp only at h ⊢
                refine br <| er <| br ?_
                cases h
                exact en ⟨rfl, wk [(0, none)]⟩
              · try dsimp only at h ⊢
                refine bh <| es <| rK fun K628 RK628 hK628 gK628 => zz ?_
                obtain ⟨z629, h630, h⟩ := bind_some h
                obtain ⟨⟨h631, h632, h633, h634⟩, h635⟩ := subI_some h630
                have q := And.intro @h631 <| And.intro @h632 <| And.intro @h633 <| And.intro @h634 <| q
                try simp -implicitDefEqProofs only [vt, vm, sevalprocAttr, dd, k, q] at h635
                have q := And.intro @h635 <| q
                refine zz ?_
                obtain ⟨h636, h⟩ := ite_on h
                have h637 : x7.1.length + 1 ≤ 9223372036854775807 := by omega
                try simp only [Nat.reduceLeDiff] at h637
                have q := And.intro @h637 <| And.intro @h636 <| q
                refine zz ?_
                subst hK628 gK628
                refine bn ?_
                cases h
                exact en ⟨rfl, wk [(0, some 10)]⟩
  · refine br ?_
    cases h
    exact en fr
def g_ref07_Split_s1 (src_0 : List UInt8) (x16 : (List T_api_Line) × (List T_api_Diag) × Int × Int × Int) : Option (Nx ((List T_api_Line) × (List T_api_Diag) × Int × Int × Int) ((List T_api_Line) × (List T_api_Diag))) :=
  (if (decide (x16.2.2.2.2 ≤ (src_0.length : Int))) then (((((if (decide (x16.2.2.2.2 < (src_0.length : Int))) then ((atI src_0 x16.2.2.2.2).bind fun b468 => (some ((b468.toNat : Int) != 10))) else (some false)) : Option (Bool)).bind fun v465 => (if v465 then (some (x16.1, x16.2.1, x16.2.2.1, x16.2.2.2.1)) else ((subI src_0 x16.2.2.2.1 x16.2.2.2.2).bind fun z481 => (if (decide (1000 < (z481.length : Int))) then (if (x16.2.1.length + 1) * 24 ≤ 140737488355328 then (some (x16.1, (x16.2.1 ++ [(T_api_Diag.mk x16.2.2.1 1001 9)]), (IntKind.i64.wrap (x16.2.2.1 + 1)), (IntKind.i64.wrap (x16.2.2.2.2 + 1)))) else none) else ((g_ref07_fields z481).bind fun r501 => (if (decide (0 ≤ r501.2)) then (if (x16.2.1.length + 1) * 24 ≤ 140737488355328 then (some (x16.1, (x16.2.1 ++ [(T_api_Diag.mk x16.2.2.1 (IntKind.i64.wrap (r501.2 + 1)) 4)]), (IntKind.i64.wrap (x16.2.2.1 + 1)), (IntKind.i64.wrap (x16.2.2.2.2 + 1)))) else none) else (if (decide (0 < (r501.1.length : Int))) then (if (x16.1.length + 1) * 32 ≤ 140737488355328 then (some ((x16.1 ++ [(T_api_Line.mk x16.2.2.1 r501.1)]), x16.2.1, (IntKind.i64.wrap (x16.2.2.1 + 1)), (IntKind.i64.wrap (x16.2.2.2.2 + 1)))) else none) else (some (x16.1, x16.2.1, (IntKind.i64.wrap (x16.2.2.1 + 1)), (IntKind.i64.wrap (x16.2.2.2.2 + 1))))))))))) : Option ((List T_api_Line) × (List T_api_Diag) × Int × Int)).bind fun v460 => (some (.go (v460.1, v460.2.1, v460.2.2.1, v460.2.2.2, (IntKind.i64.wrap (x16.2.2.2.2 + 1)))))) else (some (.out (x16.1, x16.2.1))))
def g_ref07_Split (src_0 : List UInt8) : Option ((List T_api_Line) × (List T_api_Diag)) :=
  (if (decide (262144 < (src_0.length : Int))) then (some ([], [(T_api_Diag.mk 1 1 9)])) else ((iter (g_ref07_Split_s1 src_0) ([], [], 1, 0, 0)).bind fun e17 => ((subH e17.2 (if 50 < ((e17.2.length : Nat) : Int) then 50 else ((e17.2.length : Nat) : Int))).bind fun z534 => (some (e17.1, z534)))))
theorem a_ref07_Split {I : World → Prop} (hI : Stab I) {src_0 : List UInt8} {r : (List T_api_Line) × (List T_api_Diag)} (h : g_ref07_Split src_0 = some r) : AFun Tryz.prog I 52 [.str src_0] (.tup [.sl (r.1.map T_api_Line.d), .sl (r.2.map T_api_Diag.d)]) := by
  have dd := dd_EE; have k := True.intro; have q := k; have rs := Tryz.results52
  unfold g_ref07_Split at h
  refine .en hI Tryz.func52 Tryz.ntmps52 ?_
  refine xs <| rz ?_
  refine es <| xs <| xs <| rz ?_
  refine es ?_
  rcases iK k h with ⟨k, h⟩ | ⟨k, h⟩
  · refine xt <| xs <| rz ?_
    refine es <| xr <| er ?_
    cases h
    exact en fr
  · refine xf <| xk <| es <| xs <| rz ?_
    refine es <| xs <| rz ?_
    refine es <| xs <| rz ?_
    refine es <| xs <| xs <| rz ?_
    refine es <| xb ?_
    obtain ⟨e17, h526, h⟩ := bs h
    refine rb_loop (fun x16 => ⟨envL [(0, .str src_0), (4, .own 0 x16.1.length), (5, .own 1 x16.2.1.length), (6, .int .i64 x16.2.2.1), (7, .int .i64 x16.2.2.2.1), (8, .int .i64 x16.2.2.2.2)], heapL [(0, .vec 86 2 (x16.1.map T_api_Line.d) false), (1, .vec 57 3 (x16.2.1.map T_api_Diag.d) false)], 2, 78⟩) (fun _ => .exit 0) (fun e17 => ⟨envL [(4, .own 0 e17.1.length), (5, .own 1 e17.2.length)], heapL [(0, .vec 86 2 (e17.1.map T_api_Line.d) false), (1, .vec 57 3 (e17.2.map T_api_Diag.d) false)], 2, 78⟩) h526 (wk [(0, none), (1, none)]) (by intro w; simp) ?_ ?_
    · clear h
      intro x16 y h
      unfold g_ref07_Split_s1 at h
      refine xs <| xs <| rz ?_
      refine es ?_
      rcases iK k h with ⟨k, h⟩ | ⟨k, h⟩
      · refine xt <| xk <| es ?_
        obtain ⟨v460, h524, h⟩ := bs h
        refine rb_cut (fun v460 => ⟨envL [(0, .str src_0), (4, .own 0 v460.1.length), (5, .own 1 v460.2.1.length), (6, .int .i64 v460.2.2.1), (7, .int .i64 v460.2.2.2), (8, .int .i64 x16.2.2.2.2)], heapL [(0, .vec 86 2 (v460.1.map T_api_Line.d) false), (1, .vec 57 3 (v460.2.1.map T_api_Diag.d) false)], 2, 78⟩) h524 ?_ ?_
        · clear h
          intro v460 h
          refine xb <| xs ?_
          obtain ⟨v465, h470, h⟩ := bs h
          refine rb_cut (fun v465 => ⟨envL [(0, .str src_0), (4, .own 0 x16.1.length), (5, .own 1 x16.2.1.length), (6, .int .i64 x16.2.2.1), (7, .int .i64 x16.2.2.2.1), (8, .int .i64 x16.2.2.2.2), (32, .bool v465)], heapL [(0, .vec 86 2 (x16.1.map T_api_Line.d) false), (1, .vec 57 3 (x16.2.1.map T_api_Diag.d) false)], 2, 78⟩) h470 ?_ ?_
          · clear h
            intro v465 h
            refine rK fun K466 RK466 hK466 gK466 => zz ?_
            rcases iK k h with ⟨k, h⟩ | ⟨k, h⟩
            · refine zz ?_
              obtain ⟨b468, q, h⟩ := bK q h
              refine zz ?_
              subst hK466 gK466
              cases h
              exact en ⟨rfl, wk []⟩
            · refine zz ?_
              subst hK466 gK466
              cases h
              exact en ⟨rfl, wk []⟩
          · rcases iK k h with ⟨k, h⟩ | ⟨k, h⟩
            · refine xt <| xx <| ee <| bh ?_
              cases h
              exact en ⟨rfl, wk []⟩
            · refine xf <| xk <| es <| xs <| rK fun K480 RK480 hK480 gK480 => zz ?_
              obtain ⟨z481, h482, h⟩ := bind_some h
              obtain ⟨⟨h483, h484, h485, h486⟩, h487⟩ := subI_some h482
              have q := And.intro @h483 <| And.intro @h484 <| And.intro @h485 <| And.intro @h486 <| q
              try simp -implicitDefEqProofs only [vt, vm, sevalprocAttr, dd, k, q] at h487
              have q := And.intro @h487 <| q
              refine zz ?_
              subst hK480 gK480
              refine es <| xs <| xs <| rz ?_
              refine es ?_
              rcases iK k h with ⟨k, h⟩ | ⟨k, h⟩
              · refine xt <| rK fun K491 RK491 hK491 gK491 => zz ?_
                obtain ⟨h492, h⟩ := ite_on h
                have h493 : x16.2.1.length + 1 ≤ 9223372036854775807 := by omega
                try simp only [Nat.reduceLeDiff] at h493
                have q := And.intro @h493 <| And.intro @h492 <| q
                refine zz ?_
                subst hK491 gK491
                refine es <| xs <| rz ?_
                refine es <| rz ?_
                refine bn ?_
                cases h
                exact en ⟨rfl, wk [(1, some 14)]⟩
              · refine xf <| xs <| rK fun K500 RK500 hK500 gK500 => zz ?_
                obtain ⟨r501, h502, h⟩ := bs h
                refine cw (a_ref07_fields hI h502) <| zz ?_
                subst hK500 gK500
                refine es <| xs <| rz ?_
                refine es ?_
                rcases iK k h with ⟨k, h⟩ | ⟨k, h⟩
                · refine xt <| rK fun K506 RK506 hK506 gK506 => zz ?_
                  obtain ⟨h507, h⟩ := ite_on h
                  have h508 : x16.2.1.length + 1 ≤ 9223372036854775807 := by omega
                  try simp only [Nat.reduceLeDiff] at h508
                  have q := And.intro @h508 <| And.intro @h507 <| q
                  refine zz ?_
                  subst hK506 gK506
                  refine es <| xs <| rz ?_
                  refine es <| rz ?_
                  refine bn ?_
                  cases h
                  exact en ⟨rfl, wk [(1, some 25)]⟩
                · refine xf <| xs <| rz ?_
                  refine es ?_
                  rcases iK k h with ⟨k, h⟩ | ⟨k, h⟩
                  · refine xt <| rK fun K515 RK515 hK515 gK515 => zz ?_
                    obtain ⟨h516, h⟩ := ite_on h
                    have h517 : x16.1.length + 1 ≤ 9223372036854775807 := by omega
                    try simp only [Nat.reduceLeDiff] at h517
                    have q := And.intro @h517 <| And.intro @h516 <| q
                    refine zz ?_
                    subst hK515 gK515
                    refine es <| xs <| rz ?_
                    refine es <| rz ?_
                    refine bn ?_
                    cases h
                    exact en ⟨rfl, wk [(0, some 27)]⟩
                  · refine xf <| xk <| es <| xs <| rz ?_
                    refine es <| rz ?_
                    refine bn ?_
                    cases h
                    exact en ⟨rfl, wk []⟩
        · refine rz ?_
          cases h
          exact en ⟨rfl, wk []⟩
      · refine xf <| xx <| ee ?_
        cases h
        exact en ⟨rfl, wk []⟩
    · refine bh <| es <| xs <| rD hI fun K533 RK533 hK533 gK533 => zz ?_
      obtain ⟨z534, h535, h⟩ := bind_some h
      obtain ⟨⟨h536, h537⟩, h538⟩ := subH_some h535
      have q := And.intro @h536 <| And.intro @h537 <| q
      try simp -implicitDefEqProofs only [vt, vm, sevalprocAttr, dd, k, q] at h538
      have q := And.intro @h538 <| q
      refine zz ?_
      refine hd <| zz ?_
      subst hK533 gK533
      refine es <| xr ?_
      cases h
      exact en fr
def g_ref07_Split_z_s1 (src_0 : List UInt8) (x16 : (List T_api_Line) × Int × Int × Int) : Option (Nx ((List T_api_Line) × Int × Int × Int) ((List T_api_Line))) :=
  (if (decide (x16.2.2.2 ≤ (src_0.length : Int))) then (((if (decide (x16.2.2.2 < (src_0.length : Int))) then ((atI src_0 x16.2.2.2).bind fun b297 => (some ((b297.toNat : Int) != 10))) else (some false)) : Option (Bool)).bind fun v294 => (if v294 then (some (.go (x16.1, x16.2.1, x16.2.2.1, (IntKind.i64.wrap (x16.2.2.2 + 1))))) else ((subI src_0 x16.2.2.1 x16.2.2.2).bind fun z311 => (if (decide (1000 < (z311.length : Int))) then none else ((g_ref07_fields z311).bind fun r326 => (if (decide (0 ≤ r326.2)) then none else (if (decide (0 < (r326.1.length : Int))) then (if (x16.1.length + 1) * 32 ≤ 140737488355328 then (some (.go ((x16.1 ++ [(T_api_Line.mk x16.2.1 r326.1)]), (IntKind.i64.wrap (x16.2.1 + 1)), (IntKind.i64.wrap (x16.2.2.2 + 1)), (IntKind.i64.wrap (x16.2.2.2 + 1))))) else none) else (some (.go (x16.1, (IntKind.i64.wrap (x16.2.1 + 1)), (IntKind.i64.wrap (x16.2.2.2 + 1)), (IntKind.i64.wrap (x16.2.2.2 + 1)))))))))))) else (some (.out x16.1)))
def g_ref07_Split_z (src_0 : List UInt8) : Option ((List T_api_Line) × (List T_api_Diag)) :=
  (if (decide (262144 < (src_0.length : Int))) then none else ((iter (g_ref07_Split_z_s1 src_0) ([], 1, 0, 0)).bind fun e17 => (some (e17, []))))
theorem a_ref07_Split_z {I : World → Prop} (hI : Stab I) {src_0 : List UInt8} {r : (List T_api_Line) × (List T_api_Diag)} (h : g_ref07_Split_z src_0 = some r) : AFun Tryz.prog I 52 [.str src_0] (.tup [.sl (r.1.map T_api_Line.d), .nils]) := by
  have dd := dd_EE; have k := True.intro; have q := k; have rs := Tryz.results52
  unfold g_ref07_Split_z at h
  refine .enN hI Tryz.func52 Tryz.ntmps52 ?_
  refine xs <| rz ?_
  refine es <| xs <| xs <| rz ?_
  refine es ?_
  rcases iK k h with ⟨k, h⟩ | ⟨k, h⟩
  · refine xt <| xs <| rz ?_
    refine es <| xr <| er ?_
    cases h
  · refine xf <| xk <| es <| xs <| rz ?_
    refine es <| xs <| rz ?_
    refine es <| xs <| rz ?_
    refine es <| xs <| xs <| rz ?_
    refine es <| xb ?_
    obtain ⟨e17, h346, h⟩ := bs h
    refine rb_loop (fun x16 => ⟨envL [(0, .str src_0), (4, .own 0 x16.1.length), (5, .nils), (6, .int .i64 x16.2.1), (7, .int .i64 x16.2.2.1), (8, .int .i64 x16.2.2.2)], heapL [(0, .vec 86 2 (x16.1.map T_api_Line.d) false)], 1, 78⟩) (fun _ => .exit 0) (fun e17 => ⟨envL [(4, .own 0 e17.length), (5, .nils)], heapL [(0, .vec 86 2 (e17.map T_api_Line.d) false)], 1, 78⟩) h346 (wk [(0, none)]) (by intro w; simp) ?_ ?_
    · clear h
      intro x16 y h
      unfold g_ref07_Split_z_s1 at h
      refine xs <| xs <| rz ?_
      refine es ?_
      rcases iK k h with ⟨k, h⟩ | ⟨k, h⟩
      · refine xt <| xk <| es <| xs <| xb <| xs ?_
        obtain ⟨v294, h299, h⟩ := bs h
        refine rb_cut (fun v294 => ⟨envL [(0, .str src_0), (4, .own 0 x16.1.length), (5, .nils), (6, .int .i64 x16.2.1), (7, .int .i64 x16.2.2.1), (8, .int .i64 x16.2.2.2), (32, .bool v294)], heapL [(0, .vec 86 2 (x16.1.map T_api_Line.d) false)], 1, 78⟩) h299 ?_ ?_
        · clear h
          intro v294 h
          refine rK fun K295 RK295 hK295 gK295 => zz ?_
          rcases iK k h with ⟨k, h⟩ | ⟨k, h⟩
          · refine zz ?_
            obtain ⟨b297, q, h⟩ := bK q h
            refine zz ?_
            subst hK295 gK295
            cases h
            exact en ⟨rfl, wk []⟩
          · refine zz ?_
            subst hK295 gK295
            cases h
            exact en ⟨rfl, wk []⟩
        · rcases iK k h with ⟨k, h⟩ | ⟨k, h⟩
          · refine xt <| xx <| ee <| bh <| es <| rz ?_
            cases h
            exact en ⟨rfl, wk []⟩
          · refine xf <| xk <| es <| xs <| rK fun K310 RK310 hK310 gK310 => zz ?_
            obtain ⟨z311, h312, h⟩ := bind_some h
            obtain ⟨⟨h313, h314, h315, h316⟩, h317⟩ := subI_some h312
            have q := And.intro @h313 <| And.intro @h314 <| And.intro @h315 <| And.intro @h316 <| q
            try simp -implicitDefEqProofs only [vt, vm, sevalprocAttr, dd, k, q] at h317
            have q := And.intro @h317 <| q
            refine zz ?_
            subst hK310 gK310
            refine es <| xs <| xs <| rz ?_
            refine es ?_
            rcases iK k h with ⟨k, h⟩ | ⟨k, h⟩
            · refine xt <| rK fun K321 RK321 hK321 gK321 => zz ?_
              cases h
            · refine xf <| xs <| rK fun K325 RK325 hK325 gK325 => zz ?_
              obtain ⟨r326, h327, h⟩ := bs h
              refine cw (a_ref07_fields hI h327) <| zz ?_
              subst hK325 gK325
              refine es <| xs <| rz ?_
              refine es ?_
              rcases iK k h with ⟨k, h⟩ | ⟨k, h⟩
              · refine xt <| rK fun K331 RK331 hK331 gK331 => zz ?_
                cases h
              · refine xf <| xs <| rz ?_
                refine es ?_
                rcases iK k h with ⟨k, h⟩ | ⟨k, h⟩
                · refine xt <| rK fun K335 RK335 hK335 gK335 => zz ?_
                  obtain ⟨h336, h⟩ := ite_on h
                  have h337 : x16.1.length + 1 ≤ 9223372036854775807 := by omega
                  try simp only [Nat.reduceLeDiff] at h337
                  have q := And.intro @h337 <| And.intro @h336 <| q
                  refine zz ?_
                  subst hK335 gK335
                  refine es <| xs <| rz ?_
                  refine es <| rz ?_
                  refine bn <| es <| rz ?_
                  cases h
                  exact en ⟨rfl, wk [(0, some 26)]⟩
                · refine xf <| xk <| es <| xs <| rz ?_
                  refine es <| rz ?_
                  refine bn <| es <| rz ?_
                  cases h
                  exact en ⟨rfl, wk []⟩
      · refine xf <| xx <| ee ?_
        cases h
        exact en ⟨rfl, wk []⟩
    · refine bh <| es <| xs <| rd hI ?_
      refine es <| xr ?_
      cases h
      exact en fn
def g_ref07_Split_n (src_0 : List UInt8) : Option ((List T_api_Line) × (List T_api_Diag)) := (g_ref07_Split src_0).bind fun x => if x.2.isEmpty then ((g_ref07_Split_z src_0).bind fun l => some (l.1, [])) else some x
theorem a_ref07_Split_n {I : World → Prop} (hI : Stab I) {src_0 : List UInt8} {r : (List T_api_Line) × (List T_api_Diag)} (h : g_ref07_Split_n src_0 = some r) : AFun Tryz.prog I 52 [.str src_0] (.tup [.sl (r.1.map T_api_Line.d), nslD (r.2.map T_api_Diag.d)]) := by
  unfold g_ref07_Split_n at h
  obtain ⟨x, h0, h⟩ := bs h
  cases hx : x.2.isEmpty
  · rw [hx] at h
    cases h
    rw [nslD_f hx]
    exact a_ref07_Split hI h0
  · rw [hx, if_pos rfl] at h
    obtain ⟨l, h1, h⟩ := bs h
    cases h
    have a := a_ref07_Split_z hI h1
    exact a
def g_ref07_Scan (l_0 : T_api_Line) : Option (TRS) :=
  (some (TRS.mk l_0 0 0 0))
theorem a_ref07_Scan {I : World → Prop} (hI : Stab I) {H : Nat → Option Blk} {nid : Nat} {l_0 : T_api_Line} {r : TRS} (h : g_ref07_Scan l_0 = some r) : CallOK Tryz.prog I 96 [T_api_Line.d l_0] H nid (.ptr nid 0) [(nid, some (.box none [.int .i64 r.Line.Number, .sl (r.Line.Fields.map T_api_Field.d), .int .i64 r.At, .int .i64 r.Code, .int .i64 r.Col]))] := by
  refine CallOK.intro (is := []) (css := []) (ds0 := [T_api_Line.d l_0]) (pl := []) hI Tryz.func96 rfl (by decide) (by simp [Tryz.f96]) (by kernel_rfl) rfl rfl rfl rfl (lentAll_of trivial) (by simp) ?_
  have dd := dd_EE; have k := True.intro; have q := k; have rs := Tryz.results96
  unfold g_ref07_Scan at h
  simp only [lentH, List.length_cons, List.length_nil, Nat.zero_add, Nat.reduceAdd, Tryz.ntmps96, dd_EE]
  refine xs <| rz ?_
  refine es <| xs <| rz ?_
  refine es <| xr ?_
  cases h
  exact en fp
def gRS_Left (s_0 : TRS) : Option (Int × TRS) :=
  (if (s_0.Code != 0) then (some (0, s_0)) else (some ((IntKind.i64.wrap ((s_0.Line.Fields.length : Int) - s_0.At)), s_0)))
theorem aRS_Left {I : World → Prop} (hI : Stab I) {H : Nat → Option Blk} {nid : Nat} {i0 : Nat} {p0 : Option Nat} {s_0 : TRS} {r : Int × TRS} (h : gRS_Left s_0 = some r) (b0 : H i0 = some (.box p0 [.int .i64 s_0.Line.Number, .sl (s_0.Line.Fields.map T_api_Field.d), .int .i64 s_0.At, .int .i64 s_0.Code, .int .i64 s_0.Col])) : CallOK Tryz.prog I 106 [.ptr i0 0] H nid (.int .i64 r.1) [(i0, some (.box p0 [.int .i64 r.2.Line.Number, .sl (r.2.Line.Fields.map T_api_Field.d), .int .i64 r.2.At, .int .i64 r.2.Code, .int .i64 r.2.Col]))] := by
  refine CallOK.intro (is := [(i0, p0)]) (css := [[.int .i64 s_0.Line.Number, .sl (s_0.Line.Fields.map T_api_Field.d), .int .i64 s_0.At, .int .i64 s_0.Code, .int .i64 s_0.Col]]) (ds0 := [.ptr 0 0]) (pl := [(0, none)]) hI Tryz.func106 rfl (by decide) (by simp [Tryz.f106]) (by kernel_rfl) rfl rfl rfl rfl (lentAll_of ⟨⟨b0, rfl⟩, trivial⟩) (by simp) ?_
  have dd := dd_EE; have k := True.intro; have q := k; have rs := Tryz.results106
  unfold gRS_Left at h
  simp only [lentH, List.length_cons, List.length_nil, Nat.zero_add, Nat.reduceAdd, Tryz.ntmps106, dd_EE]
  refine xs <| rz ?_
  refine es <| xs <| xs <| rz ?_
  refine es ?_
  rcases iK k h with ⟨k, h⟩ | ⟨k, h⟩
  · refine xt <| xs <| rz ?_
    refine es <| xr <| er ?_
    cases h
    exact en fp
  · refine xf <| xk <| es <| xs <| rd hI ?_
    refine es <| xr ?_
    cases h
    exact en fp
def gRS_fail (s_0 : TRS) (e_1 : Int) (column_2 : Int) : Option (TRS) :=
  (if (s_0.Code == 0) then (some (TRS.mk s_0.Line s_0.At e_1 column_2)) else (some s_0))
theorem aRS_fail {I : World → Prop} (hI : Stab I) {H : Nat → Option Blk} {nid : Nat} {i0 : Nat} {p0 : Option Nat} {s_0 : TRS} {e_1 : Int} {column_2 : Int} {r : TRS} (h : gRS_fail s_0 e_1 column_2 = some r) (b0 : H i0 = some (.box p0 [.int .i64 s_0.Line.Number, .sl (s_0.Line.Fields.map T_api_Field.d), .int .i64 s_0.At, .int .i64 s_0.Code, .int .i64 s_0.Col])) : CallOK Tryz.prog I 151 [.ptr i0 0, .int .i64 e_1, .int .i64 column_2] H nid (.tup []) [(i0, some (.box p0 [.int .i64 r.Line.Number, .sl (r.Line.Fields.map T_api_Field.d), .int .i64 r.At, .int .i64 r.Code, .int .i64 r.Col]))] := by
  refine CallOK.intro (is := [(i0, p0)]) (css := [[.int .i64 s_0.Line.Number, .sl (s_0.Line.Fields.map T_api_Field.d), .int .i64 s_0.At, .int .i64 s_0.Code, .int .i64 s_0.Col]]) (ds0 := [.ptr 0 0, .int .i64 e_1, .int .i64 column_2]) (pl := [(0, none)]) hI Tryz.func151 rfl (by decide) (by simp [Tryz.f151]) (by kernel_rfl) rfl rfl rfl rfl (lentAll_of ⟨⟨b0, rfl⟩, trivial⟩) (by simp) ?_
  have dd := dd_EE; have k := True.intro; have q := k; have rs := Tryz.results151
  unfold gRS_fail at h
  simp only [lentH, List.length_cons, List.length_nil, Nat.zero_add, Nat.reduceAdd, Tryz.ntmps151, dd_EE]
  refine xs <| rz ?_
  refine es ?_
  rcases iK k h with ⟨k, h⟩ | ⟨k, h⟩
  · refine xt <| rz ?_
    cases h
    exact en fp
  · refine xf <| xk ?_
    cases h
    exact en fp
def gRS_take (s_0 : TRS) (quoted_1 : Bool) : Option (T_api_Field × Bool × TRS) :=
  (if (s_0.Code != 0) then (some ((T_api_Field.mk [] 0 false), false, s_0)) else ((gRS_Left s_0).bind fun r12 => (if (r12.1 == 0) then ((gRS_fail r12.2 4 0).bind fun r19 => (some ((T_api_Field.mk [] 0 false), false, r19))) else ((atI r12.2.Line.Fields r12.2.At).bind fun y27 => (if (y27.Quoted == quoted_1) then (some (y27, true, (TRS.mk r12.2.Line (IntKind.i64.wrap (r12.2.At + 1)) r12.2.Code r12.2.Col))) else ((gRS_fail r12.2 4 y27.Column).bind fun r40 => (some ((T_api_Field.mk [] 0 false), false, r40))))))))
theorem aRS_take {I : World → Prop} (hI : Stab I) {H : Nat → Option Blk} {nid : Nat} {i0 : Nat} {p0 : Option Nat} {s_0 : TRS} {quoted_1 : Bool} {r : T_api_Field × Bool × TRS} (h : gRS_take s_0 quoted_1 = some r) (b0 : H i0 = some (.box p0 [.int .i64 s_0.Line.Number, .sl (s_0.Line.Fields.map T_api_Field.d), .int .i64 s_0.At, .int .i64 s_0.Code, .int .i64 s_0.Col])) : CallOK Tryz.prog I 149 [.ptr i0 0, .bool quoted_1] H nid (.tup [T_api_Field.d r.1, .bool r.2.1]) [(i0, some (.box p0 [.int .i64 r.2.2.Line.Number, .sl (r.2.2.Line.Fields.map T_api_Field.d), .int .i64 r.2.2.At, .int .i64 r.2.2.Code, .int .i64 r.2.2.Col]))] := by
  refine CallOK.intro (is := [(i0, p0)]) (css := [[.int .i64 s_0.Line.Number, .sl (s_0.Line.Fields.map T_api_Field.d), .int .i64 s_0.At, .int .i64 s_0.Code, .int .i64 s_0.Col]]) (ds0 := [.ptr 0 0, .bool quoted_1]) (pl := [(0, none)]) hI Tryz.func149 rfl (by decide) (by simp [Tryz.f149]) (by kernel_rfl) rfl rfl rfl rfl (lentAll_of ⟨⟨b0, rfl⟩, trivial⟩) (by simp) ?_
  have dd := dd_EE; have k := True.intro; have q := k; have rs := Tryz.results149
  unfold gRS_take at h
  simp only [lentH, List.length_cons, List.length_nil, Nat.zero_add, Nat.reduceAdd, Tryz.ntmps149, dd_EE]
  refine xs <| rz ?_
  refine es <| xs <| xs <| rz ?_
  refine es ?_
  rcases iK k h with ⟨k, h⟩ | ⟨k, h⟩
  · refine xt <| xs <| rz ?_
    refine es <| xr <| er ?_
    cases h
    exact en fp
  · refine xf <| xk <| es <| xs <| xs <| rK fun K11 RK11 hK11 gK11 => zz ?_
    obtain ⟨r12, h13, h⟩ := bs h
    refine eW.intro (aRS_Left hI (nid := 13) (i0 := 0) (p0 := (some 0)) h13 fz) fi rfl <| zz ?_
    subst hK11 gK11
    refine es ?_
    rcases iK k h with ⟨k, h⟩ | ⟨k, h⟩
    · refine xt <| xs <| rK fun K18 RK18 hK18 gK18 => zz ?_
      obtain ⟨r19, h20, h⟩ := bs h
      refine eW.intro (aRS_fail hI (nid := 16) (i0 := 0) (p0 := (some 0)) h20 fz) fi rfl <| zz ?_
      subst hK18 gK18
      refine es <| xs <| rz ?_
      refine es <| xr <| er ?_
      cases h
      exact en fp
    · refine xf <| xk <| es <| xs <| rD hI fun K26 RK26 hK26 gK26 => zz ?_
      obtain ⟨y27, q, h⟩ := bK q h
      refine zz ?_
      refine hd <| zz ?_
      subst hK26 gK26
      refine es <| xs <| xs <| rz ?_
      refine es ?_
      rcases iK k h with ⟨k, h⟩ | ⟨k, h⟩
      · refine xf <| xk <| es <| xs <| rz ?_
        refine es <| xs <| rz ?_
        refine es <| xr ?_
        cases h
        exact en fp
      · refine xt <| xs <| rK fun K39 RK39 hK39 gK39 => zz ?_
        obtain ⟨r40, h41, h⟩ := bs h
        refine eW.intro (aRS_fail hI (nid := 35) (i0 := 0) (p0 := (some 0)) h41 fz) fi rfl <| zz ?_
        subst hK39 gK39
        refine es <| xs <| rz ?_
        refine es <| xr <| er ?_
        cases h
        exact en fp
def gRS_Word (s_0 : TRS) : Option ((List UInt8) × TRS) :=
  ((gRS_take s_0 false).bind fun r7 => (some (r7.1.Text, r7.2.2)))
theorem aRS_Word {I : World → Prop} (hI : Stab I) {H : Nat → Option Blk} {nid : Nat} {i0 : Nat} {p0 : Option Nat} {s_0 : TRS} {r : (List UInt8) × TRS} (h : gRS_Word s_0 = some r) (b0 : H i0 = some (.box p0 [.int .i64 s_0.Line.Number, .sl (s_0.Line.Fields.map T_api_Field.d), .int .i64 s_0.At, .int .i64 s_0.Code, .int .i64 s_0.Col])) : CallOK Tryz.prog I 97 [.ptr i0 0] H nid (.str r.1) [(i0, some (.box p0 [.int .i64 r.2.Line.Number, .sl (r.2.Line.Fields.map T_api_Field.d), .int .i64 r.2.At, .int .i64 r.2.Code, .int .i64 r.2.Col]))] := by
  refine CallOK.intro (is := [(i0, p0)]) (css := [[.int .i64 s_0.Line.Number, .sl (s_0.Line.Fields.map T_api_Field.d), .int .i64 s_0.At, .int .i64 s_0.Code, .int .i64 s_0.Col]]) (ds0 := [.ptr 0 0]) (pl := [(0, none)]) hI Tryz.func97 rfl (by decide) (by simp [Tryz.f97]) (by kernel_rfl) rfl rfl rfl rfl (lentAll_of ⟨⟨b0, rfl⟩, trivial⟩) (by simp) ?_
  have dd := dd_EE; have k := True.intro; have q := k; have rs := Tryz.results97
  unfold gRS_Word at h
  simp only [lentH, List.length_cons, List.length_nil, Nat.zero_add, Nat.reduceAdd, Tryz.ntmps97, dd_EE]
  refine xs <| rz ?_
  refine es <| xs <| rK fun K6 RK6 hK6 gK6 => zz ?_
  obtain ⟨r7, h8, h⟩ := bs h
  refine eW.intro (aRS_take hI (nid := 3) (i0 := 0) (p0 := (some 0)) h8 fz) fi rfl <| zz ?_
  subst hK6 gK6
  refine es <| xs <| rz ?_
  refine es <| xr ?_
  cases h
  exact en fp
def gRS_Quoted (s_0 : TRS) : Option ((List UInt8) × TRS) :=
  ((gRS_take s_0 true).bind fun r7 => (some (r7.1.Text, r7.2.2)))
theorem aRS_Quoted {I : World → Prop} (hI : Stab I) {H : Nat → Option Blk} {nid : Nat} {i0 : Nat} {p0 : Option Nat} {s_0 : TRS} {r : (List UInt8) × TRS} (h : gRS_Quoted s_0 = some r) (b0 : H i0 = some (.box p0 [.int .i64 s_0.Line.Number, .sl (s_0.Line.Fields.map T_api_Field.d), .int .i64 s_0.At, .int .i64 s_0.Code, .int .i64 s_0.Col])) : CallOK Tryz.prog I 98 [.ptr i0 0] H nid (.str r.1) [(i0, some (.box p0 [.int .i64 r.2.Line.Number, .sl (r.2.Line.Fields.map T_api_Field.d), .int .i64 r.2.At, .int .i64 r.2.Code, .int .i64 r.2.Col]))] := by
  refine CallOK.intro (is := [(i0, p0)]) (css := [[.int .i64 s_0.Line.Number, .sl (s_0.Line.Fields.map T_api_Field.d), .int .i64 s_0.At, .int .i64 s_0.Code, .int .i64 s_0.Col]]) (ds0 := [.ptr 0 0]) (pl := [(0, none)]) hI Tryz.func98 rfl (by decide) (by simp [Tryz.f98]) (by kernel_rfl) rfl rfl rfl rfl (lentAll_of ⟨⟨b0, rfl⟩, trivial⟩) (by simp) ?_
  have dd := dd_EE; have k := True.intro; have q := k; have rs := Tryz.results98
  unfold gRS_Quoted at h
  simp only [lentH, List.length_cons, List.length_nil, Nat.zero_add, Nat.reduceAdd, Tryz.ntmps98, dd_EE]
  refine xs <| rz ?_
  refine es <| xs <| rK fun K6 RK6 hK6 gK6 => zz ?_
  obtain ⟨r7, h8, h⟩ := bs h
  refine eW.intro (aRS_take hI (nid := 3) (i0 := 0) (p0 := (some 0)) h8 fz) fi rfl <| zz ?_
  subst hK6 gK6
  refine es <| xs <| rz ?_
  refine es <| xr ?_
  cases h
  exact en fp
def gRS_Fail (s_0 : TRS) (e_1 : Int) : Option (TRS) :=
  (if (e_1 == 0) then (some s_0) else (if (decide (0 < s_0.At)) then ((atI s_0.Line.Fields (IntKind.i64.wrap (s_0.At - 1))).bind fun y10 => ((gRS_fail s_0 e_1 y10.Column).bind fun r13 => (some r13))) else ((gRS_fail s_0 e_1 0).bind fun r16 => (some r16))))
theorem aRS_Fail {I : World → Prop} (hI : Stab I) {H : Nat → Option Blk} {nid : Nat} {i0 : Nat} {p0 : Option Nat} {s_0 : TRS} {e_1 : Int} {r : TRS} (h : gRS_Fail s_0 e_1 = some r) (b0 : H i0 = some (.box p0 [.int .i64 s_0.Line.Number, .sl (s_0.Line.Fields.map T_api_Field.d), .int .i64 s_0.At, .int .i64 s_0.Code, .int .i64 s_0.Col])) : CallOK Tryz.prog I 100 [.ptr i0 0, .int .i64 e_1] H nid (.tup []) [(i0, some (.box p0 [.int .i64 r.Line.Number, .sl (r.Line.Fields.map T_api_Field.d), .int .i64 r.At, .int .i64 r.Code, .int .i64 r.Col]))] := by
  refine CallOK.intro (is := [(i0, p0)]) (css := [[.int .i64 s_0.Line.Number, .sl (s_0.Line.Fields.map T_api_Field.d), .int .i64 s_0.At, .int .i64 s_0.Code, .int .i64 s_0.Col]]) (ds0 := [.ptr 0 0, .int .i64 e_1]) (pl := [(0, none)]) hI Tryz.func100 rfl (by decide) (by simp [Tryz.f100]) (by kernel_rfl) rfl rfl rfl rfl (lentAll_of ⟨⟨b0, rfl⟩, trivial⟩) (by simp) ?_
  have dd := dd_EE; have k := True.intro; have q := k; have rs := Tryz.results100
  unfold gRS_Fail at h
  simp only [lentH, List.length_cons, List.length_nil, Nat.zero_add, Nat.reduceAdd, Tryz.ntmps100, dd_EE]
  refine xs <| xs <| rz ?_
  refine es ?_
  rcases iK k h with ⟨k, h⟩ | ⟨k, h⟩
  · refine xt <| xr <| er ?_
    cases h
    exact en fp
  · refine xf <| xk <| es <| xs <| rz ?_
    refine es <| xs <| xs <| rz ?_
    refine es ?_
    rcases iK k h with ⟨k, h⟩ | ⟨k, h⟩
    · refine xt <| rD hI fun K9 RK9 hK9 gK9 => zz ?_
      obtain ⟨y10, q, h⟩ := bK q h
      refine zz ?_
      subst hK9 gK9
      refine es <| rK fun K12 RK12 hK12 gK12 => zz ?_
      obtain ⟨r13, h14, h⟩ := bs h
      refine eW.intro (aRS_fail hI (nid := 30) (i0 := 0) (p0 := (some 0)) h14 fz) fi rfl <| zz ?_
      subst hK12 gK12
      cases h
      exact en fp
    · refine xf <| xk <| es <| rK fun K15 RK15 hK15 gK15 => zz ?_
      obtain ⟨r16, h17, h⟩ := bs h
      refine eW.intro (aRS_fail hI (nid := 16) (i0 := 0) (p0 := (some 0)) h17 fz) fi rfl <| zz ?_
      subst hK15 gK15
      cases h
      exact en fp
def gRS_Choice_s1 (words_1 : List (List UInt8)) (r7 : T_api_Field × Bool × TRS) (x14 : Int) : Option (Nx (Int) (Int ⊕ Unit)) :=
  (if (decide (x14 < (words_1.length : Int))) then ((atI words_1 x14).bind fun y89 => (if (y89 == r7.1.Text) then (some (.out (.inl x14))) else (some (.go (IntKind.i64.wrap (x14 + 1)))))) else (some (.out (.inr ()))))
def gRS_Choice (s_0 : TRS) (words_1 : List (List UInt8)) : Option (Int × TRS) :=
  ((gRS_take s_0 false).bind fun r7 => (if r7.2.1 then ((iter (gRS_Choice_s1 words_1 r7) 0).bind fun e15 => (match e15 with | Sum.inl e15 => (some (e15, r7.2.2)) | Sum.inr (e15) => ((gRS_fail r7.2.2 4 r7.1.Column).bind fun r102 => (some (-1, r102))))) else (some (-1, r7.2.2))))
theorem aRS_Choice {I : World → Prop} (hI : Stab I) {H : Nat → Option Blk} {nid : Nat} {i0 : Nat} {p0 : Option Nat} {s_0 : TRS} {words_1 : List (List UInt8)} {r : Int × TRS} (h : gRS_Choice s_0 words_1 = some r) (b0 : H i0 = some (.box p0 [.int .i64 s_0.Line.Number, .sl (s_0.Line.Fields.map T_api_Field.d), .int .i64 s_0.At, .int .i64 s_0.Code, .int .i64 s_0.Col])) : CallOK Tryz.prog I 101 [.ptr i0 0, .sl (words_1.map D.str)] H nid (.int .i64 r.1) [(i0, some (.box p0 [.int .i64 r.2.Line.Number, .sl (r.2.Line.Fields.map T_api_Field.d), .int .i64 r.2.At, .int .i64 r.2.Code, .int .i64 r.2.Col]))] := by
  refine CallOK.intro (is := [(i0, p0)]) (css := [[.int .i64 s_0.Line.Number, .sl (s_0.Line.Fields.map T_api_Field.d), .int .i64 s_0.At, .int .i64 s_0.Code, .int .i64 s_0.Col]]) (ds0 := [.ptr 0 0, .sl (words_1.map D.str)]) (pl := [(0, none)]) hI Tryz.func101 rfl (by decide) (by simp [Tryz.f101]) (by kernel_rfl) rfl rfl rfl rfl (lentAll_of ⟨⟨b0, rfl⟩, trivial⟩) (by simp) ?_
  have dd := dd_EE; have k := True.intro; have q := k; have rs := Tryz.results101
  unfold gRS_Choice at h
  simp only [lentH, List.length_cons, List.length_nil, Nat.zero_add, Nat.reduceAdd, Tryz.ntmps101, dd_EE]
  refine xs <| rz ?_
  refine es <| xs <| rK fun K6 RK6 hK6 gK6 => zz ?_
  obtain ⟨r7, h8, h⟩ := bs h
  refine eW.intro (aRS_take hI (nid := 3) (i0 := 0) (p0 := (some 0)) h8 fz) fi rfl <| zz ?_
  subst hK6 gK6
  refine es <| xs <| xs <| rz ?_
  refine es ?_
  rcases iK k h with ⟨k, h⟩ | ⟨k, h⟩
  · refine xf <| xk <| es <| xs <| xs <| rz ?_
    refine es <| xb ?_
    obtain ⟨e15, h97, h⟩ := bs h
    refine rb_loop (fun x14 => ⟨envL [(0, .ptr 0 0), (5, .ptr 1 0), (16, .sl (words_1.map D.str)), (17, .int .i64 (words_1.length : Int)), (18, .int .i64 x14)], heapL [(0, .box (some 0) [.int .i64 r7.2.2.Line.Number, .sl (r7.2.2.Line.Fields.map T_api_Field.d), .int .i64 r7.2.2.At, .int .i64 r7.2.2.Code, .int .i64 r7.2.2.Col]), (1, .box none [.str r7.1.Text, .int .i64 r7.1.Column, .bool r7.1.Quoted])], 2, 33⟩) (fun w => match w with | Sum.inl _ => .ret | Sum.inr (_) => .exit 0) (fun w => match w with | Sum.inl e15 => ⟨envL [(0, .ptr 0 0), (4, .int .i64 e15)], heapL [(0, .box (some 0) [.int .i64 r7.2.2.Line.Number, .sl (r7.2.2.Line.Fields.map T_api_Field.d), .int .i64 r7.2.2.At, .int .i64 r7.2.2.Code, .int .i64 r7.2.2.Col])], 1, 33⟩ | Sum.inr (e15) => ⟨envL [(0, .ptr 0 0), (5, .ptr 1 0)], heapL [(0, .box (some 0) [.int .i64 r7.2.2.Line.Number, .sl (r7.2.2.Line.Fields.map T_api_Field.d), .int .i64 r7.2.2.At, .int .i64 r7.2.2.Code, .int .i64 r7.2.2.Col]), (1, .box none [.str r7.1.Text, .int .i64 r7.1.Column, .bool r7.1.Quoted])], 2, 33⟩) h97 (wk [(1, some 7)]) (by intro w; rcases w with w | w <;> simp) ?_ ?_
    · clear h
      intro x14 y h
      unfold gRS_Choice_s1 at h
      refine xs <| rz ?_
      refine es <| xs ?_
      rcases iK k h with ⟨k, h⟩ | ⟨k, h⟩
      · refine xt <| xk <| es <| xs <| xb <| xs <| rK fun K88 RK88 hK88 gK88 => zz ?_
        obtain ⟨y89, q, h⟩ := bK q h
        refine zz ?_
        subst hK88 gK88
        refine es <| xs <| rz ?_
        refine es ?_
        rcases iK k h with ⟨k, h⟩ | ⟨k, h⟩
        · refine xt <| xs <| rz ?_
          refine es <| xr <| br <| er ?_
          cases h
          exact en ⟨rfl, wk []⟩
        · refine xf <| xk <| bn <| es <| rz ?_
          cases h
          exact en ⟨rfl, wk []⟩
      · refine xf <| xx <| ee ?_
        cases h
        exact en ⟨rfl, wk []⟩
    · rcases e15 with e15 | e15
      · try dsimp only at h ⊢
        refine br <| er ?_
        cases h
        exact en fp
      · try dsimp only at h ⊢
        refine bh <| es <| xs <| rK fun K101 RK101 hK101 gK101 => zz ?_
        obtain ⟨r102, h103, h⟩ := bs h
        refine eW.intro (aRS_fail hI (nid := 5) (i0 := 0) (p0 := (some 0)) h103 fz) fi rfl <| zz ?_
        subst hK101 gK101
        refine es <| xs <| rz ?_
        refine es <| xr ?_
        cases h
        exact en fp
  · refine xt <| xs <| rz ?_
    refine es <| xr <| er ?_
    cases h
    exact en fp
def gRS_End (s_0 : TRS) : Option (T_api_Diag × Bool × TRS) :=
  (if (s_0.Code != 0) then (some ((T_api_Diag.mk s_0.Line.Number s_0.Col s_0.Code), true, s_0)) else ((gRS_Left s_0).bind fun r14 => (if (decide (0 < r14.1)) then ((atI r14.2.Line.Fields r14.2.At).bind fun y21 => (some ((T_api_Diag.mk r14.2.Line.Number y21.Column 4), true, r14.2))) else (some ((T_api_Diag.mk 0 0 0), false, r14.2)))))
theorem aRS_End {I : World → Prop} (hI : Stab I) {H : Nat → Option Blk} {nid : Nat} {i0 : Nat} {p0 : Option Nat} {s_0 : TRS} {r : T_api_Diag × Bool × TRS} (h : gRS_End s_0 = some r) (b0 : H i0 = some (.box p0 [.int .i64 s_0.Line.Number, .sl (s_0.Line.Fields.map T_api_Field.d), .int .i64 s_0.At, .int .i64 s_0.Code, .int .i64 s_0.Col])) : CallOK Tryz.prog I 102 [.ptr i0 0] H nid (.tup [T_api_Diag.d r.1, .bool r.2.1]) [(i0, some (.box p0 [.int .i64 r.2.2.Line.Number, .sl (r.2.2.Line.Fields.map T_api_Field.d), .int .i64 r.2.2.At, .int .i64 r.2.2.Code, .int .i64 r.2.2.Col]))] := by
  refine CallOK.intro (is := [(i0, p0)]) (css := [[.int .i64 s_0.Line.Number, .sl (s_0.Line.Fields.map T_api_Field.d), .int .i64 s_0.At, .int .i64 s_0.Code, .int .i64 s_0.Col]]) (ds0 := [.ptr 0 0]) (pl := [(0, none)]) hI Tryz.func102 rfl (by decide) (by simp [Tryz.f102]) (by kernel_rfl) rfl rfl rfl rfl (lentAll_of ⟨⟨b0, rfl⟩, trivial⟩) (by simp) ?_
  have dd := dd_EE; have k := True.intro; have q := k; have rs := Tryz.results102
  unfold gRS_End at h
  simp only [lentH, List.length_cons, List.length_nil, Nat.zero_add, Nat.reduceAdd, Tryz.ntmps102, dd_EE]
  refine xs <| rz ?_
  refine es <| xs <| xs <| rz ?_
  refine es <| xf <| xk <| es <| xs <| xs <| rz ?_
  refine es ?_
  rcases iK k h with ⟨k, h⟩ | ⟨k, h⟩
  · refine xt <| xs <| rD hI fun K9 RK9 hK9 gK9 => zz ?_
    refine hd <| zz ?_
    subst hK9 gK9
    refine es <| xr <| er ?_
    cases h
    exact en fp
  · refine xf <| xk <| es <| xs <| xs <| rK fun K13 RK13 hK13 gK13 => zz ?_
    obtain ⟨r14, h15, h⟩ := bs h
    refine eW.intro (aRS_Left hI (nid := 11) (i0 := 0) (p0 := (some 0)) h15 fz) fi rfl <| zz ?_
    subst hK13 gK13
    refine es ?_
    rcases iK k h with ⟨k, h⟩ | ⟨k, h⟩
    · refine xt <| xs <| rD hI fun K20 RK20 hK20 gK20 => zz ?_
      obtain ⟨y21, q, h⟩ := bK q h
      refine zz ?_
      refine hd <| zz ?_
      subst hK20 gK20
      refine es <| xr <| er ?_
      cases h
      exact en fp
    · refine xf <| xk <| es <| xs <| rz ?_
      refine es <| xr ?_
      cases h
      exact en fp
def g_ref07_Number_s1 (z19 : List UInt8) (x43 : Int) : Option (Nx (Int) (Unit ⊕ Unit)) :=
  (if (decide (x43 < (z19.length : Int))) then ((atI z19 x43).bind fun b97 => ((g_ref07_digit (b97.toNat : Int)).bind fun r99 => (if r99 then (some (.go (IntKind.i64.wrap (x43 + 1)))) else (some (.out (.inl ())))))) else (some (.out (.inr ()))))
def g_ref07_Number_s2 (z19 : List UInt8) (x115 : Int × Int) : Option (Nx (Int × Int) (Int)) :=
  (if (decide (x115.2 < (z19.length : Int))) then ((atI z19 x115.2).bind fun b134 => (some (.go ((IntKind.u64.wrap ((IntKind.u64.wrap (10 * x115.1)) + (IntKind.u64.wrap (IntKind.u8.wrap ((b134.toNat : Int) - 48))))), (IntKind.i64.wrap (x115.2 + 1)))))) else (some (.out x115.1)))
def g_ref07_Number_s3 (s_0 : List UInt8) (x182 : Int) : Option (Nx (Int) (Unit ⊕ Unit)) :=
  (if (decide (x182 < (s_0.length : Int))) then ((atI s_0 x182).bind fun b236 => ((g_ref07_digit (b236.toNat : Int)).bind fun r238 => (if r238 then (some (.go (IntKind.i64.wrap (x182 + 1)))) else (some (.out (.inl ())))))) else (some (.out (.inr ()))))
def g_ref07_Number_s4 (s_0 : List UInt8) (x254 : Int × Int) : Option (Nx (Int × Int) (Int)) :=
  (if (decide (x254.2 < (s_0.length : Int))) then ((atI s_0 x254.2).bind fun b273 => (some (.go ((IntKind.u64.wrap ((IntKind.u64.wrap (10 * x254.1)) + (IntKind.u64.wrap (IntKind.u8.wrap ((b273.toNat : Int) - 48))))), (IntKind.i64.wrap (x254.2 + 1)))))) else (some (.out x254.1)))
def g_ref07_Number (s_0 : List UInt8) (lo_1 : Int) (hi_2 : Int) : Option (Int × Int) :=
  (((if (decide (0 < (s_0.length : Int))) then ((atI s_0 0).bind fun b12 => (some ((b12.toNat : Int) == 45))) else (some false)) : Option (Bool)).bind fun v9 => (if v9 then ((subL s_0 1).bind fun z19 => (((if ((z19.length : Int) == 0) then (some true) else ((atI z19 0).bind fun b33 => (if ((b33.toNat : Int) == 48) then (if (decide (1 < (z19.length : Int))) then (some true) else (some v9)) else (some false)))) : Option (Bool)).bind fun v30 => (if v30 then (some (0, 4)) else ((iter (g_ref07_Number_s1 z19) 0).bind fun e44 => (match e44 with | Sum.inl e44 => (some (0, 4)) | Sum.inr (e44) => (if (decide (19 < (z19.length : Int))) then (some (0, 2)) else ((iter (g_ref07_Number_s2 z19) (0, 0)).bind fun e116 => (((if (decide (9223372036854775808 < e116)) then (some true) else (some false)) : Option (Bool)).bind fun v140 => (if v140 then (some (0, 2)) else (if (decide ((IntKind.i64.wrap (0 - (IntKind.i64.wrap e116))) < lo_1)) then (some (0, 2)) else (if (decide (hi_2 < (IntKind.i64.wrap (0 - (IntKind.i64.wrap e116))))) then (some (0, 2)) else (some ((IntKind.i64.wrap (0 - (IntKind.i64.wrap e116))), 0))))))))))))) else (((if ((s_0.length : Int) == 0) then (some true) else ((atI s_0 0).bind fun b172 => (if ((b172.toNat : Int) == 48) then (if (decide (1 < (s_0.length : Int))) then (some true) else (some v9)) else (some false)))) : Option (Bool)).bind fun v169 => (if v169 then (some (0, 4)) else ((iter (g_ref07_Number_s3 s_0) 0).bind fun e183 => (match e183 with | Sum.inl e183 => (some (0, 4)) | Sum.inr (e183) => (if (decide (19 < (s_0.length : Int))) then (some (0, 2)) else ((iter (g_ref07_Number_s4 s_0) (0, 0)).bind fun e255 => (((if (decide (9223372036854775808 < e255)) then (some true) else (some (e255 == 9223372036854775808))) : Option (Bool)).bind fun v279 => (if v279 then (some (0, 2)) else (if (decide ((IntKind.i64.wrap e255) < lo_1)) then (some (0, 2)) else (if (decide (hi_2 < (IntKind.i64.wrap e255))) then (some (0, 2)) else (some ((IntKind.i64.wrap e255), 0))))))))))))))
theorem a_ref07_Number {I : World → Prop} (hI : Stab I) {s_0 : List UInt8} {lo_1 : Int} {hi_2 : Int} {r : Int × Int} (h : g_ref07_Number s_0 lo_1 hi_2 = some r) : AFun Tryz.prog I 152 [.str s_0, .int .i64 lo_1, .int .i64 hi_2] (.tup [.int .i64 r.1, .int .i64 r.2]) := by
  have dd := dd_EE; have k := True.intro; have q := k; have rs := Tryz.results152
  unfold g_ref07_Number at h
  refine .en hI Tryz.func152 Tryz.ntmps152 ?_
  refine xs <| rz ?_
  refine es <| xs <| rz ?_
  refine es ?_
  obtain ⟨v9, h14, h⟩ := bs h
  refine rb_cut (fun v9 => ⟨envL [(0, .str s_0), (1, .int .i64 lo_1), (2, .int .i64 hi_2), (8, .str s_0), (9, .bool v9)], heapL [], 0, 94⟩) h14 ?_ ?_
  · clear h
    intro v9 h
    refine rK fun K10 RK10 hK10 gK10 => zz ?_
    rcases iK k h with ⟨k, h⟩ | ⟨k, h⟩
    · refine zz ?_
      obtain ⟨b12, q, h⟩ := bK q h
      refine zz ?_
      subst hK10 gK10
      cases h
      exact en ⟨rfl, wk []⟩
    · refine zz ?_
      subst hK10 gK10
      cases h
      exact en ⟨rfl, wk []⟩
  · refine xs <| xs <| rz ?_
    refine es ?_
    rcases iK k h with ⟨k, h⟩ | ⟨k, h⟩
    · refine xt <| rK fun K18 RK18 hK18 gK18 => zz ?_
      obtain ⟨z19, h20, h⟩ := bind_some h
      obtain ⟨⟨h21, h22⟩, h23⟩ := subL_some h20
      try simp only [List.length_cons, List.length_nil, Nat.zero_add, Nat.reduceAdd, Int.reduceToNat] at h22
      have q := And.intro @h22 <| q
      try simp -implicitDefEqProofs only [vt, vm, sevalprocAttr, dd, k, q] at h23
      have q := And.intro @h23 <| q
      refine zz ?_
      subst hK18 gK18
      refine es <| xs ?_
      obtain ⟨v30, h37, h⟩ := bs h
      refine rb_cut (fun v30 => ⟨envL [(1, .int .i64 lo_1), (2, .int .i64 hi_2), (8, .str z19), (9, .bool v9), (41, .bool v30)], heapL [], 0, 94⟩) h37 ?_ ?_
      · clear h
        intro v30 h
        refine rK fun K31 RK31 hK31 gK31 => zz ?_
        rcases iK k h with ⟨k, h⟩ | ⟨k, h⟩
        · refine zz ?_
          subst hK31 gK31
          cases h
          exact en ⟨rfl, wk []⟩
        · refine zz ?_
          obtain ⟨b33, q, h⟩ := bK q h
          refine zz ?_
          rcases iK k h with ⟨k, h⟩ | ⟨k, h⟩
          · refine zz ?_
            rcases iK k h with ⟨k, h⟩ | ⟨k, h⟩
            · refine zz ?_
              subst hK31 gK31
              cases h
              exact en ⟨rfl, wk []⟩
            · refine zz ?_
              subst hK31 gK31
              cases h
              exact en ⟨rfl, wk []⟩
          · refine zz ?_
            subst hK31 gK31
            cases h
            exact en ⟨rfl, wk []⟩
      · rcases iK k h with ⟨k, h⟩ | ⟨k, h⟩
        · refine xt <| xs <| rz ?_
          refine es <| xr <| er ?_
          cases h
          exact en fr
        · refine xf <| xk <| es <| xs <| xs <| rz ?_
          refine es <| xb ?_
          obtain ⟨e44, h105, h⟩ := bs h
          refine rb_loop (fun x43 => ⟨envL [(1, .int .i64 lo_1), (2, .int .i64 hi_2), (8, .str z19), (9, .bool v9), (10, .int .i64 x43)], heapL [], 0, 94⟩) (fun w => match w with | Sum.inl _ => .ret | Sum.inr (_) => .exit 0) (fun w => match w with | Sum.inl e44 => ⟨envL [(6, .int .i64 0), (7, .int .i64 4)], heapL [], 0, 94⟩ | Sum.inr (e44) => ⟨envL [(1, .int .i64 lo_1), (2, .int .i64 hi_2), (8, .str z19), (9, .bool v9)], heapL [], 0, 94⟩) h105 (wk []) (by intro w; rcases w with w | w <;> simp) ?_ ?_
          · clear h
            intro x43 y h
            unfold g_ref07_Number_s1 at h
            refine xs <| xs <| rz ?_
            refine es ?_
            rcases iK k h with ⟨k, h⟩ | ⟨k, h⟩
            · refine xt <| xk <| es <| xs <| xb <| xs <| rK fun K96 RK96 hK96 gK96 => zz ?_
              obtain ⟨b97, q, h⟩ := bK q h
              refine zz ?_
              obtain ⟨r99, h100, h⟩ := bs h
              refine cw (a_ref07_digit hI h100) <| zz ?_
              subst hK96 gK96
              refine es ?_
              rcases iK k h with ⟨k, h⟩ | ⟨k, h⟩
              · refine xf <| xk <| bn <| es <| rz ?_
                cases h
                exact en ⟨rfl, wk []⟩
              · refine xt <| xs <| rz ?_
                refine es <| xr <| br <| er ?_
                cases h
                exact en ⟨rfl, wk []⟩
            · refine xf <| xx <| ee ?_
              cases h
              exact en ⟨rfl, wk []⟩
          · rcases e44 with e44 | e44
            · try dsimp only at h ⊢
              refine br <| er ?_
              cases h
              exact en fr
            · try dsimp only at h ⊢
              refine bh <| es <| xs <| xs <| rz ?_
              refine es ?_
              rcases iK k h with ⟨k, h⟩ | ⟨k, h⟩
              · refine xt <| xs <| rz ?_
                refine es <| xr <| er ?_
                cases h
                exact en fr
              · refine xf <| xk <| es <| xs <| rz ?_
                refine es <| xs <| xs <| rz ?_
                refine es <| xb ?_
                obtain ⟨e116, h137, h⟩ := bs h
                refine rb_loop (fun x115 => ⟨envL [(1, .int .i64 lo_1), (2, .int .i64 hi_2), (8, .str z19), (9, .bool v9), (11, .int .u64 x115.1), (12, .int .i64 x115.2)], heapL [], 0, 94⟩) (fun _ => .exit 2) (fun e116 => ⟨envL [(1, .int .i64 lo_1), (2, .int .i64 hi_2), (9, .bool v9), (11, .int .u64 e116)], heapL [], 0, 94⟩) h137 (wk []) (by intro w; simp) ?_ ?_
                · clear h
                  intro x115 y h
                  unfold g_ref07_Number_s2 at h
                  refine xs <| xs <| rz ?_
                  refine es ?_
                  rcases iK k h with ⟨k, h⟩ | ⟨k, h⟩
                  · refine xt <| xk <| es <| xs <| xb <| rK fun K133 RK133 hK133 gK133 => zz ?_
                    obtain ⟨b134, q, h⟩ := bK q h
                    refine zz ?_
                    subst hK133 gK133
                    refine bn <| es <| rz ?_
                    cases h
                    exact en ⟨rfl, wk []⟩
                  · refine xf <| xx <| ee ?_
                    cases h
                    exact en ⟨rfl, wk []⟩
                · refine bh <| es <| xs ?_
                  obtain ⟨v140, h143, h⟩ := bs h
                  refine rb_cut (fun v140 => ⟨envL [(1, .int .i64 lo_1), (2, .int .i64 hi_2), (9, .bool v9), (11, .int .u64 e116), (79, .bool v140)], heapL [], 0, 94⟩) h143 ?_ ?_
                  · clear h
                    intro v140 h
                    refine rK fun K141 RK141 hK141 gK141 => zz ?_
                    rcases iK k h with ⟨k, h⟩ | ⟨k, h⟩
                    · refine zz ?_
                      subst hK141 gK141
                      cases h
                      exact en ⟨rfl, wk []⟩
                    · refine zz ?_
                      subst hK141 gK141
                      cases h
                      exact en ⟨rfl, wk []⟩
                  · rcases iK k h with ⟨k, h⟩ | ⟨k, h⟩
                    · refine xt <| xs <| rz ?_
                      refine es <| xr <| er ?_
                      cases h
                      exact en fr
                    · refine xf <| xk <| es <| xs <| rz ?_
                      refine es <| xs <| xs <| rz ?_
                      refine es <| xt <| rz ?_
                      refine es <| xs <| xs <| rK fun K154 RK154 hK154 gK154 => zz ?_
                      rcases iK k h with ⟨k, h⟩ | ⟨k, h⟩
                      · refine zz ?_
                        subst hK154 gK154
                        refine es <| xt <| xs <| rz ?_
                        refine es <| xr <| er ?_
                        cases h
                        exact en fr
                      · refine zz ?_
                        subst hK154 gK154
                        refine es ?_
                        rcases iK k h with ⟨k, h⟩ | ⟨k, h⟩
                        · refine xt <| xs <| rz ?_
                          refine es <| xr <| er ?_
                          cases h
                          exact en fr
                        · refine xf <| xk <| es <| xs <| rz ?_
                          refine es <| xr ?_
                          cases h
                          exact en fr
    · refine xf <| xk <| es <| xs ?_
      obtain ⟨v169, h176, h⟩ := bs h
      refine rb_cut (fun v169 => ⟨envL [(1, .int .i64 lo_1), (2, .int .i64 hi_2), (8, .str s_0), (9, .bool v9), (41, .bool v169)], heapL [], 0, 94⟩) h176 ?_ ?_
      · clear h
        intro v169 h
        refine rK fun K170 RK170 hK170 gK170 => zz ?_
        rcases iK k h with ⟨k, h⟩ | ⟨k, h⟩
        · refine zz ?_
          subst hK170 gK170
          cases h
          exact en ⟨rfl, wk []⟩
        · refine zz ?_
          obtain ⟨b172, q, h⟩ := bK q h
          refine zz ?_
          rcases iK k h with ⟨k, h⟩ | ⟨k, h⟩
          · refine zz ?_
            rcases iK k h with ⟨k, h⟩ | ⟨k, h⟩
            · refine zz ?_
              subst hK170 gK170
              cases h
              exact en ⟨rfl, wk []⟩
            · refine zz ?_
              subst hK170 gK170
              cases h
              exact en ⟨rfl, wk []⟩
          · refine zz ?_
            subst hK170 gK170
            cases h
            exact en ⟨rfl, wk []⟩
      · rcases iK k h with ⟨k, h⟩ | ⟨k, h⟩
        · refine xt <| xs <| rz ?_
          refine es <| xr <| er ?_
          cases h
          exact en fr
        · refine xf <| xk <| es <| xs <| xs <| rz ?_
          refine es <| xb ?_
          obtain ⟨e183, h244, h⟩ := bs h
          refine rb_loop (fun x182 => ⟨envL [(1, .int .i64 lo_1), (2, .int .i64 hi_2), (8, .str s_0), (9, .bool v9), (10, .int .i64 x182)], heapL [], 0, 94⟩) (fun w => match w with | Sum.inl _ => .ret | Sum.inr (_) => .exit 0) (fun w => match w with | Sum.inl e183 => ⟨envL [(6, .int .i64 0), (7, .int .i64 4)], heapL [], 0, 94⟩ | Sum.inr (e183) => ⟨envL [(1, .int .i64 lo_1), (2, .int .i64 hi_2), (8, .str s_0), (9, .bool v9)], heapL [], 0, 94⟩) h244 (wk []) (by intro w; rcases w with w | w <;> simp) ?_ ?_
          · clear h
            intro x182 y h
            unfold g_ref07_Number_s3 at h
            refine xs <| xs <| rz ?_
            refine es ?_
            rcases iK k h with ⟨k, h⟩ | ⟨k, h⟩
            · refine xt <| xk <| es <| xs <| xb <| xs <| rK fun K235 RK235 hK235 gK235 => zz ?_
              obtain ⟨b236, q, h⟩ := bK q h
              refine zz ?_
              obtain ⟨r238, h239, h⟩ := bs h
              refine cw (a_ref07_digit hI h239) <| zz ?_
              subst hK235 gK235
              refine es ?_
              rcases iK k h with ⟨k, h⟩ | ⟨k, h⟩
              · refine xf <| xk <| bn <| es <| rz ?_
                cases h
                exact en ⟨rfl, wk []⟩
              · refine xt <| xs <| rz ?_
                refine es <| xr <| br <| er ?_
                cases h
                exact en ⟨rfl, wk []⟩
            · refine xf <| xx <| ee ?_
              cases h
              exact en ⟨rfl, wk []⟩
          · rcases e183 with e183 | e183
            · try dsimp only at h ⊢
              refine br <| er ?_
              cases h
              exact en fr
            · try dsimp only at h ⊢
              refine bh <| es <| xs <| xs <| rz ?_
              refine es ?_
              rcases iK k h with ⟨k, h⟩ | ⟨k, h⟩
              · refine xt <| xs <| rz ?_
                refine es <| xr <| er ?_
                cases h
                exact en fr
              · refine xf <| xk <| es <| xs <| rz ?_
                refine es <| xs <| xs <| rz ?_
                refine es <| xb ?_
                obtain ⟨e255, h276, h⟩ := bs h
                refine rb_loop (fun x254 => ⟨envL [(1, .int .i64 lo_1), (2, .int .i64 hi_2), (8, .str s_0), (9, .bool v9), (11, .int .u64 x254.1), (12, .int .i64 x254.2)], heapL [], 0, 94⟩) (fun _ => .exit 2) (fun e255 => ⟨envL [(1, .int .i64 lo_1), (2, .int .i64 hi_2), (9, .bool v9), (11, .int .u64 e255)], heapL [], 0, 94⟩) h276 (wk []) (by intro w; simp) ?_ ?_
                · clear h
                  intro x254 y h
                  unfold g_ref07_Number_s4 at h
                  refine xs <| xs <| rz ?_
                  refine es ?_
                  rcases iK k h with ⟨k, h⟩ | ⟨k, h⟩
                  · refine xt <| xk <| es <| xs <| xb <| rK fun K272 RK272 hK272 gK272 => zz ?_
                    obtain ⟨b273, q, h⟩ := bK q h
                    refine zz ?_
                    subst hK272 gK272
                    refine bn <| es <| rz ?_
                    cases h
                    exact en ⟨rfl, wk []⟩
                  · refine xf <| xx <| ee ?_
                    cases h
                    exact en ⟨rfl, wk []⟩
                · refine bh <| es <| xs ?_
                  obtain ⟨v279, h282, h⟩ := bs h
                  refine rb_cut (fun v279 => ⟨envL [(1, .int .i64 lo_1), (2, .int .i64 hi_2), (9, .bool v9), (11, .int .u64 e255), (79, .bool v279)], heapL [], 0, 94⟩) h282 ?_ ?_
                  · clear h
                    intro v279 h
                    refine rK fun K280 RK280 hK280 gK280 => zz ?_
                    rcases iK k h with ⟨k, h⟩ | ⟨k, h⟩
                    · refine zz ?_
                      subst hK280 gK280
                      cases h
                      exact en ⟨rfl, wk []⟩
                    · refine zz ?_
                      subst hK280 gK280
                      cases h
                      exact en ⟨rfl, wk []⟩
                  · rcases iK k h with ⟨k, h⟩ | ⟨k, h⟩
                    · refine xt <| xs <| rz ?_
                      refine es <| xr <| er ?_
                      cases h
                      exact en fr
                    · refine xf <| xk <| es <| xs <| rz ?_
                      refine es <| xs <| xs <| rz ?_
                      refine es <| xf <| xk <| es <| xs <| xs <| rK fun K292 RK292 hK292 gK292 => zz ?_
                      rcases iK k h with ⟨k, h⟩ | ⟨k, h⟩
                      · refine zz ?_
                        subst hK292 gK292
                        refine es <| xt <| xs <| rz ?_
                        refine es <| xr <| er ?_
                        cases h
                        exact en fr
                      · refine zz ?_
                        subst hK292 gK292
                        refine es ?_
                        rcases iK k h with ⟨k, h⟩ | ⟨k, h⟩
                        · refine xt <| xs <| rz ?_
                          refine es <| xr <| er ?_
                          cases h
                          exact en fr
                        · refine xf <| xk <| es <| xs <| rz ?_
                          refine es <| xr ?_
                          cases h
                          exact en fr
def gRS_Number (s_0 : TRS) (lo_1 : Int) (hi_2 : Int) : Option (Int × TRS) :=
  ((gRS_take s_0 false).bind fun r7 => (if r7.2.1 then ((g_ref07_Number r7.1.Text lo_1 hi_2).bind fun r16 => (if (r16.2 != 0) then ((gRS_fail r7.2.2 r16.2 r7.1.Column).bind fun r22 => (some (r16.1, r22))) else (some (r16.1, r7.2.2)))) else (some (0, r7.2.2))))
theorem aRS_Number {I : World → Prop} (hI : Stab I) {H : Nat → Option Blk} {nid : Nat} {i0 : Nat} {p0 : Option Nat} {s_0 : TRS} {lo_1 : Int} {hi_2 : Int} {r : Int × TRS} (h : gRS_Number s_0 lo_1 hi_2 = some r) (b0 : H i0 = some (.box p0 [.int .i64 s_0.Line.Number, .sl (s_0.Line.Fields.map T_api_Field.d), .int .i64 s_0.At, .int .i64 s_0.Code, .int .i64 s_0.Col])) : CallOK Tryz.prog I 103 [.ptr i0 0, .int .i64 lo_1, .int .i64 hi_2] H nid (.int .i64 r.1) [(i0, some (.box p0 [.int .i64 r.2.Line.Number, .sl (r.2.Line.Fields.map T_api_Field.d), .int .i64 r.2.At, .int .i64 r.2.Code, .int .i64 r.2.Col]))] := by
  refine CallOK.intro (is := [(i0, p0)]) (css := [[.int .i64 s_0.Line.Number, .sl (s_0.Line.Fields.map T_api_Field.d), .int .i64 s_0.At, .int .i64 s_0.Code, .int .i64 s_0.Col]]) (ds0 := [.ptr 0 0, .int .i64 lo_1, .int .i64 hi_2]) (pl := [(0, none)]) hI Tryz.func103 rfl (by decide) (by simp [Tryz.f103]) (by kernel_rfl) rfl rfl rfl rfl (lentAll_of ⟨⟨b0, rfl⟩, trivial⟩) (by simp) ?_
  have dd := dd_EE; have k := True.intro; have q := k; have rs := Tryz.results103
  unfold gRS_Number at h
  simp only [lentH, List.length_cons, List.length_nil, Nat.zero_add, Nat.reduceAdd, Tryz.ntmps103, dd_EE]
  refine xs <| rz ?_
  refine es <| xs <| rK fun K6 RK6 hK6 gK6 => zz ?_
  obtain ⟨r7, h8, h⟩ := bs h
  refine eW.intro (aRS_take hI (nid := 3) (i0 := 0) (p0 := (some 0)) h8 fz) fi rfl <| zz ?_
  subst hK6 gK6
  refine es <| xs <| xs <| rz ?_
  refine es ?_
  rcases iK k h with ⟨k, h⟩ | ⟨k, h⟩
  · refine xf <| xk <| es <| xs <| rK fun K15 RK15 hK15 gK15 => zz ?_
    obtain ⟨r16, h17, h⟩ := bs h
    refine cw (a_ref07_Number hI h17) <| zz ?_
    subst hK15 gK15
    refine es <| xs <| xs <| rz ?_
    refine es ?_
    rcases iK k h with ⟨k, h⟩ | ⟨k, h⟩
    · refine xt <| rK fun K21 RK21 hK21 gK21 => zz ?_
      obtain ⟨r22, h23, h⟩ := bs h
      refine eW.intro (aRS_fail hI (nid := 28) (i0 := 0) (p0 := (some 0)) h23 fz) fi rfl <| zz ?_
      subst hK21 gK21
      refine es <| xs <| rz ?_
      refine es <| xr ?_
      cases h
      exact en fp
    · refine xf <| xk <| es <| xs <| rz ?_
      refine es <| xr ?_
      cases h
      exact en fp
  · refine xt <| xs <| rz ?_
    refine es <| xr <| er ?_
    cases h
    exact en fp
def gRS_Name (s_0 : TRS) (empty_1 : Bool) : Option ((List UInt8) × TRS) :=
  ((gRS_take s_0 false).bind fun r7 => (((if r7.2.1 then (if empty_1 then (some (r7.1.Text == ([45] : List UInt8))) else (some false)) else (some true)) : Option (Bool)).bind fun v12 => (if v12 then (some ([], r7.2.2)) else ((g_ref07_Name r7.1.Text).bind fun r24 => (if r24 then (some (r7.1.Text, r7.2.2)) else ((gRS_fail r7.2.2 5 r7.1.Column).bind fun r33 => (some ([], r33))))))))
theorem aRS_Name {I : World → Prop} (hI : Stab I) {H : Nat → Option Blk} {nid : Nat} {i0 : Nat} {p0 : Option Nat} {s_0 : TRS} {empty_1 : Bool} {r : (List UInt8) × TRS} (h : gRS_Name s_0 empty_1 = some r) (b0 : H i0 = some (.box p0 [.int .i64 s_0.Line.Number, .sl (s_0.Line.Fields.map T_api_Field.d), .int .i64 s_0.At, .int .i64 s_0.Code, .int .i64 s_0.Col])) : CallOK Tryz.prog I 104 [.ptr i0 0, .bool empty_1] H nid (.str r.1) [(i0, some (.box p0 [.int .i64 r.2.Line.Number, .sl (r.2.Line.Fields.map T_api_Field.d), .int .i64 r.2.At, .int .i64 r.2.Code, .int .i64 r.2.Col]))] := by
  refine CallOK.intro (is := [(i0, p0)]) (css := [[.int .i64 s_0.Line.Number, .sl (s_0.Line.Fields.map T_api_Field.d), .int .i64 s_0.At, .int .i64 s_0.Code, .int .i64 s_0.Col]]) (ds0 := [.ptr 0 0, .bool empty_1]) (pl := [(0, none)]) hI Tryz.func104 rfl (by decide) (by simp [Tryz.f104]) (by kernel_rfl) rfl rfl rfl rfl (lentAll_of ⟨⟨b0, rfl⟩, trivial⟩) (by simp) ?_
  have dd := dd_EE; have k := True.intro; have q := k; have rs := Tryz.results104
  unfold gRS_Name at h
  simp only [lentH, List.length_cons, List.length_nil, Nat.zero_add, Nat.reduceAdd, Tryz.ntmps104, dd_EE]
  refine xs <| rz ?_
  refine es <| xs <| rK fun K6 RK6 hK6 gK6 => zz ?_
  obtain ⟨r7, h8, h⟩ := bs h
  refine eW.intro (aRS_take hI (nid := 3) (i0 := 0) (p0 := (some 0)) h8 fz) fi rfl <| zz ?_
  subst hK6 gK6
  refine es <| xs ?_
  obtain ⟨v12, h16, h⟩ := bs h
  refine rb_cut (fun v12 => ⟨envL [(0, .ptr 0 0), (5, .ptr 1 0), (21, .bool v12)], heapL [(0, .box (some 0) [.int .i64 r7.2.2.Line.Number, .sl (r7.2.2.Line.Fields.map T_api_Field.d), .int .i64 r7.2.2.At, .int .i64 r7.2.2.Code, .int .i64 r7.2.2.Col]), (1, .box none [.str r7.1.Text, .int .i64 r7.1.Column, .bool r7.1.Quoted])], 2, 32⟩) h16 ?_ ?_
  · clear h
    intro v12 h
    refine rK fun K13 RK13 hK13 gK13 => zz ?_
    rcases iK k h with ⟨k, h⟩ | ⟨k, h⟩
    · refine zz ?_
      rcases iK k h with ⟨k, h⟩ | ⟨k, h⟩
      · refine zz ?_
        subst hK13 gK13
        cases h
        exact en ⟨rfl, wk [(1, some 7)]⟩
      · refine zz ?_
        subst hK13 gK13
        cases h
        exact en ⟨rfl, wk [(1, some 7)]⟩
    · refine zz ?_
      subst hK13 gK13
      cases h
      exact en ⟨rfl, wk [(1, some 7)]⟩
  · rcases iK k h with ⟨k, h⟩ | ⟨k, h⟩
    · refine xt <| xs <| rz ?_
      refine es <| xr <| er ?_
      cases h
      exact en fp
    · refine xf <| xk <| es <| xs <| xs <| rK fun K23 RK23 hK23 gK23 => zz ?_
      obtain ⟨r24, h25, h⟩ := bs h
      refine cw (a_ref07_Name hI h25) <| zz ?_
      subst hK23 gK23
      refine es ?_
      rcases iK k h with ⟨k, h⟩ | ⟨k, h⟩
      · refine xf <| xk <| es <| xs <| rz ?_
        refine es <| xr ?_
        cases h
        exact en fp
      · refine xt <| xs <| rK fun K32 RK32 hK32 gK32 => zz ?_
        obtain ⟨r33, h34, h⟩ := bs h
        refine eW.intro (aRS_fail hI (nid := 9) (i0 := 0) (p0 := (some 0)) h34 fz) fi rfl <| zz ?_
        subst hK32 gK32
        refine es <| xs <| rz ?_
        refine es <| xr <| er ?_
        cases h
        exact en fp
end Go.Proofs.YtnjjdbljoligdaaGreatDoor
namespace Go.Proofs.YtnjjdbljoligdaaGreatDoor
set_option maxRecDepth 100000
inductive QR where
  | ok (text : List UInt8) (n : Nat)
  | bad (n : Nat)
  | stop
def QR.sh (k : Nat) (pre : List UInt8) : QR → QR
  | .ok t n => .ok (pre ++ t) (k + n)
  | .bad n => .bad (k + n)
  | .stop => .stop
def qS : List UInt8 → QR
  | [] => .stop
  | b :: t =>
    if b.toNat = 34 then (if t.head?.any (fun c => c.toNat != 32) then .bad 1 else .ok [] 1)
    else if b.toNat = 92 then
      match t with
      | [] => .bad 0
      | c :: t' => if c.toNat = 34 ∨ c.toNat = 92 then (qS t').sh 2 [c] else if c.toNat = 110 then (qS t').sh 2 [10] else .bad 0
    else if b.toNat < 32 ∨ b.toNat = 127 then .bad 0
    else (qS t).sh 1 [b]
theorem qS_nil : qS [] = .stop := by unfold qS; rfl
theorem qS_cons (b : UInt8) (t : List UInt8) : qS (b :: t) = if b.toNat = 34 then (if t.head?.any (fun c => c.toNat != 32) then .bad 1 else .ok [] 1)
    else if b.toNat = 92 then
      match t with
      | [] => .bad 0
      | c :: t' => if c.toNat = 34 ∨ c.toNat = 92 then (qS t').sh 2 [c] else if c.toNat = 110 then (qS t').sh 2 [10] else .bad 0
    else if b.toNat < 32 ∨ b.toNat = 127 then .bad 0
    else (qS t).sh 1 [b] := by
  cases t <;> (conv => lhs; unfold qS)
theorem drop_cons {s : List UInt8} {i : Nat} (h : i < s.length) : s.drop i = s[i] :: s.drop (i + 1) := List.drop_eq_getElem_cons h
theorem ib3 (b : UInt8) : g_strings_IndexByte [34, 92, 110] (b.toNat : Int) = some (if b.toNat = 34 then 0 else if b.toNat = 92 then 1 else if b.toNat = 110 then 2 else -1) := by
  have hb : (b.toNat : Int).toNat.toUInt8 = b := by simp
  have key : ∀ c : UInt8, (c == b) = decide (b.toNat = c.toNat) := by
    intro c
    by_cases h : b.toNat = c.toNat
    · have : c = b := UInt8.toNat_inj.1 h.symm
      simp [this]
    · have : c ≠ b := fun e => h (by rw [e])
      simp [this, h]
  simp only [g_strings_IndexByte, hb, Lib.indexByte, key]
  have h1 : (34 : UInt8).toNat = 34 := rfl
  have h2 : (92 : UInt8).toNat = 92 := rfl
  have h3 : (110 : UInt8).toNat = 110 := rfl
  simp only [h1, h2, h3]
  grind
def qfinL (acc : List Int) (i : Nat) : QR → ((List UInt8) × Int × Int) ⊕ Unit
  | .ok t n => .inl (bytesOf acc ++ t, ((i + n : Nat) : Int), -1)
  | .bad n => .inl ([], 0, ((i + n : Nat) : Int))
  | .stop => .inr ()
theorem qfinL_sh (acc : List Int) (i k : Nat) (x : Int) (b : UInt8) (hx : UInt8.ofNat x.toNat = b) (r : QR) : qfinL acc i (r.sh k [b]) = qfinL (acc ++ [x]) (i + k) r := by
  cases r <;> simp [qfinL, QR.sh, bytesOf, hx] <;> omega
theorem lines_quoted_loop (s : List UInt8) (hs : s.length ≤ 140737488355327) (h1 : 1 ≤ s.length) : iter (g_lines_quoted_s1 s) ([], 1) = some (qfinL [] 1 (qS (s.drop 1))) := by
  refine iter_of (fun x e => ∃ i : Nat, x.2 = (i : Int) ∧ 1 ≤ i ∧ i ≤ s.length ∧ x.1.length + 1 ≤ i ∧ e = qfinL x.1 i (qS (s.drop i))) (fun x => s.length - x.2.toNat) ?_ (x := ([], 1)) ⟨1, rfl, Nat.le_refl _, h1, by simp, rfl⟩ (by show s.length - _ < _; omega)
  rintro ⟨acc, z⟩ e ⟨i, hz, hi1, hi, ha, rfl⟩
  simp only at hz ha ⊢
  subst hz
  by_cases h : i < s.length
  · have w1 := wrap_i64 ((i : Int) + 1) (by omega) (by omega)
    have w2 := wrap_i64 ((i : Int) + 1 + 1) (by omega) (by omega)
    have hat := atI_nat h
    have hb := u8lt s[i]
    rw [drop_cons h]
    have hcnd : decide ((i : Int) < (s.length : Int)) = true := by simpa using h
    have hap : (acc.length + 1) * 1 ≤ 140737488355328 := by omega
    simp only [g_lines_quoted_s1, hcnd, if_true, hat, Option.bind_some, w1, w2, if_pos hap]
    generalize hB : s[i] = b at *
    by_cases c34 : b.toNat = 34
    · right
      have q : qS (b :: s.drop (i + 1)) = (if (s.drop (i + 1)).head?.any (fun c => c.toNat != 32) then .bad 1 else .ok [] 1) := by simp only [qS_cons, c34, if_true]
      have e1 : ((b.toNat : Int) == 34) = true := by simp [c34]
      rw [q]
      simp only [e1, if_true]
      by_cases h2 : i + 1 < s.length
      · have hat2 : atI s ((i : Int) + 1) = some s[i + 1] := by have := atI_nat h2; simpa using this
        have hcnd2 : decide ((i : Int) + 1 < (s.length : Int)) = true := by simp; omega
        rw [drop_cons h2]
        simp only [hcnd2, if_true, hat2, Option.bind_some, List.head?_cons, Option.any_some]
        by_cases c32 : s[i + 1].toNat = 32
        · simp [c32, qfinL]
        · have : ((s[i + 1].toNat : Int) != 32) = true := by simp; omega
          simp [c32, qfinL, this]
      · have hcnd2 : decide ((i : Int) + 1 < (s.length : Int)) = false := by simp; omega
        have : s.drop (i + 1) = [] := List.drop_eq_nil_of_le (by omega)
        simp only [hcnd2, Bool.false_eq_true, if_false, Option.bind_some, this]
        simp [qfinL]
    · have e1 : ((b.toNat : Int) == 34) = false := by simp; omega
      simp only [e1, Bool.false_eq_true, if_false]
      by_cases c92 : b.toNat = 92
      · have e2 : ((b.toNat : Int) == 92) = true := by simp [c92]
        simp only [e2, if_true]
        by_cases h2 : i + 1 < s.length
        · have hat2 : atI s ((i : Int) + 1) = some s[i + 1] := by have := atI_nat h2; simpa using this
          have e3 : (((i : Int) + 1) == (s.length : Int)) = false := by simp; omega
          have q : qS (b :: s.drop (i + 1)) = (if s[i + 1].toNat = 34 ∨ s[i + 1].toNat = 92 then (qS (s.drop (i + 2))).sh 2 [s[i + 1]] else if s[i + 1].toNat = 110 then (qS (s.drop (i + 2))).sh 2 [10] else .bad 0) := by
            rw [drop_cons h2]; simp only [qS_cons, c34, c92, if_true, if_false]; rfl
          rw [q]
          simp only [e3, Bool.false_eq_true, if_false, hat2, Option.bind_some, ib3]
          have hc := u8lt s[i + 1]
          generalize s[i + 1] = c at *
          by_cases d1 : c.toNat = 34 ∨ c.toNat = 92
          · left
            refine ⟨(acc ++ [(c.toNat : Int)], (i : Int) + 1 + 1), ?_, ⟨i + 2, by simp; omega, by omega, by omega, by simp; omega, ?_⟩, by simp; omega⟩
            · rcases d1 with d | d <;> simp [d]
            · rw [if_pos d1]
              exact qfinL_sh acc i 2 _ c (by simp) _
          · by_cases d2 : c.toNat = 110
            · left
              refine ⟨(acc ++ [10], (i : Int) + 1 + 1), ?_, ⟨i + 2, by simp; omega, by omega, by omega, by simp; omega, ?_⟩, by simp; omega⟩
              · simp [d2]
              · rw [if_neg d1, if_pos d2]
                exact qfinL_sh acc i 2 10 10 (by rfl) _
            · right
              rw [if_neg d1, if_neg d2]
              have d3 : ¬ c.toNat = 34 := fun h => d1 (.inl h)
              have d4 : ¬ c.toNat = 92 := fun h => d1 (.inr h)
              simp [d2, d3, d4, qfinL]
        · right
          have e3 : (((i : Int) + 1) == (s.length : Int)) = true := by simp; omega
          have : s.drop (i + 1) = [] := List.drop_eq_nil_of_le (by omega)
          simp [e3, this, qS_cons, c92, qfinL]
      · have e2 : ((b.toNat : Int) == 92) = false := by simp; omega
        simp only [e2, Bool.false_eq_true, if_false]
        by_cases cc : b.toNat < 32 ∨ b.toNat = 127
        · right
          have q : qS (b :: s.drop (i + 1)) = .bad 0 := by simp only [qS_cons, c34, c92, cc, if_true, if_false]
          rw [q]
          rcases cc with c | c
          · have : decide ((b.toNat : Int) < 32) = true := by simp; omega
            simp [this, qfinL]
          · simp [c, qfinL]
        · left
          have q : qS (b :: s.drop (i + 1)) = (qS (s.drop (i + 1))).sh 1 [b] := by simp only [qS_cons, c34, c92, cc, if_false]
          rw [q]
          have f1 : decide ((b.toNat : Int) < 32) = false := by simp; omega
          have f2 : ((b.toNat : Int) == 127) = false := by simp; omega
          refine ⟨(acc ++ [(b.toNat : Int)], (i : Int) + 1), ?_, ⟨i + 1, by simp, by omega, by omega, by simp; omega, ?_⟩, by simp; omega⟩
          · simp [f1, f2]
          · exact qfinL_sh acc i 1 _ b (by simp) _
  · right
    obtain rfl : i = s.length := by omega
    simp [g_lines_quoted_s1, qS_nil, qfinL]
def qres (k : Nat) (len : Nat) : QR → (List UInt8) × Int × Int
  | .ok t n => (t, ((k + n : Nat) : Int), -1)
  | .bad n => ([], 0, ((k + n : Nat) : Int))
  | .stop => ([], 0, (len : Int))
theorem lines_quoted_eq (s : List UInt8) (hs : s.length ≤ 140737488355327) (h1 : 1 ≤ s.length) : g_lines_quoted s = some (qres 1 s.length (qS (s.drop 1))) := by
  simp only [g_lines_quoted, lines_quoted_loop s hs h1, Option.bind_some]
  cases qS (s.drop 1) <;> simp [qfinL, qres, bytesOf]
def qfinR (acc : List UInt8) (i : Nat) : QR → ((List UInt8) × Int × Int) ⊕ Unit
  | .ok t n => .inl (acc ++ t, ((i + n : Nat) : Int), -1)
  | .bad n => .inl ([], 0, ((i + n : Nat) : Int))
  | .stop => .inr ()
theorem qfinR_sh (acc : List UInt8) (i k : Nat) (b : UInt8) (r : QR) : qfinR acc i (r.sh k [b]) = qfinR (acc ++ [b]) (i + k) r := by
  cases r <;> simp [qfinR, QR.sh] <;> omega
theorem sub1 {s : List UInt8} {i : Nat} (h : i < s.length) : subI s (i : Int) ((i : Int) + 1) = some [s[i]] := by
  unfold subI
  rw [if_pos (by omega)]
  have : ((i : Int) + 1).toNat - (i : Int).toNat = 1 := by omega
  rw [this, Int.toNat_natCast, drop_cons h, List.take_succ_cons, List.take_zero]
theorem ref_quoted_loop (s : List UInt8) (hs : s.length ≤ 9223372036854775805) (p : Nat) (hp : p < s.length) : iter (g_ref07_quoted_s1 s) (((p + 1 : Nat) : Int), []) = some (qfinR [] (p + 1) (qS (s.drop (p + 1)))) := by
  refine iter_of (fun x e => ∃ i : Nat, x.1 = (i : Int) ∧ i ≤ s.length ∧ x.2.length ≤ i ∧ e = qfinR x.2 i (qS (s.drop i))) (fun x => s.length - x.1.toNat) ?_ (x := (((p + 1 : Nat) : Int), [])) ⟨p + 1, rfl, by omega, by simp, rfl⟩ (by show s.length - _ < _; omega)
  rintro ⟨z, acc⟩ e ⟨i, hz, hi, ha, rfl⟩
  simp only at hz ha ⊢
  subst hz
  by_cases h : i < s.length
  · have w1 := wrap_i64 ((i : Int) + 1) (by omega) (by omega)
    have w2 := wrap_i64 ((i : Int) + 2) (by omega) (by omega)
    have hat := atI_nat h
    have hb := u8lt s[i]
    have hsub := sub1 h
    rw [drop_cons h]
    have hcnd : decide ((i : Int) < (s.length : Int)) = true := by simpa using h
    have hap : acc.length + 1 ≤ 9223372036854775807 := by omega
    simp only [g_ref07_quoted_s1, hcnd, if_true, hat, Option.bind_some, w1, w2, hsub, List.length_cons, List.length_nil, Nat.zero_add, if_pos hap]
    generalize hB : s[i] = b at *
    by_cases c34 : b.toNat = 34
    · right
      have q : qS (b :: s.drop (i + 1)) = (if (s.drop (i + 1)).head?.any (fun c => c.toNat != 32) then .bad 1 else .ok [] 1) := by simp only [qS_cons, c34, if_true]
      have e1 : ((b.toNat : Int) == 34) = true := by simp [c34]
      rw [q]
      simp only [e1, if_true]
      by_cases h2 : i + 1 < s.length
      · have hat2 : atI s ((i : Int) + 1) = some s[i + 1] := by have := atI_nat h2; simpa using this
        have hcnd2 : decide ((i : Int) + 1 < (s.length : Int)) = true := by simp; omega
        rw [drop_cons h2]
        simp only [hcnd2, if_true, hat2, Option.bind_some, List.head?_cons, Option.any_some]
        by_cases c32 : s[i + 1].toNat = 32
        · simp [c32, qfinR]
        · have : ((s[i + 1].toNat : Int) != 32) = true := by simp; omega
          simp [c32, qfinR, this]
      · have hcnd2 : decide ((i : Int) + 1 < (s.length : Int)) = false := by simp; omega
        have : s.drop (i + 1) = [] := List.drop_eq_nil_of_le (by omega)
        simp only [hcnd2, Bool.false_eq_true, if_false, Option.bind_some, this]
        simp [qfinR]
    · have e1 : ((b.toNat : Int) == 34) = false := by simp; omega
      simp only [e1, Bool.false_eq_true, if_false]
      by_cases cc : b.toNat < 32 ∨ b.toNat = 127
      · right
        have c92 : ¬ b.toNat = 92 := by omega
        have q : qS (b :: s.drop (i + 1)) = .bad 0 := by simp only [qS_cons, c34, c92, cc, if_true, if_false]
        rw [q]
        rcases cc with c | c
        · have : decide ((b.toNat : Int) < 32) = true := by simp; omega
          simp [this, qfinR]
        · simp [c, qfinR]
      · have f1 : decide ((b.toNat : Int) < 32) = false := by simp; omega
        have f2 : ((b.toNat : Int) == 127) = false := by simp; omega
        simp only [f1, f2, Bool.false_eq_true, if_false, Option.bind_some]
        by_cases c92 : b.toNat = 92
        · have e2 : ((b.toNat : Int) != 92) = false := by simp [c92]
          simp only [e2, Bool.false_eq_true, if_false]
          by_cases h2 : i + 1 < s.length
          · have hat2 : atI s ((i : Int) + 1) = some s[i + 1] := by have := atI_nat h2; simpa using this
            have hsub2 : subI s ((i : Int) + 1) ((i : Int) + 2) = some [s[i + 1]] := by
              have := sub1 h2
              have e : (((i + 1 : Nat) : Int)) = (i : Int) + 1 := by omega
              rw [e] at this
              rw [show (i : Int) + 2 = (i : Int) + 1 + 1 by omega]
              exact this
            have e3 : decide ((s.length : Int) ≤ (i : Int) + 1) = false := by simp; omega
            have q : qS (b :: s.drop (i + 1)) = (if s[i + 1].toNat = 34 ∨ s[i + 1].toNat = 92 then (qS (s.drop (i + 2))).sh 2 [s[i + 1]] else if s[i + 1].toNat = 110 then (qS (s.drop (i + 2))).sh 2 [10] else .bad 0) := by
              rw [drop_cons h2]; simp only [qS_cons, c34, c92, if_true, if_false]; rfl
            rw [q]
            simp only [e3, Bool.false_eq_true, if_false, hat2, Option.bind_some, hsub2, List.length_cons, List.length_nil, Nat.zero_add, if_pos hap]
            have hc := u8lt s[i + 1]
            generalize s[i + 1] = c at *
            by_cases d1 : c.toNat = 34 ∨ c.toNat = 92
            · left
              refine ⟨((i : Int) + 2, acc ++ [c]), ?_, ⟨i + 2, by simp, by omega, by simp; omega, ?_⟩, by simp; omega⟩
              · rcases d1 with d | d <;> simp [d]
              · rw [if_pos d1]
                exact qfinR_sh acc i 2 c _
            · by_cases d2 : c.toNat = 110
              · left
                refine ⟨((i : Int) + 2, acc ++ [10]), ?_, ⟨i + 2, by simp, by omega, by simp; omega, ?_⟩, by simp; omega⟩
                · simp [d2]
                · rw [if_neg d1, if_pos d2]
                  exact qfinR_sh acc i 2 10 _
              · right
                rw [if_neg d1, if_neg d2]
                have d3 : ¬ c.toNat = 34 := fun h => d1 (.inl h)
                have d4 : ¬ c.toNat = 92 := fun h => d1 (.inr h)
                have g1 : ((c.toNat : Int) == 34) = false := by simp; omega
                have g2 : ((c.toNat : Int) == 92) = false := by simp; omega
                have g3 : ((c.toNat : Int) == 110) = false := by simp; omega
                simp [g1, g2, g3, qfinR]
          · right
            have e3 : decide ((s.length : Int) ≤ (i : Int) + 1) = true := by simp; omega
            have : s.drop (i + 1) = [] := List.drop_eq_nil_of_le (by omega)
            simp [e3, this, qS_cons, c92, qfinR]
        · have e2 : ((b.toNat : Int) != 92) = true := by simp; omega
          left
          have q : qS (b :: s.drop (i + 1)) = (qS (s.drop (i + 1))).sh 1 [b] := by simp only [qS_cons, c34, c92, cc, if_false]
          rw [q]
          refine ⟨((i : Int) + 1, acc ++ [b]), ?_, ⟨i + 1, by simp, by omega, by simp; omega, ?_⟩, by simp; omega⟩
          · simp [e2]
          · exact qfinR_sh acc i 1 b _
  · right
    obtain rfl : i = s.length := by omega
    simp [g_ref07_quoted_s1, qS_nil, qfinR]
theorem ref_quoted_eq (s : List UInt8) (hs : s.length ≤ 9223372036854775805) (p : Nat) (hp : p < s.length) : g_ref07_quoted s (p : Int) = some (qres (p + 1) s.length (qS (s.drop (p + 1)))) := by
  have w1 := wrap_i64 ((p : Int) + 1) (by omega) (by omega)
  have := ref_quoted_loop s hs p hp
  have e : (((p + 1 : Nat)) : Int) = (p : Int) + 1 := by omega
  rw [e] at this
  simp only [g_ref07_quoted, w1, this, Option.bind_some]
  cases qS (s.drop (p + 1)) <;> simp [qfinR, qres]
def wB (b : UInt8) : Bool := decide (33 ≤ b.toNat) && decide (b.toNat ≤ 126) && (b.toNat != 34)
def wSh : Nat ⊕ Nat → Nat ⊕ Nat
  | .inl n => .inl (1 + n)
  | .inr n => .inr (1 + n)
def wS : List UInt8 → Nat ⊕ Nat
  | [] => .inl 0
  | b :: t => if b.toNat = 32 then .inl 0 else if wB b then wSh (wS t) else .inr 0
def wres (i : Nat) : Nat ⊕ Nat → Int × Int
  | .inl n => (((i + n : Nat) : Int), -1)
  | .inr n => (0, ((i + n : Nat) : Int))
theorem wres_sh (i : Nat) (r : Nat ⊕ Nat) : wres i (wSh r) = wres (i + 1) r := by
  cases r <;> simp [wres, wSh] <;> omega
def wex (len : Nat) : (Int × Int) ⊕ Unit → Int × Int
  | .inl p => p
  | .inr _ => ((len : Int), -1)
theorem isWord_eq (b : UInt8) : g_lines_isWord (b.toNat : Int) = some (wB b) := by
  have h1 : decide (32 < (b.toNat : Int)) = decide (33 ≤ b.toNat) := by simp only [decide_eq_decide]; omega
  have h2 : decide ((b.toNat : Int) < 127) = decide (b.toNat ≤ 126) := by simp only [decide_eq_decide]; omega
  have h3 : ((b.toNat : Int) != 34) = (b.toNat != 34) := by rw [Bool.eq_iff_iff]; simp; omega
  simp only [g_lines_isWord, wB, h1, h2, h3]
  cases decide (33 ≤ b.toNat) <;> cases decide (b.toNat ≤ 126) <;> rfl
theorem wordByte_eq (b : UInt8) : g_ref07_wordByte (b.toNat : Int) = some (wB b) := by
  have h1 : decide (33 ≤ (b.toNat : Int)) = decide (33 ≤ b.toNat) := by simp only [decide_eq_decide]; omega
  have h2 : decide ((b.toNat : Int) ≤ 126) = decide (b.toNat ≤ 126) := by simp only [decide_eq_decide]; omega
  have h3 : ((b.toNat : Int) != 34) = (b.toNat != 34) := by rw [Bool.eq_iff_iff]; simp; omega
  simp only [g_ref07_wordByte, wB, h1, h2, h3]
  cases decide (33 ≤ b.toNat) <;> cases decide (b.toNat ≤ 126) <;> rfl
theorem lines_word_eq (s : List UInt8) (hs : s.length ≤ 9223372036854775806) (h0 : ∀ h : 0 < s.length, s[0].toNat ≠ 35) : g_lines_word s = some (wres 0 (wS s)) := by
  have key : ∃ e, iter (g_lines_word_s1 s) 0 = some e ∧ wex s.length e = wres 0 (wS s) := by
    refine iter_cnt s.length (by omega) (fun i => wres i (wS (s.drop i)) = wres 0 (wS s)) _ (by simp) ?_ ?_
    · intro i h hI
      have w1 := wrap_i64 ((i : Int) + 1) (by omega) (by omega)
      have hcnd : decide ((i : Int) < (s.length : Int)) = true := by simpa using h
      have hat := atI_nat h
      have hb := u8lt s[i]
      rw [drop_cons h] at hI
      have h00 : i = 0 → s[i].toNat ≠ 35 := by rintro rfl; exact h0 h
      simp only [g_lines_word_s1, hcnd, if_true, hat, Option.bind_some, w1, isWord_eq]
      generalize s[i] = b at *
      by_cases c32 : b.toNat = 32
      · right
        refine ⟨.inl ((i : Int), -1), by simp [c32], ?_⟩
        rw [← hI]
        simp [wex, wS, c32, wres]
      · have e1 : ((b.toNat : Int) == 32) = false := by simp; omega
        cases hw : wB b with
        | true =>
          left
          have hz : ((i : Int) == 0 && (b.toNat : Int) == 35) = false := by
            by_cases hi0 : i = 0
            · have := h00 hi0; simp; omega
            · simp; omega
          refine ⟨?_, ?_⟩
          · simp only [e1, Bool.false_eq_true, if_false, if_true]
            by_cases hi0 : i = 0
            · have := h00 hi0
              subst hi0
              simp; omega
            · have : ((i : Int) == 0) = false := by simp; omega
              simp [this]
          · rw [← hI, ← wres_sh]
            simp only [wS, c32, if_false, hw, if_true]
        | false =>
          right
          refine ⟨.inl (0, (i : Int)), by simp [e1], ?_⟩
          rw [← hI]
          simp [wex, wS, c32, hw, wres]
    · intro hI
      refine ⟨.inr (), by simp [g_lines_word_s1], ?_⟩
      rw [← hI]
      simp [wex, wS, wres]
  obtain ⟨e, he, hw⟩ := key
  simp only [g_lines_word, he, Option.bind_some]
  rw [← hw]
  rcases e with e | e <;> rfl
def wout (i : Nat) : Nat ⊕ Nat → Int ⊕ Int
  | .inl n => .inr ((i + n : Nat) : Int)
  | .inr n => .inl ((i + n : Nat) : Int)
theorem wout_sh (i : Nat) (r : Nat ⊕ Nat) : wout i (wSh r) = wout (i + 1) r := by
  cases r <;> simp [wout, wSh] <;> omega
theorem ref_word_eq (s : List UInt8) (hs : s.length ≤ 9223372036854775806) (p : Nat) (hp : p ≤ s.length) : iter (g_ref07_fields_s3 s) (p : Int) = some (wout p (wS (s.drop p))) := by
  refine iter_of (fun x e => ∃ i : Nat, x = (i : Int) ∧ i ≤ s.length ∧ e = wout i (wS (s.drop i))) (fun x => s.length - x.toNat) ?_ (x := (p : Int)) ⟨p, rfl, hp, rfl⟩ (by show s.length - _ < _; omega)
  rintro x e ⟨i, rfl, hi, rfl⟩
  by_cases h : i < s.length
  · have w1 := wrap_i64 ((i : Int) + 1) (by omega) (by omega)
    have hcnd : decide ((i : Int) < (s.length : Int)) = true := by simpa using h
    have hat := atI_nat h
    have hb := u8lt s[i]
    rw [drop_cons h]
    simp only [g_ref07_fields_s3, hcnd, if_true, hat, Option.bind_some, w1, wordByte_eq]
    generalize s[i] = b at *
    by_cases c32 : b.toNat = 32
    · right; simp [c32, wS, wout]
    · have e1 : ((b.toNat : Int) != 32) = true := by simp; omega
      cases hw : wB b with
      | true =>
        left
        refine ⟨(i : Int) + 1, by simp [e1], ⟨i + 1, by omega, by omega, ?_⟩, by simp; omega⟩
        rw [← wout_sh]
        simp only [wS, c32, if_false, hw, if_true]
      | false =>
        right; simp [e1, wS, c32, hw, wout]
  · right
    obtain rfl : i = s.length := by omega
    simp [g_ref07_fields_s3, wS, wout]
theorem wS_le : ∀ (t : List UInt8) (n : Nat), wS t = .inl n → n ≤ t.length
  | [], n, h => by simp [wS] at h; omega
  | b :: t, n, h => by
    simp only [wS] at h
    split at h
    · simp at h; omega
    · split at h
      · cases ht : wS t with
        | inl m => rw [ht] at h; simp [wSh] at h; have := wS_le t m ht; simp; omega
        | inr m => rw [ht] at h; simp [wSh] at h
      · simp at h
theorem wS_bad : ∀ (t : List UInt8) (n : Nat), wS t = .inr n → n < t.length
  | [], n, h => by simp [wS] at h
  | b :: t, n, h => by
    simp only [wS] at h
    split at h
    · simp at h
    · split at h
      · cases ht : wS t with
        | inl m => rw [ht] at h; simp [wSh] at h
        | inr m => rw [ht] at h; simp [wSh] at h; have := wS_bad t m ht; simp; omega
      · simp at h; simp; omega
theorem wS_pos {b : UInt8} {t : List UInt8} {n : Nat} (h : wS (b :: t) = .inl n) (hb : b.toNat ≠ 32) : 1 ≤ n := by
  simp only [wS, if_neg hb] at h
  split at h
  · cases ht : wS t with
    | inl m => rw [ht] at h; simp [wSh] at h; omega
    | inr m => rw [ht] at h; simp [wSh] at h
  · simp at h
theorem qS_le : ∀ (t : List UInt8), (∀ text n, qS t = .ok text n → 1 ≤ n ∧ n ≤ t.length) ∧ (∀ n, qS t = .bad n → n ≤ t.length)
  | [] => by simp [qS_nil]
  | [b] => by
    rw [qS_cons]
    have := qS_le []
    refine ⟨fun text n h => ?_, fun n h => ?_⟩ <;> (repeat' split at h) <;> simp_all [QR.sh, qS_nil]
    all_goals omega
  | b :: c :: t => by
    have h1 := qS_le (c :: t)
    have h2 := qS_le t
    rw [qS_cons]
    refine ⟨fun text n h => ?_, fun n h => ?_⟩
    · split at h
      · split at h
        · simp at h
        · simp at h; simp; omega
      · split at h
        · simp only at h
          split at h
          · cases hq : qS t <;> rw [hq] at h <;> simp [QR.sh] at h
            have := h2.1 _ _ hq; simp; omega
          · split at h
            · cases hq : qS t <;> rw [hq] at h <;> simp [QR.sh] at h
              have := h2.1 _ _ hq; simp; omega
            · simp at h
        · split at h
          · simp at h
          · cases hq : qS (c :: t) <;> rw [hq] at h <;> simp [QR.sh] at h
            have := h1.1 _ _ hq; simp at this ⊢; omega
    · split at h
      · split at h
        · simp at h; simp; omega
        · simp at h
      · split at h
        · simp only at h
          split at h
          · cases hq : qS t <;> rw [hq] at h <;> simp [QR.sh] at h
            have := h2.2 _ hq; simp; omega
          · split at h
            · cases hq : qS t <;> rw [hq] at h <;> simp [QR.sh] at h
              have := h2.2 _ hq; simp; omega
            · simp at h; simp; omega
        · split at h
          · simp at h; simp; omega
          · cases hq : qS (c :: t) <;> rw [hq] at h <;> simp [QR.sh] at h
            have := h1.2 _ hq; simp at this ⊢; omega
inductive FR where
  | ok (l : List T_api_Field)
  | bad (n : Nat)
def FR.cons (f : T_api_Field) : FR → FR
  | .ok l => .ok (f :: l)
  | .bad n => .bad n
def fS (t : List UInt8) (p : Nat) : FR :=
  match t with
  | [] => .ok []
  | b :: t' =>
    if b.toNat = 32 then fS t' (p + 1)
    else if b.toNat = 35 then .ok []
    else if b.toNat = 34 then
      match qS t' with
      | .ok text n => (fS (t'.drop n) (p + 1 + n)).cons ⟨text, ((p + 1 : Nat) : Int), true⟩
      | .bad n => .bad (p + 1 + n)
      | .stop => .bad (p + 1 + t'.length)
    else match wS (b :: t') with
      | .inl n => (fS (t'.drop (n - 1)) (p + n)).cons ⟨(b :: t').take n, ((p + 1 : Nat) : Int), false⟩
      | .inr n => .bad (p + n)
termination_by t.length
decreasing_by all_goals (simp; try omega)
theorem fS_nil (p : Nat) : fS [] p = .ok [] := by unfold fS; rfl
theorem fS_cons (b : UInt8) (t' : List UInt8) (p : Nat) : fS (b :: t') p = if b.toNat = 32 then fS t' (p + 1)
    else if b.toNat = 35 then .ok []
    else if b.toNat = 34 then
      match qS t' with
      | .ok text n => (fS (t'.drop n) (p + 1 + n)).cons ⟨text, ((p + 1 : Nat) : Int), true⟩
      | .bad n => .bad (p + 1 + n)
      | .stop => .bad (p + 1 + t'.length)
    else match wS (b :: t') with
      | .inl n => (fS (t'.drop (n - 1)) (p + n)).cons ⟨(b :: t').take n, ((p + 1 : Nat) : Int), false⟩
      | .inr n => .bad (p + n) := by
  conv => lhs; unfold fS
def ffinL (out : List T_api_Field) : FR → (List T_api_Field) ⊕ Int
  | .ok l => .inl (out ++ l)
  | .bad n => .inr (((n + 1 : Nat) : Int))
theorem ffinL_cons (out : List T_api_Field) (f : T_api_Field) (r : FR) : ffinL out (r.cons f) = ffinL (out ++ [f]) r := by
  cases r <;> simp [ffinL, FR.cons]
theorem subL_nat {s : List UInt8} {i : Nat} (h : i ≤ s.length) : subL s (i : Int) = some (s.drop i) := by
  unfold subL
  rw [if_pos (by omega), Int.toNat_natCast, List.take_of_length_le (by simp)]
theorem subI_nat {s : List UInt8} {i j : Nat} (h : i ≤ j) (hj : j ≤ s.length) : subI s (i : Int) (j : Int) = some ((s.drop i).take (j - i)) := by
  unfold subI
  rw [if_pos (by omega)]
  simp
theorem lines_fields_loop (s : List UInt8) (hs : s.length ≤ 4000000000000) : iter (g_lines_fields_s1 s) ([], 0) = some (ffinL [] (fS s 0)) := by
  refine iter_of (fun x e => ∃ i : Nat, x.2 = (i : Int) ∧ i ≤ s.length ∧ x.1.length ≤ i ∧ e = ffinL x.1 (fS (s.drop i) i)) (fun x => s.length - x.2.toNat) ?_ (x := ([], 0)) ⟨0, rfl, by omega, by simp, by simp⟩ (by show s.length - _ < _; omega)
  rintro ⟨out, z⟩ e ⟨i, hz, hi, ha, rfl⟩
  simp only at hz ha ⊢
  subst hz
  by_cases h : i < s.length
  · have w1 := wrap_i64 ((i : Int) + 1) (by omega) (by omega)
    have hat := atI_nat h
    have hb := u8lt s[i]
    have hcnd : decide ((i : Int) < (s.length : Int)) = true := by simpa using h
    have hap : (out.length + 1) * 32 ≤ 140737488355328 := by omega
    have hsl := subL_nat (s := s) (i := i) (by omega)
    have hd1 : (s.drop i).drop 1 = s.drop (i + 1) := by rw [List.drop_drop]
    have hq := lines_quoted_eq (s.drop i) (by simp; omega) (by simp; omega)
    rw [hd1] at hq
    have hdc := drop_cons h
    rw [hdc, fS_cons]
    simp only [g_lines_fields_s1, hcnd, if_true, hat, Option.bind_some, w1, hsl, hq, if_pos hap]
    by_cases c32 : s[i].toNat = 32
    · left
      refine ⟨(out, (i : Int) + 1), by simp [c32], ⟨i + 1, by simp, by omega, by simp; omega, ?_⟩, by simp; omega⟩
      rw [if_pos c32]
    · rw [if_neg c32]
      have e1 : ((s[i].toNat : Int) == 32) = false := by simp; omega
      simp only [e1, Bool.false_eq_true, if_false]
      by_cases c35 : s[i].toNat = 35
      · right
        simp [c35, ffinL]
      · rw [if_neg c35]
        have e2 : ((s[i].toNat : Int) == 35) = false := by simp; omega
        simp only [e2, Bool.false_eq_true, if_false]
        by_cases c34 : s[i].toNat = 34
        · rw [if_pos c34]
          have e3 : ((s[i].toNat : Int) == 34) = true := by simp; omega
          simp only [e3, if_true]
          have hle := qS_le (s.drop (i + 1))
          cases hr : qS (s.drop (i + 1)) with
          | ok text n =>
            left
            have := hle.1 text n hr
            rw [List.length_drop] at this
            have w2 := wrap_i64 ((i : Int) + ((1 + n : Nat) : Int)) (by omega) (by omega)
            refine ⟨(out ++ [⟨text, (i : Int) + 1, true⟩], (i : Int) + ((1 + n : Nat) : Int)), ?_, ⟨i + 1 + n, by simp; omega, by omega, by simp; omega, ?_⟩, by simp; omega⟩
            · simp only [qres, w2]
              simp
            · rw [ffinL_cons, List.drop_drop, show i + 1 + n = i + 1 + n from rfl]
              have : ((i + 1 : Nat) : Int) = (i : Int) + 1 := by omega
              rw [this]
          | bad n =>
            right
            have := hle.2 n hr
            rw [List.length_drop] at this
            have w2 := wrap_i64 ((i : Int) + ((1 + n : Nat) : Int)) (by omega) (by omega)
            have w3 := wrap_i64 ((i : Int) + ((1 + n : Nat) : Int) + 1) (by omega) (by omega)
            have hv : decide (0 ≤ (qres 1 (s.drop i).length (QR.bad n)).2.2) = true := decide_eq_true (Int.natCast_nonneg _)
            simp only [hv, if_true]
            simp only [qres, w2, w3, ffinL]
            congr 3
            omega
          | stop =>
            right
            have hl : (s.drop i).length = s.length - i := List.length_drop
            have w2 := wrap_i64 ((i : Int) + ((s.length - i : Nat) : Int)) (by omega) (by omega)
            have w3 := wrap_i64 ((i : Int) + ((s.length - i : Nat) : Int) + 1) (by omega) (by omega)
            have hv : decide (0 ≤ (qres 1 (s.drop i).length QR.stop).2.2) = true := decide_eq_true (Int.natCast_nonneg _)
            simp only [hv, if_true]
            simp only [qres, hl, w2, w3, ffinL]
            congr 3
            simp only [List.length_drop]
            omega
        · rw [if_neg c34]
          have e3 : ((s[i].toNat : Int) == 34) = false := by simp; omega
          have hw := lines_word_eq (s.drop i) (by simp; omega) (fun hh => by simpa using c35)
          simp only [e3, Bool.false_eq_true, if_false, hw, Option.bind_some]
          rw [← hdc]
          cases hr : wS (s.drop i) with
          | inl n =>
            left
            have hn := wS_le _ n hr
            have hn1 := wS_pos (by rw [hdc] at hr; exact hr) c32
            rw [List.length_drop] at hn
            have w2 := wrap_i64 ((i : Int) + ((0 + n : Nat) : Int)) (by omega) (by omega)
            have hsub : subI s (i : Int) ((i : Int) + ((0 + n : Nat) : Int)) = some ((s.drop i).take n) := by
              have := subI_nat (s := s) (i := i) (j := i + n) (by omega) (by omega)
              rw [show i + n - i = n by omega] at this
              rw [show (i : Int) + ((0 + n : Nat) : Int) = ((i + n : Nat) : Int) by omega]
              exact this
            refine ⟨(out ++ [⟨(s.drop i).take n, (i : Int) + 1, false⟩], (i : Int) + ((0 + n : Nat) : Int)), ?_, ⟨i + n, by simp, by omega, by simp; omega, ?_⟩, by simp; omega⟩
            · simp only [wres, w2, hsub, Option.bind_some]
              simp
            · rw [ffinL_cons, List.drop_drop, show i + 1 + (n - 1) = i + n by omega]
              have : ((i + 1 : Nat) : Int) = (i : Int) + 1 := by omega
              rw [this]
          | inr n =>
            right
            have hn := wS_bad _ n hr
            rw [List.length_drop] at hn
            have w2 := wrap_i64 ((i : Int) + ((0 + n : Nat) : Int)) (by omega) (by omega)
            have w3 := wrap_i64 ((i : Int) + ((0 + n : Nat) : Int) + 1) (by omega) (by omega)
            have w4 := wrap_i64 ((i : Int) + 0) (by omega) (by omega)
            have hsub : subI s (i : Int) ((i : Int) + 0) = some [] := by
              have := subI_nat (s := s) (i := i) (j := i) (by omega) (by omega)
              simpa using this
            have hv : decide (0 ≤ (wres 0 (.inr n)).2) = true := decide_eq_true (Int.natCast_nonneg _)
            simp only [hv, if_true]
            simp only [wres, w2, w3, w4, hsub, Option.bind_some, ffinL]
            congr 3
            omega
  · right
    obtain rfl : i = s.length := by omega
    simp [g_lines_fields_s1, fS_nil, ffinL]
def fresL : FR → (List T_api_Field) × Int
  | .ok l => (l, 0)
  | .bad n => ([], ((n + 1 : Nat) : Int))
theorem lines_fields_eq (s : List UInt8) (hs : s.length ≤ 4000000000000) : g_lines_fields s = some (fresL (fS s 0)) := by
  simp only [g_lines_fields, lines_fields_loop s hs, Option.bind_some]
  cases fS s 0 <;> simp [ffinL, fresL]
def fresR : FR → (List T_api_Field) × Int
  | .ok l => (l, -1)
  | .bad n => ([], (n : Int))
def ffinR (out : List T_api_Field) : FR → (List T_api_Field) × Int
  | .ok l => (out ++ l, -1)
  | .bad n => ([], (n : Int))
theorem ffinR_cons (out : List T_api_Field) (f : T_api_Field) (r : FR) : ffinR out (r.cons f) = ffinR (out ++ [f]) r := by
  cases r <;> simp [ffinR, FR.cons]
theorem ref_skip (s : List UInt8) (hs : s.length ≤ 9223372036854775806) (p : Nat) (hp : p ≤ s.length) : ∃ j : Nat, iter (g_ref07_fields_s2 s) (p : Int) = some (j : Int) ∧ p ≤ j ∧ j ≤ s.length ∧ fS (s.drop j) j = fS (s.drop p) p ∧ ∀ h : j < s.length, s[j].toNat ≠ 32 := by
  have := iter_post (step := g_ref07_fields_s2 s) (fun x => ∃ i : Nat, x = (i : Int) ∧ p ≤ i ∧ i ≤ s.length ∧ fS (s.drop i) i = fS (s.drop p) p) (fun x => s.length - x.toNat)
    (fun e => ∃ j : Nat, e = (j : Int) ∧ p ≤ j ∧ j ≤ s.length ∧ fS (s.drop j) j = fS (s.drop p) p ∧ ∀ h : j < s.length, s[j].toNat ≠ 32) (x := (p : Int)) ⟨p, rfl, Nat.le_refl _, hp, rfl⟩ (by show s.length - _ < _; omega) ?_
  · obtain ⟨e, he, j, rfl, h⟩ := this
    exact ⟨j, he, h⟩
  · rintro x ⟨i, rfl, hpi, hi, hf⟩
    by_cases h : i < s.length
    · have w1 := wrap_i64 ((i : Int) + 1) (by omega) (by omega)
      have hat := atI_nat h
      have hcnd : decide ((i : Int) < (s.length : Int)) = true := by simpa using h
      simp only [g_ref07_fields_s2, hcnd, if_true, hat, Option.bind_some, w1]
      by_cases c32 : s[i].toNat = 32
      · left
        refine ⟨(i : Int) + 1, by simp [c32], ⟨i + 1, by omega, by omega, by omega, ?_⟩, by simp; omega⟩
        rw [← hf, drop_cons h, fS_cons, if_pos c32]
      · right
        have e1 : ((s[i].toNat : Int) == 32) = false := by simp; omega
        exact ⟨(i : Int), by simp [e1], i, rfl, hpi, hi, hf, fun _ => c32⟩
    · right
      obtain rfl : i = s.length := by omega
      exact ⟨(s.length : Int), by simp [g_ref07_fields_s2], s.length, rfl, hpi, hi, hf, fun h' => absurd h' h⟩
theorem ref_fields_loop (s : List UInt8) (hs : s.length ≤ 4000000000000) : iter (g_ref07_fields_s1 s) ([], 0) = some (ffinR [] (fS s 0)) := by
  refine iter_of (fun x e => ∃ i : Nat, x.2 = (i : Int) ∧ i ≤ s.length ∧ x.1.length ≤ i ∧ e = ffinR x.1 (fS (s.drop i) i)) (fun x => s.length - x.2.toNat) ?_ (x := ([], 0)) ⟨0, rfl, by omega, by simp, by simp⟩ (by show s.length - _ < _; omega)
  rintro ⟨out, z⟩ e ⟨i0, hz, hi0, ha0, rfl⟩
  simp only at hz ha0 ⊢
  subst hz
  obtain ⟨i, hit, hi0i, hi, hfs, hne⟩ := ref_skip s (by omega) i0 hi0
  rw [← hfs]
  have ha : out.length ≤ i := by omega
  by_cases h : i < s.length
  · have w1 := wrap_i64 ((i : Int) + 1) (by omega) (by omega)
    have hat := atI_nat h
    have hb := u8lt s[i]
    have c32 := hne h
    have hcnd : decide ((s.length : Int) ≤ (i : Int)) = false := by simp; omega
    have hap : (out.length + 1) * 32 ≤ 140737488355328 := by omega
    have hq := ref_quoted_eq s (by omega) i h
    have hw := ref_word_eq s (by omega) i hi
    have hdc := drop_cons h
    rw [hdc, fS_cons, if_neg c32]
    simp only [g_ref07_fields_s1, hit, hcnd, hat, Option.bind_some, w1, hq, hw, if_pos hap, Bool.false_eq_true, if_false]
    by_cases c35 : s[i].toNat = 35
    · right
      simp [c35, ffinR]
    · rw [if_neg c35]
      have e2 : ((s[i].toNat : Int) == 35) = false := by simp; omega
      simp only [e2, Bool.false_eq_true, if_false]
      by_cases c34 : s[i].toNat = 34
      · rw [if_pos c34]
        have e3 : ((s[i].toNat : Int) == 34) = true := by simp; omega
        simp only [e3, if_true]
        have hle := qS_le (s.drop (i + 1))
        cases hr : qS (s.drop (i + 1)) with
        | ok text n =>
          left
          have := hle.1 text n hr
          rw [List.length_drop] at this
          refine ⟨(out ++ [⟨text, (i : Int) + 1, true⟩], ((i + 1 + n : Nat) : Int)), ?_, ⟨i + 1 + n, rfl, by omega, by simp; omega, ?_⟩, by simp; omega⟩
          · simp only [qres]
            simp
          · rw [ffinR_cons, List.drop_drop]
            have : ((i + 1 : Nat) : Int) = (i : Int) + 1 := by omega
            rw [this]
        | bad n =>
          right
          have hv : decide (0 ≤ (qres (i + 1) s.length (QR.bad n)).2.2) = true := decide_eq_true (Int.natCast_nonneg _)
          simp only [hv, if_true]
          simp only [qres, ffinR]
        | stop =>
          right
          have hv : decide (0 ≤ (qres (i + 1) s.length QR.stop).2.2) = true := decide_eq_true (Int.natCast_nonneg _)
          simp only [hv, if_true]
          simp only [qres, ffinR]
          congr 3
          simp only [List.length_drop]
          omega
      · rw [if_neg c34]
        have e3 : ((s[i].toNat : Int) == 34) = false := by simp; omega
        simp only [e3, Bool.false_eq_true, if_false]
        rw [← hdc]
        cases hr : wS (s.drop i) with
        | inl n =>
          left
          have hn := wS_le _ n hr
          have hn1 := wS_pos (by rw [hdc] at hr; exact hr) c32
          rw [List.length_drop] at hn
          have hsub := subI_nat (s := s) (i := i) (j := i + n) (by omega) (by omega)
          rw [show i + n - i = n by omega] at hsub
          refine ⟨(out ++ [⟨(s.drop i).take n, (i : Int) + 1, false⟩], ((i + n : Nat) : Int)), ?_, ⟨i + n, rfl, by omega, by simp; omega, ?_⟩, by simp; omega⟩
          · simp only [wout, hsub, Option.bind_some]
          · rw [ffinR_cons, List.drop_drop, show i + 1 + (n - 1) = i + n by omega]
            have : ((i + 1 : Nat) : Int) = (i : Int) + 1 := by omega
            rw [this]
        | inr n =>
          right
          simp only [wout, ffinR]
  · right
    obtain rfl : i = s.length := by omega
    simp [g_ref07_fields_s1, hit, fS_nil, ffinR]
theorem ref_fields_eq (s : List UInt8) (hs : s.length ≤ 4000000000000) : g_ref07_fields s = some (fresR (fS s 0)) := by
  simp only [g_ref07_fields, ref_fields_loop s hs, Option.bind_some]
  cases fS s 0 <;> simp [ffinR, fresR]
def spL : List UInt8 → List (List UInt8)
  | [] => [[]]
  | b :: t => if b.toNat = 10 then [] :: spL t else match spL t with
    | [] => [[b]]
    | h :: r => (b :: h) :: r
theorem spL_no : ∀ (s : List UInt8), (∀ b ∈ s, b.toNat ≠ 10) → spL s = [s]
  | [], _ => rfl
  | b :: t, h => by
    have := spL_no t (fun x hx => h x (by simp [hx]))
    simp only [spL, if_neg (h b (by simp)), this]
theorem spL_hit : ∀ (i : Nat) (s : List UInt8) (hi : i < s.length), s[i].toNat = 10 → (∀ (j : Nat) (hj : j < i), s[j].toNat ≠ 10) → spL s = s.take i :: spL (s.drop (i + 1))
  | 0, b :: t, _, h10, _ => by
    have : b.toNat = 10 := h10
    simp [spL, this]
  | i + 1, b :: t, hi, h10, hn => by
    have h0 : b.toNat ≠ 10 := hn 0 (by omega)
    have := spL_hit i t (by simpa using hi) (by simpa using h10) (fun j hj => by have := hn (j + 1) (by omega); simpa using this)
    simp only [spL, if_neg h0, this]
    simp
  | 0, [], hi, _, _ => by simp at hi
  | _ + 1, [], hi, _, _ => by simp at hi
theorem u8_10 (b : UInt8) : b = 10 ↔ b.toNat = 10 := ⟨fun h => by rw [h]; rfl, fun h => UInt8.toNat_inj.1 h⟩
theorem split_eq : ∀ (n : Nat) (s : List UInt8), s.length ≤ n → Lib.split s [10] = spL s := by
  intro n
  induction n with
  | zero => intro s hs; have : s = [] := List.eq_nil_of_length_eq_zero (by omega); subst this; rfl
  | succ n ih =>
    intro s hs
    have hix := Lib.index_one s 10
    by_cases hm : Lib.index s [10] = -1
    · have hno : ∀ b ∈ s, b.toNat ≠ 10 := by
        intro b hb h10
        obtain ⟨k, hk⟩ := List.getElem?_of_mem hb
        exact Lib.indexByte_none (by rw [← hix]; exact hm) k (by rw [hk, (u8_10 b).2 h10])
      rw [spL_no s hno]
      unfold Lib.split
      rw [Lib.count_miss hm]
      rfl
    · have hge := Lib.index_ge s [10]
      obtain ⟨i, hi⟩ : ∃ i : Nat, Lib.index s [10] = i := ⟨(Lib.index s [10]).toNat, by omega⟩
      obtain ⟨h1, h2⟩ := Lib.indexByte_some (by rw [← hix]; exact hi)
      obtain ⟨hlt, hget⟩ := List.getElem?_eq_some_iff.1 h1
      have hspl := spL_hit i s hlt (by rw [hget]; rfl) (fun j hj h10 => h2 j hj (by rw [List.getElem?_eq_getElem (by omega), (u8_10 _).2 h10]))
      rw [hspl]
      unfold Lib.split
      rw [Lib.count_hit (by simp) hi, Nat.add_comm]
      unfold Lib.splitK
      have hne : ¬ (Lib.index s [10] == -1) = true := by simp; omega
      rw [if_neg hne, hi]
      simp only [Int.toNat_natCast, Nat.add_zero, List.length_cons, List.length_nil, Nat.zero_add]
      congr 1
      exact ih (s.drop (i + 1)) (by simp; omega)
theorem fS_bad_le : ∀ (m : Nat) (t : List UInt8) (p n : Nat), t.length ≤ m → fS t p = .bad n → n ≤ p + t.length := by
  intro m
  induction m with
  | zero => intro t p n hm h; have : t = [] := List.eq_nil_of_length_eq_zero (by omega); subst this; rw [fS_nil] at h; cases h
  | succ m ih =>
    intro t p n hm h
    cases t with
    | nil => rw [fS_nil] at h; cases h
    | cons b t =>
      simp only [List.length_cons] at hm ⊢
      rw [fS_cons] at h
      split at h
      · have := ih t (p + 1) n (by omega) h; omega
      · split at h
        · cases h
        · split at h
          · cases hq : qS t with
            | ok text k =>
              rw [hq] at h
              simp only at h
              cases hr : fS (t.drop k) (p + 1 + k) with
              | ok l => rw [hr] at h; cases h
              | bad x =>
                rw [hr] at h
                simp [FR.cons] at h
                subst h
                have := ih (t.drop k) (p + 1 + k) x (by simp; omega) hr
                have hk := (qS_le t).1 text k hq
                rw [List.length_drop] at this; omega
            | bad k => rw [hq] at h; simp at h; have := (qS_le t).2 k hq; omega
            | stop => rw [hq] at h; simp at h; omega
          · rename_i h32 _ _
            cases hq : wS (b :: t) with
            | inl k =>
              rw [hq] at h
              simp only at h
              cases hr : fS (t.drop (k - 1)) (p + k) with
              | ok l => rw [hr] at h; cases h
              | bad x =>
                rw [hr] at h
                simp [FR.cons] at h
                subst h
                have := ih (t.drop (k - 1)) (p + k) x (by simp; omega) hr
                have hk := wS_le _ k hq
                have hk1 := wS_pos hq h32
                simp at hk
                rw [List.length_drop] at this; omega
            | inr k => rw [hq] at h; simp at h; have := wS_bad _ k hq; simp at this; omega
def lr (n : Nat) (y : List UInt8) : Option (T_api_Diag ⊕ T_api_Line) := if 1000 < y.length then some (.inl ⟨((n + 1 : Nat) : Int), 1001, 9⟩) else match fS y 0 with
  | .bad b => some (.inl ⟨((n + 1 : Nat) : Int), ((b + 1 : Nat) : Int), 4⟩)
  | .ok [] => none
  | .ok (f :: l) => some (.inr ⟨((n + 1 : Nat) : Int), f :: l⟩)
def accL (p : List T_api_Line × List T_api_Diag) : Option (T_api_Diag ⊕ T_api_Line) → List T_api_Line × List T_api_Diag
  | none => p
  | some (.inl d) => (p.1, p.2 ++ [d])
  | some (.inr l) => (p.1 ++ [l], p.2)
def allR : Nat → List (List UInt8) → List T_api_Line × List T_api_Diag → List T_api_Line × List T_api_Diag
  | _, [], p => p
  | n, y :: r, p => allR (n + 1) r (accL p (lr n y))
def splitS (src : List UInt8) : List T_api_Line × List T_api_Diag := if 262144 < src.length then ([], [⟨1, 1, 9⟩]) else ((allR 0 (spL src) ([], [])).1, (allR 0 (spL src) ([], [])).2.take 50)
theorem take50 (l : List T_api_Diag) (d : T_api_Diag) : (l ++ [d]).take 50 = if (l.take 50).length < 50 then l.take 50 ++ [d] else l.take 50 := by
  rw [List.length_take]
  by_cases h : l.length < 50
  · rw [if_pos (by omega), List.take_of_length_le (by simp; omega), List.take_of_length_le (by omega)]
  · rw [if_neg (by omega), List.take_append_of_le_length (by omega)]
theorem accL_len (p : List T_api_Line × List T_api_Diag) (x : Option (T_api_Diag ⊕ T_api_Line)) (n : Nat) (h1 : p.1.length ≤ n) (h2 : p.2.length ≤ n) : (accL p x).1.length ≤ n + 1 ∧ (accL p x).2.length ≤ n + 1 := by
  rcases x with _ | d | l <;> simp [accL] <;> omega
theorem lines_Split_loop (r : List (List UInt8)) (hr : r.length ≤ 300000) : iter (g_lines_Split_s1 r) ([], [], 0) = some ((allR 0 r ([], [])).1, (allR 0 r ([], [])).2.take 50) := by
  refine iter_of (fun x e => ∃ (i : Nat) (p : List T_api_Line × List T_api_Diag), x.2.2 = (i : Int) ∧ i ≤ r.length ∧ x.1 = p.1 ∧ x.2.1 = p.2.take 50 ∧ p.1.length ≤ i ∧ p.2.length ≤ i ∧ e = ((allR i (r.drop i) p).1, (allR i (r.drop i) p).2.take 50)) (fun x => r.length - x.2.2.toNat) ?_ (x := ([], [], 0)) ⟨0, ([], []), rfl, by omega, rfl, rfl, by simp, by simp, by simp⟩ (by show r.length - _ < _; omega)
  rintro ⟨out, dg, z⟩ e ⟨i, p, hz, hi, ho, hd, hl1, hl2, rfl⟩
  simp only at hz ho hd ⊢
  subst hz ho hd
  by_cases h : i < r.length
  · left
    have w1 := wrap_i64 ((i : Int) + 1) (by omega) (by omega)
    have hat := atI_nat h
    have hcnd : decide ((i : Int) < (r.length : Int)) = true := by simpa using h
    have hap1 : (p.1.length + 1) * 32 ≤ 140737488355328 := by omega
    have hlt : (p.2.take 50).length ≤ 50 := by rw [List.length_take]; omega
    have hap2 : ((p.2.take 50).length + 1) * 24 ≤ 140737488355328 := by omega
    have hn1 : ((i + 1 : Nat) : Int) = (i : Int) + 1 := by omega
    have key : ∃ (q1 : List T_api_Line) (q2 : List T_api_Diag), q1 = (accL p (lr i r[i])).1 ∧ q2 = (accL p (lr i r[i])).2.take 50 ∧ g_lines_Split_s1 r (p.1, p.2.take 50, (i : Int)) = some (.go (q1, q2, (i : Int) + 1)) := by
      simp only [g_lines_Split_s1, hcnd, if_true, hat, Option.bind_some, w1, if_pos hap1, if_pos hap2]
      by_cases hlong : 1000 < r[i].length
      · have e1 : decide (1000 < (r[i].length : Int)) = true := by simp; omega
        simp only [e1, if_true, lr, if_pos hlong, accL, take50]
        by_cases h50 : (p.2.take 50).length < 50
        · have e2 : decide (((p.2.take 50).length : Int) < 50) = true := by simp only [decide_eq_true_eq]; omega
          simp only [e2, if_true, if_pos h50, Option.bind_some, hn1]
          refine ⟨_, _, ?_, ?_, rfl⟩ <;> rfl
        · have e2 : decide (((p.2.take 50).length : Int) < 50) = false := by simp only [decide_eq_false_iff_not]; omega
          simp only [e2, Bool.false_eq_true, if_false, if_neg h50, Option.bind_some]
          refine ⟨_, _, ?_, ?_, rfl⟩ <;> rfl
      · have e1 : decide (1000 < (r[i].length : Int)) = false := by simp; omega
        have hf := lines_fields_eq r[i] (by omega)
        simp only [e1, Bool.false_eq_true, if_false, lr, if_neg hlong, hf, Option.bind_some]
        cases hfs : fS r[i] 0 with
        | bad n =>
          have e3 : decide (0 < (fresL (.bad n)).2) = true := decide_eq_true (by show (0 : Int) < ((n + 1 : Nat) : Int); omega)
          simp only [e3, if_true, accL, take50]
          simp only [fresL]
          by_cases h50 : (p.2.take 50).length < 50
          · have e2 : decide (((p.2.take 50).length : Int) < 50) = true := by simp only [decide_eq_true_eq]; omega
            simp only [e2, if_true, if_pos h50, Option.bind_some, hn1]
            refine ⟨_, _, ?_, ?_, rfl⟩ <;> rfl
          · have e2 : decide (((p.2.take 50).length : Int) < 50) = false := by simp only [decide_eq_false_iff_not]; omega
            simp only [e2, Bool.false_eq_true, if_false, if_neg h50, Option.bind_some]
            refine ⟨_, _, ?_, ?_, rfl⟩ <;> rfl
        | ok l =>
          have e3 : decide (0 < (fresL (.ok l)).2) = false := by simp [fresL]
          simp only [e3, Bool.false_eq_true, if_false]
          cases l with
          | nil =>
            have e4 : decide (0 < ((fresL (.ok [])).1.length : Int)) = false := by simp [fresL]
            simp only [e4, Bool.false_eq_true, if_false, accL, Option.bind_some]
            exact ⟨p.1, p.2.take 50, rfl, rfl, rfl⟩
          | cons f l =>
            have e4 : decide (0 < ((fresL (.ok (f :: l))).1.length : Int)) = true := by simp [fresL]
            simp only [e4, if_true, accL, hn1, Option.bind_some]
            refine ⟨_, _, ?_, ?_, rfl⟩ <;> rfl
    obtain ⟨q1, q2, hq1, hq2, hq⟩ := key
    refine ⟨_, hq, ⟨i + 1, accL p (lr i r[i]), by simp, by omega, hq1, hq2, (accL_len p _ i hl1 hl2).1, (accL_len p _ i hl1 hl2).2, ?_⟩, by simp; omega⟩
    rw [List.drop_eq_getElem_cons h]
    rfl
  · right
    obtain rfl : i = r.length := by omega
    simp [g_lines_Split_s1, allR]
theorem spL_len : ∀ (s : List UInt8), 1 ≤ (spL s).length ∧ (spL s).length ≤ s.length + 1
  | [] => by simp [spL]
  | b :: t => by
    have := spL_len t
    simp only [spL]
    split
    · simp; omega
    · split
      · rename_i h; rw [h] at this; simp at this
      · rename_i h; rw [h] at this; simp at this ⊢; omega
theorem lines_Split_eq (src : List UInt8) : g_lines_Split src = some (splitS src) := by
  unfold splitS
  by_cases h : 262144 < src.length
  · have e1 : decide (262144 < (src.length : Int)) = true := by simp; omega
    simp only [g_lines_Split, e1, if_true, if_pos h]
  · have e1 : decide (262144 < (src.length : Int)) = false := by simp; omega
    have hl := spL_len src
    simp only [g_lines_Split, e1, Bool.false_eq_true, if_false, if_neg h, g_strings_Split]
    rw [if_pos (by simp; omega), split_eq src.length src (Nat.le_refl _)]
    simp only [Option.bind_some, lines_Split_loop (spL src) (by omega)]
theorem ref_Split_loop (src : List UInt8) (hs : src.length ≤ 262144) : iter (g_ref07_Split_s1 src) ([], [], 1, 0, 0) = some (allR 0 (spL src) ([], [])) := by
  refine iter_of (fun x e => ∃ (n st i : Nat) (p : List T_api_Line × List T_api_Diag), x.2.2.1 = ((n + 1 : Nat) : Int) ∧ x.2.2.2.1 = (st : Int) ∧ x.2.2.2.2 = (i : Int) ∧ n ≤ i ∧ i ≤ src.length + 1 ∧ x.1 = p.1 ∧ x.2.1 = p.2 ∧ p.1.length ≤ n ∧ p.2.length ≤ n ∧
      (i ≤ src.length → st ≤ i ∧ (∀ (j : Nat) (hj : j < src.length), st ≤ j → j < i → src[j].toNat ≠ 10) ∧ e = allR n (spL (src.drop st)) p) ∧ (i = src.length + 1 → e = p)) (fun x => src.length + 1 - x.2.2.2.2.toNat) ?_ (x := ([], [], 1, 0, 0))
      ⟨0, 0, 0, ([], []), rfl, rfl, rfl, by omega, by omega, rfl, rfl, by simp, by simp, fun _ => ⟨by omega, fun j _ _ h => by omega, by simp⟩, fun h => by omega⟩ (by show src.length + 1 - _ < _; omega)
  rintro ⟨out, dg, nm, s0, z⟩ e ⟨n, st, i, p, hn, hst, hz, hni, hi, ho, hd, hl1, hl2, hA, hB⟩
  simp only at hn hst hz ho hd ⊢
  subst hn hst hz ho hd
  by_cases h : i ≤ src.length
  · left
    obtain ⟨hsti, hno, he⟩ := hA h
    have w1 := wrap_i64 ((i : Int) + 1) (by omega) (by omega)
    have w2 := wrap_i64 (((n + 1 : Nat) : Int) + 1) (by omega) (by omega)
    have hcnd : decide ((i : Int) ≤ (src.length : Int)) = true := by simpa using h
    have hap1 : (p.1.length + 1) * 32 ≤ 140737488355328 := by omega
    have hap2 : (p.2.length + 1) * 24 ≤ 140737488355328 := by omega
    have hn1 : ((i + 1 : Nat) : Int) = (i : Int) + 1 := by omega
    have hn2 : ((n + 1 + 1 : Nat) : Int) = ((n + 1 : Nat) : Int) + 1 := by omega
    have hsub := subI_nat (s := src) (i := st) (j := i) hsti h
    by_cases hnl : ∃ hh : i < src.length, src[i].toNat ≠ 10
    · obtain ⟨hh, h10⟩ := hnl
      have hat := atI_nat hh
      have hc2 : decide ((i : Int) < (src.length : Int)) = true := by simpa using hh
      have e1 : ((src[i].toNat : Int) != 10) = true := by simp; omega
      refine ⟨(p.1, p.2, ((n + 1 : Nat) : Int), (st : Int), (i : Int) + 1), ?_, ⟨n, st, i + 1, p, rfl, rfl, by simp, by omega, by omega, rfl, rfl, hl1, hl2, fun h' => ⟨by omega, fun j hj h1 h2 => ?_, he⟩, fun h' => by omega⟩, by simp; omega⟩
      · simp only [g_ref07_Split_s1, hcnd, if_true, hc2, hat, Option.bind_some, e1, w1]
      · by_cases hji : j = i
        · subst hji; exact h10
        · exact hno j hj h1 (by omega)
    · -- a line ends here
      have hv : (((if (decide ((i : Int) < (src.length : Int))) then ((atI src (i : Int)).bind fun b468 => (some ((b468.toNat : Int) != 10))) else (some false)) : Option (Bool))) = some false := by
        by_cases hh : i < src.length
        · have h10 : src[i].toNat = 10 := Classical.not_not.1 fun hx => hnl ⟨hh, hx⟩
          have hc2 : decide ((i : Int) < (src.length : Int)) = true := by simpa using hh
          simp only [hc2, if_true, atI_nat hh, Option.bind_some, h10]
          rfl
        · have hc2 : decide ((i : Int) < (src.length : Int)) = false := by simp; omega
          simp only [hc2, Bool.false_eq_true, if_false]
      have hnb : ∀ (j : Nat) (hj : j < i - st), ((src.drop st)[j]'(by simp; omega)).toNat ≠ 10 := by
        intro j hj
        rw [List.getElem_drop]
        exact hno (st + j) (by omega) (by omega) (by omega)
      have hsp : spL (src.drop st) = (src.drop st).take (i - st) :: (if i < src.length then spL (src.drop (i + 1)) else []) := by
        by_cases hh : i < src.length
        · have h10 : src[i].toNat = 10 := Classical.not_not.1 fun hx => hnl ⟨hh, hx⟩
          rw [if_pos hh]
          have := spL_hit (i - st) (src.drop st) (by simp; omega) (by rw [List.getElem_drop]; simpa [show st + (i - st) = i by omega] using h10) (fun j hj => hnb j hj)
          rw [this, List.drop_drop, show st + (i - st + 1) = i + 1 by omega]
        · rw [if_neg hh]
          obtain rfl : i = src.length := by omega
          rw [spL_no, List.take_of_length_le (by simp)]
          intro b hb
          obtain ⟨j, hj, rfl⟩ := List.getElem_of_mem hb
          exact hnb j (by simpa using hj)
      have key : ∃ q : List T_api_Line × List T_api_Diag, q = accL p (lr n ((src.drop st).take (i - st))) ∧ g_ref07_Split_s1 src (p.1, p.2, ((n + 1 : Nat) : Int), (st : Int), (i : Int)) = some (.go (q.1, q.2, ((n + 1 : Nat) : Int) + 1, (i : Int) + 1, (i : Int) + 1)) := by
        simp only [g_ref07_Split_s1, hcnd, if_true, hv, Option.bind_some, Bool.false_eq_true, if_false, hsub, w1, w2, if_pos hap1, if_pos hap2]
        generalize hy : (src.drop st).take (i - st) = y
        have hyl : y.length ≤ 262144 := by rw [← hy]; simp; omega
        by_cases hlong : 1000 < y.length
        · have e1 : decide (1000 < (y.length : Int)) = true := by simp; omega
          simp only [e1, if_true, lr, if_pos hlong, accL, Option.bind_some]
          exact ⟨_, rfl, rfl⟩
        · have e1 : decide (1000 < (y.length : Int)) = false := by simp; omega
          have hf := ref_fields_eq y (by omega)
          simp only [e1, Bool.false_eq_true, if_false, lr, if_neg hlong, hf, Option.bind_some]
          cases hfs : fS y 0 with
          | bad b =>
            have e3 : decide (0 ≤ (fresR (.bad b)).2) = true := decide_eq_true (Int.natCast_nonneg _)
            simp only [e3, if_true, accL, Option.bind_some]
            simp only [fresR]
            refine ⟨_, rfl, ?_⟩
            have hbl : b ≤ 4000000000000 := by
              have := fS_bad_le y.length y 0 b (Nat.le_refl _) hfs
              omega
            rw [wrap_i64 ((b : Int) + 1) (by omega) (by omega)]
            have : ((b + 1 : Nat) : Int) = (b : Int) + 1 := by omega
            rw [this]
          | ok l =>
            have e3 : decide (0 ≤ (fresR (.ok l)).2) = false := by simp [fresR]
            simp only [e3, Bool.false_eq_true, if_false]
            cases l with
            | nil =>
              have e4 : decide (0 < ((fresR (.ok [])).1.length : Int)) = false := by simp [fresR]
              simp only [e4, Bool.false_eq_true, if_false, accL, Option.bind_some]
              exact ⟨p, rfl, rfl⟩
            | cons f l =>
              have e4 : decide (0 < ((fresR (.ok (f :: l))).1.length : Int)) = true := by simp [fresR]
              simp only [e4, if_true, accL, Option.bind_some]
              exact ⟨_, rfl, rfl⟩
      obtain ⟨q, hq1, hq⟩ := key
      refine ⟨_, hq, ⟨n + 1, i + 1, i + 1, q, by simp only; omega, by simp, by simp, by omega, by omega, rfl, rfl, ?_, ?_, fun h' => ⟨by omega, fun j hj h1 h2 => by omega, ?_⟩, fun h' => ?_⟩, by simp; omega⟩
      · rw [hq1]; exact (accL_len p _ n hl1 hl2).1
      · rw [hq1]; exact (accL_len p _ n hl1 hl2).2
      · rw [he, hsp, if_pos (by omega), hq1]; rfl
      · rw [he, hsp, if_neg (by omega), hq1]; rfl
  · right
    have hc : decide ((i : Int) ≤ (src.length : Int)) = false := by simp; omega
    rw [hB (by omega)]
    simp only [g_ref07_Split_s1, hc, Bool.false_eq_true, if_false]
theorem ref_Split_eq (src : List UInt8) : g_ref07_Split src = some (splitS src) := by
  unfold splitS
  by_cases h : 262144 < src.length
  · have e1 : decide (262144 < (src.length : Int)) = true := by simp; omega
    simp only [g_ref07_Split, e1, if_true, if_pos h]
  · have e1 : decide (262144 < (src.length : Int)) = false := by simp; omega
    simp only [g_ref07_Split, e1, Bool.false_eq_true, if_false, if_neg h, ref_Split_loop src (by omega), Option.bind_some]
    generalize (allR 0 (spL src) ([], [])) = q
    have : subH q.2 (if 50 < ((q.2.length : Nat) : Int) then 50 else ((q.2.length : Nat) : Int)) = some (q.2.take 50) := by
      unfold subH
      by_cases h5 : 50 < ((q.2.length : Nat) : Int)
      · rw [if_pos h5, if_pos (by constructor <;> omega)]; rfl
      · rw [if_neg h5, if_pos (by constructor <;> omega)]
        rw [List.drop_zero, Int.toNat_natCast, Nat.sub_zero, List.take_of_length_le (Nat.le_refl _), List.take_of_length_le (by omega)]
    simp only [this, Option.bind_some]
def nmB (b : UInt8) : Bool := (decide (65 ≤ b.toNat) && decide (b.toNat ≤ 90)) || (decide (48 ≤ b.toNat) && decide (b.toNat ≤ 57)) || b.toNat == 95 || b.toNat == 45
def isNm (s : List UInt8) : Bool := match s with
  | [] => false
  | b :: _ => decide (s.length ≤ 16) && (decide (65 ≤ b.toNat) && decide (b.toNat ≤ 90)) && s.all nmB
theorem isNm_at (s : List UInt8) (h1 : 1 ≤ s.length) : isNm s = true ↔ (s.length ≤ 16 ∧ (65 ≤ s[0].toNat ∧ s[0].toNat ≤ 90) ∧ ∀ i (h : i < s.length), nmB s[i] = true) := by
  match s, h1 with
  | b :: t, _ =>
    simp only [isNm, Bool.and_eq_true, decide_eq_true_eq, List.all_eq_true]
    constructor
    · rintro ⟨⟨h1, h2⟩, h3⟩
      exact ⟨h1, by simpa using h2, fun i h => h3 _ (List.getElem_mem h)⟩
    · rintro ⟨h1, h2, h3⟩
      refine ⟨⟨h1, by simpa using h2⟩, fun x hx => ?_⟩
      obtain ⟨i, hi, rfl⟩ := List.getElem_of_mem hx
      exact h3 i hi
theorem lines_Name_loop (s : List UInt8) (hs : s.length ≤ 16) : ∃ e, iter (g_lines_Name_s1 s) 0 = some e ∧ (e = .inr () ↔ ∀ i (h : i < s.length), nmB s[i] = true) := by
  refine iter_cnt s.length (by omega) (fun n => ∀ i (h : i < s.length), i < n → nmB s[i] = true) _ (by intro i _ h; omega) ?_ ?_
  · intro i hi hI
    have hw := wrap_i64 ((i : Int) + 1) (by omega) (by omega)
    simp only [g_lines_Name_s1, atI_nat hi, Option.bind_some, hw]
    have hb := u8lt s[i]
    have hk : nmB s[i] = true ∨ nmB s[i] = false := by cases nmB s[i] <;> simp
    rcases hk with hk | hk
    · left
      refine ⟨?_, fun j hj hlt => ?_⟩
      · simp only [nmB] at hk; grind
      · by_cases hji : j = i
        · subst hji; exact hk
        · exact hI j hj (by omega)
    · right
      refine ⟨.inl (), ?_, ?_⟩
      · simp only [nmB] at hk; grind
      · simp only [reduceCtorEq, false_iff]
        intro h
        have := h i hi
        simp [hk] at this
  · intro hI
    refine ⟨.inr (), by simp [g_lines_Name_s1], ?_⟩
    simp only [true_iff]
    exact fun i h => hI i h h
theorem lines_Name_eq (s : List UInt8) : g_lines_Name s = some (isNm s) := by
  by_cases h0 : s.length < 1
  · match s, h0 with
    | [], _ => rfl
  · by_cases h1 : s.length ≤ 16
    · obtain ⟨e, he, hi⟩ := lines_Name_loop s h1
      have hn := isNm_at s (by omega)
      have h0' : atI s 0 = some s[0] := atI_nat (n := 0) (by omega)
      simp only [g_lines_Name, he, h0', Option.bind_some]
      rcases e with ⟨⟩ | ⟨⟩ <;> grind
    · have : isNm s = false := by
        cases hh : isNm s with
        | false => rfl
        | true => exact absurd ((isNm_at s (by omega)).1 hh).1 h1
      simp only [g_lines_Name, this]
      grind
theorem digit_eq (c : Int) : g_ref07_digit c = some (decide (48 ≤ c) && decide (c ≤ 57)) := by
  simp only [g_ref07_digit]; grind
theorem ref07_Name_loop (s : List UInt8) (hs : s.length ≤ 16) (hs1 : 1 ≤ s.length) : ∃ e, iter (g_ref07_Name_s1 s) 0 = some e ∧ (e = .inr () ↔ (65 ≤ s[0].toNat ∧ s[0].toNat ≤ 90) ∧ ∀ i (h : i < s.length), nmB s[i] = true) := by
  refine iter_cnt s.length (by omega) (fun n => (0 < n → 65 ≤ s[0].toNat ∧ s[0].toNat ≤ 90) ∧ ∀ i (h : i < s.length), i < n → nmB s[i] = true) _ ⟨by omega, by intro i _ h; omega⟩ ?_ ?_
  · intro i hi ⟨hI0, hI⟩
    have hw := wrap_i64 ((i : Int) + 1) (by omega) (by omega)
    simp only [g_ref07_Name_s1, atI_nat hi, Option.bind_some, hw, digit_eq]
    have hb := u8lt s[i]
    by_cases hk : nmB s[i] = true ∧ (i = 0 → 65 ≤ s[0].toNat ∧ s[0].toNat ≤ 90)
    · left
      obtain ⟨hk, hk0⟩ := hk
      refine ⟨?_, fun _ => ?_, fun j hj hlt => ?_⟩
      · simp only [nmB] at hk
        by_cases h0 : i = 0
        · subst h0; grind
        · grind
      · by_cases h0 : i = 0
        · exact hk0 h0
        · exact hI0 (by omega)
      · by_cases hji : j = i
        · subst hji; exact hk
        · exact hI j hj (by omega)
    · right
      refine ⟨.inl (), ?_, ?_⟩
      · simp only [nmB] at hk
        by_cases h0 : i = 0
        · subst h0; grind
        · grind
      · simp only [reduceCtorEq, false_iff]
        rintro ⟨h1, h2⟩
        exact hk ⟨h2 i hi, fun _ => h1⟩
  · intro ⟨hI0, hI⟩
    refine ⟨.inr (), by simp [g_ref07_Name_s1], ?_⟩
    simp only [true_iff]
    exact ⟨hI0 (by omega), fun i h => hI i h h⟩
theorem ref07_Name_eq (s : List UInt8) : g_ref07_Name s = some (isNm s) := by
  by_cases h0 : s.length < 1
  · match s, h0 with
    | [], _ => rfl
  · by_cases h1 : s.length ≤ 16
    · obtain ⟨e, he, hi⟩ := ref07_Name_loop s h1 (by omega)
      have hn := isNm_at s (by omega)
      simp only [g_ref07_Name, he, Option.bind_some]
      rcases e with ⟨⟩ | ⟨⟩ <;> grind
    · have : isNm s = false := by
        cases hh : isNm s with
        | false => rfl
        | true => exact absurd ((isNm_at s (by omega)).1 hh).1 h1
      simp only [g_ref07_Name, this]
      grind
theorem fS_ok_len : ∀ (m : Nat) (t : List UInt8) (p : Nat) (l : List T_api_Field), t.length ≤ m → fS t p = .ok l → l.length ≤ t.length := by
  intro m
  induction m with
  | zero => intro t p l hm h; have : t = [] := List.eq_nil_of_length_eq_zero (by omega); subst this; rw [fS_nil] at h; injection h with h; subst h; simp
  | succ m ih =>
    intro t p l hm h
    cases t with
    | nil => rw [fS_nil] at h; injection h with h; subst h; simp
    | cons b t =>
      simp only [List.length_cons] at hm ⊢
      rw [fS_cons] at h
      split at h
      · have := ih t (p + 1) l (by omega) h; omega
      · split at h
        · injection h with h; subst h; simp
        · split at h
          · cases hq : qS t with
            | ok text k =>
              rw [hq] at h
              simp only at h
              cases hr : fS (t.drop k) (p + 1 + k) with
              | bad x => rw [hr] at h; cases h
              | ok l' =>
                rw [hr] at h
                simp [FR.cons] at h
                subst h
                have := ih (t.drop k) (p + 1 + k) l' (by simp; omega) hr
                rw [List.length_drop] at this; simp; omega
            | bad k => rw [hq] at h; simp at h
            | stop => rw [hq] at h; simp at h
          · cases hq : wS (b :: t) with
            | inl k =>
              rw [hq] at h
              simp only at h
              cases hr : fS (t.drop (k - 1)) (p + k) with
              | bad x => rw [hr] at h; cases h
              | ok l' =>
                rw [hr] at h
                simp [FR.cons] at h
                subst h
                have := ih (t.drop (k - 1)) (p + k) l' (by simp; omega) hr
                rw [List.length_drop] at this; simp; omega
            | inr k => rw [hq] at h; simp at h
theorem allR_len : ∀ (r : List (List UInt8)) (n : Nat) (p : List T_api_Line × List T_api_Diag), (allR n r p).1.length ≤ p.1.length + r.length ∧ (allR n r p).2.length ≤ p.2.length + r.length
  | [], n, p => by simp [allR]
  | y :: r, n, p => by
    have := allR_len r (n + 1) (accL p (lr n y))
    have h2 : (accL p (lr n y)).1.length ≤ p.1.length + 1 ∧ (accL p (lr n y)).2.length ≤ p.2.length + 1 := by
      rcases lr n y with _ | d | l <;> simp [accL]
    simp only [allR, List.length_cons]
    omega
theorem lr_fields (n : Nat) (y : List UInt8) (l : T_api_Line) (h : lr n y = some (.inr l)) : l.Fields.length ≤ 1000 := by
  unfold lr at h
  split at h
  · cases h
  · cases hf : fS y 0 with
    | bad b => rw [hf] at h; cases h
    | ok fs =>
      rw [hf] at h
      cases fs with
      | nil => cases h
      | cons f fs =>
        injection h with h
        injection h with h
        subst h
        have := fS_ok_len y.length y 0 (f :: fs) (Nat.le_refl _) hf
        show (f :: fs).length ≤ 1000
        omega
theorem allR_fields : ∀ (r : List (List UInt8)) (n : Nat) (p : List T_api_Line × List T_api_Diag), (∀ x ∈ p.1, x.Fields.length ≤ 1000) → ∀ x ∈ (allR n r p).1, x.Fields.length ≤ 1000
  | [], n, p, h => h
  | y :: r, n, p, h => by
    refine allR_fields r (n + 1) (accL p (lr n y)) ?_
    cases hl : lr n y with
    | none => exact h
    | some q =>
      cases q with
      | inl d => exact h
      | inr l =>
        intro x hx
        simp only [accL, List.mem_append, List.mem_singleton] at hx
        rcases hx with hx | rfl
        · exact h x hx
        · exact lr_fields n y _ hl
theorem splitS_small (src : List UInt8) : (splitS src).1.length ≤ 262145 ∧ (splitS src).2.length ≤ 50 ∧ ∀ x ∈ (splitS src).1, x.Fields.length ≤ 1000 := by
  unfold splitS
  split
  · simp
  · have h1 := allR_len (spL src) 0 ([], [])
    have h2 := allR_fields (spL src) 0 ([], []) (by simp)
    have h3 := spL_len src
    simp only [List.length_nil] at h1
    refine ⟨by show (allR 0 (spL src) ([], [])).1.length ≤ _; omega, by simp; omega, h2⟩
def isDg (b : UInt8) : Bool := decide (48 ≤ b.toNat) && decide (b.toNat ≤ 57)
def numV (acc : Nat) (l : List UInt8) : Nat := l.foldl (fun a c => a * 10 + (c.toNat - 48)) acc
def numN (s : List UInt8) : Bool := s.head?.any (fun b => b.toNat == 45)
def numD (s : List UInt8) : List UInt8 := if numN s then s.drop 1 else s
def numBad (s : List UInt8) : Bool := match numD s with
  | [] => true
  | b :: t => (b.toNat == 48 && (decide (1 < (b :: t).length) || numN s)) || !((b :: t).all isDg)
def numVal (s : List UInt8) : Int := if numN s then -(numV 0 (numD s) : Int) else (numV 0 (numD s) : Int)
def numS (s : List UInt8) (lo hi : Int) : Int × Int := if numBad s then (0, 4) else if numVal s < -9223372036854775808 ∨ 9223372036854775807 < numVal s ∨ numVal s < lo ∨ hi < numVal s then (0, 2) else (numVal s, 0)
theorem numV_cons (acc : Nat) (c : UInt8) (r : List UInt8) : numV acc (c :: r) = numV (acc * 10 + (c.toNat - 48)) r := by unfold numV; rw [List.foldl_cons]
theorem numV_ge (l : List UInt8) : ∀ (acc : Nat), acc * 10 ^ l.length ≤ numV acc l := by
  induction l with
  | nil => intro acc; unfold numV; simp
  | cons c r ih =>
    intro acc
    rw [numV_cons, List.length_cons, Nat.pow_succ, Nat.mul_comm (10 ^ r.length) 10, ← Nat.mul_assoc]
    exact Nat.le_trans (Nat.mul_le_mul_right _ (Nat.le_add_right _ _)) (ih _)
theorem numV_le (l : List UInt8) : ∀ (acc : Nat), (∀ b ∈ l, isDg b = true) → numV acc l < (acc + 1) * 10 ^ l.length := by
  induction l with
  | nil => intro acc _; unfold numV; simp
  | cons c r ih =>
    intro acc h
    have hc := h c (by simp)
    simp only [isDg, Bool.and_eq_true, decide_eq_true_eq] at hc
    rw [numV_cons, List.length_cons, Nat.pow_succ, Nat.mul_comm (10 ^ r.length) 10, ← Nat.mul_assoc]
    exact Nat.lt_of_lt_of_le (ih _ (fun b hb => h b (by simp [hb]))) (Nat.mul_le_mul_right _ (by omega))
theorem parseM (l : List UInt8) : ∀ (acc : Nat), (∀ b ∈ l, isDg b = true) → acc ≤ 18446744073709551615 → Lib.parseUintM 18446744073709551615 acc l = if numV acc l ≤ 18446744073709551615 then .ok (numV acc l) else .range := by
  induction l with
  | nil => intro acc _ h; simp [Lib.parseUintM, numV, h]
  | cons c r ih =>
    intro acc hd h
    have hc := hd c (by simp)
    simp only [isDg, Bool.and_eq_true, decide_eq_true_eq] at hc
    have hge := numV_ge r (acc * 10 + (c.toNat - 48))
    have hp : 1 ≤ 10 ^ r.length := Nat.one_le_pow _ _ (by omega)
    have hge2 : acc * 10 + (c.toNat - 48) ≤ numV (acc * 10 + (c.toNat - 48)) r := Nat.le_trans (Nat.le_mul_of_pos_right _ hp) hge
    rw [numV_cons, Lib.parseUintM, if_pos hc]
    by_cases h1 : 1844674407370955162 ≤ acc
    · rw [if_pos h1, if_neg (by omega)]
    · rw [if_neg h1]
      by_cases h2 : 18446744073709551615 < acc * 10 + (c.toNat - 48)
      · rw [if_pos h2, if_neg (by omega)]
      · rw [if_neg h2]
        exact ih _ (fun b hb => hd b (by simp [hb])) (by omega)
theorem u8_45 (b : UInt8) : (b == 45) = (b.toNat == 45) := by
  rw [Bool.eq_iff_iff]
  simp only [beq_iff_eq]
  exact ⟨fun h => by rw [h]; rfl, fun h => UInt8.toNat_inj.1 h⟩
theorem cut_eq (s : List UInt8) : g_strings_CutPrefix s [45] = some (numD s, numN s) := by
  simp only [g_strings_CutPrefix, Lib.trimPrefix, Lib.hasPrefix, numD, numN]
  cases s with
  | nil => rfl
  | cons b t =>
    have : ([45] : List UInt8).isPrefixOf (b :: t) = (b.toNat == 45) := by
      simp only [List.isPrefixOf, Bool.and_true]
      rw [← u8_45]
      rw [Bool.eq_iff_iff]; simp only [beq_iff_eq]; exact eq_comm
    simp only [this, List.head?_cons, Option.any_some, List.length_cons, List.length_nil, Nat.zero_add]
    first | done | rfl
theorem digs_loop (d : List UInt8) (hd : d.length ≤ 9223372036854775806) (b : Bool) : ∃ e, iter (g_lines_Number_s1 (d, b)) 0 = some e ∧ (e = .inr () ↔ d.all isDg = true) := by
  have := iter_cnt (step := g_lines_Number_s1 (d, b)) d.length (by omega) (fun n => ∀ i (h : i < d.length), i < n → isDg d[i] = true) (fun e => (e = .inr () ↔ ∀ i (h : i < d.length), isDg d[i] = true)) (by intro i _ h; omega) ?_ ?_
  · obtain ⟨e, he, h⟩ := this
    refine ⟨e, he, h.trans ?_⟩
    rw [List.all_eq_true]
    exact ⟨fun h x hx => by obtain ⟨i, hi, rfl⟩ := List.getElem_of_mem hx; exact h i hi, fun h i hi => h _ (List.getElem_mem hi)⟩
  · intro i hi hI
    have hw := wrap_i64 ((i : Int) + 1) (by omega) (by omega)
    have hcnd : decide ((i : Int) < (d.length : Int)) = true := by simpa using hi
    simp only [g_lines_Number_s1, hcnd, if_true, atI_nat hi, Option.bind_some, hw]
    by_cases h1 : d[i].toNat < 48
    · right
      refine ⟨.inl (), by have : decide ((d[i].toNat : Int) < 48) = true := by simp; omega
                          simp [this], ?_⟩
      simp only [reduceCtorEq, false_iff]
      intro h; have := h i hi; simp only [isDg, Bool.and_eq_true, decide_eq_true_eq] at this; omega
    · have e1 : decide ((d[i].toNat : Int) < 48) = false := by simp; omega
      by_cases h2 : 57 < d[i].toNat
      · right
        refine ⟨.inl (), by have : decide (57 < (d[i].toNat : Int)) = true := by simp; omega
                            simp [e1, this], ?_⟩
        simp only [reduceCtorEq, false_iff]
        intro h; have := h i hi; simp only [isDg, Bool.and_eq_true, decide_eq_true_eq] at this; omega
      · left
        have e2 : decide (57 < (d[i].toNat : Int)) = false := by simp; omega
        refine ⟨by simp [e1, e2], fun j hj hlt => ?_⟩
        by_cases hji : j = i
        · subst hji; simp only [isDg, Bool.and_eq_true, decide_eq_true_eq]; omega
        · exact hI j hj (by omega)
  · intro hI
    refine ⟨.inr (), by simp [g_lines_Number_s1], ?_⟩
    simp only [true_iff]
    exact fun i h => hI i h h
theorem parse_eq (s : List UInt8) (h : numBad s = false) : Lib.parseIntB 64 s = if numVal s < -9223372036854775808 ∨ 9223372036854775807 < numVal s then .range else .ok (numVal s) := by
  have hD : ∃ b t, numD s = b :: t ∧ (b :: t).all isDg = true := by
    unfold numBad at h
    cases hd : numD s with
    | nil => rw [hd] at h; simp at h
    | cons b t => rw [hd] at h; simp only [Bool.or_eq_false_iff, Bool.not_eq_false'] at h; exact ⟨b, t, rfl, h.2⟩
  obtain ⟨b, t, hd, ha⟩ := hD
  have hall : ∀ x ∈ numD s, isDg x = true := by rw [hd]; exact List.all_eq_true.1 ha
  have hb := hall b (by rw [hd]; simp)
  simp only [isDg, Bool.and_eq_true, decide_eq_true_eq] at hb
  have hpu : Lib.parseUintB 64 (numD s) = if numV 0 (numD s) ≤ 18446744073709551615 then .ok (numV 0 (numD s)) else .range := by
    unfold Lib.parseUintB
    rw [if_neg (by rw [hd]; simp)]
    exact parseM _ 0 hall (by omega)
  cases s with
  | nil => simp [numD, numN] at hd
  | cons c r =>
    unfold Lib.parseIntB
    have hN : numN (c :: r) = (c.toNat == 45) := rfl
    by_cases h45 : c.toNat = 45
    · have hn : numN (c :: r) = true := by rw [hN]; simp [h45]
      have hD2 : numD (c :: r) = r := by simp [numD, hn]
      have hv : numVal (c :: r) = -(numV 0 r : Int) := by simp [numVal, hn, hD2]
      rw [hD2] at hpu
      simp only [h45, or_true, if_true, hpu, hv, not_true_eq_false, false_and, if_false, true_and]
      by_cases h1 : numV 0 r ≤ 18446744073709551615
      · rw [if_pos h1]
        simp only
        by_cases h2 : 2 ^ (64 - 1) < numV 0 r
        · rw [if_pos h2, if_pos (by left; simp at h2; omega)]
        · rw [if_neg h2, if_neg (by simp at h2; omega)]
      · rw [if_neg h1, if_pos (by left; omega)]
    · have hn : numN (c :: r) = false := by rw [hN]; simp [h45]
      have hD2 : numD (c :: r) = c :: r := by simp [numD, hn]
      have hv : numVal (c :: r) = (numV 0 (c :: r) : Int) := by simp [numVal, hn, hD2]
      have hcb : c = b := by rw [hD2] at hd; injection hd
      subst hcb
      have h43 : ¬ (c.toNat = 43 ∨ c.toNat = 45) := by omega
      rw [hD2] at hpu
      dsimp only
      rw [if_neg h43]
      simp only [hpu, hv, h45, not_false_eq_true, true_and, false_and, if_false]
      by_cases h1 : numV 0 (c :: r) ≤ 18446744073709551615
      · rw [if_pos h1]
        simp only
        by_cases h2 : 2 ^ (64 - 1) ≤ numV 0 (c :: r)
        · rw [if_pos h2, if_pos (by right; simp at h2; omega)]
        · rw [if_neg h2, if_neg (by simp at h2; omega)]
      · rw [if_neg h1, if_pos (by right; omega)]
theorem lines_Number_eq (s : List UInt8) (lo hi : Int) (hs : s.length ≤ 281474976710656) : g_lines_Number s lo hi = some (numS s lo hi) := by
  have hDl : (numD s).length ≤ s.length := by unfold numD; split <;> simp
  obtain ⟨e, he, hiff⟩ := digs_loop (numD s) (by omega) (numN s)
  simp only [g_lines_Number, cut_eq, Option.bind_some, he]
  unfold numS
  cases hbad : numBad s with
  | true =>
    simp only [if_true]
    unfold numBad at hbad
    cases hd : numD s with
    | nil => simp
    | cons b t =>
      rw [hd] at hbad hiff
      have e0 : ((b :: t) == ([] : List UInt8)) = false := rfl
      have e1 : atI (b :: t) 0 = some b := rfl
      simp only [e0, Bool.false_eq_true, if_false, e1, Option.bind_some]
      by_cases c48 : b.toNat = 48
      · have e2 : ((b.toNat : Int) == 48) = true := by simp [c48]
        simp only [e2, if_true]
        by_cases c1 : 1 < (b :: t).length
        · have e3 : decide (1 < ((b :: t).length : Int)) = true := by simp only [decide_eq_true_eq]; omega
          simp only [e3, if_true, Option.bind_some]
        · have e3 : decide (1 < ((b :: t).length : Int)) = false := by simp only [decide_eq_false_iff_not]; omega
          cases hn : numN s with
          | true => simp only [e3, Bool.false_eq_true, if_false, Option.bind_some, if_true]
          | false =>
            simp only [e3, Bool.false_eq_true, if_false, Option.bind_some]
            have : ¬ e = .inr () := by
              rw [hiff]
              simp only [hn, c48, c1, decide_false, Bool.or_false, Bool.and_false, Bool.false_or, Bool.not_eq_true'] at hbad
              rw [hbad]; simp
            rcases e with e | e
            · simp
            · exact absurd rfl this
      · have e2 : ((b.toNat : Int) == 48) = false := by simp; omega
        have e3 : (b.toNat == 48) = false := by simpa using c48
        simp only [e2, Bool.false_eq_true, if_false, Option.bind_some]
        have : ¬ e = .inr () := by
          rw [hiff]
          simp only [e3, Bool.false_and, Bool.false_or, Bool.not_eq_true'] at hbad
          rw [hbad]; simp
        rcases e with e | e
        · simp
        · exact absurd rfl this
  | false =>
    have hp := parse_eq s hbad
    simp only [Bool.false_eq_true, if_false]
    unfold numBad at hbad
    cases hd : numD s with
    | nil => rw [hd] at hbad; simp at hbad
    | cons b t =>
      rw [hd] at hbad hiff
      simp only [Bool.or_eq_false_iff, Bool.not_eq_false'] at hbad
      have e0 : ((b :: t) == ([] : List UInt8)) = false := rfl
      have e1 : atI (b :: t) 0 = some b := rfl
      have hv : ((if (b :: t == ([] : List UInt8)) = true then some true
          else (atI (b :: t) 0).bind fun b18 => if ((b18.toNat : Int) == 48) = true then if decide (1 < ((b :: t).length : Int)) = true then some true else some (numN s) else some false) : Option Bool) = some false := by
        simp only [e0, Bool.false_eq_true, if_false, e1, Option.bind_some]
        by_cases c48 : b.toNat = 48
        · have e2 : ((b.toNat : Int) == 48) = true := by simp [c48]
          have := hbad.1
          simp only [c48, beq_self_eq_true, Bool.true_and, Bool.or_eq_false_iff, decide_eq_false_iff_not] at this
          have e3 : decide (1 < ((b :: t).length : Int)) = false := by simp only [decide_eq_false_iff_not]; omega
          simp only [e2, e3, if_true, Bool.false_eq_true, if_false, this.2]
        · have e2 : ((b.toNat : Int) == 48) = false := by simp; omega
          simp [e2]
      have hee : e = .inr () := hiff.2 hbad.2
      subst hee
      rw [hd] at *
      simp only [hv, Option.bind_some, Bool.false_eq_true, if_false, g_strconv_ParseInt, true_and, if_pos hs, hp]
      by_cases hr : numVal s < -9223372036854775808 ∨ 9223372036854775807 < numVal s
      · simp only [if_pos hr, Option.bind_some, if_true]
        rw [if_pos (by omega)]
      · have cd : numVal s < -9223372036854775808 ∨ 9223372036854775807 < numVal s ∨ numVal s < lo ∨ hi < numVal s ↔ numVal s < lo ∨ hi < numVal s := by omega
        simp only [if_neg hr, Option.bind_some, Bool.false_eq_true, if_false, cd]
        by_cases h1 : numVal s < lo
        · simp only [h1, decide_true, if_true, Option.bind_some, true_or]
        · by_cases h2 : hi < numVal s
          · simp only [h1, h2, decide_false, decide_true, Bool.false_eq_true, if_false, if_true, Option.bind_some, or_true]
          · simp only [h1, h2, decide_false, Bool.false_eq_true, if_false, Option.bind_some, or_self]
theorem wrap_u64 (x : Int) (h : 0 ≤ x) (h' : x ≤ 18446744073709551615) : IntKind.u64.wrap x = x := by
  simp [IntKind.wrap, IntKind.bits, IntKind.signed]
  omega
theorem digit_dg (b : UInt8) : g_ref07_digit (b.toNat : Int) = some (isDg b) := by
  have h1 : decide (48 ≤ (b.toNat : Int)) = decide (48 ≤ b.toNat) := by simp only [decide_eq_decide]; omega
  have h2 : decide ((b.toNat : Int) ≤ 57) = decide (b.toNat ≤ 57) := by simp only [decide_eq_decide]; omega
  rw [digit_eq, h1, h2]; rfl
theorem rdigs_loop (d : List UInt8) (hd : d.length ≤ 9223372036854775806) : ∃ e, iter (g_ref07_Number_s1 d) 0 = some e ∧ (e = .inr () ↔ d.all isDg = true) := by
  have := iter_cnt (step := g_ref07_Number_s1 d) d.length (by omega) (fun n => ∀ i (h : i < d.length), i < n → isDg d[i] = true) (fun e => (e = .inr () ↔ ∀ i (h : i < d.length), isDg d[i] = true)) (by intro i _ h; omega) ?_ ?_
  · obtain ⟨e, he, h⟩ := this
    refine ⟨e, he, h.trans ?_⟩
    rw [List.all_eq_true]
    exact ⟨fun h x hx => by obtain ⟨i, hi, rfl⟩ := List.getElem_of_mem hx; exact h i hi, fun h i hi => h _ (List.getElem_mem hi)⟩
  · intro i hi hI
    have hw := wrap_i64 ((i : Int) + 1) (by omega) (by omega)
    have hcnd : decide ((i : Int) < (d.length : Int)) = true := by simpa using hi
    simp only [g_ref07_Number_s1, hcnd, if_true, atI_nat hi, Option.bind_some, hw, digit_dg]
    cases hdg : isDg d[i] with
    | false =>
      right
      refine ⟨.inl (), by simp, ?_⟩
      simp only [reduceCtorEq, false_iff]
      intro h; have := h i hi; rw [hdg] at this; cases this
    | true =>
      left
      refine ⟨by simp, fun j hj hlt => ?_⟩
      by_cases hji : j = i
      · subst hji; exact hdg
      · exact hI j hj (by omega)
  · intro hI
    refine ⟨.inr (), by simp [g_ref07_Number_s1], ?_⟩
    simp only [true_iff]
    exact fun i h => hI i h h
theorem racc_loop (d : List UInt8) (hall : ∀ b ∈ d, isDg b = true) (hl : d.length ≤ 19) : iter (g_ref07_Number_s2 d) (0, 0) = some (numV 0 d : Int) := by
  refine iter_of (fun x e => ∃ (i a : Nat), x.2 = (i : Int) ∧ i ≤ d.length ∧ x.1 = (a : Int) ∧ a < 10 ^ i ∧ numV a (d.drop i) = numV 0 d ∧ e = (numV 0 d : Int)) (fun x => d.length - x.2.toNat) ?_ (x := (0, 0)) ⟨0, 0, rfl, by omega, rfl, by simp, by simp, rfl⟩ (by show d.length - _ < _; omega)
  rintro ⟨u, z⟩ e ⟨i, a, hz, hi, hu, ha, hv, rfl⟩
  simp only at hz hu ⊢
  subst hz hu
  by_cases h : i < d.length
  · left
    have hb := hall d[i] (List.getElem_mem h)
    simp only [isDg, Bool.and_eq_true, decide_eq_true_eq] at hb
    have hp : 10 ^ i ≤ 10 ^ 18 := Nat.pow_le_pow_right (by omega) (by omega)
    have ha2 : a < 1000000000000000000 := Nat.lt_of_lt_of_le ha hp
    have w1 := wrap_i64 ((i : Int) + 1) (by omega) (by omega)
    have w2 := wrap_u64 (10 * (a : Int)) (by omega) (by omega)
    have w3 : IntKind.u8.wrap ((d[i].toNat : Int) - 48) = (d[i].toNat : Int) - 48 := wr8 (by omega)
    have w4 := wrap_u64 ((d[i].toNat : Int) - 48) (by omega) (by omega)
    have w5 := wrap_u64 (10 * (a : Int) + ((d[i].toNat : Int) - 48)) (by omega) (by omega)
    have hcnd : decide ((i : Int) < (d.length : Int)) = true := by simpa using h
    refine ⟨(10 * (a : Int) + ((d[i].toNat : Int) - 48), (i : Int) + 1), ?_, ⟨i + 1, a * 10 + (d[i].toNat - 48), by simp, by omega, by simp only; omega, ?_, ?_, by simp⟩, by simp; omega⟩
    · simp only [g_ref07_Number_s2, hcnd, if_true, atI_nat h, Option.bind_some, w1, w2, w3, w4, w5]
    · rw [Nat.pow_succ]; omega
    · rw [← hv, drop_cons h, numV_cons]
  · right
    obtain rfl : i = d.length := by omega
    rw [List.drop_length] at hv
    have hv : a = numV 0 d := hv
    subst hv
    simp [g_ref07_Number_s2]
theorem numV_big (b : UInt8) (t : List UInt8) (hb : b.toNat ≠ 48) (hd : isDg b = true) (hl : 19 < (b :: t).length) : 9223372036854775808 < numV 0 (b :: t) := by
  simp only [isDg, Bool.and_eq_true, decide_eq_true_eq] at hd
  have := numV_ge t (0 * 10 + (b.toNat - 48))
  rw [numV_cons]
  have hp : 10 ^ 19 ≤ 10 ^ t.length := Nat.pow_le_pow_right (by omega) (by simp at hl; omega)
  have h1 : 1 * 10 ^ t.length ≤ (0 * 10 + (b.toNat - 48)) * 10 ^ t.length := Nat.mul_le_mul_right _ (by omega)
  omega
def dBad (neg : Bool) : List UInt8 → Bool
  | [] => true
  | b :: t => b.toNat == 48 && (decide (1 < (b :: t).length) || neg)
theorem ref_tail (d : List UInt8) (neg : Bool) :
    (((if ((d.length : Int) == 0) = true then (some true) else ((atI d 0).bind fun b33 => (if ((b33.toNat : Int) == 48) = true then (if decide (1 < (d.length : Int)) = true then (some true) else (some neg)) else (some false)))) : Option Bool)) = some (dBad neg d) := by
  cases d with
  | nil => rfl
  | cons b t =>
    have e0 : (((b :: t).length : Int) == 0) = false := by simp; omega
    have e1 : atI (b :: t) 0 = some b := rfl
    simp only [e0, Bool.false_eq_true, if_false, e1, Option.bind_some, dBad]
    have e2 : ((b.toNat : Int) == 48) = (b.toNat == 48) := by rw [Bool.eq_iff_iff]; simp; omega
    have e3 : decide (1 < ((b :: t).length : Int)) = decide (1 < (b :: t).length) := by simp only [decide_eq_decide]; omega
    rw [e2, e3]
    cases (b.toNat == 48) <;> cases decide (1 < (b :: t).length) <;> rfl
theorem numBad_eq (s : List UInt8) : numBad s = (dBad (numN s) (numD s) || !((numD s).all isDg)) := by
  unfold numBad dBad
  cases numD s <;> rfl
theorem dBad_false {neg : Bool} {d : List UInt8} (h : dBad neg d = false) : ∃ b t, d = b :: t ∧ (b.toNat = 48 → d.length ≤ 1 ∧ neg = false) := by
  cases d with
  | nil => cases h
  | cons b t =>
    refine ⟨b, t, rfl, fun h48 => ?_⟩
    simp only [dBad, h48, beq_self_eq_true, Bool.true_and, Bool.or_eq_false_iff, decide_eq_false_iff_not] at h
    exact ⟨by omega, h.2⟩
theorem ref_Number_eq (s : List UInt8) (lo hi : Int) (hs : s.length ≤ 9223372036854775806) : g_ref07_Number s lo hi = some (numS s lo hi) := by
  have hv9 : (((if (decide (0 < (s.length : Int))) then ((atI s 0).bind fun b12 => (some ((b12.toNat : Int) == 45))) else (some false)) : Option (Bool))) = some (numN s) := by
    cases s with
    | nil => rfl
    | cons b t =>
      have e0 : decide (0 < ((b :: t).length : Int)) = true := by simp only [decide_eq_true_eq, List.length_cons]; omega
      have e1 : atI (b :: t) 0 = some b := rfl
      have e2 : ((b.toNat : Int) == 45) = (b.toNat == 45) := by rw [Bool.eq_iff_iff]; simp; omega
      simp only [e0, if_true, e1, Option.bind_some, e2]; rfl
  have hDl : (numD s).length ≤ s.length := by unfold numD; split <;> simp
  obtain ⟨e, he, hiff⟩ := rdigs_loop (numD s) (by omega)
  have he3 : iter (g_ref07_Number_s3 (numD s)) 0 = some e := he
  have htail := ref_tail (numD s) (numN s)
  have hacc := racc_loop (numD s)
  have hacc4 : (∀ b ∈ numD s, isDg b = true) → (numD s).length ≤ 19 → iter (g_ref07_Number_s4 (numD s)) (0, 0) = some (numV 0 (numD s) : Int) := racc_loop (numD s)
  have hbad := numBad_eq s
  simp only [g_ref07_Number, hv9, Option.bind_some]
  unfold numS numVal
  cases hn : numN s with
  | true =>
    have hD : numD s = s.drop 1 := by simp [numD, hn]
    have hl1 : 1 ≤ s.length := by cases s with | nil => simp [numN] at hn | cons b t => simp
    have hsub : subL s 1 = some (numD s) := by rw [hD]; exact subL_nat (i := 1) hl1
    rw [hn] at htail hbad
    simp only [if_true, hsub, Option.bind_some, htail, he, hbad]
    generalize numD s = d at *
    cases hc : dBad true d with
    | true => simp
    | false =>
      obtain ⟨b, t, rfl, h48⟩ := dBad_false hc
      have hb48 : b.toNat ≠ 48 := fun h => by have := (h48 h).2; cases this
      simp only [Bool.false_or, Bool.false_eq_true, if_false]
      cases hall : (b :: t).all isDg with
      | false =>
        have : ¬ e = .inr () := by rw [hiff, hall]; simp
        rcases e with e | e
        · simp
        · exact absurd rfl this
      | true =>
        obtain rfl := hiff.2 hall
        have hal := List.all_eq_true.1 hall
        simp only [Bool.not_true, Bool.false_eq_true, if_false]
        by_cases hbig : 19 < (b :: t).length
        · have e4 : decide (19 < ((b :: t).length : Int)) = true := by simp only [decide_eq_true_eq]; omega
          have := numV_big b t hb48 (hal b (by simp)) hbig
          simp only [e4, if_true]
          rw [if_pos (by omega)]
        · have e4 : decide (19 < ((b :: t).length : Int)) = false := by simp only [decide_eq_false_iff_not]; omega
          have hle := numV_le (b :: t) 0 hal
          have hp : 10 ^ (b :: t).length ≤ 10 ^ 19 := Nat.pow_le_pow_right (by omega) (by omega)
          simp only [e4, Bool.false_eq_true, if_false, hacc hal (by omega), Option.bind_some]
          generalize numV 0 (b :: t) = v at *
          by_cases h1 : 9223372036854775808 < v
          · have e5 : decide (9223372036854775808 < (v : Int)) = true := by simp only [decide_eq_true_eq]; omega
            simp only [e5, if_true, Option.bind_some]
            rw [if_pos (by omega)]
          · have e5 : decide (9223372036854775808 < (v : Int)) = false := by simp only [decide_eq_false_iff_not]; omega
            have hw : IntKind.i64.wrap (0 - IntKind.i64.wrap (v : Int)) = -(v : Int) := by
              by_cases h2 : v = 9223372036854775808
              · subst h2; rfl
              · rw [wrap_i64 (v : Int) (by omega) (by omega), wrap_i64 (0 - (v : Int)) (by omega) (by omega)]; omega
            simp only [e5, Bool.false_eq_true, if_false, Option.bind_some, hw]
            have cd : -(v : Int) < -9223372036854775808 ∨ 9223372036854775807 < -(v : Int) ∨ -(v : Int) < lo ∨ hi < -(v : Int) ↔ -(v : Int) < lo ∨ hi < -(v : Int) := by omega
            simp only [cd]
            by_cases h3 : -(v : Int) < lo
            · simp only [h3, decide_true, if_true, true_or]
            · by_cases h4 : hi < -(v : Int)
              · simp only [h3, h4, decide_false, decide_true, Bool.false_eq_true, if_false, if_true, or_true]
              · simp only [h3, h4, decide_false, Bool.false_eq_true, if_false, or_self]
  | false =>
    have hD : numD s = s := by simp [numD, hn]
    rw [hn] at htail hbad
    rw [hD] at he3 hacc4 hiff htail hbad
    simp only [Bool.false_eq_true, if_false, htail, Option.bind_some, he3, hD, hbad]
    clear hv9 he hacc hDl hbad htail hD hn
    cases hc : dBad false s with
    | true => simp
    | false =>
      obtain ⟨b, t, rfl, h48⟩ := dBad_false hc
      simp only [Bool.false_or, Bool.false_eq_true, if_false]
      cases hall : (b :: t).all isDg with
      | false =>
        have : ¬ e = .inr () := by rw [hiff, hall]; simp
        rcases e with e | e
        · simp
        · exact absurd rfl this
      | true =>
        obtain rfl := hiff.2 hall
        have hal := List.all_eq_true.1 hall
        simp only [Bool.not_true, Bool.false_eq_true, if_false]
        by_cases hbig : 19 < (b :: t).length
        · have hb48 : b.toNat ≠ 48 := fun h => by have := (h48 h).1; omega
          have e4 : decide (19 < ((b :: t).length : Int)) = true := by simp only [decide_eq_true_eq]; omega
          have := numV_big b t hb48 (hal b (by simp)) hbig
          simp only [e4, if_true]
          rw [if_pos (by omega)]
        · have e4 : decide (19 < ((b :: t).length : Int)) = false := by simp only [decide_eq_false_iff_not]; omega
          have hle := numV_le (b :: t) 0 hal
          have hp : 10 ^ (b :: t).length ≤ 10 ^ 19 := Nat.pow_le_pow_right (by omega) (by omega)
          simp only [e4, Bool.false_eq_true, if_false, hacc4 hal (by omega), Option.bind_some]
          generalize numV 0 (b :: t) = v at *
          by_cases h1 : 9223372036854775808 < v
          · have e5 : decide (9223372036854775808 < (v : Int)) = true := by simp only [decide_eq_true_eq]; omega
            simp only [e5, if_true, Option.bind_some]
            rw [if_pos (by omega)]
          · have e5 : decide (9223372036854775808 < (v : Int)) = false := by simp only [decide_eq_false_iff_not]; omega
            by_cases h2 : v = 9223372036854775808
            · have e6 : ((v : Int) == 9223372036854775808) = true := by simp; omega
              simp only [e5, e6, Bool.false_eq_true, if_false, if_true, Option.bind_some]
              rw [if_pos (by omega)]
            · have e6 : ((v : Int) == 9223372036854775808) = false := by simp; omega
              have hw : IntKind.i64.wrap (v : Int) = v := wrap_i64 (v : Int) (by omega) (by omega)
              simp only [e5, e6, Bool.false_eq_true, if_false, Option.bind_some, hw]
              have cd : (v : Int) < -9223372036854775808 ∨ 9223372036854775807 < (v : Int) ∨ (v : Int) < lo ∨ hi < (v : Int) ↔ (v : Int) < lo ∨ hi < (v : Int) := by omega
              simp only [cd]
              by_cases h3 : (v : Int) < lo
              · simp only [h3, decide_true, if_true, true_or]
              · by_cases h4 : hi < (v : Int)
                · simp only [h3, h4, decide_false, decide_true, Bool.false_eq_true, if_false, if_true, or_true]
                · simp only [h3, h4, decide_false, Bool.false_eq_true, if_false, or_self]
theorem decDigits_len (u : Nat) (hu : u ≤ 18446744073709551615) : (Lib.decDigits u).length ≤ 20 := by
  rw [Lib.decDigits_length]; exact Lib.nDigits_le20 u (by omega)
theorem numV_snoc (l : List UInt8) (acc : Nat) (b : UInt8) : numV acc (l ++ [b]) = numV acc l * 10 + (b.toNat - 48) := by
  unfold numV; rw [List.foldl_append]; rfl
theorem dgt (k : Nat) (h : k < 10) : (UInt8.ofNat (48 + k)).toNat = 48 + k := by
  have : ∀ v : Fin 10, (UInt8.ofNat (48 + v.val)).toNat = 48 + v.val := by decide
  exact this ⟨k, h⟩
theorem dec_facts (u : Nat) : numV 0 (Lib.decDigits u) = u ∧ (Lib.decDigits u).all isDg = true ∧ ∃ b t, Lib.decDigits u = b :: t ∧ (1 ≤ u → b.toNat ≠ 48) := by
  induction u using Nat.strongRecOn with
  | _ u ih =>
    by_cases h : u < 10
    · rw [Lib.decDigits_one h]
      refine ⟨by rw [numV_cons, dgt u h]; show 0 * 10 + (48 + u - 48) = u; omega, ?_, _, [], rfl, fun h1 => by rw [dgt u h]; omega⟩
      simp [isDg, dgt u h]; omega
    · obtain ⟨i1, i2, b, t, i3, i4⟩ := ih (u / 10) (by omega)
      rw [Lib.decDigits, dif_neg h]
      refine ⟨?_, ?_, b, t ++ [UInt8.ofNat (48 + u % 10)], by rw [i3]; rfl, fun _ => i4 (by omega)⟩
      · rw [numV_snoc, i1, dgt _ (by omega)]; omega
      · rw [List.all_append, i2]
        simp [isDg, dgt (u % 10) (by omega)]; omega
theorem numS_itoa (n : Int) (h0 : -9223372036854775808 ≤ n) (h1 : n ≤ 9223372036854775807) : numS (Lib.itoa n) n n = (n, 0) := by
  by_cases hn : n < 0
  · obtain ⟨u, rfl, hu⟩ : ∃ u : Nat, n = -(u : Int) ∧ 1 ≤ u := ⟨n.natAbs, by omega, by omega⟩
    rw [Lib.itoa_neg u hu]
    obtain ⟨d1, d2, b, t, d3, d4⟩ := dec_facts u
    have hN : numN (45 :: Lib.decDigits u) = true := rfl
    have hD : numD (45 :: Lib.decDigits u) = Lib.decDigits u := by simp [numD, hN]
    have hB : numBad (45 :: Lib.decDigits u) = false := by
      unfold numBad
      rw [hD, d3]
      rw [d3] at d2
      have : (b.toNat == 48) = false := by simpa using d4 hu
      simp only [this, Bool.false_and, Bool.false_or, d2, Bool.not_true]
    have hV : numVal (45 :: Lib.decDigits u) = -(u : Int) := by unfold numVal; rw [hN, hD, d1]; rfl
    unfold numS
    rw [hB, hV]
    simp only [Bool.false_eq_true, if_false]
    rw [if_neg (by omega)]
  · obtain ⟨u, rfl⟩ : ∃ u : Nat, n = (u : Int) := ⟨n.toNat, by omega⟩
    rw [Lib.itoa_nonneg u]
    obtain ⟨d1, d2, b, t, d3, d4⟩ := dec_facts u
    have hb := List.all_eq_true.1 d2 b (by rw [d3]; simp)
    simp only [isDg, Bool.and_eq_true, decide_eq_true_eq] at hb
    have hN : numN (Lib.decDigits u) = false := by
      rw [d3]; simp [numN]; omega
    have hD : numD (Lib.decDigits u) = Lib.decDigits u := by simp [numD, hN]
    have hB : numBad (Lib.decDigits u) = false := by
      unfold numBad
      rw [hD, hN]
      cases Nat.eq_zero_or_pos u with
      | inl hz => subst hz; decide +kernel
      | inr hp =>
        rw [d3]
        rw [d3] at d2
        have : (b.toNat == 48) = false := by simpa using d4 hp
        simp only [this, Bool.false_and, Bool.false_or, d2, Bool.not_true]
    have hV : numVal (Lib.decDigits u) = (u : Int) := by unfold numVal; rw [hN, hD, d1]; rfl
    unfold numS
    rw [hB, hV]
    simp only [Bool.false_eq_true, if_false]
    rw [if_neg (by omega)]
def spB (c : UInt8) : List UInt8 → List (List UInt8)
  | [] => [[]]
  | b :: t => if b = c then [] :: spB c t else match spB c t with
    | [] => [[b]]
    | h :: r => (b :: h) :: r
theorem spB_ne (c : UInt8) (s : List UInt8) : spB c s ≠ [] := by
  cases s with
  | nil => simp [spB]
  | cons b t =>
    simp only [spB]
    split
    · simp
    · split <;> simp
theorem spB_no (c : UInt8) : ∀ (s : List UInt8), c ∉ s → spB c s = [s]
  | [], _ => rfl
  | b :: t, h => by
    have := spB_no c t (fun hx => h (List.mem_cons_of_mem _ hx))
    simp only [spB, this]
    rw [if_neg (fun e => h (by simp [e]))]
theorem spB_app (c : UInt8) : ∀ (x t : List UInt8), c ∉ x → spB c (x ++ c :: t) = x :: spB c t
  | [], t, _ => by simp [spB]
  | b :: x, t, h => by
    have ih := spB_app c x t (fun hx => h (List.mem_cons_of_mem _ hx))
    simp only [List.cons_append, spB, ih]
    rw [if_neg (fun e => h (by simp [e]))]
theorem join_spB (c : UInt8) : ∀ (s : List UInt8), Lib.join (spB c s) [c] = s
  | [] => by simp [spB, Lib.join_one]
  | b :: t => by
    have ih := join_spB c t
    simp only [spB]
    split
    · rename_i he
      subst he
      cases hsp : spB b t with
      | nil => exact absurd hsp (spB_ne b t)
      | cons h r =>
        rw [hsp, Lib.join_cons] at ih
        rw [Lib.join_cons]
        simp only [Lib.joinTail, List.map_cons, List.flatten_cons, List.nil_append, List.singleton_append, List.cons_append] at ih ⊢
        rw [ih]
    · cases hsp : spB c t with
      | nil => exact absurd hsp (spB_ne c t)
      | cons h r =>
        simp only
        rw [hsp, Lib.join_cons] at ih
        rw [Lib.join_cons, List.cons_append, ih]
theorem spB_hit (c : UInt8) : ∀ (i : Nat) (s : List UInt8) (hi : i < s.length), s[i] = c → (∀ (j : Nat) (hj : j < i), s[j] ≠ c) → spB c s = s.take i :: spB c (s.drop (i + 1))
  | 0, b :: t, _, h10, _ => by
    have : b = c := h10
    simp [spB, this]
  | i + 1, b :: t, hi, h10, hn => by
    have h0 : b ≠ c := hn 0 (by omega)
    have := spB_hit c i t (by simpa using hi) (by simpa using h10) (fun j hj => by have := hn (j + 1) (by omega); simpa using this)
    simp only [spB, if_neg h0, this]
    simp
  | 0, [], hi, _, _ => by simp at hi
  | _ + 1, [], hi, _, _ => by simp at hi
theorem Cut_eq (s : List UInt8) (c : UInt8) : Lib.cut s [c] = match spB c s with
    | [] => (s, [], false)
    | [w] => (w, [], false)
    | w :: v :: r => (w, Lib.join (v :: r) [c], true) := by
  have hix := Lib.index_one s c
  by_cases hm : Lib.index s [c] = -1
  · have hno : c ∉ s := by
      intro hb
      obtain ⟨k, hk⟩ := List.getElem?_of_mem hb
      exact Lib.indexByte_none (by rw [← hix]; exact hm) k hk
    rw [spB_no c s hno]
    unfold Lib.cut
    rw [if_neg (by omega)]
  · have hge := Lib.index_ge s [c]
    obtain ⟨i, hi⟩ : ∃ i : Nat, Lib.index s [c] = i := ⟨(Lib.index s [c]).toNat, by omega⟩
    obtain ⟨h1, h2⟩ := Lib.indexByte_some (by rw [← hix]; exact hi)
    obtain ⟨hlt, hget⟩ := List.getElem?_eq_some_iff.1 h1
    have hspl := spB_hit c i s hlt hget (fun j hj h10 => h2 j hj (by rw [List.getElem?_eq_getElem (by omega), h10]))
    rw [hspl]
    unfold Lib.cut
    rw [if_pos (by omega), hi]
    have hj := join_spB c (s.drop (i + 1))
    cases hsp : spB c (s.drop (i + 1)) with
    | nil => exact absurd hsp (spB_ne _ _)
    | cons v r =>
      rw [hsp] at hj
      simp only [Int.toNat_natCast, List.length_cons, List.length_nil, Nat.zero_add]
      rw [hj]
theorem qS_text : ∀ (t : List UInt8) (text : List UInt8) (n : Nat), qS t = .ok text n → text.length ≤ t.length
  | [], text, n, h => by simp [qS_nil] at h
  | [b], text, n, h => by
    rw [qS_cons] at h
    (repeat' split at h) <;> simp_all [QR.sh, qS_nil]
    all_goals (try (obtain ⟨rfl, _⟩ := h; simp))
  | b :: c :: t, text, n, h => by
    have h1 := qS_text (c :: t)
    have h2 := qS_text t
    rw [qS_cons] at h
    split at h
    · split at h
      · simp at h
      · simp at h; obtain ⟨rfl, _⟩ := h; simp
    · split at h
      · simp only at h
        split at h
        · cases hq : qS t <;> rw [hq] at h <;> simp [QR.sh] at h
          have := h2 _ _ hq; obtain ⟨rfl, _⟩ := h; simp; omega
        · split at h
          · cases hq : qS t <;> rw [hq] at h <;> simp [QR.sh] at h
            have := h2 _ _ hq; obtain ⟨rfl, _⟩ := h; simp; omega
          · simp at h
      · split at h
        · simp at h
        · cases hq : qS (c :: t) <;> rw [hq] at h <;> simp [QR.sh] at h
          have := h1 _ _ hq; obtain ⟨rfl, _⟩ := h; simp at this ⊢; omega
theorem fS_texts : ∀ (m : Nat) (t : List UInt8) (p : Nat) (l : List T_api_Field), t.length ≤ m → fS t p = .ok l → ∀ f ∈ l, f.Text.length ≤ t.length := by
  intro m
  induction m with
  | zero => intro t p l hm h; have : t = [] := List.eq_nil_of_length_eq_zero (by omega); subst this; rw [fS_nil] at h; injection h with h; subst h; simp
  | succ m ih =>
    intro t p l hm h
    cases t with
    | nil => rw [fS_nil] at h; injection h with h; subst h; simp
    | cons b t =>
      simp only [List.length_cons] at hm ⊢
      rw [fS_cons] at h
      split at h
      · intro f hf; have := ih t (p + 1) l (by omega) h f hf; omega
      · split at h
        · injection h with h; subst h; simp
        · split at h
          · cases hq : qS t with
            | ok text k =>
              rw [hq] at h
              simp only at h
              cases hr : fS (t.drop k) (p + 1 + k) with
              | bad x => rw [hr] at h; cases h
              | ok l' =>
                rw [hr] at h
                simp [FR.cons] at h
                subst h
                intro f hf
                rcases List.mem_cons.1 hf with rfl | hf
                · have := qS_text t text k hq; simp only; omega
                · have := ih (t.drop k) (p + 1 + k) l' (by simp; omega) hr f hf
                  rw [List.length_drop] at this; omega
            | bad k => rw [hq] at h; simp at h
            | stop => rw [hq] at h; simp at h
          · cases hq : wS (b :: t) with
            | inl k =>
              rw [hq] at h
              simp only at h
              cases hr : fS (t.drop (k - 1)) (p + k) with
              | bad x => rw [hr] at h; cases h
              | ok l' =>
                rw [hr] at h
                simp [FR.cons] at h
                subst h
                intro f hf
                rcases List.mem_cons.1 hf with rfl | hf
                · simp only [List.length_take, List.length_cons]; omega
                · have := ih (t.drop (k - 1)) (p + k) l' (by simp; omega) hr f hf
                  rw [List.length_drop] at this; omega
            | inr k => rw [hq] at h; simp at h
theorem lr_texts (n : Nat) (y : List UInt8) (l : T_api_Line) (h : lr n y = some (.inr l)) : ∀ f ∈ l.Fields, f.Text.length ≤ 1000 := by
  unfold lr at h
  split at h
  · cases h
  · cases hf : fS y 0 with
    | bad b => rw [hf] at h; cases h
    | ok fs =>
      rw [hf] at h
      cases fs with
      | nil => cases h
      | cons f fs =>
        injection h with h
        injection h with h
        subst h
        intro g hg
        have := fS_texts y.length y 0 (f :: fs) (Nat.le_refl _) hf g hg
        omega
theorem allR_texts : ∀ (r : List (List UInt8)) (n : Nat) (p : List T_api_Line × List T_api_Diag), (∀ x ∈ p.1, ∀ f ∈ x.Fields, f.Text.length ≤ 1000) → ∀ x ∈ (allR n r p).1, ∀ f ∈ x.Fields, f.Text.length ≤ 1000
  | [], n, p, h => h
  | y :: r, n, p, h => by
    refine allR_texts r (n + 1) (accL p (lr n y)) ?_
    cases hl : lr n y with
    | none => exact h
    | some q =>
      cases q with
      | inl d => exact h
      | inr l =>
        intro x hx
        simp only [accL, List.mem_append, List.mem_singleton] at hx
        rcases hx with hx | rfl
        · exact h x hx
        · exact lr_texts n y _ hl
theorem splitS_texts (src : List UInt8) : ∀ x ∈ (splitS src).1, ∀ f ∈ x.Fields, f.Text.length ≤ 1000 := by
  unfold splitS
  split
  · simp
  · exact allR_texts _ _ _ (by simp)
theorem itoa_len {n : Int} (h : -9223372036854775808 ≤ n ∧ n ≤ 9223372036854775807) : (Lib.itoa n).length ≤ 21 := Lib.itoa_length_le n h.1 h.2
end Go.Proofs.YtnjjdbljoligdaaGreatDoor
namespace Go.Proofs.YtnjjdbljoligdaaGreatDoor
set_option maxRecDepth 100000
theorem gcd_iter {step : Int × Int → Option (Nx (Int × Int) Int)} (hst : ∀ x, step x = (if (x.2 != 0) = true then (if ¬ x.2 = 0 then some (.go (x.2, Int.tmod x.1 x.2)) else none) else some (.out x.1))) (a b : Nat) (hb : b < 73786976294838206464) : iter step ((a : Int), (b : Int)) = some ((Nat.gcd a b : Nat) : Int) := by
  refine iter_of (fun x e => ∃ m n : Nat, x = ((m : Int), (n : Int)) ∧ e = ((Nat.gcd m n : Nat) : Int)) (fun x => x.2.toNat) ?_ ⟨a, b, rfl, rfl⟩ (by simpa using hb)
  rintro x e ⟨m, n, rfl, rfl⟩
  rw [hst]
  by_cases h : n = 0
  · subst h; right; simp
  · left
    have h1 : ((n : Int) != 0) = true := by simp; omega
    have h2 : ¬ ((n : Nat) : Int) = 0 := by omega
    dsimp only
    rw [if_pos h1, if_pos h2]
    have h3 : Int.tmod (m : Int) (n : Int) = ((m % n : Nat) : Int) := by rw [Int.tmod_eq_emod_of_nonneg (by omega)]; simp
    refine ⟨_, rfl, ⟨n, m % n, by rw [h3], ?_⟩, ?_⟩
    · rw [Nat.gcd_comm m n, Nat.gcd_rec n m, Nat.gcd_comm]
    · dsimp only
      rw [h3]
      have := Nat.mod_lt m (Nat.pos_of_ne_zero h)
      simp only [Int.toNat_natCast]; exact this
def gcS (a b : Int) : Int := ((Nat.gcd a.natAbs b.natAbs : Nat) : Int)
theorem max_abs {a : Int} (h : -9223372036854775807 ≤ a ∧ a ≤ 9223372036854775807) : (if IntKind.i64.wrap (0 - a) > a then IntKind.i64.wrap (0 - a) else a) = ((a.natAbs : Nat) : Int) := by
  rw [wr64 (by omega)]
  split <;> omega
theorem prog_Gcd {a b : Int} (ha : -9223372036854775807 ≤ a ∧ a ≤ 9223372036854775807) (hb : -9223372036854775807 ≤ b ∧ b ≤ 9223372036854775807) : g_ratio_Gcd a b = some (gcS a b) := by
  unfold g_ratio_Gcd
  rw [if_neg (by simp; omega)]
  simp only [Option.bind_some]
  rw [if_neg (by simp; omega), max_abs ha, max_abs hb, gcd_iter (fun x => by unfold g_ratio_Gcd_s1; rfl) _ _ (by omega)]
  rfl
theorem ref_Gcd {a b : Int} (ha : -9223372036854775807 ≤ a ∧ a ≤ 9223372036854775807) (hb : -9223372036854775807 ≤ b ∧ b ≤ 9223372036854775807) : g_ref01_Gcd a b = some (gcS a b) := by
  have hs : ∀ x : Int, -9223372036854775807 ≤ x ∧ x ≤ 9223372036854775807 → g_ref01_Size x = some ((x.natAbs : Nat) : Int) := by
    intro x hx
    unfold g_ref01_Size
    by_cases h : x < 0
    · rw [if_pos (by simpa using h), wr64 (by omega)]
      congr 1; omega
    · rw [if_neg (by simpa using h)]
      congr 1; omega
  unfold g_ref01_Gcd
  rw [if_neg (by simp; omega)]
  simp only [Option.bind_some]
  rw [if_neg (by simp; omega), hs a ha, hs b hb]
  simp only [Option.bind_some]
  rw [gcd_iter (fun x => by unfold g_ref01_Gcd_s1; rfl) _ _ (by omega)]
  rfl
def inP (x : T_api_Ratio) : Prop := -2147483648 ≤ x.Num ∧ x.Num ≤ 2147483648 ∧ 1 ≤ x.Den ∧ x.Den ≤ 2147483648
instance (x : T_api_Ratio) : Decidable (inP x) := by unfold inP; infer_instance
def vR (x : T_api_Ratio) : Bool := decide (inP x) && (gcS x.Num x.Den == 1)
theorem ratio_Valid (x : T_api_Ratio) : g_ratio_Valid x = some (vR x) := by
  have hp : g_ratio_inParts x.Num x.Den = some (decide (inP x)) := by
    unfold g_ratio_inParts inP
    by_cases h1 : -2147483648 ≤ x.Num <;> by_cases h2 : x.Num ≤ 2147483648 <;> by_cases h3 : 1 ≤ x.Den <;> by_cases h4 : x.Den ≤ 2147483648 <;> simp [h1, h2, h3, h4]
  unfold g_ratio_Valid vR
  rw [hp]
  simp only [Option.bind_some]
  by_cases h : inP x
  · have h' := h
    unfold inP at h'
    rw [if_pos (by simpa using h), prog_Gcd (by omega) (by omega)]
    simp [h]
  · rw [if_neg (by simpa using h)]
    simp [h]
theorem ref_ratio_Valid (x : T_api_Ratio) : g_ref01_Valid x = some (vR x) := by
  unfold g_ref01_Valid vR
  by_cases h : inP x
  · have h' := h
    unfold inP at h'
    rw [if_pos (by simpa using h'.2.2.1), if_pos (by simpa using h'.2.2.2), if_pos (by simpa using h'.1), if_pos (by simpa using h'.2.1), ref_Gcd (by omega) (by omega)]
    simp [h]
  · have h' := h
    unfold inP at h'
    by_cases h1 : -2147483648 ≤ x.Num <;> by_cases h2 : x.Num ≤ 2147483648 <;> by_cases h3 : 1 ≤ x.Den <;> by_cases h4 : x.Den ≤ 2147483648 <;> simp [h1, h2, h3, h4] <;> simp_all
theorem size_nn {n : Int} (h : 0 ≤ n ∧ n ≤ 9223372036854775807) : g_ratio_size n = some n := by
  unfold g_ratio_size
  rw [if_neg (by simp; omega), wrap_u64 n (by omega) (by omega)]
theorem Quot_floor {n d : Int} (hn : 0 ≤ n ∧ n ≤ 9223372036854775807) (hd : 1 ≤ d ∧ d ≤ 9223372036854775807) : g_ratio_Quotient n d 1 = some (n / d, 0) := by
  have hq : 0 ≤ n / d ∧ n / d ≤ n := ⟨Int.ediv_nonneg hn.1 (by omega), Int.ediv_le_self _ hn.1⟩
  have ha : ∀ r, g_ratio_away false r d 1 = some false := by
    intro r
    unfold g_ratio_away
    by_cases h : (r == 0) = true
    · rw [if_pos h]
    · rw [if_neg h]; rfl
  unfold g_ratio_Quotient
  rw [if_neg (by simp; omega)]
  simp only [show g_ratio_known 1 = some true from rfl, Option.bind_some, if_true, size_nn hn, size_nn (n := d) (by omega)]
  rw [if_pos (by omega), if_pos (by omega)]
  have e1 : decide (n < 0) = false := by simp; omega
  have e2 : decide (d < 0) = false := by simp; omega
  simp only [e1, e2, beq_self_eq_true, Bool.not_true, ha, Option.bind_some, Bool.false_eq_true, if_false, if_true, Int.tdiv_eq_ediv_of_nonneg hn.1]
  rw [wrap_u64 _ (by omega) (by omega), if_neg (by simp; omega), wr64 (by omega)]
def rT (x : T_api_Ratio) : List UInt8 := (Lib.itoa x.Num ++ [47]) ++ Lib.itoa x.Den
def rTx (x : T_api_Ratio) : List UInt8 := if vR x then rT x else []
theorem vR_in {x : T_api_Ratio} (h : vR x = true) : inP x := by
  unfold vR at h; simp at h; exact h.1
theorem itl {n : Int} (h : -2147483648 ≤ n ∧ n ≤ 2147483648) : (Lib.itoa n).length ≤ 21 := Lib.itoa_length_le n (by omega) (by omega)
theorem ratio_Text (x : T_api_Ratio) : g_ratio_Text x = some (rTx x) := by
  unfold g_ratio_Text rTx
  rw [ratio_Valid]
  simp only [Option.bind_some]
  cases hv : vR x
  · rfl
  · have hp := vR_in hv
    unfold inP at hp
    have l1 := itl (n := x.Num) (by omega)
    have l2 := itl (n := x.Den) (by omega)
    simp only [if_true, show ∀ n : Int, g_strconv_FormatInt n 10 = some (Lib.itoa n) from fun n => rfl, Option.bind_some]
    rw [if_pos (by omega), if_pos (by omega)]
    rfl
theorem dec_small {u : Nat} (h : u < 10) : Lib.decDigits u = bytesOf [IntKind.u8.wrap (IntKind.i64.wrap (48 + Int.tmod (u : Int) 10))] := by
  rw [Lib.decDigits_one h]
  match u, h with
  | 0, _ | 1, _ | 2, _ | 3, _ | 4, _ | 5, _ | 6, _ | 7, _ | 8, _ | 9, _ => rfl
theorem ref_Dec_nat : ∀ (k u : Nat), u < 10 ^ (k + 1) → u ≤ 9223372036854775807 → g_ref01_Decimal_n (k + 1) (u : Int) = some (Lib.decDigits u) := by
  intro k
  induction k with
  | zero =>
    intro u hu _
    show g_ref01_Decimal_b _ _ = _
    unfold g_ref01_Decimal_b
    rw [if_neg (by simp), if_neg (by simp; omega), dec_small (by omega)]
  | succ k ih =>
    intro u hu hm
    show g_ref01_Decimal_b (g_ref01_Decimal_n (k + 1)) _ = _
    unfold g_ref01_Decimal_b
    rw [if_neg (by simp)]
    by_cases h : 10 ≤ u
    · have e1 : Int.tdiv (u : Int) 10 = ((u / 10 : Nat) : Int) := by rw [Int.tdiv_eq_ediv_of_nonneg (by omega)]; simp
      rw [if_pos (by simp; omega), e1, wr64 (by omega), ih (u / 10) (by rw [Nat.pow_succ] at hu; omega) (by omega)]
      simp only [Option.bind_some]
      have hl := decDigits_len (u / 10) (by omega)
      rw [if_pos (by rw [show ∀ x : Int, (bytesOf [x]).length = 1 from fun _ => rfl]; omega)]
      congr 1
      rw [show Lib.decDigits u = Lib.decDigits (u / 10) ++ [UInt8.ofNat (48 + u % 10)] by rw [Lib.decDigits, dif_neg (by omega)]]
      congr 1
      have : Int.tmod (u : Int) 10 = ((u % 10 : Nat) : Int) := by rw [Int.tmod_eq_emod_of_nonneg (by omega)]; simp
      rw [this]
      have hlt : u % 10 < 10 := Nat.mod_lt _ (by omega)
      generalize u % 10 = v at hlt
      match v, hlt with
      | 0, _ | 1, _ | 2, _ | 3, _ | 4, _ | 5, _ | 6, _ | 7, _ | 8, _ | 9, _ => rfl
    · rw [if_neg (by simp; omega), dec_small (by omega)]
theorem ref_Decimal {n : Int} (h : -9223372036854775807 ≤ n ∧ n ≤ 9223372036854775807) : g_ref01_Decimal n = some (Lib.itoa n) := by
  unfold g_ref01_Decimal
  by_cases h0 : n < 0
  · obtain ⟨u, rfl⟩ : ∃ u : Nat, n = -(u : Int) := ⟨n.natAbs, by omega⟩
    show g_ref01_Decimal_b (g_ref01_Decimal_n 99) _ = _
    unfold g_ref01_Decimal_b
    rw [if_pos (by simpa using h0), wr64 (by omega), show (0 : Int) - -(u : Int) = (u : Int) by omega, ref_Dec_nat 98 u (Nat.lt_of_le_of_lt (m := 9223372036854775807) (by omega) (by decide)) (by omega)]
    have hl := decDigits_len u (by omega)
    simp only [Option.bind_some]
    rw [if_pos (by omega), Lib.itoa_neg u (by omega)]
    rfl
  · obtain ⟨u, rfl⟩ : ∃ u : Nat, n = (u : Int) := ⟨n.toNat, by omega⟩
    rw [Lib.itoa_nonneg]
    exact ref_Dec_nat 99 u (Nat.lt_of_le_of_lt (m := 9223372036854775807) (by omega) (by decide)) (by omega)
theorem ref_ratio_Text (x : T_api_Ratio) : g_ref01_Text x = some (rTx x) := by
  unfold g_ref01_Text rTx
  rw [ref_ratio_Valid]
  simp only [Option.bind_some]
  cases hv : vR x
  · rfl
  · have hp := vR_in hv
    unfold inP at hp
    have l1 := itl (n := x.Num) (by omega)
    have l2 := itl (n := x.Den) (by omega)
    simp only [if_true, ref_Decimal (n := x.Num) (by omega), ref_Decimal (n := x.Den) (by omega), Option.bind_some]
    rw [if_pos (by omega), if_pos (by omega)]
    rfl
end Go.Proofs.YtnjjdbljoligdaaGreatDoor
