/- What some functions compute, read off their texts by a program of mine (gen.py): definitions, and contracts (the text computes it). No condition but that the definition answers. -/
import Derived.Test.YtipdmcpmedmicaaDoorTA
namespace Go.Proofs.YtipdmcpmedmicaaDoor
open Go.RowKit
set_option maxRecDepth 100000
set_option linter.unusedVariables false
set_option linter.unusedSimpArgs false
set_option maxHeartbeats 10000000
structure T_api_Field where
  Text : List UInt8
  Column : Int
  Quoted : Bool
  deriving DecidableEq
def T_api_Field.d (x : T_api_Field) : D := .agg [.str x.Text, .int .i64 x.Column, .bool x.Quoted]
structure T_api_Diag where
  Line : Int
  Column : Int
  Code : Int
  deriving DecidableEq
def T_api_Diag.d (x : T_api_Diag) : D := .agg [.int .i64 x.Line, .int .i64 x.Column, .int .i64 x.Code]
structure T_api_Line where
  Number : Int
  Fields : List T_api_Field
  deriving DecidableEq
def T_api_Line.d (x : T_api_Line) : D := .agg [.int .i64 x.Number, .sl (x.Fields.map T_api_Field.d)]
structure T_captionerref07_Scanner where
  Line : T_api_Line
  At : Int
  Code : Int
  Col : Int
  deriving DecidableEq
def T_captionerref07_Scanner.d (x : T_captionerref07_Scanner) : D := .agg [.int .i64 x.Line.Number, .sl (x.Line.Fields.map T_api_Field.d), .int .i64 x.At, .int .i64 x.Code, .int .i64 x.Col]
theorem dd_TB : (∀ x, T_api_Region.d x = .agg [.str x.Name, .int .i64 x.Top, .int .i64 x.Height, .int .i64 x.Left, .int .i64 x.Width, .int .u8 x.Align, .bool x.Bottom]) ∧ (∀ x, T_api_Field.d x = .agg [.str x.Text, .int .i64 x.Column, .bool x.Quoted]) ∧ (∀ x, T_api_Diag.d x = .agg [.int .i64 x.Line, .int .i64 x.Column, .int .i64 x.Code]) ∧ (∀ x, T_api_Line.d x = .agg [.int .i64 x.Number, .sl (x.Fields.map T_api_Field.d)]) ∧ (∀ x, T_captionerref07_Scanner.d x = .agg [.int .i64 x.Line.Number, .sl (x.Line.Fields.map T_api_Field.d), .int .i64 x.At, .int .i64 x.Code, .int .i64 x.Col]) := ⟨fun _ => rfl, fun _ => rfl, fun _ => rfl, fun _ => rfl, fun _ => rfl⟩
-- captionerref07.digit
def g_ref07_digit (c_0 : Int) : Option (Bool) :=
  (if (decide (48 ≤ c_0)) then (some (decide (c_0 ≤ 57))) else (some false))
theorem a_ref07_digit (I : World → Prop) (hI : Stab I) (c_0 : Int) {r : Bool} (h : g_ref07_digit c_0 = some r) : AFun Tryd.prog I 124 [.int .u8 c_0] (.bool r) := by
  refine AFun.enterB hI Tryd.func124 rfl (by decide) (by simp [Tryd.f124]) (by kernel_rfl) ?_
  unfold g_ref07_digit at h
  simp only [S0, Tryd.ntmps124, dd_TB]
  refine rb_seq ?_
  refine rb_regionK fun K2 hK2 => ?_
  simp -implicitDefEqProofs only [vt, vm, ↓atI_fold, forall_const, implies_true, sevalprocAttr, dd_TB]
  subst hK2
  refine eb_seq ?_
  refine rb_seq ?_
  refine rb_regionK fun K5 hK5 => ?_
  simp -implicitDefEqProofs only [vt, vm, ↓atI_fold, forall_const, implies_true, sevalprocAttr, dd_TB]
  rcases ite_or h with ⟨k6, h⟩ | ⟨k6, h⟩
  · simp -implicitDefEqProofs only [vt, vm, ↓atI_fold, forall_const, implies_true, sevalprocAttr, dd_TB, k6]
    subst hK5
    refine eb_seq ?_
    refine rb_ret ?_
    obtain rfl := Option.some.inj h
    refine eb_nil ?_
    simp -implicitDefEqProofs only [vt, vm, ↓atI_fold, forall_const, implies_true, sevalprocAttr, retQ_r, Tryd.results124, dd_TB, k6] <;> first | rfl | (simp [List.map_append, dd_TB]; done)
  · simp -implicitDefEqProofs only [vt, vm, ↓atI_fold, forall_const, implies_true, sevalprocAttr, dd_TB, k6]
    subst hK5
    refine eb_seq ?_
    refine rb_ret ?_
    obtain rfl := Option.some.inj h
    refine eb_nil ?_
    simp -implicitDefEqProofs only [vt, vm, ↓atI_fold, forall_const, implies_true, sevalprocAttr, retQ_r, Tryd.results124, dd_TB, k6] <;> first | rfl | (simp [List.map_append, dd_TB]; done)
-- captionerref07.Name
def g_ref07_Name_s1 (s_0 : List UInt8) (x14 : Int) : Option (Nx (Int) (Unit ⊕ Unit)) :=
  (if (decide (x14 < (s_0.length : Int))) then ((((((atI s_0 x14).bind fun b133 => (if (decide (65 ≤ (b133.toNat : Int))) then (some (decide ((b133.toNat : Int) ≤ 90))) else (some false))) : Option (Bool)).bind fun v131 => (if v131 then (some (.go ())) else (if (x14 == 0) then (some (.out ())) else ((atI s_0 x14).bind fun b151 => ((g_ref07_digit (b151.toNat : Int)).bind fun r153 => (if r153 then (some (.go ())) else (if ((b151.toNat : Int) != 95) then (if ((b151.toNat : Int) != 45) then (some (.out ())) else (some (.go ()))) else (some (.go ()))))))))) : Option (Nx (Unit) (Unit))).bind fun w161 => match w161 with | .go v126 => (some (.go (IntKind.i64.wrap (x14 + 1)))) | .out e162 => (some (.out (.inl ())))) else (some (.out (.inr ()))))
def g_ref07_Name (s_0 : List UInt8) : Option (Bool) :=
  (((if (decide ((s_0.length : Int) < 1)) then (some true) else (some (decide (16 < (s_0.length : Int))))) : Option (Bool)).bind fun v5 => (if v5 then (some false) else ((iter (g_ref07_Name_s1 s_0) 0).bind fun e15 => (match e15 with | Sum.inl e15 => (some false) | Sum.inr (e15) => (some true)))))
theorem a_ref07_Name (I : World → Prop) (hI : Stab I) (s_0 : List UInt8) {r : Bool} (h : g_ref07_Name s_0 = some r) : AFun Tryd.prog I 94 [.str s_0] (.bool r) := by
  refine AFun.enterB hI Tryd.func94 rfl (by decide) (by simp [Tryd.f94]) (by kernel_rfl) ?_
  unfold g_ref07_Name at h
  simp only [S0, Tryd.ntmps94, dd_TB]
  refine rb_seq ?_
  refine rb_regionK fun K2 hK2 => ?_
  simp -implicitDefEqProofs only [vt, vm, ↓atI_fold, forall_const, implies_true, sevalprocAttr, dd_TB]
  subst hK2
  refine eb_seq ?_
  refine rb_seq ?_
  obtain ⟨v5, h8, h⟩ := bind_some h
  refine rb_cut (fun v5 => ⟨envL [(0, .str s_0), (12, .bool v5)], heapL [], 0, 54⟩) h8 ?_ ?_
  · clear h
    intro v5 h
    refine rb_regionK fun K6 hK6 => ?_
    simp -implicitDefEqProofs only [vt, vm, ↓atI_fold, forall_const, implies_true, sevalprocAttr, dd_TB]
    rcases ite_or h with ⟨k7, h⟩ | ⟨k7, h⟩
    · simp -implicitDefEqProofs only [vt, vm, ↓atI_fold, forall_const, implies_true, sevalprocAttr, dd_TB, k7]
      subst hK6
      obtain rfl := Option.some.inj h
      exact eb_nil ⟨rfl, Wk.of (fun i => some i) _ _ _ (by simp -implicitDefEqProofs [kv, km, dd_TB, k7]) (by simp -implicitDefEqProofs [kv, km, dd_TB, k7])⟩
    · simp -implicitDefEqProofs only [vt, vm, ↓atI_fold, forall_const, implies_true, sevalprocAttr, dd_TB, k7]
      subst hK6
      obtain rfl := Option.some.inj h
      exact eb_nil ⟨rfl, Wk.of (fun i => some i) _ _ _ (by simp -implicitDefEqProofs [kv, km, dd_TB, k7]) (by simp -implicitDefEqProofs [kv, km, dd_TB, k7])⟩
  · rcases ite_or h with ⟨k9, h⟩ | ⟨k9, h⟩
    · refine rb_true (by first | exact congrArg D.bool k9 | rfl) ?_
      refine rb_seq ?_
      refine rb_regionK fun K11 hK11 => ?_
      simp -implicitDefEqProofs only [vt, vm, ↓atI_fold, forall_const, implies_true, sevalprocAttr, dd_TB, k9]
      subst hK11
      refine eb_seq ?_
      refine rb_ret ?_
      refine eb_seq_r ?_
      obtain rfl := Option.some.inj h
      refine eb_nil ?_
      simp -implicitDefEqProofs only [vt, vm, ↓atI_fold, forall_const, implies_true, sevalprocAttr, retQ_r, Tryd.results94, dd_TB, k9] <;> first | rfl | (simp [List.map_append, dd_TB]; done)
    · refine rb_false (by first | exact congrArg D.bool k9 | rfl) ?_
      refine rb_skip ?_
      refine eb_seq ?_
      refine rb_seq ?_
      refine rb_seq ?_
      refine rb_regionK fun K13 hK13 => ?_
      simp -implicitDefEqProofs only [vt, vm, ↓atI_fold, forall_const, implies_true, sevalprocAttr, dd_TB, k9]
      subst hK13
      refine eb_seq ?_
      refine rb_block ?_
      obtain ⟨e15, h164, h⟩ := bind_some h
      refine rb_loop (fun x14 => ⟨envL [(0, .str s_0), (3, .int .i64 x14)], heapL [], 0, 54⟩) (fun w => match w with | Sum.inl _ => .ret | Sum.inr (_) => .exit 0) (fun w => match w with | Sum.inl e15 => ⟨envL [(2, .bool false)], heapL [], 0, 54⟩ | Sum.inr (e15) => ⟨envL [], heapL [], 0, 54⟩) h164 (Wk.of (fun i => some i) _ _ _ (by simp -implicitDefEqProofs [kv, km, dd_TB, k9]) (by simp -implicitDefEqProofs [kv, km, dd_TB, k9])) (by intro w; rcases w with w | w <;> simp) ?_ ?_
      · clear h
        intro x14 y h
        unfold g_ref07_Name_s1 at h
        refine rb_seq ?_
        refine rb_seq ?_
        refine rb_regionK fun K91 hK91 => ?_
        simp -implicitDefEqProofs only [vt, vm, ↓atI_fold, forall_const, implies_true, sevalprocAttr, dd_TB, k9]
        subst hK91
        refine eb_seq ?_
        rcases ite_or h with ⟨k92, h⟩ | ⟨k92, h⟩
        · refine rb_true (by first | exact congrArg D.bool k92 | rfl) ?_
          refine rb_skip ?_
          refine eb_seq ?_
          obtain ⟨w161, h160, h⟩ := bind_some h
          refine rb_seg (fun v126 => ⟨envL [(0, .str s_0), (3, .int .i64 x14)], heapL [], 0, 54⟩) (fun _ => .ret) (fun e162 => ⟨envL [(2, .bool false)], heapL [], 0, 54⟩) h160 (by intro w; simp) ?_ ?_ ?_
          · clear h
            intro w161 h
            refine rb_block ?_
            obtain ⟨v131, h136, h⟩ := bind_some h
            refine rb_cut (fun v131 => ⟨envL [(0, .str s_0), (3, .int .i64 x14), (4, .bool v131)], heapL [], 0, 54⟩) h136 ?_ ?_
            · clear h
              intro v131 h
              refine rb_regionK fun K132 hK132 => ?_
              simp -implicitDefEqProofs only [vt, vm, ↓atI_fold, forall_const, implies_true, sevalprocAttr, dd_TB, k9, k92]
              obtain ⟨b133, h134, h⟩ := bind_some h
              simp -implicitDefEqProofs only [vt, vm, ↓atI_fold, forall_const, implies_true, sevalprocAttr, dd_TB, k9, k92, h134]
              rcases ite_or h with ⟨k135, h⟩ | ⟨k135, h⟩
              · simp -implicitDefEqProofs only [vt, vm, ↓atI_fold, forall_const, implies_true, sevalprocAttr, dd_TB, k9, k92, h134, k135]
                subst hK132
                obtain rfl := Option.some.inj h
                exact eb_nil ⟨rfl, Wk.of (fun i => some i) _ _ _ (by simp -implicitDefEqProofs [kv, km, dd_TB, k9, k92, k135]) (by simp -implicitDefEqProofs [kv, km, dd_TB, k9, k92, k135])⟩
              · simp -implicitDefEqProofs only [vt, vm, ↓atI_fold, forall_const, implies_true, sevalprocAttr, dd_TB, k9, k92, h134, k135]
                subst hK132
                obtain rfl := Option.some.inj h
                exact eb_nil ⟨rfl, Wk.of (fun i => some i) _ _ _ (by simp -implicitDefEqProofs [kv, km, dd_TB, k9, k92, k135]) (by simp -implicitDefEqProofs [kv, km, dd_TB, k9, k92, k135])⟩
            · refine rb_seq ?_
              refine rb_regionK fun K146 hK146 => ?_
              simp -implicitDefEqProofs only [vt, vm, ↓atI_fold, forall_const, implies_true, sevalprocAttr, dd_TB, k9, k92]
              rcases ite_or h with ⟨k147, h⟩ | ⟨k147, h⟩
              · simp -implicitDefEqProofs only [vt, vm, ↓atI_fold, forall_const, implies_true, sevalprocAttr, dd_TB, k9, k92, k147]
                subst hK146
                refine eb_seq ?_
                refine rb_false (rfl) ?_
                refine rb_skip ?_
                refine eb_blk_n ?_
                obtain rfl := Option.some.inj h
                exact eb_nil ⟨rfl, Wk.of (fun i => some i) _ _ _ (by simp -implicitDefEqProofs [kv, km, dd_TB, k9, k92, k147]) (by simp -implicitDefEqProofs [kv, km, dd_TB, k9, k92, k147])⟩
              · simp -implicitDefEqProofs only [vt, vm, ↓atI_fold, forall_const, implies_true, sevalprocAttr, dd_TB, k9, k92, k147]
                rcases ite_or h with ⟨k148, h⟩ | ⟨k148, h⟩
                · simp -implicitDefEqProofs only [vt, vm, ↓atI_fold, forall_const, implies_true, sevalprocAttr, dd_TB, k9, k92, k147, k148]
                  subst hK146
                  refine eb_seq ?_
                  refine rb_true (rfl) ?_
                  refine rb_seq ?_
                  refine rb_regionK fun K150 hK150 => ?_
                  simp -implicitDefEqProofs only [vt, vm, ↓atI_fold, forall_const, implies_true, sevalprocAttr, dd_TB, k9, k92, k147, k148]
                  subst hK150
                  refine eb_seq ?_
                  refine rb_ret ?_
                  refine eb_blk_r ?_
                  obtain rfl := Option.some.inj h
                  exact eb_nil ⟨rfl, Wk.of (fun i => some i) _ _ _ (by simp -implicitDefEqProofs [kv, km, dd_TB, k9, k92, k147, k148]) (by simp -implicitDefEqProofs [kv, km, dd_TB, k9, k92, k147, k148])⟩
                · simp -implicitDefEqProofs only [vt, vm, ↓atI_fold, forall_const, implies_true, sevalprocAttr, dd_TB, k9, k92, k147, k148]
                  obtain ⟨b151, h152, h⟩ := bind_some h
                  simp -implicitDefEqProofs only [vt, vm, ↓atI_fold, forall_const, implies_true, sevalprocAttr, dd_TB, k9, k92, k147, k148, h152]
                  obtain ⟨r153, h154, h⟩ := bind_some h
                  refine cW.intro (a_ref07_digit I hI (b151.toNat : Int) h154) (by first | rfl | (simp [List.map_append, dd_TB]; done)) ?_
                  simp -implicitDefEqProofs only [vt, vm, ↓atI_fold, forall_const, implies_true, sevalprocAttr, dd_TB, k9, k92, k147, k148, h152]
                  rcases ite_or h with ⟨k155, h⟩ | ⟨k155, h⟩
                  · simp -implicitDefEqProofs only [vt, vm, ↓atI_fold, forall_const, implies_true, sevalprocAttr, dd_TB, k9, k92, k147, k148, h152, k155]
                    subst hK146
                    refine eb_seq ?_
                    refine rb_false (rfl) ?_
                    refine rb_skip ?_
                    refine eb_blk_n ?_
                    obtain rfl := Option.some.inj h
                    exact eb_nil ⟨rfl, Wk.of (fun i => some i) _ _ _ (by simp -implicitDefEqProofs [kv, km, dd_TB, k9, k92, k147, k148, k155]) (by simp -implicitDefEqProofs [kv, km, dd_TB, k9, k92, k147, k148, k155])⟩
                  · simp -implicitDefEqProofs only [vt, vm, ↓atI_fold, forall_const, implies_true, sevalprocAttr, dd_TB, k9, k92, k147, k148, h152, k155]
                    rcases ite_or h with ⟨k156, h⟩ | ⟨k156, h⟩
                    · simp -implicitDefEqProofs only [vt, vm, ↓atI_fold, forall_const, implies_true, sevalprocAttr, dd_TB, k9, k92, k147, k148, h152, k155, k156]
                      subst hK146
                      refine eb_seq ?_
                      rcases ite_or h with ⟨k157, h⟩ | ⟨k157, h⟩
                      · refine rb_true (by first | exact congrArg D.bool k157 | rfl) ?_
                        refine rb_seq ?_
                        refine rb_regionK fun K159 hK159 => ?_
                        simp -implicitDefEqProofs only [vt, vm, ↓atI_fold, forall_const, implies_true, sevalprocAttr, dd_TB, k9, k92, k147, k148, h152, k155, k156, k157]
                        subst hK159
                        refine eb_seq ?_
                        refine rb_ret ?_
                        refine eb_blk_r ?_
                        obtain rfl := Option.some.inj h
                        exact eb_nil ⟨rfl, Wk.of (fun i => some i) _ _ _ (by simp -implicitDefEqProofs [kv, km, dd_TB, k9, k92, k147, k148, k155, k156, k157]) (by simp -implicitDefEqProofs [kv, km, dd_TB, k9, k92, k147, k148, k155, k156, k157])⟩
                      · refine rb_false (by first | exact congrArg D.bool k157 | rfl) ?_
                        refine rb_skip ?_
                        refine eb_blk_n ?_
                        obtain rfl := Option.some.inj h
                        exact eb_nil ⟨rfl, Wk.of (fun i => some i) _ _ _ (by simp -implicitDefEqProofs [kv, km, dd_TB, k9, k92, k147, k148, k155, k156, k157]) (by simp -implicitDefEqProofs [kv, km, dd_TB, k9, k92, k147, k148, k155, k156, k157])⟩
                    · simp -implicitDefEqProofs only [vt, vm, ↓atI_fold, forall_const, implies_true, sevalprocAttr, dd_TB, k9, k92, k147, k148, h152, k155, k156]
                      subst hK146
                      refine eb_seq ?_
                      refine rb_false (rfl) ?_
                      refine rb_skip ?_
                      refine eb_blk_n ?_
                      obtain rfl := Option.some.inj h
                      exact eb_nil ⟨rfl, Wk.of (fun i => some i) _ _ _ (by simp -implicitDefEqProofs [kv, km, dd_TB, k9, k92, k147, k148, k155, k156]) (by simp -implicitDefEqProofs [kv, km, dd_TB, k9, k92, k147, k148, k155, k156])⟩
          · rintro v126 rfl
            dsimp only at h
            refine rb_regionK fun K163 hK163 => ?_
            simp -implicitDefEqProofs only [vt, vm, ↓atI_fold, forall_const, implies_true, sevalprocAttr, dd_TB, k9, k92]
            subst hK163
            obtain rfl := Option.some.inj h
            exact eb_nil ⟨rfl, Wk.of (fun i => some i) _ _ _ (by simp -implicitDefEqProofs [kv, km, dd_TB, k9, k92]) (by simp -implicitDefEqProofs [kv, km, dd_TB, k9, k92])⟩
          · rintro e162 rfl
            dsimp only at h
            obtain rfl := Option.some.inj h
            exact eb_nil ⟨rfl, Wk.of (fun i => some i) _ _ _ (by simp -implicitDefEqProofs [kv, km, dd_TB, k9, k92]) (by simp -implicitDefEqProofs [kv, km, dd_TB, k9, k92])⟩
        · refine rb_false (by first | exact congrArg D.bool k92 | rfl) ?_
          refine rb_exit ?_
          refine eb_seq_e ?_
          obtain rfl := Option.some.inj h
          exact eb_nil ⟨rfl, Wk.of (fun i => some i) _ _ _ (by simp -implicitDefEqProofs [kv, km, dd_TB, k9, k92]) (by simp -implicitDefEqProofs [kv, km, dd_TB, k9, k92])⟩
      · rcases e15 with e15 | e15
        · try dsimp only at h ⊢
          refine eb_blk_r ?_
          refine eb_seq_r ?_
          obtain rfl := Option.some.inj h
          refine eb_nil ?_
          simp -implicitDefEqProofs only [vt, vm, ↓atI_fold, forall_const, implies_true, sevalprocAttr, retQ_r, Tryd.results94, dd_TB, k9] <;> first | rfl | (simp [List.map_append, dd_TB]; done)
        · try dsimp only at h ⊢
          refine eb_blk_hit ?_
          refine eb_seq ?_
          refine rb_seq ?_
          refine rb_regionK fun K166 hK166 => ?_
          simp -implicitDefEqProofs only [vt, vm, ↓atI_fold, forall_const, implies_true, sevalprocAttr, dd_TB, k9]
          subst hK166
          refine eb_seq ?_
          refine rb_ret ?_
          obtain rfl := Option.some.inj h
          refine eb_nil ?_
          simp -implicitDefEqProofs only [vt, vm, ↓atI_fold, forall_const, implies_true, sevalprocAttr, retQ_r, Tryd.results94, dd_TB, k9] <;> first | rfl | (simp [List.map_append, dd_TB]; done)
-- captionerref10.Check
def g_ref10_Check (r_0 : T_api_Region) : Option (Int) :=
  ((g_ref07_Name r_0.Name).bind fun r46 => (if r46 then (((if (decide (r_0.Top < 0)) then (some true) else (if (decide (14 < r_0.Top)) then (some true) else (if (decide (r_0.Height < 1)) then (some true) else (if (decide ((IntKind.i64.wrap (15 - r_0.Top)) < r_0.Height)) then (some true) else (if (decide (r_0.Left < 0)) then (some true) else (if (decide (31 < r_0.Left)) then (some true) else (if (decide (r_0.Width < 1)) then (some true) else (some (decide ((IntKind.i64.wrap (32 - r_0.Left)) < r_0.Width)))))))))) : Option (Bool)).bind fun v57 => (if v57 then (some 2) else (if (r_0.Align != 1) then (if (r_0.Align != 2) then (if (r_0.Align != 3) then (some 3) else (some 0)) else (some 0)) else (some 0)))) else (some 5)))
theorem a_ref10_Check (I : World → Prop) (hI : Stab I) (r_0 : T_api_Region) {r : Int} (h : g_ref10_Check r_0 = some r) : AFun Tryd.prog I 56 [T_api_Region.d r_0] (.int .i64 r) := by
  refine AFun.enterB hI Tryd.func56 rfl (by decide) (by simp [Tryd.f56]) (by kernel_rfl) ?_
  unfold g_ref10_Check at h
  simp only [S0, Tryd.ntmps56, dd_TB]
  refine rb_seq ?_
  refine rb_regionK fun K2 hK2 => ?_
  simp -implicitDefEqProofs only [vt, vm, ↓atI_fold, forall_const, implies_true, sevalprocAttr, dd_TB]
  subst hK2
  refine eb_seq ?_
  refine rb_seq ?_
  refine rb_block ?_
  refine rb_seq ?_
  refine rb_regionK fun K45 hK45 => ?_
  simp -implicitDefEqProofs only [vt, vm, ↓atI_fold, forall_const, implies_true, sevalprocAttr, dd_TB]
  obtain ⟨r46, h47, h⟩ := bind_some h
  refine cW.intro (a_ref07_Name I hI r_0.Name h47) (by first | rfl | (simp [List.map_append, dd_TB]; done)) ?_
  simp -implicitDefEqProofs only [vt, vm, ↓atI_fold, forall_const, implies_true, sevalprocAttr, dd_TB]
  subst hK45
  refine eb_seq ?_
  rcases ite_or h with ⟨k48, h⟩ | ⟨k48, h⟩
  · refine rb_false (by first | exact congrArg D.bool (congrArg Bool.not k48) | rfl) ?_
    obtain ⟨v57, h66, h⟩ := bind_some h
    refine rb_cut (fun v57 => ⟨envL [(1, .ptr 0 0), (8, .bool v57)], heapL [(0, .box none [.str r_0.Name, .int .i64 r_0.Top, .int .i64 r_0.Height, .int .i64 r_0.Left, .int .i64 r_0.Width, .int .u8 r_0.Align, .bool r_0.Bottom])], 1, 67⟩) h66 ?_ ?_
    · clear h
      intro v57 h
      refine rb_regionK fun K58 hK58 => ?_
      simp -implicitDefEqProofs only [vt, vm, ↓atI_fold, forall_const, implies_true, sevalprocAttr, dd_TB, k48]
      rcases ite_or h with ⟨k59, h⟩ | ⟨k59, h⟩
      · simp -implicitDefEqProofs only [vt, vm, ↓atI_fold, forall_const, implies_true, sevalprocAttr, dd_TB, k48, k59]
        subst hK58
        obtain rfl := Option.some.inj h
        exact eb_nil ⟨rfl, Wk.of (fun i => if i = 0 then some 0 else some i) _ _ _ (by simp -implicitDefEqProofs [kv, km, dd_TB, k48, k59]) (by simp -implicitDefEqProofs [kv, km, dd_TB, k48, k59])⟩
      · simp -implicitDefEqProofs only [vt, vm, ↓atI_fold, forall_const, implies_true, sevalprocAttr, dd_TB, k48, k59]
        rcases ite_or h with ⟨k60, h⟩ | ⟨k60, h⟩
        · simp -implicitDefEqProofs only [vt, vm, ↓atI_fold, forall_const, implies_true, sevalprocAttr, dd_TB, k48, k59, k60]
          subst hK58
          obtain rfl := Option.some.inj h
          exact eb_nil ⟨rfl, Wk.of (fun i => if i = 0 then some 0 else some i) _ _ _ (by simp -implicitDefEqProofs [kv, km, dd_TB, k48, k59, k60]) (by simp -implicitDefEqProofs [kv, km, dd_TB, k48, k59, k60])⟩
        · simp -implicitDefEqProofs only [vt, vm, ↓atI_fold, forall_const, implies_true, sevalprocAttr, dd_TB, k48, k59, k60]
          rcases ite_or h with ⟨k61, h⟩ | ⟨k61, h⟩
          · simp -implicitDefEqProofs only [vt, vm, ↓atI_fold, forall_const, implies_true, sevalprocAttr, dd_TB, k48, k59, k60, k61]
            subst hK58
            obtain rfl := Option.some.inj h
            exact eb_nil ⟨rfl, Wk.of (fun i => if i = 0 then some 0 else some i) _ _ _ (by simp -implicitDefEqProofs [kv, km, dd_TB, k48, k59, k60, k61]) (by simp -implicitDefEqProofs [kv, km, dd_TB, k48, k59, k60, k61])⟩
          · simp -implicitDefEqProofs only [vt, vm, ↓atI_fold, forall_const, implies_true, sevalprocAttr, dd_TB, k48, k59, k60, k61]
            rcases ite_or h with ⟨k62, h⟩ | ⟨k62, h⟩
            · simp -implicitDefEqProofs only [vt, vm, ↓atI_fold, forall_const, implies_true, sevalprocAttr, dd_TB, k48, k59, k60, k61, k62]
              subst hK58
              obtain rfl := Option.some.inj h
              exact eb_nil ⟨rfl, Wk.of (fun i => if i = 0 then some 0 else some i) _ _ _ (by simp -implicitDefEqProofs [kv, km, dd_TB, k48, k59, k60, k61, k62]) (by simp -implicitDefEqProofs [kv, km, dd_TB, k48, k59, k60, k61, k62])⟩
            · simp -implicitDefEqProofs only [vt, vm, ↓atI_fold, forall_const, implies_true, sevalprocAttr, dd_TB, k48, k59, k60, k61, k62]
              rcases ite_or h with ⟨k63, h⟩ | ⟨k63, h⟩
              · simp -implicitDefEqProofs only [vt, vm, ↓atI_fold, forall_const, implies_true, sevalprocAttr, dd_TB, k48, k59, k60, k61, k62, k63]
                subst hK58
                obtain rfl := Option.some.inj h
                exact eb_nil ⟨rfl, Wk.of (fun i => if i = 0 then some 0 else some i) _ _ _ (by simp -implicitDefEqProofs [kv, km, dd_TB, k48, k59, k60, k61, k62, k63]) (by simp -implicitDefEqProofs [kv, km, dd_TB, k48, k59, k60, k61, k62, k63])⟩
              · simp -implicitDefEqProofs only [vt, vm, ↓atI_fold, forall_const, implies_true, sevalprocAttr, dd_TB, k48, k59, k60, k61, k62, k63]
                rcases ite_or h with ⟨k64, h⟩ | ⟨k64, h⟩
                · simp -implicitDefEqProofs only [vt, vm, ↓atI_fold, forall_const, implies_true, sevalprocAttr, dd_TB, k48, k59, k60, k61, k62, k63, k64]
                  subst hK58
                  obtain rfl := Option.some.inj h
                  exact eb_nil ⟨rfl, Wk.of (fun i => if i = 0 then some 0 else some i) _ _ _ (by simp -implicitDefEqProofs [kv, km, dd_TB, k48, k59, k60, k61, k62, k63, k64]) (by simp -implicitDefEqProofs [kv, km, dd_TB, k48, k59, k60, k61, k62, k63, k64])⟩
                · simp -implicitDefEqProofs only [vt, vm, ↓atI_fold, forall_const, implies_true, sevalprocAttr, dd_TB, k48, k59, k60, k61, k62, k63, k64]
                  rcases ite_or h with ⟨k65, h⟩ | ⟨k65, h⟩
                  · simp -implicitDefEqProofs only [vt, vm, ↓atI_fold, forall_const, implies_true, sevalprocAttr, dd_TB, k48, k59, k60, k61, k62, k63, k64, k65]
                    subst hK58
                    obtain rfl := Option.some.inj h
                    exact eb_nil ⟨rfl, Wk.of (fun i => if i = 0 then some 0 else some i) _ _ _ (by simp -implicitDefEqProofs [kv, km, dd_TB, k48, k59, k60, k61, k62, k63, k64, k65]) (by simp -implicitDefEqProofs [kv, km, dd_TB, k48, k59, k60, k61, k62, k63, k64, k65])⟩
                  · simp -implicitDefEqProofs only [vt, vm, ↓atI_fold, forall_const, implies_true, sevalprocAttr, dd_TB, k48, k59, k60, k61, k62, k63, k64, k65]
                    subst hK58
                    obtain rfl := Option.some.inj h
                    exact eb_nil ⟨rfl, Wk.of (fun i => if i = 0 then some 0 else some i) _ _ _ (by simp -implicitDefEqProofs [kv, km, dd_TB, k48, k59, k60, k61, k62, k63, k64, k65]) (by simp -implicitDefEqProofs [kv, km, dd_TB, k48, k59, k60, k61, k62, k63, k64, k65])⟩
    · rcases ite_or h with ⟨k67, h⟩ | ⟨k67, h⟩
      · refine rb_true (by first | exact congrArg D.bool k67 | rfl) ?_
        refine rb_seq ?_
        refine rb_regionK fun K69 hK69 => ?_
        simp -implicitDefEqProofs only [vt, vm, ↓atI_fold, forall_const, implies_true, sevalprocAttr, dd_TB, k48, k67]
        subst hK69
        refine eb_seq ?_
        refine rb_ret ?_
        refine eb_blk_r ?_
        refine eb_seq_r ?_
        obtain rfl := Option.some.inj h
        refine eb_nil ?_
        simp -implicitDefEqProofs only [vt, vm, ↓atI_fold, forall_const, implies_true, sevalprocAttr, retQ_r, Tryd.results56, dd_TB, k48, k67] <;> first | rfl | (simp [List.map_append, dd_TB]; done)
      · refine rb_false (by first | exact congrArg D.bool k67 | rfl) ?_
        refine rb_seq ?_
        refine rb_regionK fun K73 hK73 => ?_
        simp -implicitDefEqProofs only [vt, vm, ↓atI_fold, forall_const, implies_true, sevalprocAttr, dd_TB, k48, k67]
        rcases ite_or h with ⟨k74, h⟩ | ⟨k74, h⟩
        · simp -implicitDefEqProofs only [vt, vm, ↓atI_fold, forall_const, implies_true, sevalprocAttr, dd_TB, k48, k67, k74]
          rcases ite_or h with ⟨k75, h⟩ | ⟨k75, h⟩
          · simp -implicitDefEqProofs only [vt, vm, ↓atI_fold, forall_const, implies_true, sevalprocAttr, dd_TB, k48, k67, k74, k75]
            subst hK73
            refine eb_seq ?_
            rcases ite_or h with ⟨k76, h⟩ | ⟨k76, h⟩
            · refine rb_true (by first | exact congrArg D.bool k76 | rfl) ?_
              refine rb_seq ?_
              refine rb_regionK fun K78 hK78 => ?_
              simp -implicitDefEqProofs only [vt, vm, ↓atI_fold, forall_const, implies_true, sevalprocAttr, dd_TB, k48, k67, k74, k75, k76]
              subst hK78
              refine eb_seq ?_
              refine rb_ret ?_
              refine eb_blk_r ?_
              refine eb_seq_r ?_
              obtain rfl := Option.some.inj h
              refine eb_nil ?_
              simp -implicitDefEqProofs only [vt, vm, ↓atI_fold, forall_const, implies_true, sevalprocAttr, retQ_r, Tryd.results56, dd_TB, k48, k67, k74, k75, k76] <;> first | rfl | (simp [List.map_append, dd_TB]; done)
            · refine rb_false (by first | exact congrArg D.bool k76 | rfl) ?_
              refine rb_skip ?_
              refine eb_blk_n ?_
              refine eb_seq ?_
              refine rb_seq ?_
              refine rb_regionK fun K80 hK80 => ?_
              simp -implicitDefEqProofs only [vt, vm, ↓atI_fold, forall_const, implies_true, sevalprocAttr, dd_TB, k48, k67, k74, k75, k76]
              subst hK80
              refine eb_seq ?_
              refine rb_ret ?_
              obtain rfl := Option.some.inj h
              refine eb_nil ?_
              simp -implicitDefEqProofs only [vt, vm, ↓atI_fold, forall_const, implies_true, sevalprocAttr, retQ_r, Tryd.results56, dd_TB, k48, k67, k74, k75, k76] <;> first | rfl | (simp [List.map_append, dd_TB]; done)
          · simp -implicitDefEqProofs only [vt, vm, ↓atI_fold, forall_const, implies_true, sevalprocAttr, dd_TB, k48, k67, k74, k75]
            subst hK73
            refine eb_seq ?_
            refine rb_false (rfl) ?_
            refine rb_skip ?_
            refine eb_blk_n ?_
            refine eb_seq ?_
            refine rb_seq ?_
            refine rb_regionK fun K82 hK82 => ?_
            simp -implicitDefEqProofs only [vt, vm, ↓atI_fold, forall_const, implies_true, sevalprocAttr, dd_TB, k48, k67, k74, k75]
            subst hK82
            refine eb_seq ?_
            refine rb_ret ?_
            obtain rfl := Option.some.inj h
            refine eb_nil ?_
            simp -implicitDefEqProofs only [vt, vm, ↓atI_fold, forall_const, implies_true, sevalprocAttr, retQ_r, Tryd.results56, dd_TB, k48, k67, k74, k75] <;> first | rfl | (simp [List.map_append, dd_TB]; done)
        · simp -implicitDefEqProofs only [vt, vm, ↓atI_fold, forall_const, implies_true, sevalprocAttr, dd_TB, k48, k67, k74]
          subst hK73
          refine eb_seq ?_
          refine rb_false (rfl) ?_
          refine rb_skip ?_
          refine eb_blk_n ?_
          refine eb_seq ?_
          refine rb_seq ?_
          refine rb_regionK fun K84 hK84 => ?_
          simp -implicitDefEqProofs only [vt, vm, ↓atI_fold, forall_const, implies_true, sevalprocAttr, dd_TB, k48, k67, k74]
          subst hK84
          refine eb_seq ?_
          refine rb_ret ?_
          obtain rfl := Option.some.inj h
          refine eb_nil ?_
          simp -implicitDefEqProofs only [vt, vm, ↓atI_fold, forall_const, implies_true, sevalprocAttr, retQ_r, Tryd.results56, dd_TB, k48, k67, k74] <;> first | rfl | (simp [List.map_append, dd_TB]; done)
  · refine rb_true (by first | exact congrArg D.bool (congrArg Bool.not k48) | rfl) ?_
    refine rb_seq ?_
    refine rb_regionK fun K86 hK86 => ?_
    simp -implicitDefEqProofs only [vt, vm, ↓atI_fold, forall_const, implies_true, sevalprocAttr, dd_TB, k48]
    subst hK86
    refine eb_seq ?_
    refine rb_ret ?_
    refine eb_blk_r ?_
    refine eb_seq_r ?_
    obtain rfl := Option.some.inj h
    refine eb_nil ?_
    simp -implicitDefEqProofs only [vt, vm, ↓atI_fold, forall_const, implies_true, sevalprocAttr, retQ_r, Tryd.results56, dd_TB, k48] <;> first | rfl | (simp [List.map_append, dd_TB]; done)
-- captionerref07.Decimal
def g_ref07_Decimal_s1  (x64 : Int × (List UInt8)) : Option (Nx (Int × (List UInt8)) (Int × (List UInt8))) :=
  (if (decide (10 ≤ x64.1)) then ((subI ([48, 49, 50, 51, 52, 53, 54, 55, 56, 57] : List UInt8) (Int.tmod x64.1 10) (IntKind.u64.wrap ((Int.tmod x64.1 10) + 1))).bind fun z104 => (if z104.length + x64.2.length ≤ 9223372036854775807 then (some (.go ((IntKind.u64.wrap (Int.tdiv x64.1 10)), (z104 ++ x64.2)))) else none)) else (some (.out (x64.1, x64.2))))
def g_ref07_Decimal_s2  (x194 : Int × (List UInt8)) : Option (Nx (Int × (List UInt8)) (Int × (List UInt8))) :=
  (if (decide (10 ≤ x194.1)) then ((subI ([48, 49, 50, 51, 52, 53, 54, 55, 56, 57] : List UInt8) (Int.tmod x194.1 10) (IntKind.u64.wrap ((Int.tmod x194.1 10) + 1))).bind fun z234 => (if z234.length + x194.2.length ≤ 9223372036854775807 then (some (.go ((IntKind.u64.wrap (Int.tdiv x194.1 10)), (z234 ++ x194.2)))) else none)) else (some (.out (x194.1, x194.2))))
def g_ref07_Decimal (n_0 : Int) : Option ((List UInt8)) :=
  (if (decide (n_0 < 0)) then ((iter (g_ref07_Decimal_s1) ((IntKind.u64.wrap (0 - (IntKind.u64.wrap n_0))), [])).bind fun e65 => ((subI ([48, 49, 50, 51, 52, 53, 54, 55, 56, 57] : List UInt8) e65.1 (IntKind.u64.wrap (e65.1 + 1))).bind fun z128 => (if 1 + z128.length ≤ 9223372036854775807 then (if (1 + z128.length) + e65.2.length ≤ 9223372036854775807 then (some (([45] ++ z128) ++ e65.2)) else none) else none))) else ((iter (g_ref07_Decimal_s2) ((IntKind.u64.wrap n_0), [])).bind fun e195 => ((subI ([48, 49, 50, 51, 52, 53, 54, 55, 56, 57] : List UInt8) e195.1 (IntKind.u64.wrap (e195.1 + 1))).bind fun z258 => (if 0 + z258.length ≤ 9223372036854775807 then (if (0 + z258.length) + e195.2.length ≤ 9223372036854775807 then (some (([] ++ z258) ++ e195.2)) else none) else none))))
theorem a_ref07_Decimal (I : World → Prop) (hI : Stab I) (n_0 : Int) {r : (List UInt8)} (h : g_ref07_Decimal n_0 = some r) : AFun Tryd.prog I 57 [.int .i64 n_0] (.str r) := by
  refine AFun.enterB hI Tryd.func57 rfl (by decide) (by simp [Tryd.f57]) (by kernel_rfl) ?_
  unfold g_ref07_Decimal at h
  simp only [S0, Tryd.ntmps57, dd_TB]
  refine rb_seq ?_
  refine rb_regionK fun K2 hK2 => ?_
  simp -implicitDefEqProofs only [vt, vm, ↓atI_fold, forall_const, implies_true, sevalprocAttr, dd_TB]
  subst hK2
  refine eb_seq ?_
  refine rb_seq ?_
  refine rb_regionK fun K4 hK4 => ?_
  simp -implicitDefEqProofs only [vt, vm, ↓atI_fold, forall_const, implies_true, sevalprocAttr, dd_TB]
  subst hK4
  refine eb_seq ?_
  refine rb_seq ?_
  refine rb_seq ?_
  refine rb_regionK fun K6 hK6 => ?_
  simp -implicitDefEqProofs only [vt, vm, ↓atI_fold, forall_const, implies_true, sevalprocAttr, dd_TB]
  subst hK6
  refine eb_seq ?_
  rcases ite_or h with ⟨k7, h⟩ | ⟨k7, h⟩
  · refine rb_true (by first | exact congrArg D.bool k7 | rfl) ?_
    refine rb_regionK fun K8 hK8 => ?_
    simp -implicitDefEqProofs only [vt, vm, ↓atI_fold, forall_const, implies_true, sevalprocAttr, dd_TB, k7]
    subst hK8
    refine eb_seq ?_
    refine rb_seq ?_
    refine rb_regionK fun K10 hK10 => ?_
    simp -implicitDefEqProofs only [vt, vm, ↓atI_fold, forall_const, implies_true, sevalprocAttr, dd_TB, k7]
    subst hK10
    refine eb_seq ?_
    refine rb_seq ?_
    refine rb_regionK fun K12 hK12 => ?_
    simp -implicitDefEqProofs only [vt, vm, ↓atI_fold, forall_const, implies_true, sevalprocAttr, dd_TB, k7]
    subst hK12
    refine eb_seq ?_
    refine rb_seq ?_
    refine rb_block ?_
    obtain ⟨e65, h114, h⟩ := bind_some h
    refine rb_loop (fun x64 => ⟨envL [(3, .int .u64 x64.1), (4, .str [45]), (5, .str [48, 49, 50, 51, 52, 53, 54, 55, 56, 57]), (6, .str x64.2)], heapL [], 0, 35⟩) (fun _ => .exit 0) (fun e65 => ⟨envL [(3, .int .u64 e65.1), (4, .str [45]), (5, .str [48, 49, 50, 51, 52, 53, 54, 55, 56, 57]), (6, .str e65.2)], heapL [], 0, 35⟩) h114 (Wk.of (fun i => some i) _ _ _ (by simp -implicitDefEqProofs [kv, km, dd_TB, k7]) (by simp -implicitDefEqProofs [kv, km, dd_TB, k7])) (by intro w; simp) ?_ ?_
    · clear h
      intro x64 y h
      unfold g_ref07_Decimal_s1 at h
      refine rb_seq ?_
      refine rb_seq ?_
      refine rb_regionK fun K91 hK91 => ?_
      simp -implicitDefEqProofs only [vt, vm, ↓atI_fold, forall_const, implies_true, sevalprocAttr, dd_TB, k7]
      subst hK91
      refine eb_seq ?_
      rcases ite_or h with ⟨k92, h⟩ | ⟨k92, h⟩
      · refine rb_true (by first | exact congrArg D.bool k92 | rfl) ?_
        refine rb_skip ?_
        refine eb_seq ?_
        refine rb_block ?_
        refine rb_seq ?_
        refine rb_regionK fun K103 hK103 => ?_
        simp -implicitDefEqProofs only [vt, vm, ↓atI_fold, forall_const, implies_true, sevalprocAttr, dd_TB, k7, k92]
        obtain ⟨z104, h105, h⟩ := bind_some h
        obtain ⟨⟨h106, h107, h108, h109⟩, h110⟩ := subI_some h105
        try simp only [List.length_cons, List.length_nil, Nat.zero_add, Nat.reduceAdd, Int.reduceToNat] at h106
        try simp only [List.length_cons, List.length_nil, Nat.zero_add, Nat.reduceAdd, Int.reduceToNat] at h107
        try simp only [List.length_cons, List.length_nil, Nat.zero_add, Nat.reduceAdd, Int.reduceToNat] at h108
        try simp only [List.length_cons, List.length_nil, Nat.zero_add, Nat.reduceAdd, Int.reduceToNat] at h109
        try simp -implicitDefEqProofs only [vt, vm, ↓atI_fold, forall_const, implies_true, sevalprocAttr, dd_TB, k7, k92, h106, h107, h108, h109] at h110
        simp -implicitDefEqProofs only [vt, vm, ↓atI_fold, forall_const, implies_true, sevalprocAttr, dd_TB, k7, k92, h106, h107, h108, h109, h110]
        obtain ⟨h111, h⟩ := ite_on h
        have h112 : z104.length + x64.2.length ≤ 9223372036854775807 := by (try simp only [List.length_append, List.length_cons, List.length_nil]); omega
        try simp -implicitDefEqProofs only [vt, vm, ↓atI_fold, forall_const, implies_true, sevalprocAttr, dd_TB, k7, k92, h106, h107, h108, h109, h110] at h112
        simp -implicitDefEqProofs only [vt, vm, ↓atI_fold, forall_const, implies_true, sevalprocAttr, dd_TB, k7, k92, h106, h107, h108, h109, h110, h112, h111]
        subst hK103
        refine eb_seq ?_
        refine rb_regionK fun K113 hK113 => ?_
        simp -implicitDefEqProofs only [vt, vm, ↓atI_fold, forall_const, implies_true, sevalprocAttr, dd_TB, k7, k92, h106, h107, h108, h109, h110, h112, h111]
        subst hK113
        refine eb_blk_n ?_
        obtain rfl := Option.some.inj h
        exact eb_nil ⟨rfl, Wk.of (fun i => some i) _ _ _ (by simp -implicitDefEqProofs [kv, km, dd_TB, k7, k92]) (by simp -implicitDefEqProofs [kv, km, dd_TB, k7, k92])⟩
      · refine rb_false (by first | exact congrArg D.bool k92 | rfl) ?_
        refine rb_exit ?_
        refine eb_seq_e ?_
        obtain rfl := Option.some.inj h
        exact eb_nil ⟨rfl, Wk.of (fun i => some i) _ _ _ (by simp -implicitDefEqProofs [kv, km, dd_TB, k7, k92]) (by simp -implicitDefEqProofs [kv, km, dd_TB, k7, k92])⟩
    · refine eb_blk_hit ?_
      refine eb_seq ?_
      refine rb_seq ?_
      refine rb_regionK fun K127 hK127 => ?_
      simp -implicitDefEqProofs only [vt, vm, ↓atI_fold, forall_const, implies_true, sevalprocAttr, dd_TB, k7]
      obtain ⟨z128, h129, h⟩ := bind_some h
      obtain ⟨⟨h130, h131, h132, h133⟩, h134⟩ := subI_some h129
      try simp only [List.length_cons, List.length_nil, Nat.zero_add, Nat.reduceAdd, Int.reduceToNat] at h130
      try simp only [List.length_cons, List.length_nil, Nat.zero_add, Nat.reduceAdd, Int.reduceToNat] at h131
      try simp only [List.length_cons, List.length_nil, Nat.zero_add, Nat.reduceAdd, Int.reduceToNat] at h132
      try simp only [List.length_cons, List.length_nil, Nat.zero_add, Nat.reduceAdd, Int.reduceToNat] at h133
      try simp -implicitDefEqProofs only [vt, vm, ↓atI_fold, forall_const, implies_true, sevalprocAttr, dd_TB, k7, h130, h131, h132, h133] at h134
      simp -implicitDefEqProofs only [vt, vm, ↓atI_fold, forall_const, implies_true, sevalprocAttr, dd_TB, k7, h130, h131, h132, h133, h134]
      obtain ⟨h135, h⟩ := ite_on h
      have h136 : ([45] : List UInt8).length + z128.length ≤ 9223372036854775807 := by (try simp only [List.length_append, List.length_cons, List.length_nil]); omega
      try simp -implicitDefEqProofs only [vt, vm, ↓atI_fold, forall_const, implies_true, sevalprocAttr, dd_TB, k7, h130, h131, h132, h133, h134] at h136
      simp -implicitDefEqProofs only [vt, vm, ↓atI_fold, forall_const, implies_true, sevalprocAttr, dd_TB, k7, h130, h131, h132, h133, h134, h136, h135]
      obtain ⟨h137, h⟩ := ite_on h
      have h138 : ([45] ++ z128).length + e65.2.length ≤ 9223372036854775807 := by (try simp only [List.length_append, List.length_cons, List.length_nil]); omega
      try simp -implicitDefEqProofs only [vt, vm, ↓atI_fold, forall_const, implies_true, sevalprocAttr, dd_TB, k7, h130, h131, h132, h133, h134, h136, h135] at h138
      simp -implicitDefEqProofs only [vt, vm, ↓atI_fold, forall_const, implies_true, sevalprocAttr, dd_TB, k7, h130, h131, h132, h133, h134, h136, h135, h138, h137]
      subst hK127
      refine eb_seq ?_
      refine rb_ret ?_
      obtain rfl := Option.some.inj h
      refine eb_nil ?_
      simp -implicitDefEqProofs only [vt, vm, ↓atI_fold, forall_const, implies_true, sevalprocAttr, retQ_r, Tryd.results57, dd_TB, k7, h130, h131, h132, h133, h134, h136, h135, h138, h137] <;> first | rfl | (simp [List.map_append, dd_TB]; done)
  · refine rb_false (by first | exact congrArg D.bool k7 | rfl) ?_
    refine rb_skip ?_
    refine eb_seq ?_
    refine rb_seq ?_
    refine rb_regionK fun K140 hK140 => ?_
    simp -implicitDefEqProofs only [vt, vm, ↓atI_fold, forall_const, implies_true, sevalprocAttr, dd_TB, k7]
    subst hK140
    refine eb_seq ?_
    refine rb_seq ?_
    refine rb_regionK fun K142 hK142 => ?_
    simp -implicitDefEqProofs only [vt, vm, ↓atI_fold, forall_const, implies_true, sevalprocAttr, dd_TB, k7]
    subst hK142
    refine eb_seq ?_
    refine rb_seq ?_
    refine rb_block ?_
    obtain ⟨e195, h244, h⟩ := bind_some h
    refine rb_loop (fun x194 => ⟨envL [(3, .int .u64 x194.1), (4, .str []), (5, .str [48, 49, 50, 51, 52, 53, 54, 55, 56, 57]), (6, .str x194.2)], heapL [], 0, 35⟩) (fun _ => .exit 0) (fun e195 => ⟨envL [(3, .int .u64 e195.1), (4, .str []), (5, .str [48, 49, 50, 51, 52, 53, 54, 55, 56, 57]), (6, .str e195.2)], heapL [], 0, 35⟩) h244 (Wk.of (fun i => some i) _ _ _ (by simp -implicitDefEqProofs [kv, km, dd_TB, k7]) (by simp -implicitDefEqProofs [kv, km, dd_TB, k7])) (by intro w; simp) ?_ ?_
    · clear h
      intro x194 y h
      unfold g_ref07_Decimal_s2 at h
      refine rb_seq ?_
      refine rb_seq ?_
      refine rb_regionK fun K221 hK221 => ?_
      simp -implicitDefEqProofs only [vt, vm, ↓atI_fold, forall_const, implies_true, sevalprocAttr, dd_TB, k7]
      subst hK221
      refine eb_seq ?_
      rcases ite_or h with ⟨k222, h⟩ | ⟨k222, h⟩
      · refine rb_true (by first | exact congrArg D.bool k222 | rfl) ?_
        refine rb_skip ?_
        refine eb_seq ?_
        refine rb_block ?_
        refine rb_seq ?_
        refine rb_regionK fun K233 hK233 => ?_
        simp -implicitDefEqProofs only [vt, vm, ↓atI_fold, forall_const, implies_true, sevalprocAttr, dd_TB, k7, k222]
        obtain ⟨z234, h235, h⟩ := bind_some h
        obtain ⟨⟨h236, h237, h238, h239⟩, h240⟩ := subI_some h235
        try simp only [List.length_cons, List.length_nil, Nat.zero_add, Nat.reduceAdd, Int.reduceToNat] at h236
        try simp only [List.length_cons, List.length_nil, Nat.zero_add, Nat.reduceAdd, Int.reduceToNat] at h237
        try simp only [List.length_cons, List.length_nil, Nat.zero_add, Nat.reduceAdd, Int.reduceToNat] at h238
        try simp only [List.length_cons, List.length_nil, Nat.zero_add, Nat.reduceAdd, Int.reduceToNat] at h239
        try simp -implicitDefEqProofs only [vt, vm, ↓atI_fold, forall_const, implies_true, sevalprocAttr, dd_TB, k7, k222, h236, h237, h238, h239] at h240
        simp -implicitDefEqProofs only [vt, vm, ↓atI_fold, forall_const, implies_true, sevalprocAttr, dd_TB, k7, k222, h236, h237, h238, h239, h240]
        obtain ⟨h241, h⟩ := ite_on h
        have h242 : z234.length + x194.2.length ≤ 9223372036854775807 := by (try simp only [List.length_append, List.length_cons, List.length_nil]); omega
        try simp -implicitDefEqProofs only [vt, vm, ↓atI_fold, forall_const, implies_true, sevalprocAttr, dd_TB, k7, k222, h236, h237, h238, h239, h240] at h242
        simp -implicitDefEqProofs only [vt, vm, ↓atI_fold, forall_const, implies_true, sevalprocAttr, dd_TB, k7, k222, h236, h237, h238, h239, h240, h242, h241]
        subst hK233
        refine eb_seq ?_
        refine rb_regionK fun K243 hK243 => ?_
        simp -implicitDefEqProofs only [vt, vm, ↓atI_fold, forall_const, implies_true, sevalprocAttr, dd_TB, k7, k222, h236, h237, h238, h239, h240, h242, h241]
        subst hK243
        refine eb_blk_n ?_
        obtain rfl := Option.some.inj h
        exact eb_nil ⟨rfl, Wk.of (fun i => some i) _ _ _ (by simp -implicitDefEqProofs [kv, km, dd_TB, k7, k222]) (by simp -implicitDefEqProofs [kv, km, dd_TB, k7, k222])⟩
      · refine rb_false (by first | exact congrArg D.bool k222 | rfl) ?_
        refine rb_exit ?_
        refine eb_seq_e ?_
        obtain rfl := Option.some.inj h
        exact eb_nil ⟨rfl, Wk.of (fun i => some i) _ _ _ (by simp -implicitDefEqProofs [kv, km, dd_TB, k7, k222]) (by simp -implicitDefEqProofs [kv, km, dd_TB, k7, k222])⟩
    · refine eb_blk_hit ?_
      refine eb_seq ?_
      refine rb_seq ?_
      refine rb_regionK fun K257 hK257 => ?_
      simp -implicitDefEqProofs only [vt, vm, ↓atI_fold, forall_const, implies_true, sevalprocAttr, dd_TB, k7]
      obtain ⟨z258, h259, h⟩ := bind_some h
      obtain ⟨⟨h260, h261, h262, h263⟩, h264⟩ := subI_some h259
      try simp only [List.length_cons, List.length_nil, Nat.zero_add, Nat.reduceAdd, Int.reduceToNat] at h260
      try simp only [List.length_cons, List.length_nil, Nat.zero_add, Nat.reduceAdd, Int.reduceToNat] at h261
      try simp only [List.length_cons, List.length_nil, Nat.zero_add, Nat.reduceAdd, Int.reduceToNat] at h262
      try simp only [List.length_cons, List.length_nil, Nat.zero_add, Nat.reduceAdd, Int.reduceToNat] at h263
      try simp -implicitDefEqProofs only [vt, vm, ↓atI_fold, forall_const, implies_true, sevalprocAttr, dd_TB, k7, h260, h261, h262, h263] at h264
      simp -implicitDefEqProofs only [vt, vm, ↓atI_fold, forall_const, implies_true, sevalprocAttr, dd_TB, k7, h260, h261, h262, h263, h264]
      obtain ⟨h265, h⟩ := ite_on h
      have h266 : ([] : List UInt8).length + z258.length ≤ 9223372036854775807 := by (try simp only [List.length_append, List.length_cons, List.length_nil]); omega
      try simp -implicitDefEqProofs only [vt, vm, ↓atI_fold, forall_const, implies_true, sevalprocAttr, dd_TB, k7, h260, h261, h262, h263, h264] at h266
      simp -implicitDefEqProofs only [vt, vm, ↓atI_fold, forall_const, implies_true, sevalprocAttr, dd_TB, k7, h260, h261, h262, h263, h264, h266, h265]
      obtain ⟨h267, h⟩ := ite_on h
      have h268 : ([] ++ z258).length + e195.2.length ≤ 9223372036854775807 := by (try simp only [List.length_append, List.length_cons, List.length_nil]); omega
      try simp -implicitDefEqProofs only [vt, vm, ↓atI_fold, forall_const, implies_true, sevalprocAttr, dd_TB, k7, h260, h261, h262, h263, h264, h266, h265] at h268
      simp -implicitDefEqProofs only [vt, vm, ↓atI_fold, forall_const, implies_true, sevalprocAttr, dd_TB, k7, h260, h261, h262, h263, h264, h266, h265, h268, h267]
      subst hK257
      refine eb_seq ?_
      refine rb_ret ?_
      obtain rfl := Option.some.inj h
      refine eb_nil ?_
      simp -implicitDefEqProofs only [vt, vm, ↓atI_fold, forall_const, implies_true, sevalprocAttr, retQ_r, Tryd.results57, dd_TB, k7, h260, h261, h262, h263, h264, h266, h265, h268, h267] <;> first | rfl | (simp [List.map_append, dd_TB]; done)
-- captionerref10.Aligns
def g_ref10_Aligns  : Option ((List (List UInt8))) :=
  (some [[76, 69, 70, 84], [67, 69, 78, 84, 69, 82], [82, 73, 71, 72, 84]])
theorem a_ref10_Aligns (I : World → Prop) (hI : Stab I)  {r : (List (List UInt8))} (h : g_ref10_Aligns  = some r) : AFun Tryd.prog I 58 [] (.sl (r.map D.str)) := by
  refine AFun.enterB hI Tryd.func58 rfl (by decide) (by simp [Tryd.f58]) (by kernel_rfl) ?_
  unfold g_ref10_Aligns at h
  simp only [S0, Tryd.ntmps58, dd_TB]
  refine rb_seq ?_
  refine rb_regionK fun K2 hK2 => ?_
  simp -implicitDefEqProofs only [vt, vm, ↓atI_fold, forall_const, implies_true, sevalprocAttr, dd_TB]
  subst hK2
  refine eb_seq ?_
  refine rb_seq ?_
  refine rb_regionK fun K4 hK4 => ?_
  simp -implicitDefEqProofs only [vt, vm, ↓atI_fold, forall_const, implies_true, sevalprocAttr, dd_TB]
  subst hK4
  refine eb_seq ?_
  refine rb_ret ?_
  obtain rfl := Option.some.inj h
  refine eb_nil ?_
  simp -implicitDefEqProofs only [vt, vm, ↓atI_fold, forall_const, implies_true, sevalprocAttr, retQ_r, Tryd.results58, dd_TB] <;> first | rfl | (simp [List.map_append, dd_TB]; done)
-- captionerref10.Text
def g_ref10_Text (r_0 : T_api_Region) : Option ((List UInt8) × Int) :=
  ((g_ref10_Check r_0).bind fun r7 => (if (r7 != 0) then (some ([], r7)) else (if r_0.Bottom then (if r_0.Name.length + 1 ≤ 9223372036854775807 then ((g_ref07_Decimal r_0.Top).bind fun r60 => (if (r_0.Name.length + 1) + r60.length ≤ 9223372036854775807 then (if ((r_0.Name.length + 1) + r60.length) + 1 ≤ 9223372036854775807 then ((g_ref07_Decimal r_0.Height).bind fun r66 => (if (((r_0.Name.length + 1) + r60.length) + 1) + r66.length ≤ 9223372036854775807 then (if ((((r_0.Name.length + 1) + r60.length) + 1) + r66.length) + 1 ≤ 9223372036854775807 then ((g_ref07_Decimal r_0.Left).bind fun r72 => (if (((((r_0.Name.length + 1) + r60.length) + 1) + r66.length) + 1) + r72.length ≤ 9223372036854775807 then (if ((((((r_0.Name.length + 1) + r60.length) + 1) + r66.length) + 1) + r72.length) + 1 ≤ 9223372036854775807 then ((g_ref07_Decimal r_0.Width).bind fun r78 => (if (((((((r_0.Name.length + 1) + r60.length) + 1) + r66.length) + 1) + r72.length) + 1) + r78.length ≤ 9223372036854775807 then (if ((((((((r_0.Name.length + 1) + r60.length) + 1) + r66.length) + 1) + r72.length) + 1) + r78.length) + 1 ≤ 9223372036854775807 then ((g_ref10_Aligns).bind fun r84 => ((atI r84 (IntKind.u8.wrap (r_0.Align - 1))).bind fun y86 => (if (((((((((r_0.Name.length + 1) + r60.length) + 1) + r66.length) + 1) + r72.length) + 1) + r78.length) + 1) + y86.length ≤ 9223372036854775807 then (if ((((((((((r_0.Name.length + 1) + r60.length) + 1) + r66.length) + 1) + r72.length) + 1) + r78.length) + 1) + y86.length) + 1 ≤ 9223372036854775807 then (if (((((((((((r_0.Name.length + 1) + r60.length) + 1) + r66.length) + 1) + r72.length) + 1) + r78.length) + 1) + y86.length) + 1) + 6 ≤ 9223372036854775807 then (some (((((((((((((r_0.Name ++ [32]) ++ r60) ++ [32]) ++ r66) ++ [32]) ++ r72) ++ [32]) ++ r78) ++ [32]) ++ y86) ++ [32]) ++ [66, 79, 84, 84, 79, 77]), 0)) else none) else none) else none))) else none) else none)) else none) else none)) else none) else none)) else none) else none)) else none) else (if r_0.Name.length + 1 ≤ 9223372036854775807 then ((g_ref07_Decimal r_0.Top).bind fun r134 => (if (r_0.Name.length + 1) + r134.length ≤ 9223372036854775807 then (if ((r_0.Name.length + 1) + r134.length) + 1 ≤ 9223372036854775807 then ((g_ref07_Decimal r_0.Height).bind fun r140 => (if (((r_0.Name.length + 1) + r134.length) + 1) + r140.length ≤ 9223372036854775807 then (if ((((r_0.Name.length + 1) + r134.length) + 1) + r140.length) + 1 ≤ 9223372036854775807 then ((g_ref07_Decimal r_0.Left).bind fun r146 => (if (((((r_0.Name.length + 1) + r134.length) + 1) + r140.length) + 1) + r146.length ≤ 9223372036854775807 then (if ((((((r_0.Name.length + 1) + r134.length) + 1) + r140.length) + 1) + r146.length) + 1 ≤ 9223372036854775807 then ((g_ref07_Decimal r_0.Width).bind fun r152 => (if (((((((r_0.Name.length + 1) + r134.length) + 1) + r140.length) + 1) + r146.length) + 1) + r152.length ≤ 9223372036854775807 then (if ((((((((r_0.Name.length + 1) + r134.length) + 1) + r140.length) + 1) + r146.length) + 1) + r152.length) + 1 ≤ 9223372036854775807 then ((g_ref10_Aligns).bind fun r158 => ((atI r158 (IntKind.u8.wrap (r_0.Align - 1))).bind fun y160 => (if (((((((((r_0.Name.length + 1) + r134.length) + 1) + r140.length) + 1) + r146.length) + 1) + r152.length) + 1) + y160.length ≤ 9223372036854775807 then (if ((((((((((r_0.Name.length + 1) + r134.length) + 1) + r140.length) + 1) + r146.length) + 1) + r152.length) + 1) + y160.length) + 1 ≤ 9223372036854775807 then (if (((((((((((r_0.Name.length + 1) + r134.length) + 1) + r140.length) + 1) + r146.length) + 1) + r152.length) + 1) + y160.length) + 1) + 3 ≤ 9223372036854775807 then (some (((((((((((((r_0.Name ++ [32]) ++ r134) ++ [32]) ++ r140) ++ [32]) ++ r146) ++ [32]) ++ r152) ++ [32]) ++ y160) ++ [32]) ++ [84, 79, 80]), 0)) else none) else none) else none))) else none) else none)) else none) else none)) else none) else none)) else none) else none)) else none))))
theorem a_ref10_Text (I : World → Prop) (hI : Stab I) (r_0 : T_api_Region) {r : (List UInt8) × Int} (h : g_ref10_Text r_0 = some r) : AFun Tryd.prog I 27 [T_api_Region.d r_0] (.tup [.str r.1, .int .i64 r.2]) := by
  refine AFun.enterB hI Tryd.func27 rfl (by decide) (by simp [Tryd.f27]) (by kernel_rfl) ?_
  unfold g_ref10_Text at h
  simp only [S0, Tryd.ntmps27, dd_TB]
  refine rb_seq ?_
  refine rb_regionK fun K2 hK2 => ?_
  simp -implicitDefEqProofs only [vt, vm, ↓atI_fold, forall_const, implies_true, sevalprocAttr, dd_TB]
  subst hK2
  refine eb_seq ?_
  refine rb_seq ?_
  refine rb_seq ?_
  refine rb_regionK fun K6 hK6 => ?_
  simp -implicitDefEqProofs only [vt, vm, ↓atI_fold, forall_const, implies_true, sevalprocAttr, dd_TB]
  obtain ⟨r7, h8, h⟩ := bind_some h
  refine cW.intro (a_ref10_Check I hI r_0 h8) (by first | rfl | (simp [List.map_append, dd_TB]; done)) ?_
  simp -implicitDefEqProofs only [vt, vm, ↓atI_fold, forall_const, implies_true, sevalprocAttr, dd_TB]
  subst hK6
  refine eb_seq ?_
  refine rb_seq ?_
  refine rb_regionK fun K10 hK10 => ?_
  simp -implicitDefEqProofs only [vt, vm, ↓atI_fold, forall_const, implies_true, sevalprocAttr, dd_TB]
  subst hK10
  refine eb_seq ?_
  rcases ite_or h with ⟨k11, h⟩ | ⟨k11, h⟩
  · refine rb_true (by first | exact congrArg D.bool k11 | rfl) ?_
    refine rb_seq ?_
    refine rb_regionK fun K13 hK13 => ?_
    simp -implicitDefEqProofs only [vt, vm, ↓atI_fold, forall_const, implies_true, sevalprocAttr, dd_TB, k11]
    subst hK13
    refine eb_seq ?_
    refine rb_ret ?_
    refine eb_seq_r ?_
    obtain rfl := Option.some.inj h
    refine eb_nil ?_
    simp -implicitDefEqProofs only [vt, vm, ↓atI_fold, forall_const, implies_true, sevalprocAttr, retQ_r, Tryd.results27, dd_TB, k11] <;> first | rfl | (simp [List.map_append, dd_TB]; done)
  · refine rb_false (by first | exact congrArg D.bool k11 | rfl) ?_
    refine rb_skip ?_
    refine eb_seq ?_
    refine rb_seq ?_
    refine rb_regionK fun K15 hK15 => ?_
    simp -implicitDefEqProofs only [vt, vm, ↓atI_fold, forall_const, implies_true, sevalprocAttr, dd_TB, k11]
    subst hK15
    refine eb_seq ?_
    refine rb_seq ?_
    refine rb_seq ?_
    refine rb_regionK fun K17 hK17 => ?_
    simp -implicitDefEqProofs only [vt, vm, ↓atI_fold, forall_const, implies_true, sevalprocAttr, dd_TB, k11]
    subst hK17
    refine eb_seq ?_
    rcases ite_or h with ⟨k18, h⟩ | ⟨k18, h⟩
    · refine rb_true (by first | exact congrArg D.bool k18 | rfl) ?_
      refine rb_regionK fun K19 hK19 => ?_
      simp -implicitDefEqProofs only [vt, vm, ↓atI_fold, forall_const, implies_true, sevalprocAttr, dd_TB, k11, k18]
      subst hK19
      refine eb_seq ?_
      refine rb_seq ?_
      refine rb_drawK hI (by kernel_rfl) (by kernel_rfl) fun K57 hK57 => ?_
      simp -implicitDefEqProofs only [vt, vm, ↓atI_fold, forall_const, implies_true, sevalprocAttr, dd_TB, k11, k18]
      obtain ⟨h58, h⟩ := ite_on h
      have h59 : r_0.Name.length + ([32] : List UInt8).length ≤ 9223372036854775807 := by (try simp only [List.length_append, List.length_cons, List.length_nil]); omega
      try simp -implicitDefEqProofs only [vt, vm, ↓atI_fold, forall_const, implies_true, sevalprocAttr, dd_TB, k11, k18] at h59
      simp -implicitDefEqProofs only [vt, vm, ↓atI_fold, forall_const, implies_true, sevalprocAttr, dd_TB, k11, k18, h59, h58]
      obtain ⟨r60, h61, h⟩ := bind_some h
      refine cD'.intro (a_ref07_Decimal I hI r_0.Top h61) (by first | rfl | (simp [List.map_append, dd_TB]; done)) (by kernel_rfl) ?_
      simp -implicitDefEqProofs only [vt, vm, ↓atI_fold, forall_const, implies_true, sevalprocAttr, dd_TB, k11, k18, h59, h58]
      obtain ⟨h62, h⟩ := ite_on h
      have h63 : (r_0.Name ++ [32]).length + r60.length ≤ 9223372036854775807 := by (try simp only [List.length_append, List.length_cons, List.length_nil]); omega
      try simp -implicitDefEqProofs only [vt, vm, ↓atI_fold, forall_const, implies_true, sevalprocAttr, dd_TB, k11, k18, h59, h58] at h63
      simp -implicitDefEqProofs only [vt, vm, ↓atI_fold, forall_const, implies_true, sevalprocAttr, dd_TB, k11, k18, h59, h58, h63, h62]
      obtain ⟨h64, h⟩ := ite_on h
      have h65 : ((r_0.Name ++ [32]) ++ r60).length + ([32] : List UInt8).length ≤ 9223372036854775807 := by (try simp only [List.length_append, List.length_cons, List.length_nil]); omega
      try simp -implicitDefEqProofs only [vt, vm, ↓atI_fold, forall_const, implies_true, sevalprocAttr, dd_TB, k11, k18, h59, h58, h63, h62] at h65
      simp -implicitDefEqProofs only [vt, vm, ↓atI_fold, forall_const, implies_true, sevalprocAttr, dd_TB, k11, k18, h59, h58, h63, h62, h65, h64]
      obtain ⟨r66, h67, h⟩ := bind_some h
      refine cD'.intro (a_ref07_Decimal I hI r_0.Height h67) (by first | rfl | (simp [List.map_append, dd_TB]; done)) (by kernel_rfl) ?_
      simp -implicitDefEqProofs only [vt, vm, ↓atI_fold, forall_const, implies_true, sevalprocAttr, dd_TB, k11, k18, h59, h58, h63, h62, h65, h64]
      obtain ⟨h68, h⟩ := ite_on h
      have h69 : (((r_0.Name ++ [32]) ++ r60) ++ [32]).length + r66.length ≤ 9223372036854775807 := by (try simp only [List.length_append, List.length_cons, List.length_nil]); omega
      try simp -implicitDefEqProofs only [vt, vm, ↓atI_fold, forall_const, implies_true, sevalprocAttr, dd_TB, k11, k18, h59, h58, h63, h62, h65, h64] at h69
      simp -implicitDefEqProofs only [vt, vm, ↓atI_fold, forall_const, implies_true, sevalprocAttr, dd_TB, k11, k18, h59, h58, h63, h62, h65, h64, h69, h68]
      obtain ⟨h70, h⟩ := ite_on h
      have h71 : ((((r_0.Name ++ [32]) ++ r60) ++ [32]) ++ r66).length + ([32] : List UInt8).length ≤ 9223372036854775807 := by (try simp only [List.length_append, List.length_cons, List.length_nil]); omega
      try simp -implicitDefEqProofs only [vt, vm, ↓atI_fold, forall_const, implies_true, sevalprocAttr, dd_TB, k11, k18, h59, h58, h63, h62, h65, h64, h69, h68] at h71
      simp -implicitDefEqProofs only [vt, vm, ↓atI_fold, forall_const, implies_true, sevalprocAttr, dd_TB, k11, k18, h59, h58, h63, h62, h65, h64, h69, h68, h71, h70]
      obtain ⟨r72, h73, h⟩ := bind_some h
      refine cD'.intro (a_ref07_Decimal I hI r_0.Left h73) (by first | rfl | (simp [List.map_append, dd_TB]; done)) (by kernel_rfl) ?_
      simp -implicitDefEqProofs only [vt, vm, ↓atI_fold, forall_const, implies_true, sevalprocAttr, dd_TB, k11, k18, h59, h58, h63, h62, h65, h64, h69, h68, h71, h70]
      obtain ⟨h74, h⟩ := ite_on h
      have h75 : (((((r_0.Name ++ [32]) ++ r60) ++ [32]) ++ r66) ++ [32]).length + r72.length ≤ 9223372036854775807 := by (try simp only [List.length_append, List.length_cons, List.length_nil]); omega
      try simp -implicitDefEqProofs only [vt, vm, ↓atI_fold, forall_const, implies_true, sevalprocAttr, dd_TB, k11, k18, h59, h58, h63, h62, h65, h64, h69, h68, h71, h70] at h75
      simp -implicitDefEqProofs only [vt, vm, ↓atI_fold, forall_const, implies_true, sevalprocAttr, dd_TB, k11, k18, h59, h58, h63, h62, h65, h64, h69, h68, h71, h70, h75, h74]
      obtain ⟨h76, h⟩ := ite_on h
      have h77 : ((((((r_0.Name ++ [32]) ++ r60) ++ [32]) ++ r66) ++ [32]) ++ r72).length + ([32] : List UInt8).length ≤ 9223372036854775807 := by (try simp only [List.length_append, List.length_cons, List.length_nil]); omega
      try simp -implicitDefEqProofs only [vt, vm, ↓atI_fold, forall_const, implies_true, sevalprocAttr, dd_TB, k11, k18, h59, h58, h63, h62, h65, h64, h69, h68, h71, h70, h75, h74] at h77
      simp -implicitDefEqProofs only [vt, vm, ↓atI_fold, forall_const, implies_true, sevalprocAttr, dd_TB, k11, k18, h59, h58, h63, h62, h65, h64, h69, h68, h71, h70, h75, h74, h77, h76]
      obtain ⟨r78, h79, h⟩ := bind_some h
      refine cD'.intro (a_ref07_Decimal I hI r_0.Width h79) (by first | rfl | (simp [List.map_append, dd_TB]; done)) (by kernel_rfl) ?_
      simp -implicitDefEqProofs only [vt, vm, ↓atI_fold, forall_const, implies_true, sevalprocAttr, dd_TB, k11, k18, h59, h58, h63, h62, h65, h64, h69, h68, h71, h70, h75, h74, h77, h76]
      obtain ⟨h80, h⟩ := ite_on h
      have h81 : (((((((r_0.Name ++ [32]) ++ r60) ++ [32]) ++ r66) ++ [32]) ++ r72) ++ [32]).length + r78.length ≤ 9223372036854775807 := by (try simp only [List.length_append, List.length_cons, List.length_nil]); omega
      try simp -implicitDefEqProofs only [vt, vm, ↓atI_fold, forall_const, implies_true, sevalprocAttr, dd_TB, k11, k18, h59, h58, h63, h62, h65, h64, h69, h68, h71, h70, h75, h74, h77, h76] at h81
      simp -implicitDefEqProofs only [vt, vm, ↓atI_fold, forall_const, implies_true, sevalprocAttr, dd_TB, k11, k18, h59, h58, h63, h62, h65, h64, h69, h68, h71, h70, h75, h74, h77, h76, h81, h80]
      obtain ⟨h82, h⟩ := ite_on h
      have h83 : ((((((((r_0.Name ++ [32]) ++ r60) ++ [32]) ++ r66) ++ [32]) ++ r72) ++ [32]) ++ r78).length + ([32] : List UInt8).length ≤ 9223372036854775807 := by (try simp only [List.length_append, List.length_cons, List.length_nil]); omega
      try simp -implicitDefEqProofs only [vt, vm, ↓atI_fold, forall_const, implies_true, sevalprocAttr, dd_TB, k11, k18, h59, h58, h63, h62, h65, h64, h69, h68, h71, h70, h75, h74, h77, h76, h81, h80] at h83
      simp -implicitDefEqProofs only [vt, vm, ↓atI_fold, forall_const, implies_true, sevalprocAttr, dd_TB, k11, k18, h59, h58, h63, h62, h65, h64, h69, h68, h71, h70, h75, h74, h77, h76, h81, h80, h83, h82]
      obtain ⟨r84, h85, h⟩ := bind_some h
      refine cD'.intro (a_ref10_Aligns I hI h85) (by first | rfl | (simp [List.map_append, dd_TB]; done)) (by kernel_rfl) ?_
      simp -implicitDefEqProofs only [vt, vm, ↓atI_fold, forall_const, implies_true, sevalprocAttr, dd_TB, k11, k18, h59, h58, h63, h62, h65, h64, h69, h68, h71, h70, h75, h74, h77, h76, h81, h80, h83, h82]
      obtain ⟨y86, h87, h⟩ := bind_some h
      simp -implicitDefEqProofs only [vt, vm, ↓atI_fold, forall_const, implies_true, sevalprocAttr, dd_TB, k11, k18, h59, h58, h63, h62, h65, h64, h69, h68, h71, h70, h75, h74, h77, h76, h81, h80, h83, h82, h87]
      obtain ⟨h88, h⟩ := ite_on h
      have h89 : (((((((((r_0.Name ++ [32]) ++ r60) ++ [32]) ++ r66) ++ [32]) ++ r72) ++ [32]) ++ r78) ++ [32]).length + y86.length ≤ 9223372036854775807 := by (try simp only [List.length_append, List.length_cons, List.length_nil]); omega
      try simp -implicitDefEqProofs only [vt, vm, ↓atI_fold, forall_const, implies_true, sevalprocAttr, dd_TB, k11, k18, h59, h58, h63, h62, h65, h64, h69, h68, h71, h70, h75, h74, h77, h76, h81, h80, h83, h82, h87] at h89
      simp -implicitDefEqProofs only [vt, vm, ↓atI_fold, forall_const, implies_true, sevalprocAttr, dd_TB, k11, k18, h59, h58, h63, h62, h65, h64, h69, h68, h71, h70, h75, h74, h77, h76, h81, h80, h83, h82, h87, h89, h88]
      obtain ⟨h90, h⟩ := ite_on h
      have h91 : ((((((((((r_0.Name ++ [32]) ++ r60) ++ [32]) ++ r66) ++ [32]) ++ r72) ++ [32]) ++ r78) ++ [32]) ++ y86).length + ([32] : List UInt8).length ≤ 9223372036854775807 := by (try simp only [List.length_append, List.length_cons, List.length_nil]); omega
      try simp -implicitDefEqProofs only [vt, vm, ↓atI_fold, forall_const, implies_true, sevalprocAttr, dd_TB, k11, k18, h59, h58, h63, h62, h65, h64, h69, h68, h71, h70, h75, h74, h77, h76, h81, h80, h83, h82, h87, h89, h88] at h91
      simp -implicitDefEqProofs only [vt, vm, ↓atI_fold, forall_const, implies_true, sevalprocAttr, dd_TB, k11, k18, h59, h58, h63, h62, h65, h64, h69, h68, h71, h70, h75, h74, h77, h76, h81, h80, h83, h82, h87, h89, h88, h91, h90]
      obtain ⟨h92, h⟩ := ite_on h
      have h93 : (((((((((((r_0.Name ++ [32]) ++ r60) ++ [32]) ++ r66) ++ [32]) ++ r72) ++ [32]) ++ r78) ++ [32]) ++ y86) ++ [32]).length + ([66, 79, 84, 84, 79, 77] : List UInt8).length ≤ 9223372036854775807 := by (try simp only [List.length_append, List.length_cons, List.length_nil]); omega
      try simp -implicitDefEqProofs only [vt, vm, ↓atI_fold, forall_const, implies_true, sevalprocAttr, dd_TB, k11, k18, h59, h58, h63, h62, h65, h64, h69, h68, h71, h70, h75, h74, h77, h76, h81, h80, h83, h82, h87, h89, h88, h91, h90] at h93
      simp -implicitDefEqProofs only [vt, vm, ↓atI_fold, forall_const, implies_true, sevalprocAttr, dd_TB, k11, k18, h59, h58, h63, h62, h65, h64, h69, h68, h71, h70, h75, h74, h77, h76, h81, h80, h83, h82, h87, h89, h88, h91, h90, h93, h92]
      subst hK57
      refine eb_seq ?_
      refine rb_ret ?_
      obtain rfl := Option.some.inj h
      refine eb_nil ?_
      simp -implicitDefEqProofs only [vt, vm, ↓atI_fold, forall_const, implies_true, sevalprocAttr, retQ_r, Tryd.results27, dd_TB, k11, k18, h59, h58, h63, h62, h65, h64, h69, h68, h71, h70, h75, h74, h77, h76, h81, h80, h83, h82, h87, h89, h88, h91, h90, h93, h92] <;> first | rfl | (simp [List.map_append, dd_TB]; done)
    · refine rb_false (by first | exact congrArg D.bool k18 | rfl) ?_
      refine rb_skip ?_
      refine eb_seq ?_
      refine rb_seq ?_
      refine rb_drawK hI (by kernel_rfl) (by kernel_rfl) fun K131 hK131 => ?_
      simp -implicitDefEqProofs only [vt, vm, ↓atI_fold, forall_const, implies_true, sevalprocAttr, dd_TB, k11, k18]
      obtain ⟨h132, h⟩ := ite_on h
      have h133 : r_0.Name.length + ([32] : List UInt8).length ≤ 9223372036854775807 := by (try simp only [List.length_append, List.length_cons, List.length_nil]); omega
      try simp -implicitDefEqProofs only [vt, vm, ↓atI_fold, forall_const, implies_true, sevalprocAttr, dd_TB, k11, k18] at h133
      simp -implicitDefEqProofs only [vt, vm, ↓atI_fold, forall_const, implies_true, sevalprocAttr, dd_TB, k11, k18, h133, h132]
      obtain ⟨r134, h135, h⟩ := bind_some h
      refine cD'.intro (a_ref07_Decimal I hI r_0.Top h135) (by first | rfl | (simp [List.map_append, dd_TB]; done)) (by kernel_rfl) ?_
      simp -implicitDefEqProofs only [vt, vm, ↓atI_fold, forall_const, implies_true, sevalprocAttr, dd_TB, k11, k18, h133, h132]
      obtain ⟨h136, h⟩ := ite_on h
      have h137 : (r_0.Name ++ [32]).length + r134.length ≤ 9223372036854775807 := by (try simp only [List.length_append, List.length_cons, List.length_nil]); omega
      try simp -implicitDefEqProofs only [vt, vm, ↓atI_fold, forall_const, implies_true, sevalprocAttr, dd_TB, k11, k18, h133, h132] at h137
      simp -implicitDefEqProofs only [vt, vm, ↓atI_fold, forall_const, implies_true, sevalprocAttr, dd_TB, k11, k18, h133, h132, h137, h136]
      obtain ⟨h138, h⟩ := ite_on h
      have h139 : ((r_0.Name ++ [32]) ++ r134).length + ([32] : List UInt8).length ≤ 9223372036854775807 := by (try simp only [List.length_append, List.length_cons, List.length_nil]); omega
      try simp -implicitDefEqProofs only [vt, vm, ↓atI_fold, forall_const, implies_true, sevalprocAttr, dd_TB, k11, k18, h133, h132, h137, h136] at h139
      simp -implicitDefEqProofs only [vt, vm, ↓atI_fold, forall_const, implies_true, sevalprocAttr, dd_TB, k11, k18, h133, h132, h137, h136, h139, h138]
      obtain ⟨r140, h141, h⟩ := bind_some h
      refine cD'.intro (a_ref07_Decimal I hI r_0.Height h141) (by first | rfl | (simp [List.map_append, dd_TB]; done)) (by kernel_rfl) ?_
      simp -implicitDefEqProofs only [vt, vm, ↓atI_fold, forall_const, implies_true, sevalprocAttr, dd_TB, k11, k18, h133, h132, h137, h136, h139, h138]
      obtain ⟨h142, h⟩ := ite_on h
      have h143 : (((r_0.Name ++ [32]) ++ r134) ++ [32]).length + r140.length ≤ 9223372036854775807 := by (try simp only [List.length_append, List.length_cons, List.length_nil]); omega
      try simp -implicitDefEqProofs only [vt, vm, ↓atI_fold, forall_const, implies_true, sevalprocAttr, dd_TB, k11, k18, h133, h132, h137, h136, h139, h138] at h143
      simp -implicitDefEqProofs only [vt, vm, ↓atI_fold, forall_const, implies_true, sevalprocAttr, dd_TB, k11, k18, h133, h132, h137, h136, h139, h138, h143, h142]
      obtain ⟨h144, h⟩ := ite_on h
      have h145 : ((((r_0.Name ++ [32]) ++ r134) ++ [32]) ++ r140).length + ([32] : List UInt8).length ≤ 9223372036854775807 := by (try simp only [List.length_append, List.length_cons, List.length_nil]); omega
      try simp -implicitDefEqProofs only [vt, vm, ↓atI_fold, forall_const, implies_true, sevalprocAttr, dd_TB, k11, k18, h133, h132, h137, h136, h139, h138, h143, h142] at h145
      simp -implicitDefEqProofs only [vt, vm, ↓atI_fold, forall_const, implies_true, sevalprocAttr, dd_TB, k11, k18, h133, h132, h137, h136, h139, h138, h143, h142, h145, h144]
      obtain ⟨r146, h147, h⟩ := bind_some h
      refine cD'.intro (a_ref07_Decimal I hI r_0.Left h147) (by first | rfl | (simp [List.map_append, dd_TB]; done)) (by kernel_rfl) ?_
      simp -implicitDefEqProofs only [vt, vm, ↓atI_fold, forall_const, implies_true, sevalprocAttr, dd_TB, k11, k18, h133, h132, h137, h136, h139, h138, h143, h142, h145, h144]
      obtain ⟨h148, h⟩ := ite_on h
      have h149 : (((((r_0.Name ++ [32]) ++ r134) ++ [32]) ++ r140) ++ [32]).length + r146.length ≤ 9223372036854775807 := by (try simp only [List.length_append, List.length_cons, List.length_nil]); omega
      try simp -implicitDefEqProofs only [vt, vm, ↓atI_fold, forall_const, implies_true, sevalprocAttr, dd_TB, k11, k18, h133, h132, h137, h136, h139, h138, h143, h142, h145, h144] at h149
      simp -implicitDefEqProofs only [vt, vm, ↓atI_fold, forall_const, implies_true, sevalprocAttr, dd_TB, k11, k18, h133, h132, h137, h136, h139, h138, h143, h142, h145, h144, h149, h148]
      obtain ⟨h150, h⟩ := ite_on h
      have h151 : ((((((r_0.Name ++ [32]) ++ r134) ++ [32]) ++ r140) ++ [32]) ++ r146).length + ([32] : List UInt8).length ≤ 9223372036854775807 := by (try simp only [List.length_append, List.length_cons, List.length_nil]); omega
      try simp -implicitDefEqProofs only [vt, vm, ↓atI_fold, forall_const, implies_true, sevalprocAttr, dd_TB, k11, k18, h133, h132, h137, h136, h139, h138, h143, h142, h145, h144, h149, h148] at h151
      simp -implicitDefEqProofs only [vt, vm, ↓atI_fold, forall_const, implies_true, sevalprocAttr, dd_TB, k11, k18, h133, h132, h137, h136, h139, h138, h143, h142, h145, h144, h149, h148, h151, h150]
      obtain ⟨r152, h153, h⟩ := bind_some h
      refine cD'.intro (a_ref07_Decimal I hI r_0.Width h153) (by first | rfl | (simp [List.map_append, dd_TB]; done)) (by kernel_rfl) ?_
      simp -implicitDefEqProofs only [vt, vm, ↓atI_fold, forall_const, implies_true, sevalprocAttr, dd_TB, k11, k18, h133, h132, h137, h136, h139, h138, h143, h142, h145, h144, h149, h148, h151, h150]
      obtain ⟨h154, h⟩ := ite_on h
      have h155 : (((((((r_0.Name ++ [32]) ++ r134) ++ [32]) ++ r140) ++ [32]) ++ r146) ++ [32]).length + r152.length ≤ 9223372036854775807 := by (try simp only [List.length_append, List.length_cons, List.length_nil]); omega
      try simp -implicitDefEqProofs only [vt, vm, ↓atI_fold, forall_const, implies_true, sevalprocAttr, dd_TB, k11, k18, h133, h132, h137, h136, h139, h138, h143, h142, h145, h144, h149, h148, h151, h150] at h155
      simp -implicitDefEqProofs only [vt, vm, ↓atI_fold, forall_const, implies_true, sevalprocAttr, dd_TB, k11, k18, h133, h132, h137, h136, h139, h138, h143, h142, h145, h144, h149, h148, h151, h150, h155, h154]
      obtain ⟨h156, h⟩ := ite_on h
      have h157 : ((((((((r_0.Name ++ [32]) ++ r134) ++ [32]) ++ r140) ++ [32]) ++ r146) ++ [32]) ++ r152).length + ([32] : List UInt8).length ≤ 9223372036854775807 := by (try simp only [List.length_append, List.length_cons, List.length_nil]); omega
      try simp -implicitDefEqProofs only [vt, vm, ↓atI_fold, forall_const, implies_true, sevalprocAttr, dd_TB, k11, k18, h133, h132, h137, h136, h139, h138, h143, h142, h145, h144, h149, h148, h151, h150, h155, h154] at h157
      simp -implicitDefEqProofs only [vt, vm, ↓atI_fold, forall_const, implies_true, sevalprocAttr, dd_TB, k11, k18, h133, h132, h137, h136, h139, h138, h143, h142, h145, h144, h149, h148, h151, h150, h155, h154, h157, h156]
      obtain ⟨r158, h159, h⟩ := bind_some h
      refine cD'.intro (a_ref10_Aligns I hI h159) (by first | rfl | (simp [List.map_append, dd_TB]; done)) (by kernel_rfl) ?_
      simp -implicitDefEqProofs only [vt, vm, ↓atI_fold, forall_const, implies_true, sevalprocAttr, dd_TB, k11, k18, h133, h132, h137, h136, h139, h138, h143, h142, h145, h144, h149, h148, h151, h150, h155, h154, h157, h156]
      obtain ⟨y160, h161, h⟩ := bind_some h
      simp -implicitDefEqProofs only [vt, vm, ↓atI_fold, forall_const, implies_true, sevalprocAttr, dd_TB, k11, k18, h133, h132, h137, h136, h139, h138, h143, h142, h145, h144, h149, h148, h151, h150, h155, h154, h157, h156, h161]
      obtain ⟨h162, h⟩ := ite_on h
      have h163 : (((((((((r_0.Name ++ [32]) ++ r134) ++ [32]) ++ r140) ++ [32]) ++ r146) ++ [32]) ++ r152) ++ [32]).length + y160.length ≤ 9223372036854775807 := by (try simp only [List.length_append, List.length_cons, List.length_nil]); omega
      try simp -implicitDefEqProofs only [vt, vm, ↓atI_fold, forall_const, implies_true, sevalprocAttr, dd_TB, k11, k18, h133, h132, h137, h136, h139, h138, h143, h142, h145, h144, h149, h148, h151, h150, h155, h154, h157, h156, h161] at h163
      simp -implicitDefEqProofs only [vt, vm, ↓atI_fold, forall_const, implies_true, sevalprocAttr, dd_TB, k11, k18, h133, h132, h137, h136, h139, h138, h143, h142, h145, h144, h149, h148, h151, h150, h155, h154, h157, h156, h161, h163, h162]
      obtain ⟨h164, h⟩ := ite_on h
      have h165 : ((((((((((r_0.Name ++ [32]) ++ r134) ++ [32]) ++ r140) ++ [32]) ++ r146) ++ [32]) ++ r152) ++ [32]) ++ y160).length + ([32] : List UInt8).length ≤ 9223372036854775807 := by (try simp only [List.length_append, List.length_cons, List.length_nil]); omega
      try simp -implicitDefEqProofs only [vt, vm, ↓atI_fold, forall_const, implies_true, sevalprocAttr, dd_TB, k11, k18, h133, h132, h137, h136, h139, h138, h143, h142, h145, h144, h149, h148, h151, h150, h155, h154, h157, h156, h161, h163, h162] at h165
      simp -implicitDefEqProofs only [vt, vm, ↓atI_fold, forall_const, implies_true, sevalprocAttr, dd_TB, k11, k18, h133, h132, h137, h136, h139, h138, h143, h142, h145, h144, h149, h148, h151, h150, h155, h154, h157, h156, h161, h163, h162, h165, h164]
      obtain ⟨h166, h⟩ := ite_on h
      have h167 : (((((((((((r_0.Name ++ [32]) ++ r134) ++ [32]) ++ r140) ++ [32]) ++ r146) ++ [32]) ++ r152) ++ [32]) ++ y160) ++ [32]).length + ([84, 79, 80] : List UInt8).length ≤ 9223372036854775807 := by (try simp only [List.length_append, List.length_cons, List.length_nil]); omega
      try simp -implicitDefEqProofs only [vt, vm, ↓atI_fold, forall_const, implies_true, sevalprocAttr, dd_TB, k11, k18, h133, h132, h137, h136, h139, h138, h143, h142, h145, h144, h149, h148, h151, h150, h155, h154, h157, h156, h161, h163, h162, h165, h164] at h167
      simp -implicitDefEqProofs only [vt, vm, ↓atI_fold, forall_const, implies_true, sevalprocAttr, dd_TB, k11, k18, h133, h132, h137, h136, h139, h138, h143, h142, h145, h144, h149, h148, h151, h150, h155, h154, h157, h156, h161, h163, h162, h165, h164, h167, h166]
      subst hK131
      refine eb_seq ?_
      refine rb_ret ?_
      obtain rfl := Option.some.inj h
      refine eb_nil ?_
      simp -implicitDefEqProofs only [vt, vm, ↓atI_fold, forall_const, implies_true, sevalprocAttr, retQ_r, Tryd.results27, dd_TB, k11, k18, h133, h132, h137, h136, h139, h138, h143, h142, h145, h144, h149, h148, h151, h150, h155, h154, h157, h156, h161, h163, h162, h165, h164, h167, h166] <;> first | rfl | (simp [List.map_append, dd_TB]; done)
-- captionerref07.quoted
def g_ref07_quoted_s1 (s_0 : List UInt8) (x226 : Int × (List UInt8)) : Option (Nx (Int × (List UInt8)) (((List UInt8) × Int × Int) ⊕ Unit)) :=
  (if (decide (x226.1 < (s_0.length : Int))) then ((atI s_0 x226.1).bind fun b343 => (if ((b343.toNat : Int) == 34) then (((if (decide ((IntKind.i64.wrap (x226.1 + 1)) < (s_0.length : Int))) then ((atI s_0 (IntKind.i64.wrap (x226.1 + 1))).bind fun b355 => (some ((b355.toNat : Int) != 32))) else (some false)) : Option (Bool)).bind fun v352 => (if v352 then (some (.out (.inl ([], 0, (IntKind.i64.wrap (x226.1 + 1)))))) else (some (.out (.inl (x226.2, (IntKind.i64.wrap (x226.1 + 1)), -1)))))) else (((if (decide ((b343.toNat : Int) < 32)) then (some true) else (some ((b343.toNat : Int) == 127))) : Option (Bool)).bind fun v365 => (if v365 then (some (.out (.inl ([], 0, x226.1)))) else (if ((b343.toNat : Int) != 92) then ((subI s_0 x226.1 (IntKind.i64.wrap (x226.1 + 1))).bind fun z386 => (if x226.2.length + z386.length ≤ 9223372036854775807 then (some (.go ((IntKind.i64.wrap (x226.1 + 1)), (x226.2 ++ z386)))) else none)) else (if (decide ((s_0.length : Int) ≤ (IntKind.i64.wrap (x226.1 + 1)))) then (some (.out (.inl ([], 0, x226.1)))) else ((atI s_0 (IntKind.i64.wrap (x226.1 + 1))).bind fun b406 => (if ((b406.toNat : Int) == 34) then ((subI s_0 (IntKind.i64.wrap (x226.1 + 1)) (IntKind.i64.wrap (x226.1 + 2))).bind fun z412 => (if x226.2.length + z412.length ≤ 9223372036854775807 then (some (.go ((IntKind.i64.wrap (x226.1 + 2)), (x226.2 ++ z412)))) else none)) else (if ((b406.toNat : Int) == 92) then ((subI s_0 (IntKind.i64.wrap (x226.1 + 1)) (IntKind.i64.wrap (x226.1 + 2))).bind fun z425 => (if x226.2.length + z425.length ≤ 9223372036854775807 then (some (.go ((IntKind.i64.wrap (x226.1 + 2)), (x226.2 ++ z425)))) else none)) else (if ((b406.toNat : Int) == 110) then (if x226.2.length + 1 ≤ 9223372036854775807 then (some (.go ((IntKind.i64.wrap (x226.1 + 2)), (x226.2 ++ [10])))) else none) else (some (.out (.inl ([], 0, x226.1)))))))))))))) else (some (.out (.inr ()))))
def g_ref07_quoted (s_0 : List UInt8) (i_1 : Int) : Option ((List UInt8) × Int × Int) :=
  ((iter (g_ref07_quoted_s1 s_0) ((IntKind.i64.wrap (i_1 + 1)), [])).bind fun e227 => (match e227 with | Sum.inl e227 => (some (e227.1, e227.2.1, e227.2.2)) | Sum.inr (e227) => (some ([], 0, (s_0.length : Int)))))
theorem a_ref07_quoted (I : World → Prop) (hI : Stab I) (s_0 : List UInt8) (i_1 : Int) {r : (List UInt8) × Int × Int} (h : g_ref07_quoted s_0 i_1 = some r) : AFun Tryd.prog I 131 [.str s_0, .int .i64 i_1] (.tup [.str r.1, .int .i64 r.2.1, .int .i64 r.2.2]) := by
  refine AFun.enterB hI Tryd.func131 rfl (by decide) (by simp [Tryd.f131]) (by kernel_rfl) ?_
  unfold g_ref07_quoted at h
  simp only [S0, Tryd.ntmps131, dd_TB]
  refine rb_seq ?_
  refine rb_regionK fun K2 hK2 => ?_
  simp -implicitDefEqProofs only [vt, vm, ↓atI_fold, forall_const, implies_true, sevalprocAttr, dd_TB]
  subst hK2
  refine eb_seq ?_
  refine rb_seq ?_
  refine rb_regionK fun K4 hK4 => ?_
  simp -implicitDefEqProofs only [vt, vm, ↓atI_fold, forall_const, implies_true, sevalprocAttr, dd_TB]
  subst hK4
  refine eb_seq ?_
  refine rb_seq ?_
  refine rb_regionK fun K6 hK6 => ?_
  simp -implicitDefEqProofs only [vt, vm, ↓atI_fold, forall_const, implies_true, sevalprocAttr, dd_TB]
  subst hK6
  refine eb_seq ?_
  refine rb_seq ?_
  refine rb_block ?_
  obtain ⟨e227, h444, h⟩ := bind_some h
  refine rb_loop (fun x226 => ⟨envL [(0, .str s_0), (1, .int .i64 x226.1), (7, .str x226.2)], heapL [], 0, 85⟩) (fun w => match w with | Sum.inl _ => .ret | Sum.inr (_) => .exit 0) (fun w => match w with | Sum.inl e227 => ⟨envL [(4, .str e227.1), (5, .int .i64 e227.2.1), (6, .int .i64 e227.2.2)], heapL [], 0, 85⟩ | Sum.inr (e227) => ⟨envL [(0, .str s_0)], heapL [], 0, 85⟩) h444 (Wk.of (fun i => some i) _ _ _ (by simp -implicitDefEqProofs [kv, km, dd_TB]) (by simp -implicitDefEqProofs [kv, km, dd_TB])) (by intro w; rcases w with w | w <;> simp) ?_ ?_
  · clear h
    intro x226 y h
    unfold g_ref07_quoted_s1 at h
    refine rb_seq ?_
    refine rb_seq ?_
    refine rb_regionK fun K337 hK337 => ?_
    simp -implicitDefEqProofs only [vt, vm, ↓atI_fold, forall_const, implies_true, sevalprocAttr, dd_TB]
    subst hK337
    refine eb_seq ?_
    rcases ite_or h with ⟨k338, h⟩ | ⟨k338, h⟩
    · refine rb_true (by first | exact congrArg D.bool k338 | rfl) ?_
      refine rb_skip ?_
      refine eb_seq ?_
      refine rb_block ?_
      refine rb_seq ?_
      refine rb_regionK fun K342 hK342 => ?_
      simp -implicitDefEqProofs only [vt, vm, ↓atI_fold, forall_const, implies_true, sevalprocAttr, dd_TB, k338]
      obtain ⟨b343, h344, h⟩ := bind_some h
      simp -implicitDefEqProofs only [vt, vm, ↓atI_fold, forall_const, implies_true, sevalprocAttr, dd_TB, k338, h344]
      subst hK342
      refine eb_seq ?_
      refine rb_seq ?_
      refine rb_seq ?_
      refine rb_regionK fun K346 hK346 => ?_
      simp -implicitDefEqProofs only [vt, vm, ↓atI_fold, forall_const, implies_true, sevalprocAttr, dd_TB, k338, h344]
      subst hK346
      refine eb_seq ?_
      rcases ite_or h with ⟨k347, h⟩ | ⟨k347, h⟩
      · refine rb_true (by first | exact congrArg D.bool k347 | rfl) ?_
        refine rb_seq ?_
        obtain ⟨v352, h357, h⟩ := bind_some h
        refine rb_cut (fun v352 => ⟨envL [(1, .int .i64 x226.1), (7, .str x226.2), (31, .bool v352)], heapL [], 0, 85⟩) h357 ?_ ?_
        · clear h
          intro v352 h
          refine rb_regionK fun K353 hK353 => ?_
          simp -implicitDefEqProofs only [vt, vm, ↓atI_fold, forall_const, implies_true, sevalprocAttr, dd_TB, k338, h344, k347]
          rcases ite_or h with ⟨k354, h⟩ | ⟨k354, h⟩
          · simp -implicitDefEqProofs only [vt, vm, ↓atI_fold, forall_const, implies_true, sevalprocAttr, dd_TB, k338, h344, k347, k354]
            obtain ⟨b355, h356, h⟩ := bind_some h
            simp -implicitDefEqProofs only [vt, vm, ↓atI_fold, forall_const, implies_true, sevalprocAttr, dd_TB, k338, h344, k347, k354, h356]
            subst hK353
            obtain rfl := Option.some.inj h
            exact eb_nil ⟨rfl, Wk.of (fun i => some i) _ _ _ (by simp -implicitDefEqProofs [kv, km, dd_TB, k338, k347, k354]) (by simp -implicitDefEqProofs [kv, km, dd_TB, k338, k347, k354])⟩
          · simp -implicitDefEqProofs only [vt, vm, ↓atI_fold, forall_const, implies_true, sevalprocAttr, dd_TB, k338, h344, k347, k354]
            subst hK353
            obtain rfl := Option.some.inj h
            exact eb_nil ⟨rfl, Wk.of (fun i => some i) _ _ _ (by simp -implicitDefEqProofs [kv, km, dd_TB, k338, k347, k354]) (by simp -implicitDefEqProofs [kv, km, dd_TB, k338, k347, k354])⟩
        · rcases ite_or h with ⟨k358, h⟩ | ⟨k358, h⟩
          · refine rb_true (by first | exact congrArg D.bool k358 | rfl) ?_
            refine rb_seq ?_
            refine rb_regionK fun K360 hK360 => ?_
            simp -implicitDefEqProofs only [vt, vm, ↓atI_fold, forall_const, implies_true, sevalprocAttr, dd_TB, k338, h344, k347, k358]
            subst hK360
            refine eb_seq ?_
            refine rb_ret ?_
            refine eb_seq_r ?_
            refine eb_seq_r ?_
            refine eb_blk_r ?_
            obtain rfl := Option.some.inj h
            exact eb_nil ⟨rfl, Wk.of (fun i => some i) _ _ _ (by simp -implicitDefEqProofs [kv, km, dd_TB, k338, k347, k358]) (by simp -implicitDefEqProofs [kv, km, dd_TB, k338, k347, k358])⟩
          · refine rb_false (by first | exact congrArg D.bool k358 | rfl) ?_
            refine rb_skip ?_
            refine eb_seq ?_
            refine rb_seq ?_
            refine rb_regionK fun K362 hK362 => ?_
            simp -implicitDefEqProofs only [vt, vm, ↓atI_fold, forall_const, implies_true, sevalprocAttr, dd_TB, k338, h344, k347, k358]
            subst hK362
            refine eb_seq ?_
            refine rb_ret ?_
            refine eb_seq_r ?_
            refine eb_blk_r ?_
            obtain rfl := Option.some.inj h
            exact eb_nil ⟨rfl, Wk.of (fun i => some i) _ _ _ (by simp -implicitDefEqProofs [kv, km, dd_TB, k338, k347, k358]) (by simp -implicitDefEqProofs [kv, km, dd_TB, k338, k347, k358])⟩
      · refine rb_false (by first | exact congrArg D.bool k347 | rfl) ?_
        refine rb_skip ?_
        refine eb_seq ?_
        refine rb_seq ?_
        obtain ⟨v365, h368, h⟩ := bind_some h
        refine rb_cut (fun v365 => ⟨envL [(0, .str s_0), (1, .int .i64 x226.1), (7, .str x226.2), (8, .int .u8 (b343.toNat : Int)), (42, .bool v365)], heapL [], 0, 85⟩) h368 ?_ ?_
        · clear h
          intro v365 h
          refine rb_regionK fun K366 hK366 => ?_
          simp -implicitDefEqProofs only [vt, vm, ↓atI_fold, forall_const, implies_true, sevalprocAttr, dd_TB, k338, h344, k347]
          rcases ite_or h with ⟨k367, h⟩ | ⟨k367, h⟩
          · simp -implicitDefEqProofs only [vt, vm, ↓atI_fold, forall_const, implies_true, sevalprocAttr, dd_TB, k338, h344, k347, k367]
            subst hK366
            obtain rfl := Option.some.inj h
            exact eb_nil ⟨rfl, Wk.of (fun i => some i) _ _ _ (by simp -implicitDefEqProofs [kv, km, dd_TB, k338, k347, k367]) (by simp -implicitDefEqProofs [kv, km, dd_TB, k338, k347, k367])⟩
          · simp -implicitDefEqProofs only [vt, vm, ↓atI_fold, forall_const, implies_true, sevalprocAttr, dd_TB, k338, h344, k347, k367]
            subst hK366
            obtain rfl := Option.some.inj h
            exact eb_nil ⟨rfl, Wk.of (fun i => some i) _ _ _ (by simp -implicitDefEqProofs [kv, km, dd_TB, k338, k347, k367]) (by simp -implicitDefEqProofs [kv, km, dd_TB, k338, k347, k367])⟩
        · rcases ite_or h with ⟨k369, h⟩ | ⟨k369, h⟩
          · refine rb_true (by first | exact congrArg D.bool k369 | rfl) ?_
            refine rb_seq ?_
            refine rb_regionK fun K371 hK371 => ?_
            simp -implicitDefEqProofs only [vt, vm, ↓atI_fold, forall_const, implies_true, sevalprocAttr, dd_TB, k338, h344, k347, k369]
            subst hK371
            refine eb_seq ?_
            refine rb_ret ?_
            refine eb_seq_r ?_
            refine eb_blk_r ?_
            obtain rfl := Option.some.inj h
            exact eb_nil ⟨rfl, Wk.of (fun i => some i) _ _ _ (by simp -implicitDefEqProofs [kv, km, dd_TB, k338, k347, k369]) (by simp -implicitDefEqProofs [kv, km, dd_TB, k338, k347, k369])⟩
          · refine rb_false (by first | exact congrArg D.bool k369 | rfl) ?_
            refine rb_skip ?_
            refine eb_seq ?_
            refine rb_seq ?_
            refine rb_seq ?_
            refine rb_regionK fun K373 hK373 => ?_
            simp -implicitDefEqProofs only [vt, vm, ↓atI_fold, forall_const, implies_true, sevalprocAttr, dd_TB, k338, h344, k347, k369]
            subst hK373
            refine eb_seq ?_
            rcases ite_or h with ⟨k374, h⟩ | ⟨k374, h⟩
            · refine rb_true (by first | exact congrArg D.bool k374 | rfl) ?_
              refine rb_seq ?_
              refine rb_regionK fun K385 hK385 => ?_
              simp -implicitDefEqProofs only [vt, vm, ↓atI_fold, forall_const, implies_true, sevalprocAttr, dd_TB, k338, h344, k347, k369, k374]
              obtain ⟨z386, h387, h⟩ := bind_some h
              obtain ⟨⟨h388, h389, h390, h391⟩, h392⟩ := subI_some h387
              try simp -implicitDefEqProofs only [vt, vm, ↓atI_fold, forall_const, implies_true, sevalprocAttr, dd_TB, k338, h344, k347, k369, k374, h388, h389, h390, h391] at h392
              simp -implicitDefEqProofs only [vt, vm, ↓atI_fold, forall_const, implies_true, sevalprocAttr, dd_TB, k338, h344, k347, k369, k374, h388, h389, h390, h391, h392]
              obtain ⟨h393, h⟩ := ite_on h
              have h394 : x226.2.length + z386.length ≤ 9223372036854775807 := by (try simp only [List.length_append, List.length_cons, List.length_nil]); omega
              try simp -implicitDefEqProofs only [vt, vm, ↓atI_fold, forall_const, implies_true, sevalprocAttr, dd_TB, k338, h344, k347, k369, k374, h388, h389, h390, h391, h392] at h394
              simp -implicitDefEqProofs only [vt, vm, ↓atI_fold, forall_const, implies_true, sevalprocAttr, dd_TB, k338, h344, k347, k369, k374, h388, h389, h390, h391, h392, h394, h393]
              subst hK385
              refine eb_seq ?_
              refine rb_seq ?_
              refine rb_regionK fun K396 hK396 => ?_
              simp -implicitDefEqProofs only [vt, vm, ↓atI_fold, forall_const, implies_true, sevalprocAttr, dd_TB, k338, h344, k347, k369, k374, h388, h389, h390, h391, h392, h394, h393]
              subst hK396
              refine eb_seq ?_
              refine rb_exit ?_
              refine eb_seq_e ?_
              refine eb_blk_hit ?_
              obtain rfl := Option.some.inj h
              exact eb_nil ⟨rfl, Wk.of (fun i => some i) _ _ _ (by simp -implicitDefEqProofs [kv, km, dd_TB, k338, k347, k369, k374]) (by simp -implicitDefEqProofs [kv, km, dd_TB, k338, k347, k369, k374])⟩
            · refine rb_false (by first | exact congrArg D.bool k374 | rfl) ?_
              refine rb_skip ?_
              refine eb_seq ?_
              refine rb_seq ?_
              refine rb_seq ?_
              refine rb_regionK fun K398 hK398 => ?_
              simp -implicitDefEqProofs only [vt, vm, ↓atI_fold, forall_const, implies_true, sevalprocAttr, dd_TB, k338, h344, k347, k369, k374]
              subst hK398
              refine eb_seq ?_
              rcases ite_or h with ⟨k399, h⟩ | ⟨k399, h⟩
              · refine rb_true (by first | exact congrArg D.bool k399 | rfl) ?_
                refine rb_seq ?_
                refine rb_regionK fun K401 hK401 => ?_
                simp -implicitDefEqProofs only [vt, vm, ↓atI_fold, forall_const, implies_true, sevalprocAttr, dd_TB, k338, h344, k347, k369, k374, k399]
                subst hK401
                refine eb_seq ?_
                refine rb_ret ?_
                refine eb_seq_r ?_
                refine eb_blk_r ?_
                obtain rfl := Option.some.inj h
                exact eb_nil ⟨rfl, Wk.of (fun i => some i) _ _ _ (by simp -implicitDefEqProofs [kv, km, dd_TB, k338, k347, k369, k374, k399]) (by simp -implicitDefEqProofs [kv, km, dd_TB, k338, k347, k369, k374, k399])⟩
              · refine rb_false (by first | exact congrArg D.bool k399 | rfl) ?_
                refine rb_skip ?_
                refine eb_seq ?_
                refine rb_seq ?_
                refine rb_seq ?_
                refine rb_regionK fun K405 hK405 => ?_
                simp -implicitDefEqProofs only [vt, vm, ↓atI_fold, forall_const, implies_true, sevalprocAttr, dd_TB, k338, h344, k347, k369, k374, k399]
                obtain ⟨b406, h407, h⟩ := bind_some h
                simp -implicitDefEqProofs only [vt, vm, ↓atI_fold, forall_const, implies_true, sevalprocAttr, dd_TB, k338, h344, k347, k369, k374, k399, h407]
                subst hK405
                refine eb_seq ?_
                refine rb_block ?_
                refine rb_seq ?_
                refine rb_seq ?_
                refine rb_regionK fun K409 hK409 => ?_
                simp -implicitDefEqProofs only [vt, vm, ↓atI_fold, forall_const, implies_true, sevalprocAttr, dd_TB, k338, h344, k347, k369, k374, k399, h407]
                subst hK409
                refine eb_seq ?_
                rcases ite_or h with ⟨k410, h⟩ | ⟨k410, h⟩
                · refine rb_true (by first | exact congrArg D.bool k410 | rfl) ?_
                  refine rb_skip ?_
                  refine eb_seq ?_
                  refine rb_true (by first | exact congrArg D.bool k410 | rfl) ?_
                  refine rb_regionK fun K411 hK411 => ?_
                  simp -implicitDefEqProofs only [vt, vm, ↓atI_fold, forall_const, implies_true, sevalprocAttr, dd_TB, k338, h344, k347, k369, k374, k399, h407, k410]
                  obtain ⟨z412, h413, h⟩ := bind_some h
                  obtain ⟨⟨h414, h415, h416, h417⟩, h418⟩ := subI_some h413
                  try simp -implicitDefEqProofs only [vt, vm, ↓atI_fold, forall_const, implies_true, sevalprocAttr, dd_TB, k338, h344, k347, k369, k374, k399, h407, k410, h414, h415, h416, h417] at h418
                  simp -implicitDefEqProofs only [vt, vm, ↓atI_fold, forall_const, implies_true, sevalprocAttr, dd_TB, k338, h344, k347, k369, k374, k399, h407, k410, h414, h415, h416, h417, h418]
                  obtain ⟨h419, h⟩ := ite_on h
                  have h420 : x226.2.length + z412.length ≤ 9223372036854775807 := by (try simp only [List.length_append, List.length_cons, List.length_nil]); omega
                  try simp -implicitDefEqProofs only [vt, vm, ↓atI_fold, forall_const, implies_true, sevalprocAttr, dd_TB, k338, h344, k347, k369, k374, k399, h407, k410, h414, h415, h416, h417, h418] at h420
                  simp -implicitDefEqProofs only [vt, vm, ↓atI_fold, forall_const, implies_true, sevalprocAttr, dd_TB, k338, h344, k347, k369, k374, k399, h407, k410, h414, h415, h416, h417, h418, h420, h419]
                  subst hK411
                  refine eb_blk_n ?_
                  refine eb_seq ?_
                  refine rb_regionK fun K421 hK421 => ?_
                  simp -implicitDefEqProofs only [vt, vm, ↓atI_fold, forall_const, implies_true, sevalprocAttr, dd_TB, k338, h344, k347, k369, k374, k399, h407, k410, h414, h415, h416, h417, h418, h420, h419]
                  subst hK421
                  refine eb_blk_n ?_
                  obtain rfl := Option.some.inj h
                  exact eb_nil ⟨rfl, Wk.of (fun i => some i) _ _ _ (by simp -implicitDefEqProofs [kv, km, dd_TB, k338, k347, k369, k374, k399, k410]) (by simp -implicitDefEqProofs [kv, km, dd_TB, k338, k347, k369, k374, k399, k410])⟩
                · refine rb_false (by first | exact congrArg D.bool k410 | rfl) ?_
                  refine rb_regionK fun K422 hK422 => ?_
                  simp -implicitDefEqProofs only [vt, vm, ↓atI_fold, forall_const, implies_true, sevalprocAttr, dd_TB, k338, h344, k347, k369, k374, k399, h407, k410]
                  subst hK422
                  refine eb_seq ?_
                  rcases ite_or h with ⟨k423, h⟩ | ⟨k423, h⟩
                  · refine rb_true (by first | exact congrArg D.bool k423 | rfl) ?_
                    refine rb_regionK fun K424 hK424 => ?_
                    simp -implicitDefEqProofs only [vt, vm, ↓atI_fold, forall_const, implies_true, sevalprocAttr, dd_TB, k338, h344, k347, k369, k374, k399, h407, k410, k423]
                    obtain ⟨z425, h426, h⟩ := bind_some h
                    obtain ⟨⟨h427, h428, h429, h430⟩, h431⟩ := subI_some h426
                    try simp -implicitDefEqProofs only [vt, vm, ↓atI_fold, forall_const, implies_true, sevalprocAttr, dd_TB, k338, h344, k347, k369, k374, k399, h407, k410, k423, h427, h428, h429, h430] at h431
                    simp -implicitDefEqProofs only [vt, vm, ↓atI_fold, forall_const, implies_true, sevalprocAttr, dd_TB, k338, h344, k347, k369, k374, k399, h407, k410, k423, h427, h428, h429, h430, h431]
                    obtain ⟨h432, h⟩ := ite_on h
                    have h433 : x226.2.length + z425.length ≤ 9223372036854775807 := by (try simp only [List.length_append, List.length_cons, List.length_nil]); omega
                    try simp -implicitDefEqProofs only [vt, vm, ↓atI_fold, forall_const, implies_true, sevalprocAttr, dd_TB, k338, h344, k347, k369, k374, k399, h407, k410, k423, h427, h428, h429, h430, h431] at h433
                    simp -implicitDefEqProofs only [vt, vm, ↓atI_fold, forall_const, implies_true, sevalprocAttr, dd_TB, k338, h344, k347, k369, k374, k399, h407, k410, k423, h427, h428, h429, h430, h431, h433, h432]
                    subst hK424
                    refine eb_blk_n ?_
                    refine eb_seq ?_
                    refine rb_regionK fun K434 hK434 => ?_
                    simp -implicitDefEqProofs only [vt, vm, ↓atI_fold, forall_const, implies_true, sevalprocAttr, dd_TB, k338, h344, k347, k369, k374, k399, h407, k410, k423, h427, h428, h429, h430, h431, h433, h432]
                    subst hK434
                    refine eb_blk_n ?_
                    obtain rfl := Option.some.inj h
                    exact eb_nil ⟨rfl, Wk.of (fun i => some i) _ _ _ (by simp -implicitDefEqProofs [kv, km, dd_TB, k338, k347, k369, k374, k399, k410, k423]) (by simp -implicitDefEqProofs [kv, km, dd_TB, k338, k347, k369, k374, k399, k410, k423])⟩
                  · refine rb_false (by first | exact congrArg D.bool k423 | rfl) ?_
                    refine rb_seq ?_
                    refine rb_regionK fun K436 hK436 => ?_
                    simp -implicitDefEqProofs only [vt, vm, ↓atI_fold, forall_const, implies_true, sevalprocAttr, dd_TB, k338, h344, k347, k369, k374, k399, h407, k410, k423]
                    subst hK436
                    refine eb_seq ?_
                    rcases ite_or h with ⟨k437, h⟩ | ⟨k437, h⟩
                    · refine rb_true (by first | exact congrArg D.bool k437 | rfl) ?_
                      refine rb_regionK fun K438 hK438 => ?_
                      simp -implicitDefEqProofs only [vt, vm, ↓atI_fold, forall_const, implies_true, sevalprocAttr, dd_TB, k338, h344, k347, k369, k374, k399, h407, k410, k423, k437]
                      obtain ⟨h439, h⟩ := ite_on h
                      have h440 : x226.2.length + ([10] : List UInt8).length ≤ 9223372036854775807 := by (try simp only [List.length_append, List.length_cons, List.length_nil]); omega
                      try simp -implicitDefEqProofs only [vt, vm, ↓atI_fold, forall_const, implies_true, sevalprocAttr, dd_TB, k338, h344, k347, k369, k374, k399, h407, k410, k423, k437] at h440
                      simp -implicitDefEqProofs only [vt, vm, ↓atI_fold, forall_const, implies_true, sevalprocAttr, dd_TB, k338, h344, k347, k369, k374, k399, h407, k410, k423, k437, h440, h439]
                      subst hK438
                      refine eb_blk_n ?_
                      refine eb_seq ?_
                      refine rb_regionK fun K441 hK441 => ?_
                      simp -implicitDefEqProofs only [vt, vm, ↓atI_fold, forall_const, implies_true, sevalprocAttr, dd_TB, k338, h344, k347, k369, k374, k399, h407, k410, k423, k437, h440, h439]
                      subst hK441
                      refine eb_blk_n ?_
                      obtain rfl := Option.some.inj h
                      exact eb_nil ⟨rfl, Wk.of (fun i => some i) _ _ _ (by simp -implicitDefEqProofs [kv, km, dd_TB, k338, k347, k369, k374, k399, k410, k423, k437]) (by simp -implicitDefEqProofs [kv, km, dd_TB, k338, k347, k369, k374, k399, k410, k423, k437])⟩
                    · refine rb_false (by first | exact congrArg D.bool k437 | rfl) ?_
                      refine rb_seq ?_
                      refine rb_regionK fun K443 hK443 => ?_
                      simp -implicitDefEqProofs only [vt, vm, ↓atI_fold, forall_const, implies_true, sevalprocAttr, dd_TB, k338, h344, k347, k369, k374, k399, h407, k410, k423, k437]
                      subst hK443
                      refine eb_seq ?_
                      refine rb_ret ?_
                      refine eb_blk_r ?_
                      refine eb_seq_r ?_
                      refine eb_blk_r ?_
                      obtain rfl := Option.some.inj h
                      exact eb_nil ⟨rfl, Wk.of (fun i => some i) _ _ _ (by simp -implicitDefEqProofs [kv, km, dd_TB, k338, k347, k369, k374, k399, k410, k423, k437]) (by simp -implicitDefEqProofs [kv, km, dd_TB, k338, k347, k369, k374, k399, k410, k423, k437])⟩
    · refine rb_false (by first | exact congrArg D.bool k338 | rfl) ?_
      refine rb_exit ?_
      refine eb_seq_e ?_
      obtain rfl := Option.some.inj h
      exact eb_nil ⟨rfl, Wk.of (fun i => some i) _ _ _ (by simp -implicitDefEqProofs [kv, km, dd_TB, k338]) (by simp -implicitDefEqProofs [kv, km, dd_TB, k338])⟩
  · rcases e227 with e227 | e227
    · try dsimp only at h ⊢
      refine eb_blk_r ?_
      refine eb_seq_r ?_
      obtain rfl := Option.some.inj h
      refine eb_nil ?_
      simp -implicitDefEqProofs only [vt, vm, ↓atI_fold, forall_const, implies_true, sevalprocAttr, retQ_r, Tryd.results131, dd_TB] <;> first | rfl | (simp [List.map_append, dd_TB]; done)
    · try dsimp only at h ⊢
      refine eb_blk_hit ?_
      refine eb_seq ?_
      refine rb_seq ?_
      refine rb_regionK fun K446 hK446 => ?_
      simp -implicitDefEqProofs only [vt, vm, ↓atI_fold, forall_const, implies_true, sevalprocAttr, dd_TB]
      subst hK446
      refine eb_seq ?_
      refine rb_ret ?_
      obtain rfl := Option.some.inj h
      refine eb_nil ?_
      simp -implicitDefEqProofs only [vt, vm, ↓atI_fold, forall_const, implies_true, sevalprocAttr, retQ_r, Tryd.results131, dd_TB] <;> first | rfl | (simp [List.map_append, dd_TB]; done)
-- captionerref07.wordByte
def g_ref07_wordByte (c_0 : Int) : Option (Bool) :=
  (if (decide (33 ≤ c_0)) then (if (decide (c_0 ≤ 126)) then (some (c_0 != 34)) else (some false)) else (some false))
theorem a_ref07_wordByte (I : World → Prop) (hI : Stab I) (c_0 : Int) {r : Bool} (h : g_ref07_wordByte c_0 = some r) : AFun Tryd.prog I 132 [.int .u8 c_0] (.bool r) := by
  refine AFun.enterB hI Tryd.func132 rfl (by decide) (by simp [Tryd.f132]) (by kernel_rfl) ?_
  unfold g_ref07_wordByte at h
  simp only [S0, Tryd.ntmps132, dd_TB]
  refine rb_seq ?_
  refine rb_regionK fun K2 hK2 => ?_
  simp -implicitDefEqProofs only [vt, vm, ↓atI_fold, forall_const, implies_true, sevalprocAttr, dd_TB]
  subst hK2
  refine eb_seq ?_
  refine rb_seq ?_
  refine rb_regionK fun K6 hK6 => ?_
  simp -implicitDefEqProofs only [vt, vm, ↓atI_fold, forall_const, implies_true, sevalprocAttr, dd_TB]
  rcases ite_or h with ⟨k7, h⟩ | ⟨k7, h⟩
  · simp -implicitDefEqProofs only [vt, vm, ↓atI_fold, forall_const, implies_true, sevalprocAttr, dd_TB, k7]
    rcases ite_or h with ⟨k8, h⟩ | ⟨k8, h⟩
    · simp -implicitDefEqProofs only [vt, vm, ↓atI_fold, forall_const, implies_true, sevalprocAttr, dd_TB, k7, k8]
      subst hK6
      refine eb_seq ?_
      refine rb_ret ?_
      obtain rfl := Option.some.inj h
      refine eb_nil ?_
      simp -implicitDefEqProofs only [vt, vm, ↓atI_fold, forall_const, implies_true, sevalprocAttr, retQ_r, Tryd.results132, dd_TB, k7, k8] <;> first | rfl | (simp [List.map_append, dd_TB]; done)
    · simp -implicitDefEqProofs only [vt, vm, ↓atI_fold, forall_const, implies_true, sevalprocAttr, dd_TB, k7, k8]
      subst hK6
      refine eb_seq ?_
      refine rb_ret ?_
      obtain rfl := Option.some.inj h
      refine eb_nil ?_
      simp -implicitDefEqProofs only [vt, vm, ↓atI_fold, forall_const, implies_true, sevalprocAttr, retQ_r, Tryd.results132, dd_TB, k7, k8] <;> first | rfl | (simp [List.map_append, dd_TB]; done)
  · simp -implicitDefEqProofs only [vt, vm, ↓atI_fold, forall_const, implies_true, sevalprocAttr, dd_TB, k7]
    subst hK6
    refine eb_seq ?_
    refine rb_ret ?_
    obtain rfl := Option.some.inj h
    refine eb_nil ?_
    simp -implicitDefEqProofs only [vt, vm, ↓atI_fold, forall_const, implies_true, sevalprocAttr, retQ_r, Tryd.results132, dd_TB, k7] <;> first | rfl | (simp [List.map_append, dd_TB]; done)
-- captionerref07.fields
def g_ref07_fields_s2 (s_0 : List UInt8) (x398 : Int) : Option (Nx (Int) (Int)) :=
  (if (decide (x398 < (s_0.length : Int))) then ((atI s_0 x398).bind fun b426 => (if ((b426.toNat : Int) == 32) then (some (.go (IntKind.i64.wrap (x398 + 1)))) else (some (.out x398)))) else (some (.out x398)))
def g_ref07_fields_s3 (s_0 : List UInt8) (x550 : Int) : Option (Nx (Int) (Int ⊕ Int)) :=
  (((if (decide (x550 < (s_0.length : Int))) then ((atI s_0 x550).bind fun b609 => (some ((b609.toNat : Int) != 32))) else (some false)) : Option (Bool)).bind fun v606 => (if v606 then ((atI s_0 x550).bind fun b619 => ((g_ref07_wordByte (b619.toNat : Int)).bind fun r621 => (if r621 then (some (.go (IntKind.i64.wrap (x550 + 1)))) else (some (.out (.inl x550)))))) else (some (.out (.inr x550)))))
def g_ref07_fields_s1 (s_0 : List UInt8) (x7 : (List T_api_Field) × Int) : Option (Nx ((List T_api_Field) × Int) ((List T_api_Field) × Int)) :=
  ((iter (g_ref07_fields_s2 s_0) x7.2).bind fun e399 => (((if (decide ((s_0.length : Int) ≤ e399)) then (some true) else ((atI s_0 e399).bind fun b438 => (some ((b438.toNat : Int) == 35)))) : Option (Bool)).bind fun v435 => (if v435 then (some (.out (x7.1, -1))) else ((atI s_0 e399).bind fun b450 => (if ((b450.toNat : Int) == 34) then ((g_ref07_quoted s_0 e399).bind fun r457 => (if (decide (0 ≤ r457.2.2)) then (some (.out ([], r457.2.2))) else (if (x7.1.length + 1) * 32 ≤ 140737488355328 then (some (.go ((x7.1 ++ [(T_api_Field.mk r457.1 (IntKind.i64.wrap (e399 + 1)) true)]), r457.2.1))) else none))) else ((iter (g_ref07_fields_s3 s_0) e399).bind fun e551 => (match e551 with | Sum.inl e551 => (some (.out ([], e551))) | Sum.inr (e551) => ((subI s_0 e399 e551).bind fun z629 => (if (x7.1.length + 1) * 32 ≤ 140737488355328 then (some (.go ((x7.1 ++ [(T_api_Field.mk z629 (IntKind.i64.wrap (e399 + 1)) false)]), e551))) else none)))))))))
def g_ref07_fields (s_0 : List UInt8) : Option ((List T_api_Field) × Int) :=
  ((iter (g_ref07_fields_s1 s_0) ([], 0)).bind fun e8 => (some (e8.1, e8.2)))
theorem a_ref07_fields (I : World → Prop) (hI : Stab I) (s_0 : List UInt8) {r : (List T_api_Field) × Int} (h : g_ref07_fields s_0 = some r) : AFun Tryd.prog I 98 [.str s_0] (.tup [.sl (r.1.map T_api_Field.d), .int .i64 r.2]) := by
  refine AFun.enterB hI Tryd.func98 rfl (by decide) (by simp [Tryd.f98]) (by kernel_rfl) ?_
  unfold g_ref07_fields at h
  simp only [S0, Tryd.ntmps98, dd_TB]
  refine rb_seq ?_
  refine rb_regionK fun K2 hK2 => ?_
  simp -implicitDefEqProofs only [vt, vm, ↓atI_fold, forall_const, implies_true, sevalprocAttr, dd_TB]
  subst hK2
  refine eb_seq ?_
  refine rb_seq ?_
  refine rb_regionK fun K4 hK4 => ?_
  simp -implicitDefEqProofs only [vt, vm, ↓atI_fold, forall_const, implies_true, sevalprocAttr, dd_TB]
  subst hK4
  refine eb_seq ?_
  refine rb_seq ?_
  refine rb_regionK fun K6 hK6 => ?_
  simp -implicitDefEqProofs only [vt, vm, ↓atI_fold, forall_const, implies_true, sevalprocAttr, dd_TB]
  subst hK6
  refine eb_seq ?_
  refine rb_block ?_
  obtain ⟨e8, h638, h⟩ := bind_some h
  refine rb_loop (fun x7 => ⟨envL [(0, .str s_0), (4, .own 0 x7.1.length), (5, .int .i64 x7.2)], heapL [(0, .vec 177 3 (x7.1.map T_api_Field.d) false)], 1, 84⟩) (fun _ => .ret) (fun e8 => ⟨envL [(2, .own 0 e8.1.length), (3, .int .i64 e8.2)], heapL [(0, .vec 177 3 (e8.1.map T_api_Field.d) false)], 1, 84⟩) h638 (Wk.of (fun i => if i = 0 then none else some i) _ _ _ (by simp -implicitDefEqProofs [kv, km, dd_TB]) (by simp -implicitDefEqProofs [kv, km, dd_TB])) (by intro w; simp) ?_ ?_
  · clear h
    intro x7 y h
    unfold g_ref07_fields_s1 at h
    refine rb_block ?_
    refine rb_seq ?_
    refine rb_block ?_
    obtain ⟨e399, h430, h⟩ := bind_some h
    refine rb_loop (fun x398 => ⟨envL [(0, .str s_0), (4, .own 0 x7.1.length), (5, .int .i64 x398)], heapL [(0, .vec 177 3 (x7.1.map T_api_Field.d) false)], 1, 84⟩) (fun _ => .exit 2) (fun e399 => ⟨envL [(0, .str s_0), (4, .own 0 x7.1.length), (5, .int .i64 e399)], heapL [(0, .vec 177 3 (x7.1.map T_api_Field.d) false)], 1, 84⟩) h430 (Wk.of (fun i => if i = 0 then some 0 else some i) _ _ _ (by simp -implicitDefEqProofs [kv, km, dd_TB]) (by simp -implicitDefEqProofs [kv, km, dd_TB])) (by intro w; simp) ?_ ?_
    · clear h
      intro x398 y h
      unfold g_ref07_fields_s2 at h
      refine rb_seq ?_
      refine rb_seq ?_
      refine rb_regionK fun K424 hK424 => ?_
      simp -implicitDefEqProofs only [vt, vm, ↓atI_fold, forall_const, implies_true, sevalprocAttr, dd_TB]
      rcases ite_or h with ⟨k425, h⟩ | ⟨k425, h⟩
      · simp -implicitDefEqProofs only [vt, vm, ↓atI_fold, forall_const, implies_true, sevalprocAttr, dd_TB, k425]
        obtain ⟨b426, h427, h⟩ := bind_some h
        simp -implicitDefEqProofs only [vt, vm, ↓atI_fold, forall_const, implies_true, sevalprocAttr, dd_TB, k425, h427]
        subst hK424
        refine eb_seq ?_
        rcases ite_or h with ⟨k428, h⟩ | ⟨k428, h⟩
        · refine rb_true (by first | exact congrArg D.bool k428 | rfl) ?_
          refine rb_skip ?_
          refine eb_seq ?_
          refine rb_block ?_
          refine rb_regionK fun K429 hK429 => ?_
          simp -implicitDefEqProofs only [vt, vm, ↓atI_fold, forall_const, implies_true, sevalprocAttr, dd_TB, k425, h427, k428]
          subst hK429
          refine eb_blk_n ?_
          obtain rfl := Option.some.inj h
          exact eb_nil ⟨rfl, Wk.of (fun i => if i = 0 then some 0 else some i) _ _ _ (by simp -implicitDefEqProofs [kv, km, dd_TB, k425, k428]) (by simp -implicitDefEqProofs [kv, km, dd_TB, k425, k428])⟩
        · refine rb_false (by first | exact congrArg D.bool k428 | rfl) ?_
          refine rb_exit ?_
          refine eb_seq_e ?_
          obtain rfl := Option.some.inj h
          exact eb_nil ⟨rfl, Wk.of (fun i => if i = 0 then some 0 else some i) _ _ _ (by simp -implicitDefEqProofs [kv, km, dd_TB, k425, k428]) (by simp -implicitDefEqProofs [kv, km, dd_TB, k425, k428])⟩
      · simp -implicitDefEqProofs only [vt, vm, ↓atI_fold, forall_const, implies_true, sevalprocAttr, dd_TB, k425]
        subst hK424
        refine eb_seq ?_
        refine rb_false (rfl) ?_
        refine rb_exit ?_
        refine eb_seq_e ?_
        obtain rfl := Option.some.inj h
        exact eb_nil ⟨rfl, Wk.of (fun i => if i = 0 then some 0 else some i) _ _ _ (by simp -implicitDefEqProofs [kv, km, dd_TB, k425]) (by simp -implicitDefEqProofs [kv, km, dd_TB, k425])⟩
    · refine eb_blk_hit ?_
      refine eb_seq ?_
      refine rb_seq ?_
      obtain ⟨v435, h440, h⟩ := bind_some h
      refine rb_cut (fun v435 => ⟨envL [(0, .str s_0), (4, .own 0 x7.1.length), (5, .int .i64 e399), (31, .bool v435)], heapL [(0, .vec 177 3 (x7.1.map T_api_Field.d) false)], 1, 84⟩) h440 ?_ ?_
      · clear h
        intro v435 h
        refine rb_regionK fun K436 hK436 => ?_
        simp -implicitDefEqProofs only [vt, vm, ↓atI_fold, forall_const, implies_true, sevalprocAttr, dd_TB]
        rcases ite_or h with ⟨k437, h⟩ | ⟨k437, h⟩
        · simp -implicitDefEqProofs only [vt, vm, ↓atI_fold, forall_const, implies_true, sevalprocAttr, dd_TB, k437]
          subst hK436
          obtain rfl := Option.some.inj h
          exact eb_nil ⟨rfl, Wk.of (fun i => if i = 0 then some 0 else some i) _ _ _ (by simp -implicitDefEqProofs [kv, km, dd_TB, k437]) (by simp -implicitDefEqProofs [kv, km, dd_TB, k437])⟩
        · simp -implicitDefEqProofs only [vt, vm, ↓atI_fold, forall_const, implies_true, sevalprocAttr, dd_TB, k437]
          obtain ⟨b438, h439, h⟩ := bind_some h
          simp -implicitDefEqProofs only [vt, vm, ↓atI_fold, forall_const, implies_true, sevalprocAttr, dd_TB, k437, h439]
          subst hK436
          obtain rfl := Option.some.inj h
          exact eb_nil ⟨rfl, Wk.of (fun i => if i = 0 then some 0 else some i) _ _ _ (by simp -implicitDefEqProofs [kv, km, dd_TB, k437]) (by simp -implicitDefEqProofs [kv, km, dd_TB, k437])⟩
      · rcases ite_or h with ⟨k441, h⟩ | ⟨k441, h⟩
        · refine rb_true (by first | exact congrArg D.bool k441 | rfl) ?_
          refine rb_seq ?_
          refine rb_regionK fun K443 hK443 => ?_
          simp -implicitDefEqProofs only [vt, vm, ↓atI_fold, forall_const, implies_true, sevalprocAttr, dd_TB, k441]
          subst hK443
          refine eb_seq ?_
          refine rb_ret ?_
          refine eb_seq_r ?_
          refine eb_blk_r ?_
          obtain rfl := Option.some.inj h
          exact eb_nil ⟨rfl, Wk.of (fun i => if i = 0 then some 0 else some i) _ _ _ (by simp -implicitDefEqProofs [kv, km, dd_TB, k441]) (by simp -implicitDefEqProofs [kv, km, dd_TB, k441])⟩
        · refine rb_false (by first | exact congrArg D.bool k441 | rfl) ?_
          refine rb_skip ?_
          refine eb_seq ?_
          refine rb_seq ?_
          refine rb_regionK fun K445 hK445 => ?_
          simp -implicitDefEqProofs only [vt, vm, ↓atI_fold, forall_const, implies_true, sevalprocAttr, dd_TB, k441]
          subst hK445
          refine eb_seq ?_
          refine rb_seq ?_
          refine rb_seq ?_
          refine rb_regionK fun K449 hK449 => ?_
          simp -implicitDefEqProofs only [vt, vm, ↓atI_fold, forall_const, implies_true, sevalprocAttr, dd_TB, k441]
          obtain ⟨b450, h451, h⟩ := bind_some h
          simp -implicitDefEqProofs only [vt, vm, ↓atI_fold, forall_const, implies_true, sevalprocAttr, dd_TB, k441, h451]
          subst hK449
          refine eb_seq ?_
          rcases ite_or h with ⟨k452, h⟩ | ⟨k452, h⟩
          · refine rb_true (by first | exact congrArg D.bool k452 | rfl) ?_
            refine rb_seq ?_
            refine rb_regionK fun K456 hK456 => ?_
            simp -implicitDefEqProofs only [vt, vm, ↓atI_fold, forall_const, implies_true, sevalprocAttr, dd_TB, k441, h451, k452]
            obtain ⟨r457, h458, h⟩ := bind_some h
            refine cW.intro (a_ref07_quoted I hI s_0 e399 h458) (by first | rfl | (simp [List.map_append, dd_TB]; done)) ?_
            simp -implicitDefEqProofs only [vt, vm, ↓atI_fold, forall_const, implies_true, sevalprocAttr, dd_TB, k441, h451, k452]
            subst hK456
            refine eb_seq ?_
            refine rb_seq ?_
            refine rb_seq ?_
            refine rb_regionK fun K460 hK460 => ?_
            simp -implicitDefEqProofs only [vt, vm, ↓atI_fold, forall_const, implies_true, sevalprocAttr, dd_TB, k441, h451, k452]
            subst hK460
            refine eb_seq ?_
            rcases ite_or h with ⟨k461, h⟩ | ⟨k461, h⟩
            · refine rb_true (by first | exact congrArg D.bool k461 | rfl) ?_
              refine rb_seq ?_
              refine rb_regionK fun K463 hK463 => ?_
              simp -implicitDefEqProofs only [vt, vm, ↓atI_fold, forall_const, implies_true, sevalprocAttr, dd_TB, k441, h451, k452, k461]
              subst hK463
              refine eb_seq ?_
              refine rb_ret ?_
              refine eb_seq_r ?_
              refine eb_seq_r ?_
              refine eb_blk_r ?_
              obtain rfl := Option.some.inj h
              exact eb_nil ⟨rfl, Wk.of (fun i => if i = 0 then none else some i) _ _ _ (by simp -implicitDefEqProofs [kv, km, dd_TB, k441, k452, k461]) (by simp -implicitDefEqProofs [kv, km, dd_TB, k441, k452, k461])⟩
            · refine rb_false (by first | exact congrArg D.bool k461 | rfl) ?_
              refine rb_skip ?_
              refine eb_seq ?_
              refine rb_seq ?_
              refine rb_regionK fun K467 hK467 => ?_
              simp -implicitDefEqProofs only [vt, vm, ↓atI_fold, forall_const, implies_true, sevalprocAttr, dd_TB, k441, h451, k452, k461]
              obtain ⟨h468, h⟩ := ite_on h
              have h469 : x7.1.length + 1 ≤ 9223372036854775807 := by omega
              try simp only [Nat.reduceLeDiff] at h469
              simp -implicitDefEqProofs only [vt, vm, ↓atI_fold, forall_const, implies_true, sevalprocAttr, dd_TB, k441, h451, k452, k461, h469, h468]
              subst hK467
              refine eb_seq ?_
              refine rb_seq ?_
              refine rb_regionK fun K471 hK471 => ?_
              simp -implicitDefEqProofs only [vt, vm, ↓atI_fold, forall_const, implies_true, sevalprocAttr, dd_TB, k441, h451, k452, k461, h469, h468]
              subst hK471
              refine eb_seq ?_
              refine rb_exit ?_
              refine eb_seq_e ?_
              refine eb_blk_hit ?_
              obtain rfl := Option.some.inj h
              exact eb_nil ⟨rfl, Wk.of (fun i => if i = 0 then some 25 else some i) _ _ _ (by simp -implicitDefEqProofs [kv, km, dd_TB, k441, k452, k461]) (by simp -implicitDefEqProofs [kv, km, dd_TB, k441, k452, k461])⟩
          · refine rb_false (by first | exact congrArg D.bool k452 | rfl) ?_
            refine rb_skip ?_
            refine eb_seq ?_
            refine rb_seq ?_
            refine rb_block ?_
            obtain ⟨e551, h627, h⟩ := bind_some h
            refine rb_loop (fun x550 => ⟨envL [(0, .str s_0), (4, .own 0 x7.1.length), (5, .int .i64 x550), (6, .int .i64 e399)], heapL [(0, .vec 177 3 (x7.1.map T_api_Field.d) false)], 1, 84⟩) (fun w => match w with | Sum.inl _ => .ret | Sum.inr (_) => .exit 4) (fun w => match w with | Sum.inl e551 => ⟨envL [(2, .nils), (3, .int .i64 e551)], heapL [], 0, 84⟩ | Sum.inr (e551) => ⟨envL [(0, .str s_0), (4, .own 0 x7.1.length), (5, .int .i64 e551), (6, .int .i64 e399)], heapL [(0, .vec 177 3 (x7.1.map T_api_Field.d) false)], 1, 84⟩) h627 (Wk.of (fun i => if i = 0 then some 0 else some i) _ _ _ (by simp -implicitDefEqProofs [kv, km, dd_TB, k441, k452]) (by simp -implicitDefEqProofs [kv, km, dd_TB, k441, k452])) (by intro w; rcases w with w | w <;> simp) ?_ ?_
            · clear h
              intro x550 y h
              unfold g_ref07_fields_s3 at h
              refine rb_seq ?_
              obtain ⟨v606, h611, h⟩ := bind_some h
              refine rb_cut (fun v606 => ⟨envL [(0, .str s_0), (4, .own 0 x7.1.length), (5, .int .i64 x550), (6, .int .i64 e399), (65, .bool v606)], heapL [(0, .vec 177 3 (x7.1.map T_api_Field.d) false)], 1, 84⟩) h611 ?_ ?_
              · clear h
                intro v606 h
                refine rb_regionK fun K607 hK607 => ?_
                simp -implicitDefEqProofs only [vt, vm, ↓atI_fold, forall_const, implies_true, sevalprocAttr, dd_TB, k441, h451, k452]
                rcases ite_or h with ⟨k608, h⟩ | ⟨k608, h⟩
                · simp -implicitDefEqProofs only [vt, vm, ↓atI_fold, forall_const, implies_true, sevalprocAttr, dd_TB, k441, h451, k452, k608]
                  obtain ⟨b609, h610, h⟩ := bind_some h
                  simp -implicitDefEqProofs only [vt, vm, ↓atI_fold, forall_const, implies_true, sevalprocAttr, dd_TB, k441, h451, k452, k608, h610]
                  subst hK607
                  obtain rfl := Option.some.inj h
                  exact eb_nil ⟨rfl, Wk.of (fun i => if i = 0 then some 0 else some i) _ _ _ (by simp -implicitDefEqProofs [kv, km, dd_TB, k441, k452, k608]) (by simp -implicitDefEqProofs [kv, km, dd_TB, k441, k452, k608])⟩
                · simp -implicitDefEqProofs only [vt, vm, ↓atI_fold, forall_const, implies_true, sevalprocAttr, dd_TB, k441, h451, k452, k608]
                  subst hK607
                  obtain rfl := Option.some.inj h
                  exact eb_nil ⟨rfl, Wk.of (fun i => if i = 0 then some 0 else some i) _ _ _ (by simp -implicitDefEqProofs [kv, km, dd_TB, k441, k452, k608]) (by simp -implicitDefEqProofs [kv, km, dd_TB, k441, k452, k608])⟩
              · rcases ite_or h with ⟨k612, h⟩ | ⟨k612, h⟩
                · refine rb_true (by first | exact congrArg D.bool k612 | rfl) ?_
                  refine rb_skip ?_
                  refine eb_seq ?_
                  refine rb_block ?_
                  refine rb_seq ?_
                  refine rb_seq ?_
                  refine rb_regionK fun K618 hK618 => ?_
                  simp -implicitDefEqProofs only [vt, vm, ↓atI_fold, forall_const, implies_true, sevalprocAttr, dd_TB, k441, h451, k452, k612]
                  obtain ⟨b619, h620, h⟩ := bind_some h
                  simp -implicitDefEqProofs only [vt, vm, ↓atI_fold, forall_const, implies_true, sevalprocAttr, dd_TB, k441, h451, k452, k612, h620]
                  obtain ⟨r621, h622, h⟩ := bind_some h
                  refine cW.intro (a_ref07_wordByte I hI (b619.toNat : Int) h622) (by first | rfl | (simp [List.map_append, dd_TB]; done)) ?_
                  simp -implicitDefEqProofs only [vt, vm, ↓atI_fold, forall_const, implies_true, sevalprocAttr, dd_TB, k441, h451, k452, k612, h620]
                  subst hK618
                  refine eb_seq ?_
                  rcases ite_or h with ⟨k623, h⟩ | ⟨k623, h⟩
                  · refine rb_false (by first | exact congrArg D.bool (congrArg Bool.not k623) | rfl) ?_
                    refine rb_skip ?_
                    refine eb_seq ?_
                    refine rb_regionK fun K624 hK624 => ?_
                    simp -implicitDefEqProofs only [vt, vm, ↓atI_fold, forall_const, implies_true, sevalprocAttr, dd_TB, k441, h451, k452, k612, h620, k623]
                    subst hK624
                    refine eb_blk_n ?_
                    obtain rfl := Option.some.inj h
                    exact eb_nil ⟨rfl, Wk.of (fun i => if i = 0 then some 0 else some i) _ _ _ (by simp -implicitDefEqProofs [kv, km, dd_TB, k441, k452, k612, k623]) (by simp -implicitDefEqProofs [kv, km, dd_TB, k441, k452, k612, k623])⟩
                  · refine rb_true (by first | exact congrArg D.bool (congrArg Bool.not k623) | rfl) ?_
                    refine rb_seq ?_
                    refine rb_regionK fun K626 hK626 => ?_
                    simp -implicitDefEqProofs only [vt, vm, ↓atI_fold, forall_const, implies_true, sevalprocAttr, dd_TB, k441, h451, k452, k612, h620, k623]
                    subst hK626
                    refine eb_seq ?_
                    refine rb_ret ?_
                    refine eb_seq_r ?_
                    refine eb_blk_r ?_
                    obtain rfl := Option.some.inj h
                    exact eb_nil ⟨rfl, Wk.of (fun i => some i) _ _ _ (by simp -implicitDefEqProofs [kv, km, dd_TB, k441, k452, k612, k623]) (by simp -implicitDefEqProofs [kv, km, dd_TB, k441, k452, k612, k623])⟩
                · refine rb_false (by first | exact congrArg D.bool k612 | rfl) ?_
                  refine rb_exit ?_
                  refine eb_seq_e ?_
                  obtain rfl := Option.some.inj h
                  exact eb_nil ⟨rfl, Wk.of (fun i => if i = 0 then some 0 else some i) _ _ _ (by simp -implicitDefEqProofs [kv, km, dd_TB, k441, k452, k612]) (by simp -implicitDefEqProofs [kv, km, dd_TB, k441, k452, k612])⟩
            · rcases e551 with e551 | e551
              · try dsimp only at h ⊢
                refine eb_blk_r ?_
                refine eb_seq_r ?_
                refine eb_blk_r ?_
                obtain rfl := Option.some.inj h
                exact eb_nil ⟨rfl, Wk.of (fun i => if i = 0 then none else some i) _ _ _ (by simp -implicitDefEqProofs [kv, km, dd_TB, k441, k452]) (by simp -implicitDefEqProofs [kv, km, dd_TB, k441, k452])⟩
              · try dsimp only at h ⊢
                refine eb_blk_hit ?_
                refine eb_seq ?_
                refine rb_regionK fun K628 hK628 => ?_
                simp -implicitDefEqProofs only [vt, vm, ↓atI_fold, forall_const, implies_true, sevalprocAttr, dd_TB, k441, h451, k452]
                obtain ⟨z629, h630, h⟩ := bind_some h
                obtain ⟨⟨h631, h632, h633, h634⟩, h635⟩ := subI_some h630
                try simp -implicitDefEqProofs only [vt, vm, ↓atI_fold, forall_const, implies_true, sevalprocAttr, dd_TB, k441, h451, k452, h631, h632, h633, h634] at h635
                simp -implicitDefEqProofs only [vt, vm, ↓atI_fold, forall_const, implies_true, sevalprocAttr, dd_TB, k441, h451, k452, h631, h632, h633, h634, h635]
                obtain ⟨h636, h⟩ := ite_on h
                have h637 : x7.1.length + 1 ≤ 9223372036854775807 := by omega
                try simp only [Nat.reduceLeDiff] at h637
                simp -implicitDefEqProofs only [vt, vm, ↓atI_fold, forall_const, implies_true, sevalprocAttr, dd_TB, k441, h451, k452, h631, h632, h633, h634, h635, h637, h636]
                subst hK628
                refine eb_blk_n ?_
                obtain rfl := Option.some.inj h
                exact eb_nil ⟨rfl, Wk.of (fun i => if i = 0 then some 10 else some i) _ _ _ (by simp -implicitDefEqProofs [kv, km, dd_TB, k441, k452]) (by simp -implicitDefEqProofs [kv, km, dd_TB, k441, k452])⟩
  · refine eb_blk_r ?_
    obtain rfl := Option.some.inj h
    refine eb_nil ?_
    simp -implicitDefEqProofs only [vt, vm, ↓atI_fold, forall_const, implies_true, sevalprocAttr, retQ_r, Tryd.results98, dd_TB] <;> first | rfl | (simp [List.map_append, dd_TB]; done)
-- captionerref07.Split
def g_ref07_Split_s1 (src_0 : List UInt8) (x16 : (List T_api_Line) × (List T_api_Diag) × Int × Int × Int) : Option (Nx ((List T_api_Line) × (List T_api_Diag) × Int × Int × Int) ((List T_api_Line) × (List T_api_Diag))) :=
  (if (decide (x16.2.2.2.2 ≤ (src_0.length : Int))) then (((((if (decide (x16.2.2.2.2 < (src_0.length : Int))) then ((atI src_0 x16.2.2.2.2).bind fun b468 => (some ((b468.toNat : Int) != 10))) else (some false)) : Option (Bool)).bind fun v465 => (if v465 then (some (x16.1, x16.2.1, x16.2.2.1, x16.2.2.2.1)) else ((subI src_0 x16.2.2.2.1 x16.2.2.2.2).bind fun z481 => (if (decide (1000 < (z481.length : Int))) then (if (x16.2.1.length + 1) * 24 ≤ 140737488355328 then (some (x16.1, (x16.2.1 ++ [(T_api_Diag.mk x16.2.2.1 1001 9)]), (IntKind.i64.wrap (x16.2.2.1 + 1)), (IntKind.i64.wrap (x16.2.2.2.2 + 1)))) else none) else ((g_ref07_fields z481).bind fun r501 => (if (decide (0 ≤ r501.2)) then (if (x16.2.1.length + 1) * 24 ≤ 140737488355328 then (some (x16.1, (x16.2.1 ++ [(T_api_Diag.mk x16.2.2.1 (IntKind.i64.wrap (r501.2 + 1)) 4)]), (IntKind.i64.wrap (x16.2.2.1 + 1)), (IntKind.i64.wrap (x16.2.2.2.2 + 1)))) else none) else (if (decide (0 < (r501.1.length : Int))) then (if (x16.1.length + 1) * 32 ≤ 140737488355328 then (some ((x16.1 ++ [(T_api_Line.mk x16.2.2.1 r501.1)]), x16.2.1, (IntKind.i64.wrap (x16.2.2.1 + 1)), (IntKind.i64.wrap (x16.2.2.2.2 + 1)))) else none) else (some (x16.1, x16.2.1, (IntKind.i64.wrap (x16.2.2.1 + 1)), (IntKind.i64.wrap (x16.2.2.2.2 + 1))))))))))) : Option ((List T_api_Line) × (List T_api_Diag) × Int × Int)).bind fun v460 => (some (.go (v460.1, v460.2.1, v460.2.2.1, v460.2.2.2, (IntKind.i64.wrap (x16.2.2.2.2 + 1)))))) else (some (.out (x16.1, x16.2.1))))
def g_ref07_Split (src_0 : List UInt8) : Option ((List T_api_Line) × (List T_api_Diag)) :=
  (if (decide (262144 < (src_0.length : Int))) then (some ([], [(T_api_Diag.mk 1 1 9)])) else ((iter (g_ref07_Split_s1 src_0) ([], [], 1, 0, 0)).bind fun e17 => ((subH e17.2 (if 50 < ((e17.2.length : Nat) : Int) then 50 else ((e17.2.length : Nat) : Int))).bind fun z534 => (some (e17.1, z534)))))
theorem a_ref07_Split (I : World → Prop) (hI : Stab I) (src_0 : List UInt8) {r : (List T_api_Line) × (List T_api_Diag)} (h : g_ref07_Split src_0 = some r) : AFun Tryd.prog I 61 [.str src_0] (.tup [.sl (r.1.map T_api_Line.d), .sl (r.2.map T_api_Diag.d)]) := by
  refine AFun.enterB hI Tryd.func61 rfl (by decide) (by simp [Tryd.f61]) (by kernel_rfl) ?_
  unfold g_ref07_Split at h
  simp only [S0, Tryd.ntmps61, dd_TB]
  refine rb_seq ?_
  refine rb_regionK fun K2 hK2 => ?_
  simp -implicitDefEqProofs only [vt, vm, ↓atI_fold, forall_const, implies_true, sevalprocAttr, dd_TB]
  subst hK2
  refine eb_seq ?_
  refine rb_seq ?_
  refine rb_seq ?_
  refine rb_regionK fun K4 hK4 => ?_
  simp -implicitDefEqProofs only [vt, vm, ↓atI_fold, forall_const, implies_true, sevalprocAttr, dd_TB]
  subst hK4
  refine eb_seq ?_
  rcases ite_or h with ⟨k5, h⟩ | ⟨k5, h⟩
  · refine rb_true (by first | exact congrArg D.bool k5 | rfl) ?_
    refine rb_seq ?_
    refine rb_regionK fun K7 hK7 => ?_
    simp -implicitDefEqProofs only [vt, vm, ↓atI_fold, forall_const, implies_true, sevalprocAttr, dd_TB, k5]
    subst hK7
    refine eb_seq ?_
    refine rb_ret ?_
    refine eb_seq_r ?_
    obtain rfl := Option.some.inj h
    refine eb_nil ?_
    simp -implicitDefEqProofs only [vt, vm, ↓atI_fold, forall_const, implies_true, sevalprocAttr, retQ_r, Tryd.results61, dd_TB, k5] <;> first | rfl | (simp [List.map_append, dd_TB]; done)
  · refine rb_false (by first | exact congrArg D.bool k5 | rfl) ?_
    refine rb_skip ?_
    refine eb_seq ?_
    refine rb_seq ?_
    refine rb_regionK fun K9 hK9 => ?_
    simp -implicitDefEqProofs only [vt, vm, ↓atI_fold, forall_const, implies_true, sevalprocAttr, dd_TB, k5]
    subst hK9
    refine eb_seq ?_
    refine rb_seq ?_
    refine rb_regionK fun K11 hK11 => ?_
    simp -implicitDefEqProofs only [vt, vm, ↓atI_fold, forall_const, implies_true, sevalprocAttr, dd_TB, k5]
    subst hK11
    refine eb_seq ?_
    refine rb_seq ?_
    refine rb_regionK fun K13 hK13 => ?_
    simp -implicitDefEqProofs only [vt, vm, ↓atI_fold, forall_const, implies_true, sevalprocAttr, dd_TB, k5]
    subst hK13
    refine eb_seq ?_
    refine rb_seq ?_
    refine rb_seq ?_
    refine rb_regionK fun K15 hK15 => ?_
    simp -implicitDefEqProofs only [vt, vm, ↓atI_fold, forall_const, implies_true, sevalprocAttr, dd_TB, k5]
    subst hK15
    refine eb_seq ?_
    refine rb_block ?_
    obtain ⟨e17, h526, h⟩ := bind_some h
    refine rb_loop (fun x16 => ⟨envL [(0, .str src_0), (4, .own 0 x16.1.length), (5, .own 1 x16.2.1.length), (6, .int .i64 x16.2.2.1), (7, .int .i64 x16.2.2.2.1), (8, .int .i64 x16.2.2.2.2)], heapL [(0, .vec 116 2 (x16.1.map T_api_Line.d) false), (1, .vec 119 3 (x16.2.1.map T_api_Diag.d) false)], 2, 78⟩) (fun _ => .exit 0) (fun e17 => ⟨envL [(4, .own 0 e17.1.length), (5, .own 1 e17.2.length)], heapL [(0, .vec 116 2 (e17.1.map T_api_Line.d) false), (1, .vec 119 3 (e17.2.map T_api_Diag.d) false)], 2, 78⟩) h526 (Wk.of (fun i => if i = 1 then none else if i = 0 then none else some i) _ _ _ (by simp -implicitDefEqProofs [kv, km, dd_TB, k5]) (by simp -implicitDefEqProofs [kv, km, dd_TB, k5])) (by intro w; simp) ?_ ?_
    · clear h
      intro x16 y h
      unfold g_ref07_Split_s1 at h
      refine rb_seq ?_
      refine rb_seq ?_
      refine rb_regionK fun K395 hK395 => ?_
      simp -implicitDefEqProofs only [vt, vm, ↓atI_fold, forall_const, implies_true, sevalprocAttr, dd_TB, k5]
      subst hK395
      refine eb_seq ?_
      rcases ite_or h with ⟨k396, h⟩ | ⟨k396, h⟩
      · refine rb_true (by first | exact congrArg D.bool k396 | rfl) ?_
        refine rb_skip ?_
        refine eb_seq ?_
        obtain ⟨v460, h524, h⟩ := bind_some h
        refine rb_cut (fun v460 => ⟨envL [(0, .str src_0), (4, .own 0 v460.1.length), (5, .own 1 v460.2.1.length), (6, .int .i64 v460.2.2.1), (7, .int .i64 v460.2.2.2), (8, .int .i64 x16.2.2.2.2)], heapL [(0, .vec 116 2 (v460.1.map T_api_Line.d) false), (1, .vec 119 3 (v460.2.1.map T_api_Diag.d) false)], 2, 78⟩) h524 ?_ ?_
        · clear h
          intro v460 h
          refine rb_block ?_
          refine rb_seq ?_
          obtain ⟨v465, h470, h⟩ := bind_some h
          refine rb_cut (fun v465 => ⟨envL [(0, .str src_0), (4, .own 0 x16.1.length), (5, .own 1 x16.2.1.length), (6, .int .i64 x16.2.2.1), (7, .int .i64 x16.2.2.2.1), (8, .int .i64 x16.2.2.2.2), (32, .bool v465)], heapL [(0, .vec 116 2 (x16.1.map T_api_Line.d) false), (1, .vec 119 3 (x16.2.1.map T_api_Diag.d) false)], 2, 78⟩) h470 ?_ ?_
          · clear h
            intro v465 h
            refine rb_regionK fun K466 hK466 => ?_
            simp -implicitDefEqProofs only [vt, vm, ↓atI_fold, forall_const, implies_true, sevalprocAttr, dd_TB, k5, k396]
            rcases ite_or h with ⟨k467, h⟩ | ⟨k467, h⟩
            · simp -implicitDefEqProofs only [vt, vm, ↓atI_fold, forall_const, implies_true, sevalprocAttr, dd_TB, k5, k396, k467]
              obtain ⟨b468, h469, h⟩ := bind_some h
              simp -implicitDefEqProofs only [vt, vm, ↓atI_fold, forall_const, implies_true, sevalprocAttr, dd_TB, k5, k396, k467, h469]
              subst hK466
              obtain rfl := Option.some.inj h
              exact eb_nil ⟨rfl, Wk.of (fun i => if i = 1 then some 1 else if i = 0 then some 0 else some i) _ _ _ (by simp -implicitDefEqProofs [kv, km, dd_TB, k5, k396, k467]) (by simp -implicitDefEqProofs [kv, km, dd_TB, k5, k396, k467])⟩
            · simp -implicitDefEqProofs only [vt, vm, ↓atI_fold, forall_const, implies_true, sevalprocAttr, dd_TB, k5, k396, k467]
              subst hK466
              obtain rfl := Option.some.inj h
              exact eb_nil ⟨rfl, Wk.of (fun i => if i = 1 then some 1 else if i = 0 then some 0 else some i) _ _ _ (by simp -implicitDefEqProofs [kv, km, dd_TB, k5, k396, k467]) (by simp -implicitDefEqProofs [kv, km, dd_TB, k5, k396, k467])⟩
          · rcases ite_or h with ⟨k471, h⟩ | ⟨k471, h⟩
            · refine rb_true (by first | exact congrArg D.bool k471 | rfl) ?_
              refine rb_exit ?_
              refine eb_seq_e ?_
              refine eb_blk_hit ?_
              obtain rfl := Option.some.inj h
              exact eb_nil ⟨rfl, Wk.of (fun i => if i = 1 then some 1 else if i = 0 then some 0 else some i) _ _ _ (by simp -implicitDefEqProofs [kv, km, dd_TB, k5, k396, k471]) (by simp -implicitDefEqProofs [kv, km, dd_TB, k5, k396, k471])⟩
            · refine rb_false (by first | exact congrArg D.bool k471 | rfl) ?_
              refine rb_skip ?_
              refine eb_seq ?_
              refine rb_seq ?_
              refine rb_regionK fun K480 hK480 => ?_
              simp -implicitDefEqProofs only [vt, vm, ↓atI_fold, forall_const, implies_true, sevalprocAttr, dd_TB, k5, k396, k471]
              obtain ⟨z481, h482, h⟩ := bind_some h
              obtain ⟨⟨h483, h484, h485, h486⟩, h487⟩ := subI_some h482
              try simp -implicitDefEqProofs only [vt, vm, ↓atI_fold, forall_const, implies_true, sevalprocAttr, dd_TB, k5, k396, k471, h483, h484, h485, h486] at h487
              simp -implicitDefEqProofs only [vt, vm, ↓atI_fold, forall_const, implies_true, sevalprocAttr, dd_TB, k5, k396, k471, h483, h484, h485, h486, h487]
              subst hK480
              refine eb_seq ?_
              refine rb_seq ?_
              refine rb_seq ?_
              refine rb_regionK fun K489 hK489 => ?_
              simp -implicitDefEqProofs only [vt, vm, ↓atI_fold, forall_const, implies_true, sevalprocAttr, dd_TB, k5, k396, k471, h483, h484, h485, h486, h487]
              subst hK489
              refine eb_seq ?_
              rcases ite_or h with ⟨k490, h⟩ | ⟨k490, h⟩
              · refine rb_true (by first | exact congrArg D.bool k490 | rfl) ?_
                refine rb_regionK fun K491 hK491 => ?_
                simp -implicitDefEqProofs only [vt, vm, ↓atI_fold, forall_const, implies_true, sevalprocAttr, dd_TB, k5, k396, k471, h483, h484, h485, h486, h487, k490]
                obtain ⟨h492, h⟩ := ite_on h
                have h493 : x16.2.1.length + 1 ≤ 9223372036854775807 := by omega
                try simp only [Nat.reduceLeDiff] at h493
                simp -implicitDefEqProofs only [vt, vm, ↓atI_fold, forall_const, implies_true, sevalprocAttr, dd_TB, k5, k396, k471, h483, h484, h485, h486, h487, k490, h493, h492]
                subst hK491
                refine eb_seq ?_
                refine rb_seq ?_
                refine rb_regionK fun K495 hK495 => ?_
                simp -implicitDefEqProofs only [vt, vm, ↓atI_fold, forall_const, implies_true, sevalprocAttr, dd_TB, k5, k396, k471, h483, h484, h485, h486, h487, k490, h493, h492]
                subst hK495
                refine eb_seq ?_
                refine rb_regionK fun K496 hK496 => ?_
                simp -implicitDefEqProofs only [vt, vm, ↓atI_fold, forall_const, implies_true, sevalprocAttr, dd_TB, k5, k396, k471, h483, h484, h485, h486, h487, k490, h493, h492]
                subst hK496
                refine eb_blk_n ?_
                obtain rfl := Option.some.inj h
                exact eb_nil ⟨rfl, Wk.of (fun i => if i = 1 then some 14 else if i = 0 then some 0 else some i) _ _ _ (by simp -implicitDefEqProofs [kv, km, dd_TB, k5, k396, k471, k490]) (by simp -implicitDefEqProofs [kv, km, dd_TB, k5, k396, k471, k490])⟩
              · refine rb_false (by first | exact congrArg D.bool k490 | rfl) ?_
                refine rb_seq ?_
                refine rb_regionK fun K500 hK500 => ?_
                simp -implicitDefEqProofs only [vt, vm, ↓atI_fold, forall_const, implies_true, sevalprocAttr, dd_TB, k5, k396, k471, h483, h484, h485, h486, h487, k490]
                obtain ⟨r501, h502, h⟩ := bind_some h
                refine cW.intro (a_ref07_fields I hI z481 h502) (by first | rfl | (simp [List.map_append, dd_TB]; done)) ?_
                simp -implicitDefEqProofs only [vt, vm, ↓atI_fold, forall_const, implies_true, sevalprocAttr, dd_TB, k5, k396, k471, h483, h484, h485, h486, h487, k490]
                subst hK500
                refine eb_seq ?_
                refine rb_seq ?_
                refine rb_regionK fun K504 hK504 => ?_
                simp -implicitDefEqProofs only [vt, vm, ↓atI_fold, forall_const, implies_true, sevalprocAttr, dd_TB, k5, k396, k471, h483, h484, h485, h486, h487, k490]
                subst hK504
                refine eb_seq ?_
                rcases ite_or h with ⟨k505, h⟩ | ⟨k505, h⟩
                · refine rb_true (by first | exact congrArg D.bool k505 | rfl) ?_
                  refine rb_regionK fun K506 hK506 => ?_
                  simp -implicitDefEqProofs only [vt, vm, ↓atI_fold, forall_const, implies_true, sevalprocAttr, dd_TB, k5, k396, k471, h483, h484, h485, h486, h487, k490, k505]
                  obtain ⟨h507, h⟩ := ite_on h
                  have h508 : x16.2.1.length + 1 ≤ 9223372036854775807 := by omega
                  try simp only [Nat.reduceLeDiff] at h508
                  simp -implicitDefEqProofs only [vt, vm, ↓atI_fold, forall_const, implies_true, sevalprocAttr, dd_TB, k5, k396, k471, h483, h484, h485, h486, h487, k490, k505, h508, h507]
                  subst hK506
                  refine eb_seq ?_
                  refine rb_seq ?_
                  refine rb_regionK fun K510 hK510 => ?_
                  simp -implicitDefEqProofs only [vt, vm, ↓atI_fold, forall_const, implies_true, sevalprocAttr, dd_TB, k5, k396, k471, h483, h484, h485, h486, h487, k490, k505, h508, h507]
                  subst hK510
                  refine eb_seq ?_
                  refine rb_regionK fun K511 hK511 => ?_
                  simp -implicitDefEqProofs only [vt, vm, ↓atI_fold, forall_const, implies_true, sevalprocAttr, dd_TB, k5, k396, k471, h483, h484, h485, h486, h487, k490, k505, h508, h507]
                  subst hK511
                  refine eb_blk_n ?_
                  obtain rfl := Option.some.inj h
                  exact eb_nil ⟨rfl, Wk.of (fun i => if i = 1 then some 25 else if i = 0 then some 0 else some i) _ _ _ (by simp -implicitDefEqProofs [kv, km, dd_TB, k5, k396, k471, k490, k505]) (by simp -implicitDefEqProofs [kv, km, dd_TB, k5, k396, k471, k490, k505])⟩
                · refine rb_false (by first | exact congrArg D.bool k505 | rfl) ?_
                  refine rb_seq ?_
                  refine rb_regionK fun K513 hK513 => ?_
                  simp -implicitDefEqProofs only [vt, vm, ↓atI_fold, forall_const, implies_true, sevalprocAttr, dd_TB, k5, k396, k471, h483, h484, h485, h486, h487, k490, k505]
                  subst hK513
                  refine eb_seq ?_
                  rcases ite_or h with ⟨k514, h⟩ | ⟨k514, h⟩
                  · refine rb_true (by first | exact congrArg D.bool k514 | rfl) ?_
                    refine rb_regionK fun K515 hK515 => ?_
                    simp -implicitDefEqProofs only [vt, vm, ↓atI_fold, forall_const, implies_true, sevalprocAttr, dd_TB, k5, k396, k471, h483, h484, h485, h486, h487, k490, k505, k514]
                    obtain ⟨h516, h⟩ := ite_on h
                    have h517 : x16.1.length + 1 ≤ 9223372036854775807 := by omega
                    try simp only [Nat.reduceLeDiff] at h517
                    simp -implicitDefEqProofs only [vt, vm, ↓atI_fold, forall_const, implies_true, sevalprocAttr, dd_TB, k5, k396, k471, h483, h484, h485, h486, h487, k490, k505, k514, h517, h516]
                    subst hK515
                    refine eb_seq ?_
                    refine rb_seq ?_
                    refine rb_regionK fun K519 hK519 => ?_
                    simp -implicitDefEqProofs only [vt, vm, ↓atI_fold, forall_const, implies_true, sevalprocAttr, dd_TB, k5, k396, k471, h483, h484, h485, h486, h487, k490, k505, k514, h517, h516]
                    subst hK519
                    refine eb_seq ?_
                    refine rb_regionK fun K520 hK520 => ?_
                    simp -implicitDefEqProofs only [vt, vm, ↓atI_fold, forall_const, implies_true, sevalprocAttr, dd_TB, k5, k396, k471, h483, h484, h485, h486, h487, k490, k505, k514, h517, h516]
                    subst hK520
                    refine eb_blk_n ?_
                    obtain rfl := Option.some.inj h
                    exact eb_nil ⟨rfl, Wk.of (fun i => if i = 1 then some 1 else if i = 0 then some 27 else some i) _ _ _ (by simp -implicitDefEqProofs [kv, km, dd_TB, k5, k396, k471, k490, k505, k514]) (by simp -implicitDefEqProofs [kv, km, dd_TB, k5, k396, k471, k490, k505, k514])⟩
                  · refine rb_false (by first | exact congrArg D.bool k514 | rfl) ?_
                    refine rb_skip ?_
                    refine eb_seq ?_
                    refine rb_seq ?_
                    refine rb_regionK fun K522 hK522 => ?_
                    simp -implicitDefEqProofs only [vt, vm, ↓atI_fold, forall_const, implies_true, sevalprocAttr, dd_TB, k5, k396, k471, h483, h484, h485, h486, h487, k490, k505, k514]
                    subst hK522
                    refine eb_seq ?_
                    refine rb_regionK fun K523 hK523 => ?_
                    simp -implicitDefEqProofs only [vt, vm, ↓atI_fold, forall_const, implies_true, sevalprocAttr, dd_TB, k5, k396, k471, h483, h484, h485, h486, h487, k490, k505, k514]
                    subst hK523
                    refine eb_blk_n ?_
                    obtain rfl := Option.some.inj h
                    exact eb_nil ⟨rfl, Wk.of (fun i => if i = 1 then some 1 else if i = 0 then some 0 else some i) _ _ _ (by simp -implicitDefEqProofs [kv, km, dd_TB, k5, k396, k471, k490, k505, k514]) (by simp -implicitDefEqProofs [kv, km, dd_TB, k5, k396, k471, k490, k505, k514])⟩
        · refine rb_regionK fun K525 hK525 => ?_
          simp -implicitDefEqProofs only [vt, vm, ↓atI_fold, forall_const, implies_true, sevalprocAttr, dd_TB, k5, k396]
          subst hK525
          obtain rfl := Option.some.inj h
          exact eb_nil ⟨rfl, Wk.of (fun i => if i = 1 then some 1 else if i = 0 then some 0 else some i) _ _ _ (by simp -implicitDefEqProofs [kv, km, dd_TB, k5, k396]) (by simp -implicitDefEqProofs [kv, km, dd_TB, k5, k396])⟩
      · refine rb_false (by first | exact congrArg D.bool k396 | rfl) ?_
        refine rb_exit ?_
        refine eb_seq_e ?_
        obtain rfl := Option.some.inj h
        exact eb_nil ⟨rfl, Wk.of (fun i => if i = 1 then some 1 else if i = 0 then some 0 else some i) _ _ _ (by simp -implicitDefEqProofs [kv, km, dd_TB, k5, k396]) (by simp -implicitDefEqProofs [kv, km, dd_TB, k5, k396])⟩
    · refine eb_blk_hit ?_
      refine eb_seq ?_
      refine rb_seq ?_
      refine rb_drawK hI (by kernel_rfl) (by kernel_rfl) fun K533 hK533 => ?_
      simp -implicitDefEqProofs only [vt, vm, ↓atI_fold, forall_const, implies_true, sevalprocAttr, dd_TB, k5]
      obtain ⟨z534, h535, h⟩ := bind_some h
      obtain ⟨⟨h536, h537⟩, h538⟩ := subH_some h535
      try simp -implicitDefEqProofs only [vt, vm, ↓atI_fold, forall_const, implies_true, sevalprocAttr, dd_TB, k5, h536, h537] at h538
      simp -implicitDefEqProofs only [vt, vm, ↓atI_fold, forall_const, implies_true, sevalprocAttr, dd_TB, k5, h536, h537, h538]
      refine hD.intro (by kernel_rfl) ?_
      simp -implicitDefEqProofs only [vt, vm, ↓atI_fold, forall_const, implies_true, sevalprocAttr, dd_TB, k5, h536, h537, h538]
      subst hK533
      refine eb_seq ?_
      refine rb_ret ?_
      obtain rfl := Option.some.inj h
      refine eb_nil ?_
      simp -implicitDefEqProofs only [vt, vm, ↓atI_fold, forall_const, implies_true, sevalprocAttr, retQ_r, Tryd.results61, dd_TB, k5, h536, h537, h538] <;> first | rfl | (simp [List.map_append, dd_TB]; done)
-- captionerref07.Scan
def g_ref07_Scan (l_0 : T_api_Line) : Option (T_captionerref07_Scanner) :=
  (some (T_captionerref07_Scanner.mk l_0 0 0 0))
theorem a_ref07_Scan (I : World → Prop) (hI : Stab I) {H : Nat → Option Blk} {nid : Nat} (l_0 : T_api_Line) {r : T_captionerref07_Scanner} (h : g_ref07_Scan l_0 = some r) : CallOK Tryd.prog I 62 [T_api_Line.d l_0] H nid (.ptr nid 0) [(nid, some (.box none [.int .i64 r.Line.Number, .sl (r.Line.Fields.map T_api_Field.d), .int .i64 r.At, .int .i64 r.Code, .int .i64 r.Col]))] := by
  refine CallOK.intro (is := []) (css := []) (ds0 := [T_api_Line.d l_0]) (pl := []) hI Tryd.func62 rfl (by decide) (by simp [Tryd.f62]) (by kernel_rfl) rfl rfl rfl rfl (lentAll_of trivial) (by simp) ?_
  unfold g_ref07_Scan at h
  simp only [lentH, List.length_cons, List.length_nil, Nat.zero_add, Nat.reduceAdd, Tryd.ntmps62, dd_TB]
  refine rb_seq ?_
  refine rb_regionK fun K2 hK2 => ?_
  simp -implicitDefEqProofs only [vt, vm, ↓atI_fold, forall_const, implies_true, sevalprocAttr, dd_TB]
  subst hK2
  refine eb_seq ?_
  refine rb_seq ?_
  refine rb_regionK fun K4 hK4 => ?_
  simp -implicitDefEqProofs only [vt, vm, ↓atI_fold, forall_const, implies_true, sevalprocAttr, dd_TB]
  subst hK4
  refine eb_seq ?_
  refine rb_ret ?_
  obtain rfl := Option.some.inj h
  refine eb_nil ?_
  simp -implicitDefEqProofs only [vt, vm, ↓atI_fold, forall_const, implies_true, sevalprocAttr, vp, retP_r, Tryd.results62, dd_TB] <;> first | exact ⟨rfl, rfl⟩ | (refine ⟨?_, ?_⟩ <;> first | rfl | (simp [List.map_append, dd_TB]; done))
end Go.Proofs.YtipdmcpmedmicaaDoor
