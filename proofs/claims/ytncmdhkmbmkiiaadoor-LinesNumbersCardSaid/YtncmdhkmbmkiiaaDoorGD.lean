/- What some functions compute, read off their texts by a program of mine (gen.py): definitions, and contracts (the text computes it). No condition but that the definition answers. -/
import Derived.Test.YtncmdhkmbmkiiaaDoorGN
namespace Go.Proofs.YtncmdhkmbmkiiaaDoor
open Go.RowKit
set_option maxRecDepth 100000
set_option linter.unusedVariables false
set_option linter.unusedSimpArgs false
set_option maxHeartbeats 10000000
structure T_api_Field where
  Text : List UInt8
  Column : Int
  Quoted : Bool
  deriving DecidableEq
def T_api_Field.d (x : T_api_Field) : D := .agg [.str x.Text, .int .i64 x.Column, .bool x.Quoted]
theorem dd_GD : (∀ x, T_api_Field.d x = .agg [.str x.Text, .int .i64 x.Column, .bool x.Quoted]) := fun _ => rfl
-- lines.Name
def g_lines_Name_s1 (s_0 : List UInt8) (x22 : Int) : Option (Nx (Int) (Unit ⊕ Unit)) :=
  (if (decide (x22 < (s_0.length : Int))) then ((atI s_0 x22).bind fun b144 => (((if (decide ((b144.toNat : Int) < 65)) then (if (decide ((b144.toNat : Int) < 48)) then (if ((b144.toNat : Int) != 95) then (some ((b144.toNat : Int) != 45)) else (some false)) else (if (decide (57 < (b144.toNat : Int))) then (if ((b144.toNat : Int) != 95) then (some ((b144.toNat : Int) != 45)) else (some false)) else (some false))) else (if (decide (90 < (b144.toNat : Int))) then (if (decide ((b144.toNat : Int) < 48)) then (if ((b144.toNat : Int) != 95) then (some ((b144.toNat : Int) != 45)) else (some false)) else (if (decide (57 < (b144.toNat : Int))) then (if ((b144.toNat : Int) != 95) then (some ((b144.toNat : Int) != 45)) else (some false)) else (some false))) else (some false))) : Option (Bool)).bind fun v157 => (if v157 then (some (.out (.inl ()))) else (some (.go (IntKind.i64.wrap (x22 + 1))))))) else (some (.out (.inr ()))))
def g_lines_Name (s_0 : List UInt8) : Option (Bool) :=
  (((if (decide ((s_0.length : Int) < 1)) then (some true) else (if (decide (16 < (s_0.length : Int))) then (some true) else ((atI s_0 0).bind fun b13 => (if (decide ((b13.toNat : Int) < 65)) then (some true) else (some (decide (90 < (b13.toNat : Int)))))))) : Option (Bool)).bind fun v9 => (if v9 then (some false) else ((iter (g_lines_Name_s1 s_0) 0).bind fun e23 => (match e23 with | Sum.inl e23 => (some false) | Sum.inr (e23) => (some true)))))
theorem a_lines_Name (I : World → Prop) (hI : Stab I) (s_0 : List UInt8) {r : Bool} (h : g_lines_Name s_0 = some r) : AFun Tryd.prog I 51 [.str s_0] (.bool r) := by
  refine AFun.enterB hI Tryd.func51 rfl (by decide) (by simp [Tryd.f51]) (by kernel_rfl) ?_
  unfold g_lines_Name at h
  simp only [S0, Tryd.ntmps51, dd_GD]
  refine rb_seq ?_
  refine rb_regionK fun K2 hK2 => ?_
  simp -implicitDefEqProofs only [vt, ↓atI_fold, forall_const, implies_true, sevalprocAttr, dd_GD]
  subst hK2
  refine eb_seq ?_
  refine rb_seq ?_
  obtain ⟨v9, h16, h⟩ := bind_some h
  refine rb_cut (fun v9 => ⟨envL [(0, .str s_0), (22, .bool v9)], heapL [], 0, 54⟩) h16 ?_ ?_
  · clear h
    intro v9 h
    refine rb_regionK fun K10 hK10 => ?_
    simp -implicitDefEqProofs only [vt, ↓atI_fold, forall_const, implies_true, sevalprocAttr, dd_GD]
    rcases ite_or h with ⟨k11, h⟩ | ⟨k11, h⟩
    · simp -implicitDefEqProofs only [vt, ↓atI_fold, forall_const, implies_true, sevalprocAttr, dd_GD, k11]
      subst hK10
      obtain rfl := Option.some.inj h
      exact eb_nil ⟨rfl, Wk.of (fun i => some i) _ _ _ (by simp -implicitDefEqProofs [kv, dd_GD, k11]) (by simp -implicitDefEqProofs [kv, dd_GD, k11])⟩
    · simp -implicitDefEqProofs only [vt, ↓atI_fold, forall_const, implies_true, sevalprocAttr, dd_GD, k11]
      rcases ite_or h with ⟨k12, h⟩ | ⟨k12, h⟩
      · simp -implicitDefEqProofs only [vt, ↓atI_fold, forall_const, implies_true, sevalprocAttr, dd_GD, k11, k12]
        subst hK10
        obtain rfl := Option.some.inj h
        exact eb_nil ⟨rfl, Wk.of (fun i => some i) _ _ _ (by simp -implicitDefEqProofs [kv, dd_GD, k11, k12]) (by simp -implicitDefEqProofs [kv, dd_GD, k11, k12])⟩
      · simp -implicitDefEqProofs only [vt, ↓atI_fold, forall_const, implies_true, sevalprocAttr, dd_GD, k11, k12]
        obtain ⟨b13, h14, h⟩ := bind_some h
        simp -implicitDefEqProofs only [vt, ↓atI_fold, forall_const, implies_true, sevalprocAttr, dd_GD, k11, k12, h14]
        rcases ite_or h with ⟨k15, h⟩ | ⟨k15, h⟩
        · simp -implicitDefEqProofs only [vt, ↓atI_fold, forall_const, implies_true, sevalprocAttr, dd_GD, k11, k12, h14, k15]
          subst hK10
          obtain rfl := Option.some.inj h
          exact eb_nil ⟨rfl, Wk.of (fun i => some i) _ _ _ (by simp -implicitDefEqProofs [kv, dd_GD, k11, k12, k15]) (by simp -implicitDefEqProofs [kv, dd_GD, k11, k12, k15])⟩
        · simp -implicitDefEqProofs only [vt, ↓atI_fold, forall_const, implies_true, sevalprocAttr, dd_GD, k11, k12, h14, k15]
          subst hK10
          obtain rfl := Option.some.inj h
          exact eb_nil ⟨rfl, Wk.of (fun i => some i) _ _ _ (by simp -implicitDefEqProofs [kv, dd_GD, k11, k12, k15]) (by simp -implicitDefEqProofs [kv, dd_GD, k11, k12, k15])⟩
  · rcases ite_or h with ⟨k17, h⟩ | ⟨k17, h⟩
    · refine rb_true (by first | exact congrArg D.bool k17 | rfl) ?_
      refine rb_seq ?_
      refine rb_regionK fun K19 hK19 => ?_
      simp -implicitDefEqProofs only [vt, ↓atI_fold, forall_const, implies_true, sevalprocAttr, dd_GD, k17]
      subst hK19
      refine eb_seq ?_
      refine rb_ret ?_
      refine eb_seq_r ?_
      obtain rfl := Option.some.inj h
      refine eb_nil ?_
      simp -implicitDefEqProofs only [vt, ↓atI_fold, forall_const, implies_true, sevalprocAttr, retQ_r, Tryd.results51, dd_GD, k17] <;> first | rfl | (simp [List.map_append, dd_GD]; done)
    · refine rb_false (by first | exact congrArg D.bool k17 | rfl) ?_
      refine rb_skip ?_
      refine eb_seq ?_
      refine rb_seq ?_
      refine rb_seq ?_
      refine rb_regionK fun K21 hK21 => ?_
      simp -implicitDefEqProofs only [vt, ↓atI_fold, forall_const, implies_true, sevalprocAttr, dd_GD, k17]
      subst hK21
      refine eb_seq ?_
      refine rb_block ?_
      obtain ⟨e23, h174, h⟩ := bind_some h
      refine rb_loop (fun x22 => ⟨envL [(0, .str s_0), (24, .int .i64 (s_0.length : Int)), (25, .int .i64 x22)], heapL [], 0, 54⟩) (fun w => match w with | Sum.inl _ => .ret | Sum.inr (_) => .exit 0) (fun w => match w with | Sum.inl e23 => ⟨envL [(2, .bool false)], heapL [], 0, 54⟩ | Sum.inr (e23) => ⟨envL [], heapL [], 0, 54⟩) h174 (Wk.of (fun i => some i) _ _ _ (by simp -implicitDefEqProofs [kv, dd_GD, k17]) (by simp -implicitDefEqProofs [kv, dd_GD, k17])) (by intro w; rcases w with w | w <;> simp) ?_ ?_
      · clear h
        intro x22 y h
        unfold g_lines_Name_s1 at h
        refine rb_seq ?_
        refine rb_regionK fun K100 hK100 => ?_
        simp -implicitDefEqProofs only [vt, ↓atI_fold, forall_const, implies_true, sevalprocAttr, dd_GD, k17]
        subst hK100
        refine eb_seq ?_
        refine rb_seq ?_
        rcases ite_or h with ⟨k102, h⟩ | ⟨k102, h⟩
        · refine rb_true (by first | exact congrArg D.bool k102 | rfl) ?_
          refine rb_skip ?_
          refine eb_seq ?_
          refine rb_seq ?_
          refine rb_block ?_
          refine rb_seq ?_
          refine rb_regionK fun K139 hK139 => ?_
          simp -implicitDefEqProofs only [vt, ↓atI_fold, forall_const, implies_true, sevalprocAttr, dd_GD, k17, k102]
          subst hK139
          refine eb_seq ?_
          refine rb_seq ?_
          refine rb_regionK fun K143 hK143 => ?_
          simp -implicitDefEqProofs only [vt, ↓atI_fold, forall_const, implies_true, sevalprocAttr, dd_GD, k17, k102]
          obtain ⟨b144, h145, h⟩ := bind_some h
          simp -implicitDefEqProofs only [vt, ↓atI_fold, forall_const, implies_true, sevalprocAttr, dd_GD, k17, k102, h145]
          subst hK143
          refine eb_seq ?_
          obtain ⟨v157, h169, h⟩ := bind_some h
          refine rb_cut (fun v157 => ⟨envL [(0, .str s_0), (24, .int .i64 (s_0.length : Int)), (25, .int .i64 x22), (52, .bool v157)], heapL [], 0, 54⟩) h169 ?_ ?_
          · clear h
            intro v157 h
            refine rb_regionK fun K158 hK158 => ?_
            simp -implicitDefEqProofs only [vt, ↓atI_fold, forall_const, implies_true, sevalprocAttr, dd_GD, k17, k102, h145]
            rcases ite_or h with ⟨k159, h⟩ | ⟨k159, h⟩
            · simp -implicitDefEqProofs only [vt, ↓atI_fold, forall_const, implies_true, sevalprocAttr, dd_GD, k17, k102, h145, k159]
              rcases ite_or h with ⟨k160, h⟩ | ⟨k160, h⟩
              · simp -implicitDefEqProofs only [vt, ↓atI_fold, forall_const, implies_true, sevalprocAttr, dd_GD, k17, k102, h145, k159, k160]
                rcases ite_or h with ⟨k161, h⟩ | ⟨k161, h⟩
                · simp -implicitDefEqProofs only [vt, ↓atI_fold, forall_const, implies_true, sevalprocAttr, dd_GD, k17, k102, h145, k159, k160, k161]
                  subst hK158
                  obtain rfl := Option.some.inj h
                  exact eb_nil ⟨rfl, Wk.of (fun i => some i) _ _ _ (by simp -implicitDefEqProofs [kv, dd_GD, k17, k102, k159, k160, k161]) (by simp -implicitDefEqProofs [kv, dd_GD, k17, k102, k159, k160, k161])⟩
                · simp -implicitDefEqProofs only [vt, ↓atI_fold, forall_const, implies_true, sevalprocAttr, dd_GD, k17, k102, h145, k159, k160, k161]
                  subst hK158
                  obtain rfl := Option.some.inj h
                  exact eb_nil ⟨rfl, Wk.of (fun i => some i) _ _ _ (by simp -implicitDefEqProofs [kv, dd_GD, k17, k102, k159, k160, k161]) (by simp -implicitDefEqProofs [kv, dd_GD, k17, k102, k159, k160, k161])⟩
              · simp -implicitDefEqProofs only [vt, ↓atI_fold, forall_const, implies_true, sevalprocAttr, dd_GD, k17, k102, h145, k159, k160]
                rcases ite_or h with ⟨k162, h⟩ | ⟨k162, h⟩
                · simp -implicitDefEqProofs only [vt, ↓atI_fold, forall_const, implies_true, sevalprocAttr, dd_GD, k17, k102, h145, k159, k160, k162]
                  rcases ite_or h with ⟨k163, h⟩ | ⟨k163, h⟩
                  · simp -implicitDefEqProofs only [vt, ↓atI_fold, forall_const, implies_true, sevalprocAttr, dd_GD, k17, k102, h145, k159, k160, k162, k163]
                    subst hK158
                    obtain rfl := Option.some.inj h
                    exact eb_nil ⟨rfl, Wk.of (fun i => some i) _ _ _ (by simp -implicitDefEqProofs [kv, dd_GD, k17, k102, k159, k160, k162, k163]) (by simp -implicitDefEqProofs [kv, dd_GD, k17, k102, k159, k160, k162, k163])⟩
                  · simp -implicitDefEqProofs only [vt, ↓atI_fold, forall_const, implies_true, sevalprocAttr, dd_GD, k17, k102, h145, k159, k160, k162, k163]
                    subst hK158
                    obtain rfl := Option.some.inj h
                    exact eb_nil ⟨rfl, Wk.of (fun i => some i) _ _ _ (by simp -implicitDefEqProofs [kv, dd_GD, k17, k102, k159, k160, k162, k163]) (by simp -implicitDefEqProofs [kv, dd_GD, k17, k102, k159, k160, k162, k163])⟩
                · simp -implicitDefEqProofs only [vt, ↓atI_fold, forall_const, implies_true, sevalprocAttr, dd_GD, k17, k102, h145, k159, k160, k162]
                  subst hK158
                  obtain rfl := Option.some.inj h
                  exact eb_nil ⟨rfl, Wk.of (fun i => some i) _ _ _ (by simp -implicitDefEqProofs [kv, dd_GD, k17, k102, k159, k160, k162]) (by simp -implicitDefEqProofs [kv, dd_GD, k17, k102, k159, k160, k162])⟩
            · simp -implicitDefEqProofs only [vt, ↓atI_fold, forall_const, implies_true, sevalprocAttr, dd_GD, k17, k102, h145, k159]
              rcases ite_or h with ⟨k164, h⟩ | ⟨k164, h⟩
              · simp -implicitDefEqProofs only [vt, ↓atI_fold, forall_const, implies_true, sevalprocAttr, dd_GD, k17, k102, h145, k159, k164]
                rcases ite_or h with ⟨k165, h⟩ | ⟨k165, h⟩
                · simp -implicitDefEqProofs only [vt, ↓atI_fold, forall_const, implies_true, sevalprocAttr, dd_GD, k17, k102, h145, k159, k164, k165]
                  rcases ite_or h with ⟨k166, h⟩ | ⟨k166, h⟩
                  · simp -implicitDefEqProofs only [vt, ↓atI_fold, forall_const, implies_true, sevalprocAttr, dd_GD, k17, k102, h145, k159, k164, k165, k166]
                    subst hK158
                    obtain rfl := Option.some.inj h
                    exact eb_nil ⟨rfl, Wk.of (fun i => some i) _ _ _ (by simp -implicitDefEqProofs [kv, dd_GD, k17, k102, k159, k164, k165, k166]) (by simp -implicitDefEqProofs [kv, dd_GD, k17, k102, k159, k164, k165, k166])⟩
                  · simp -implicitDefEqProofs only [vt, ↓atI_fold, forall_const, implies_true, sevalprocAttr, dd_GD, k17, k102, h145, k159, k164, k165, k166]
                    subst hK158
                    obtain rfl := Option.some.inj h
                    exact eb_nil ⟨rfl, Wk.of (fun i => some i) _ _ _ (by simp -implicitDefEqProofs [kv, dd_GD, k17, k102, k159, k164, k165, k166]) (by simp -implicitDefEqProofs [kv, dd_GD, k17, k102, k159, k164, k165, k166])⟩
                · simp -implicitDefEqProofs only [vt, ↓atI_fold, forall_const, implies_true, sevalprocAttr, dd_GD, k17, k102, h145, k159, k164, k165]
                  rcases ite_or h with ⟨k167, h⟩ | ⟨k167, h⟩
                  · simp -implicitDefEqProofs only [vt, ↓atI_fold, forall_const, implies_true, sevalprocAttr, dd_GD, k17, k102, h145, k159, k164, k165, k167]
                    rcases ite_or h with ⟨k168, h⟩ | ⟨k168, h⟩
                    · simp -implicitDefEqProofs only [vt, ↓atI_fold, forall_const, implies_true, sevalprocAttr, dd_GD, k17, k102, h145, k159, k164, k165, k167, k168]
                      subst hK158
                      obtain rfl := Option.some.inj h
                      exact eb_nil ⟨rfl, Wk.of (fun i => some i) _ _ _ (by simp -implicitDefEqProofs [kv, dd_GD, k17, k102, k159, k164, k165, k167, k168]) (by simp -implicitDefEqProofs [kv, dd_GD, k17, k102, k159, k164, k165, k167, k168])⟩
                    · simp -implicitDefEqProofs only [vt, ↓atI_fold, forall_const, implies_true, sevalprocAttr, dd_GD, k17, k102, h145, k159, k164, k165, k167, k168]
                      subst hK158
                      obtain rfl := Option.some.inj h
                      exact eb_nil ⟨rfl, Wk.of (fun i => some i) _ _ _ (by simp -implicitDefEqProofs [kv, dd_GD, k17, k102, k159, k164, k165, k167, k168]) (by simp -implicitDefEqProofs [kv, dd_GD, k17, k102, k159, k164, k165, k167, k168])⟩
                  · simp -implicitDefEqProofs only [vt, ↓atI_fold, forall_const, implies_true, sevalprocAttr, dd_GD, k17, k102, h145, k159, k164, k165, k167]
                    subst hK158
                    obtain rfl := Option.some.inj h
                    exact eb_nil ⟨rfl, Wk.of (fun i => some i) _ _ _ (by simp -implicitDefEqProofs [kv, dd_GD, k17, k102, k159, k164, k165, k167]) (by simp -implicitDefEqProofs [kv, dd_GD, k17, k102, k159, k164, k165, k167])⟩
              · simp -implicitDefEqProofs only [vt, ↓atI_fold, forall_const, implies_true, sevalprocAttr, dd_GD, k17, k102, h145, k159, k164]
                subst hK158
                obtain rfl := Option.some.inj h
                exact eb_nil ⟨rfl, Wk.of (fun i => some i) _ _ _ (by simp -implicitDefEqProofs [kv, dd_GD, k17, k102, k159, k164]) (by simp -implicitDefEqProofs [kv, dd_GD, k17, k102, k159, k164])⟩
          · rcases ite_or h with ⟨k170, h⟩ | ⟨k170, h⟩
            · refine rb_true (by first | exact congrArg D.bool k170 | rfl) ?_
              refine rb_seq ?_
              refine rb_regionK fun K172 hK172 => ?_
              simp -implicitDefEqProofs only [vt, ↓atI_fold, forall_const, implies_true, sevalprocAttr, dd_GD, k17, k102, h145, k170]
              subst hK172
              refine eb_seq ?_
              refine rb_ret ?_
              refine eb_blk_r ?_
              refine eb_seq_r ?_
              obtain rfl := Option.some.inj h
              exact eb_nil ⟨rfl, Wk.of (fun i => some i) _ _ _ (by simp -implicitDefEqProofs [kv, dd_GD, k17, k102, k170]) (by simp -implicitDefEqProofs [kv, dd_GD, k17, k102, k170])⟩
            · refine rb_false (by first | exact congrArg D.bool k170 | rfl) ?_
              refine rb_skip ?_
              refine eb_blk_n ?_
              refine eb_seq ?_
              refine rb_regionK fun K173 hK173 => ?_
              simp -implicitDefEqProofs only [vt, ↓atI_fold, forall_const, implies_true, sevalprocAttr, dd_GD, k17, k102, h145, k170]
              subst hK173
              obtain rfl := Option.some.inj h
              exact eb_nil ⟨rfl, Wk.of (fun i => some i) _ _ _ (by simp -implicitDefEqProofs [kv, dd_GD, k17, k102, k170]) (by simp -implicitDefEqProofs [kv, dd_GD, k17, k102, k170])⟩
        · refine rb_false (by first | exact congrArg D.bool k102 | rfl) ?_
          refine rb_exit ?_
          refine eb_seq_e ?_
          obtain rfl := Option.some.inj h
          exact eb_nil ⟨rfl, Wk.of (fun i => some i) _ _ _ (by simp -implicitDefEqProofs [kv, dd_GD, k17, k102]) (by simp -implicitDefEqProofs [kv, dd_GD, k17, k102])⟩
      · rcases e23 with e23 | e23
        · try dsimp only at h ⊢
          refine eb_blk_r ?_
          refine eb_seq_r ?_
          obtain rfl := Option.some.inj h
          refine eb_nil ?_
          simp -implicitDefEqProofs only [vt, ↓atI_fold, forall_const, implies_true, sevalprocAttr, retQ_r, Tryd.results51, dd_GD, k17] <;> first | rfl | (simp [List.map_append, dd_GD]; done)
        · try dsimp only at h ⊢
          refine eb_blk_hit ?_
          refine eb_seq ?_
          refine rb_seq ?_
          refine rb_regionK fun K176 hK176 => ?_
          simp -implicitDefEqProofs only [vt, ↓atI_fold, forall_const, implies_true, sevalprocAttr, dd_GD, k17]
          subst hK176
          refine eb_seq ?_
          refine rb_ret ?_
          obtain rfl := Option.some.inj h
          refine eb_nil ?_
          simp -implicitDefEqProofs only [vt, ↓atI_fold, forall_const, implies_true, sevalprocAttr, retQ_r, Tryd.results51, dd_GD, k17] <;> first | rfl | (simp [List.map_append, dd_GD]; done)
-- captionerref07.digit
def g_ref07_digit (c_0 : Int) : Option (Bool) :=
  (if (decide (48 ≤ c_0)) then (some (decide (c_0 ≤ 57))) else (some false))
theorem a_ref07_digit (I : World → Prop) (hI : Stab I) (c_0 : Int) {r : Bool} (h : g_ref07_digit c_0 = some r) : AFun Tryd.prog I 76 [.int .u8 c_0] (.bool r) := by
  refine AFun.enterB hI Tryd.func76 rfl (by decide) (by simp [Tryd.f76]) (by kernel_rfl) ?_
  unfold g_ref07_digit at h
  simp only [S0, Tryd.ntmps76, dd_GD]
  refine rb_seq ?_
  refine rb_regionK fun K2 hK2 => ?_
  simp -implicitDefEqProofs only [vt, ↓atI_fold, forall_const, implies_true, sevalprocAttr, dd_GD]
  subst hK2
  refine eb_seq ?_
  refine rb_seq ?_
  refine rb_regionK fun K5 hK5 => ?_
  simp -implicitDefEqProofs only [vt, ↓atI_fold, forall_const, implies_true, sevalprocAttr, dd_GD]
  rcases ite_or h with ⟨k6, h⟩ | ⟨k6, h⟩
  · simp -implicitDefEqProofs only [vt, ↓atI_fold, forall_const, implies_true, sevalprocAttr, dd_GD, k6]
    subst hK5
    refine eb_seq ?_
    refine rb_ret ?_
    obtain rfl := Option.some.inj h
    refine eb_nil ?_
    simp -implicitDefEqProofs only [vt, ↓atI_fold, forall_const, implies_true, sevalprocAttr, retQ_r, Tryd.results76, dd_GD, k6] <;> first | rfl | (simp [List.map_append, dd_GD]; done)
  · simp -implicitDefEqProofs only [vt, ↓atI_fold, forall_const, implies_true, sevalprocAttr, dd_GD, k6]
    subst hK5
    refine eb_seq ?_
    refine rb_ret ?_
    obtain rfl := Option.some.inj h
    refine eb_nil ?_
    simp -implicitDefEqProofs only [vt, ↓atI_fold, forall_const, implies_true, sevalprocAttr, retQ_r, Tryd.results76, dd_GD, k6] <;> first | rfl | (simp [List.map_append, dd_GD]; done)
-- captionerref07.Name
def g_ref07_Name_s1 (s_0 : List UInt8) (x14 : Int) : Option (Nx (Int) (Unit ⊕ Unit)) :=
  (if (decide (x14 < (s_0.length : Int))) then ((((((atI s_0 x14).bind fun b133 => (if (decide (65 ≤ (b133.toNat : Int))) then (some (decide ((b133.toNat : Int) ≤ 90))) else (some false))) : Option (Bool)).bind fun v131 => (if v131 then (some (.go ())) else (if (x14 == 0) then (some (.out ())) else ((atI s_0 x14).bind fun b151 => ((g_ref07_digit (b151.toNat : Int)).bind fun r153 => (if r153 then (some (.go ())) else (if ((b151.toNat : Int) != 95) then (if ((b151.toNat : Int) != 45) then (some (.out ())) else (some (.go ()))) else (some (.go ()))))))))) : Option (Nx (Unit) (Unit))).bind fun w161 => match w161 with | .go v126 => (some (.go (IntKind.i64.wrap (x14 + 1)))) | .out e162 => (some (.out (.inl ())))) else (some (.out (.inr ()))))
def g_ref07_Name (s_0 : List UInt8) : Option (Bool) :=
  (((if (decide ((s_0.length : Int) < 1)) then (some true) else (some (decide (16 < (s_0.length : Int))))) : Option (Bool)).bind fun v5 => (if v5 then (some false) else ((iter (g_ref07_Name_s1 s_0) 0).bind fun e15 => (match e15 with | Sum.inl e15 => (some false) | Sum.inr (e15) => (some true)))))
theorem a_ref07_Name (I : World → Prop) (hI : Stab I) (s_0 : List UInt8) {r : Bool} (h : g_ref07_Name s_0 = some r) : AFun Tryd.prog I 52 [.str s_0] (.bool r) := by
  refine AFun.enterB hI Tryd.func52 rfl (by decide) (by simp [Tryd.f52]) (by kernel_rfl) ?_
  unfold g_ref07_Name at h
  simp only [S0, Tryd.ntmps52, dd_GD]
  refine rb_seq ?_
  refine rb_regionK fun K2 hK2 => ?_
  simp -implicitDefEqProofs only [vt, ↓atI_fold, forall_const, implies_true, sevalprocAttr, dd_GD]
  subst hK2
  refine eb_seq ?_
  refine rb_seq ?_
  obtain ⟨v5, h8, h⟩ := bind_some h
  refine rb_cut (fun v5 => ⟨envL [(0, .str s_0), (12, .bool v5)], heapL [], 0, 54⟩) h8 ?_ ?_
  · clear h
    intro v5 h
    refine rb_regionK fun K6 hK6 => ?_
    simp -implicitDefEqProofs only [vt, ↓atI_fold, forall_const, implies_true, sevalprocAttr, dd_GD]
    rcases ite_or h with ⟨k7, h⟩ | ⟨k7, h⟩
    · simp -implicitDefEqProofs only [vt, ↓atI_fold, forall_const, implies_true, sevalprocAttr, dd_GD, k7]
      subst hK6
      obtain rfl := Option.some.inj h
      exact eb_nil ⟨rfl, Wk.of (fun i => some i) _ _ _ (by simp -implicitDefEqProofs [kv, dd_GD, k7]) (by simp -implicitDefEqProofs [kv, dd_GD, k7])⟩
    · simp -implicitDefEqProofs only [vt, ↓atI_fold, forall_const, implies_true, sevalprocAttr, dd_GD, k7]
      subst hK6
      obtain rfl := Option.some.inj h
      exact eb_nil ⟨rfl, Wk.of (fun i => some i) _ _ _ (by simp -implicitDefEqProofs [kv, dd_GD, k7]) (by simp -implicitDefEqProofs [kv, dd_GD, k7])⟩
  · rcases ite_or h with ⟨k9, h⟩ | ⟨k9, h⟩
    · refine rb_true (by first | exact congrArg D.bool k9 | rfl) ?_
      refine rb_seq ?_
      refine rb_regionK fun K11 hK11 => ?_
      simp -implicitDefEqProofs only [vt, ↓atI_fold, forall_const, implies_true, sevalprocAttr, dd_GD, k9]
      subst hK11
      refine eb_seq ?_
      refine rb_ret ?_
      refine eb_seq_r ?_
      obtain rfl := Option.some.inj h
      refine eb_nil ?_
      simp -implicitDefEqProofs only [vt, ↓atI_fold, forall_const, implies_true, sevalprocAttr, retQ_r, Tryd.results52, dd_GD, k9] <;> first | rfl | (simp [List.map_append, dd_GD]; done)
    · refine rb_false (by first | exact congrArg D.bool k9 | rfl) ?_
      refine rb_skip ?_
      refine eb_seq ?_
      refine rb_seq ?_
      refine rb_seq ?_
      refine rb_regionK fun K13 hK13 => ?_
      simp -implicitDefEqProofs only [vt, ↓atI_fold, forall_const, implies_true, sevalprocAttr, dd_GD, k9]
      subst hK13
      refine eb_seq ?_
      refine rb_block ?_
      obtain ⟨e15, h164, h⟩ := bind_some h
      refine rb_loop (fun x14 => ⟨envL [(0, .str s_0), (3, .int .i64 x14)], heapL [], 0, 54⟩) (fun w => match w with | Sum.inl _ => .ret | Sum.inr (_) => .exit 0) (fun w => match w with | Sum.inl e15 => ⟨envL [(2, .bool false)], heapL [], 0, 54⟩ | Sum.inr (e15) => ⟨envL [], heapL [], 0, 54⟩) h164 (Wk.of (fun i => some i) _ _ _ (by simp -implicitDefEqProofs [kv, dd_GD, k9]) (by simp -implicitDefEqProofs [kv, dd_GD, k9])) (by intro w; rcases w with w | w <;> simp) ?_ ?_
      · clear h
        intro x14 y h
        unfold g_ref07_Name_s1 at h
        refine rb_seq ?_
        refine rb_seq ?_
        refine rb_regionK fun K91 hK91 => ?_
        simp -implicitDefEqProofs only [vt, ↓atI_fold, forall_const, implies_true, sevalprocAttr, dd_GD, k9]
        subst hK91
        refine eb_seq ?_
        rcases ite_or h with ⟨k92, h⟩ | ⟨k92, h⟩
        · refine rb_true (by first | exact congrArg D.bool k92 | rfl) ?_
          refine rb_skip ?_
          refine eb_seq ?_
          obtain ⟨w161, h160, h⟩ := bind_some h
          refine rb_seg (fun v126 => ⟨envL [(0, .str s_0), (3, .int .i64 x14)], heapL [], 0, 54⟩) (fun _ => .ret) (fun e162 => ⟨envL [(2, .bool false)], heapL [], 0, 54⟩) h160 (by intro w; simp) ?_ ?_ ?_
          · clear h
            intro w161 h
            refine rb_block ?_
            obtain ⟨v131, h136, h⟩ := bind_some h
            refine rb_cut (fun v131 => ⟨envL [(0, .str s_0), (3, .int .i64 x14), (4, .bool v131)], heapL [], 0, 54⟩) h136 ?_ ?_
            · clear h
              intro v131 h
              refine rb_regionK fun K132 hK132 => ?_
              simp -implicitDefEqProofs only [vt, ↓atI_fold, forall_const, implies_true, sevalprocAttr, dd_GD, k9, k92]
              obtain ⟨b133, h134, h⟩ := bind_some h
              simp -implicitDefEqProofs only [vt, ↓atI_fold, forall_const, implies_true, sevalprocAttr, dd_GD, k9, k92, h134]
              rcases ite_or h with ⟨k135, h⟩ | ⟨k135, h⟩
              · simp -implicitDefEqProofs only [vt, ↓atI_fold, forall_const, implies_true, sevalprocAttr, dd_GD, k9, k92, h134, k135]
                subst hK132
                obtain rfl := Option.some.inj h
                exact eb_nil ⟨rfl, Wk.of (fun i => some i) _ _ _ (by simp -implicitDefEqProofs [kv, dd_GD, k9, k92, k135]) (by simp -implicitDefEqProofs [kv, dd_GD, k9, k92, k135])⟩
              · simp -implicitDefEqProofs only [vt, ↓atI_fold, forall_const, implies_true, sevalprocAttr, dd_GD, k9, k92, h134, k135]
                subst hK132
                obtain rfl := Option.some.inj h
                exact eb_nil ⟨rfl, Wk.of (fun i => some i) _ _ _ (by simp -implicitDefEqProofs [kv, dd_GD, k9, k92, k135]) (by simp -implicitDefEqProofs [kv, dd_GD, k9, k92, k135])⟩
            · refine rb_seq ?_
              refine rb_regionK fun K146 hK146 => ?_
              simp -implicitDefEqProofs only [vt, ↓atI_fold, forall_const, implies_true, sevalprocAttr, dd_GD, k9, k92]
              rcases ite_or h with ⟨k147, h⟩ | ⟨k147, h⟩
              · simp -implicitDefEqProofs only [vt, ↓atI_fold, forall_const, implies_true, sevalprocAttr, dd_GD, k9, k92, k147]
                subst hK146
                refine eb_seq ?_
                refine rb_false (rfl) ?_
                refine rb_skip ?_
                refine eb_blk_n ?_
                obtain rfl := Option.some.inj h
                exact eb_nil ⟨rfl, Wk.of (fun i => some i) _ _ _ (by simp -implicitDefEqProofs [kv, dd_GD, k9, k92, k147]) (by simp -implicitDefEqProofs [kv, dd_GD, k9, k92, k147])⟩
              · simp -implicitDefEqProofs only [vt, ↓atI_fold, forall_const, implies_true, sevalprocAttr, dd_GD, k9, k92, k147]
                rcases ite_or h with ⟨k148, h⟩ | ⟨k148, h⟩
                · simp -implicitDefEqProofs only [vt, ↓atI_fold, forall_const, implies_true, sevalprocAttr, dd_GD, k9, k92, k147, k148]
                  subst hK146
                  refine eb_seq ?_
                  refine rb_true (rfl) ?_
                  refine rb_seq ?_
                  refine rb_regionK fun K150 hK150 => ?_
                  simp -implicitDefEqProofs only [vt, ↓atI_fold, forall_const, implies_true, sevalprocAttr, dd_GD, k9, k92, k147, k148]
                  subst hK150
                  refine eb_seq ?_
                  refine rb_ret ?_
                  refine eb_blk_r ?_
                  obtain rfl := Option.some.inj h
                  exact eb_nil ⟨rfl, Wk.of (fun i => some i) _ _ _ (by simp -implicitDefEqProofs [kv, dd_GD, k9, k92, k147, k148]) (by simp -implicitDefEqProofs [kv, dd_GD, k9, k92, k147, k148])⟩
                · simp -implicitDefEqProofs only [vt, ↓atI_fold, forall_const, implies_true, sevalprocAttr, dd_GD, k9, k92, k147, k148]
                  obtain ⟨b151, h152, h⟩ := bind_some h
                  simp -implicitDefEqProofs only [vt, ↓atI_fold, forall_const, implies_true, sevalprocAttr, dd_GD, k9, k92, k147, k148, h152]
                  obtain ⟨r153, h154, h⟩ := bind_some h
                  refine cW.intro (a_ref07_digit I hI (b151.toNat : Int) h154) (by first | rfl | (simp [List.map_append, dd_GD]; done)) ?_
                  simp -implicitDefEqProofs only [vt, ↓atI_fold, forall_const, implies_true, sevalprocAttr, dd_GD, k9, k92, k147, k148, h152]
                  rcases ite_or h with ⟨k155, h⟩ | ⟨k155, h⟩
                  · simp -implicitDefEqProofs only [vt, ↓atI_fold, forall_const, implies_true, sevalprocAttr, dd_GD, k9, k92, k147, k148, h152, k155]
                    subst hK146
                    refine eb_seq ?_
                    refine rb_false (rfl) ?_
                    refine rb_skip ?_
                    refine eb_blk_n ?_
                    obtain rfl := Option.some.inj h
                    exact eb_nil ⟨rfl, Wk.of (fun i => some i) _ _ _ (by simp -implicitDefEqProofs [kv, dd_GD, k9, k92, k147, k148, k155]) (by simp -implicitDefEqProofs [kv, dd_GD, k9, k92, k147, k148, k155])⟩
                  · simp -implicitDefEqProofs only [vt, ↓atI_fold, forall_const, implies_true, sevalprocAttr, dd_GD, k9, k92, k147, k148, h152, k155]
                    rcases ite_or h with ⟨k156, h⟩ | ⟨k156, h⟩
                    · simp -implicitDefEqProofs only [vt, ↓atI_fold, forall_const, implies_true, sevalprocAttr, dd_GD, k9, k92, k147, k148, h152, k155, k156]
                      subst hK146
                      refine eb_seq ?_
                      rcases ite_or h with ⟨k157, h⟩ | ⟨k157, h⟩
                      · refine rb_true (by first | exact congrArg D.bool k157 | rfl) ?_
                        refine rb_seq ?_
                        refine rb_regionK fun K159 hK159 => ?_
                        simp -implicitDefEqProofs only [vt, ↓atI_fold, forall_const, implies_true, sevalprocAttr, dd_GD, k9, k92, k147, k148, h152, k155, k156, k157]
                        subst hK159
                        refine eb_seq ?_
                        refine rb_ret ?_
                        refine eb_blk_r ?_
                        obtain rfl := Option.some.inj h
                        exact eb_nil ⟨rfl, Wk.of (fun i => some i) _ _ _ (by simp -implicitDefEqProofs [kv, dd_GD, k9, k92, k147, k148, k155, k156, k157]) (by simp -implicitDefEqProofs [kv, dd_GD, k9, k92, k147, k148, k155, k156, k157])⟩
                      · refine rb_false (by first | exact congrArg D.bool k157 | rfl) ?_
                        refine rb_skip ?_
                        refine eb_blk_n ?_
                        obtain rfl := Option.some.inj h
                        exact eb_nil ⟨rfl, Wk.of (fun i => some i) _ _ _ (by simp -implicitDefEqProofs [kv, dd_GD, k9, k92, k147, k148, k155, k156, k157]) (by simp -implicitDefEqProofs [kv, dd_GD, k9, k92, k147, k148, k155, k156, k157])⟩
                    · simp -implicitDefEqProofs only [vt, ↓atI_fold, forall_const, implies_true, sevalprocAttr, dd_GD, k9, k92, k147, k148, h152, k155, k156]
                      subst hK146
                      refine eb_seq ?_
                      refine rb_false (rfl) ?_
                      refine rb_skip ?_
                      refine eb_blk_n ?_
                      obtain rfl := Option.some.inj h
                      exact eb_nil ⟨rfl, Wk.of (fun i => some i) _ _ _ (by simp -implicitDefEqProofs [kv, dd_GD, k9, k92, k147, k148, k155, k156]) (by simp -implicitDefEqProofs [kv, dd_GD, k9, k92, k147, k148, k155, k156])⟩
          · rintro v126 rfl
            dsimp only at h
            refine rb_regionK fun K163 hK163 => ?_
            simp -implicitDefEqProofs only [vt, ↓atI_fold, forall_const, implies_true, sevalprocAttr, dd_GD, k9, k92]
            subst hK163
            obtain rfl := Option.some.inj h
            exact eb_nil ⟨rfl, Wk.of (fun i => some i) _ _ _ (by simp -implicitDefEqProofs [kv, dd_GD, k9, k92]) (by simp -implicitDefEqProofs [kv, dd_GD, k9, k92])⟩
          · rintro e162 rfl
            dsimp only at h
            obtain rfl := Option.some.inj h
            exact eb_nil ⟨rfl, Wk.of (fun i => some i) _ _ _ (by simp -implicitDefEqProofs [kv, dd_GD, k9, k92]) (by simp -implicitDefEqProofs [kv, dd_GD, k9, k92])⟩
        · refine rb_false (by first | exact congrArg D.bool k92 | rfl) ?_
          refine rb_exit ?_
          refine eb_seq_e ?_
          obtain rfl := Option.some.inj h
          exact eb_nil ⟨rfl, Wk.of (fun i => some i) _ _ _ (by simp -implicitDefEqProofs [kv, dd_GD, k9, k92]) (by simp -implicitDefEqProofs [kv, dd_GD, k9, k92])⟩
      · rcases e15 with e15 | e15
        · try dsimp only at h ⊢
          refine eb_blk_r ?_
          refine eb_seq_r ?_
          obtain rfl := Option.some.inj h
          refine eb_nil ?_
          simp -implicitDefEqProofs only [vt, ↓atI_fold, forall_const, implies_true, sevalprocAttr, retQ_r, Tryd.results52, dd_GD, k9] <;> first | rfl | (simp [List.map_append, dd_GD]; done)
        · try dsimp only at h ⊢
          refine eb_blk_hit ?_
          refine eb_seq ?_
          refine rb_seq ?_
          refine rb_regionK fun K166 hK166 => ?_
          simp -implicitDefEqProofs only [vt, ↓atI_fold, forall_const, implies_true, sevalprocAttr, dd_GD, k9]
          subst hK166
          refine eb_seq ?_
          refine rb_ret ?_
          obtain rfl := Option.some.inj h
          refine eb_nil ?_
          simp -implicitDefEqProofs only [vt, ↓atI_fold, forall_const, implies_true, sevalprocAttr, retQ_r, Tryd.results52, dd_GD, k9] <;> first | rfl | (simp [List.map_append, dd_GD]; done)
-- lines.isWord
def g_lines_isWord (b_0 : Int) : Option (Bool) :=
  (if (decide (32 < b_0)) then (if (decide (b_0 < 127)) then (some (b_0 != 34)) else (some false)) else (some false))
theorem a_lines_isWord (I : World → Prop) (hI : Stab I) (b_0 : Int) {r : Bool} (h : g_lines_isWord b_0 = some r) : AFun Tryd.prog I 101 [.int .u8 b_0] (.bool r) := by
  refine AFun.enterB hI Tryd.func101 rfl (by decide) (by simp [Tryd.f101]) (by kernel_rfl) ?_
  unfold g_lines_isWord at h
  simp only [S0, Tryd.ntmps101, dd_GD]
  refine rb_seq ?_
  refine rb_regionK fun K2 hK2 => ?_
  simp -implicitDefEqProofs only [vt, ↓atI_fold, forall_const, implies_true, sevalprocAttr, dd_GD]
  subst hK2
  refine eb_seq ?_
  refine rb_seq ?_
  refine rb_regionK fun K6 hK6 => ?_
  simp -implicitDefEqProofs only [vt, ↓atI_fold, forall_const, implies_true, sevalprocAttr, dd_GD]
  rcases ite_or h with ⟨k7, h⟩ | ⟨k7, h⟩
  · simp -implicitDefEqProofs only [vt, ↓atI_fold, forall_const, implies_true, sevalprocAttr, dd_GD, k7]
    rcases ite_or h with ⟨k8, h⟩ | ⟨k8, h⟩
    · simp -implicitDefEqProofs only [vt, ↓atI_fold, forall_const, implies_true, sevalprocAttr, dd_GD, k7, k8]
      subst hK6
      refine eb_seq ?_
      refine rb_ret ?_
      obtain rfl := Option.some.inj h
      refine eb_nil ?_
      simp -implicitDefEqProofs only [vt, ↓atI_fold, forall_const, implies_true, sevalprocAttr, retQ_r, Tryd.results101, dd_GD, k7, k8] <;> first | rfl | (simp [List.map_append, dd_GD]; done)
    · simp -implicitDefEqProofs only [vt, ↓atI_fold, forall_const, implies_true, sevalprocAttr, dd_GD, k7, k8]
      subst hK6
      refine eb_seq ?_
      refine rb_ret ?_
      obtain rfl := Option.some.inj h
      refine eb_nil ?_
      simp -implicitDefEqProofs only [vt, ↓atI_fold, forall_const, implies_true, sevalprocAttr, retQ_r, Tryd.results101, dd_GD, k7, k8] <;> first | rfl | (simp [List.map_append, dd_GD]; done)
  · simp -implicitDefEqProofs only [vt, ↓atI_fold, forall_const, implies_true, sevalprocAttr, dd_GD, k7]
    subst hK6
    refine eb_seq ?_
    refine rb_ret ?_
    obtain rfl := Option.some.inj h
    refine eb_nil ?_
    simp -implicitDefEqProofs only [vt, ↓atI_fold, forall_const, implies_true, sevalprocAttr, retQ_r, Tryd.results101, dd_GD, k7] <;> first | rfl | (simp [List.map_append, dd_GD]; done)
-- lines.word
def g_lines_word_s1 (s_0 : List UInt8) (x5 : Int) : Option (Nx (Int) ((Int × Int) ⊕ Unit)) :=
  (if (decide (x5 < (s_0.length : Int))) then ((atI s_0 x5).bind fun b100 => (if ((b100.toNat : Int) == 32) then (some (.out (.inl (x5, -1)))) else ((((g_lines_isWord (b100.toNat : Int)).bind fun r112 => (if r112 then (if (x5 == 0) then (some ((b100.toNat : Int) == 35)) else (some false)) else (some true))) : Option (Bool)).bind fun v110 => (if v110 then (some (.out (.inl (0, x5)))) else (some (.go (IntKind.i64.wrap (x5 + 1)))))))) else (some (.out (.inr ()))))
def g_lines_word (s_0 : List UInt8) : Option (Int × Int) :=
  ((iter (g_lines_word_s1 s_0) 0).bind fun e6 => (match e6 with | Sum.inl e6 => (some (e6.1, e6.2)) | Sum.inr (e6) => (some ((s_0.length : Int), -1))))
theorem a_lines_word (I : World → Prop) (hI : Stab I) (s_0 : List UInt8) {r : Int × Int} (h : g_lines_word s_0 = some r) : AFun Tryd.prog I 88 [.str s_0] (.tup [.int .i64 r.1, .int .i64 r.2]) := by
  refine AFun.enterB hI Tryd.func88 rfl (by decide) (by simp [Tryd.f88]) (by kernel_rfl) ?_
  unfold g_lines_word at h
  simp only [S0, Tryd.ntmps88, dd_GD]
  refine rb_seq ?_
  refine rb_regionK fun K2 hK2 => ?_
  simp -implicitDefEqProofs only [vt, ↓atI_fold, forall_const, implies_true, sevalprocAttr, dd_GD]
  subst hK2
  refine eb_seq ?_
  refine rb_seq ?_
  refine rb_seq ?_
  refine rb_regionK fun K4 hK4 => ?_
  simp -implicitDefEqProofs only [vt, ↓atI_fold, forall_const, implies_true, sevalprocAttr, dd_GD]
  subst hK4
  refine eb_seq ?_
  refine rb_block ?_
  obtain ⟨e6, h121, h⟩ := bind_some h
  refine rb_loop (fun x5 => ⟨envL [(0, .str s_0), (6, .int .i64 (s_0.length : Int)), (7, .int .i64 x5)], heapL [], 0, 34⟩) (fun w => match w with | Sum.inl _ => .ret | Sum.inr (_) => .exit 0) (fun w => match w with | Sum.inl e6 => ⟨envL [(2, .int .i64 e6.1), (3, .int .i64 e6.2)], heapL [], 0, 34⟩ | Sum.inr (e6) => ⟨envL [(0, .str s_0)], heapL [], 0, 34⟩) h121 (Wk.of (fun i => some i) _ _ _ (by simp -implicitDefEqProofs [kv, dd_GD]) (by simp -implicitDefEqProofs [kv, dd_GD])) (by intro w; rcases w with w | w <;> simp) ?_ ?_
  · clear h
    intro x5 y h
    unfold g_lines_word_s1 at h
    refine rb_seq ?_
    refine rb_regionK fun K65 hK65 => ?_
    simp -implicitDefEqProofs only [vt, ↓atI_fold, forall_const, implies_true, sevalprocAttr, dd_GD]
    subst hK65
    refine eb_seq ?_
    refine rb_seq ?_
    rcases ite_or h with ⟨k67, h⟩ | ⟨k67, h⟩
    · refine rb_true (by first | exact congrArg D.bool k67 | rfl) ?_
      refine rb_skip ?_
      refine eb_seq ?_
      refine rb_seq ?_
      refine rb_block ?_
      refine rb_seq ?_
      refine rb_regionK fun K95 hK95 => ?_
      simp -implicitDefEqProofs only [vt, ↓atI_fold, forall_const, implies_true, sevalprocAttr, dd_GD, k67]
      subst hK95
      refine eb_seq ?_
      refine rb_seq ?_
      refine rb_seq ?_
      refine rb_regionK fun K99 hK99 => ?_
      simp -implicitDefEqProofs only [vt, ↓atI_fold, forall_const, implies_true, sevalprocAttr, dd_GD, k67]
      obtain ⟨b100, h101, h⟩ := bind_some h
      simp -implicitDefEqProofs only [vt, ↓atI_fold, forall_const, implies_true, sevalprocAttr, dd_GD, k67, h101]
      subst hK99
      refine eb_seq ?_
      rcases ite_or h with ⟨k102, h⟩ | ⟨k102, h⟩
      · refine rb_true (by first | exact congrArg D.bool k102 | rfl) ?_
        refine rb_seq ?_
        refine rb_regionK fun K104 hK104 => ?_
        simp -implicitDefEqProofs only [vt, ↓atI_fold, forall_const, implies_true, sevalprocAttr, dd_GD, k67, h101, k102]
        subst hK104
        refine eb_seq ?_
        refine rb_ret ?_
        refine eb_seq_r ?_
        refine eb_blk_r ?_
        refine eb_seq_r ?_
        obtain rfl := Option.some.inj h
        exact eb_nil ⟨rfl, Wk.of (fun i => some i) _ _ _ (by simp -implicitDefEqProofs [kv, dd_GD, k67, k102]) (by simp -implicitDefEqProofs [kv, dd_GD, k67, k102])⟩
      · refine rb_false (by first | exact congrArg D.bool k102 | rfl) ?_
        refine rb_skip ?_
        refine eb_seq ?_
        obtain ⟨v110, h116, h⟩ := bind_some h
        refine rb_cut (fun v110 => ⟨envL [(0, .str s_0), (4, .int .i64 x5), (6, .int .i64 (s_0.length : Int)), (7, .int .i64 x5), (29, .bool v110)], heapL [], 0, 34⟩) h116 ?_ ?_
        · clear h
          intro v110 h
          refine rb_regionK fun K111 hK111 => ?_
          simp -implicitDefEqProofs only [vt, ↓atI_fold, forall_const, implies_true, sevalprocAttr, dd_GD, k67, h101, k102]
          obtain ⟨r112, h113, h⟩ := bind_some h
          refine cW.intro (a_lines_isWord I hI (b100.toNat : Int) h113) (by first | rfl | (simp [List.map_append, dd_GD]; done)) ?_
          simp -implicitDefEqProofs only [vt, ↓atI_fold, forall_const, implies_true, sevalprocAttr, dd_GD, k67, h101, k102]
          rcases ite_or h with ⟨k114, h⟩ | ⟨k114, h⟩
          · simp -implicitDefEqProofs only [vt, ↓atI_fold, forall_const, implies_true, sevalprocAttr, dd_GD, k67, h101, k102, k114]
            rcases ite_or h with ⟨k115, h⟩ | ⟨k115, h⟩
            · simp -implicitDefEqProofs only [vt, ↓atI_fold, forall_const, implies_true, sevalprocAttr, dd_GD, k67, h101, k102, k114, k115]
              subst hK111
              obtain rfl := Option.some.inj h
              exact eb_nil ⟨rfl, Wk.of (fun i => some i) _ _ _ (by simp -implicitDefEqProofs [kv, dd_GD, k67, k102, k114, k115]) (by simp -implicitDefEqProofs [kv, dd_GD, k67, k102, k114, k115])⟩
            · simp -implicitDefEqProofs only [vt, ↓atI_fold, forall_const, implies_true, sevalprocAttr, dd_GD, k67, h101, k102, k114, k115]
              subst hK111
              obtain rfl := Option.some.inj h
              exact eb_nil ⟨rfl, Wk.of (fun i => some i) _ _ _ (by simp -implicitDefEqProofs [kv, dd_GD, k67, k102, k114, k115]) (by simp -implicitDefEqProofs [kv, dd_GD, k67, k102, k114, k115])⟩
          · simp -implicitDefEqProofs only [vt, ↓atI_fold, forall_const, implies_true, sevalprocAttr, dd_GD, k67, h101, k102, k114]
            subst hK111
            obtain rfl := Option.some.inj h
            exact eb_nil ⟨rfl, Wk.of (fun i => some i) _ _ _ (by simp -implicitDefEqProofs [kv, dd_GD, k67, k102, k114]) (by simp -implicitDefEqProofs [kv, dd_GD, k67, k102, k114])⟩
        · rcases ite_or h with ⟨k117, h⟩ | ⟨k117, h⟩
          · refine rb_true (by first | exact congrArg D.bool k117 | rfl) ?_
            refine rb_seq ?_
            refine rb_regionK fun K119 hK119 => ?_
            simp -implicitDefEqProofs only [vt, ↓atI_fold, forall_const, implies_true, sevalprocAttr, dd_GD, k67, h101, k102, k117]
            subst hK119
            refine eb_seq ?_
            refine rb_ret ?_
            refine eb_blk_r ?_
            refine eb_seq_r ?_
            obtain rfl := Option.some.inj h
            exact eb_nil ⟨rfl, Wk.of (fun i => some i) _ _ _ (by simp -implicitDefEqProofs [kv, dd_GD, k67, k102, k117]) (by simp -implicitDefEqProofs [kv, dd_GD, k67, k102, k117])⟩
          · refine rb_false (by first | exact congrArg D.bool k117 | rfl) ?_
            refine rb_skip ?_
            refine eb_blk_n ?_
            refine eb_seq ?_
            refine rb_regionK fun K120 hK120 => ?_
            simp -implicitDefEqProofs only [vt, ↓atI_fold, forall_const, implies_true, sevalprocAttr, dd_GD, k67, h101, k102, k117]
            subst hK120
            obtain rfl := Option.some.inj h
            exact eb_nil ⟨rfl, Wk.of (fun i => some i) _ _ _ (by simp -implicitDefEqProofs [kv, dd_GD, k67, k102, k117]) (by simp -implicitDefEqProofs [kv, dd_GD, k67, k102, k117])⟩
    · refine rb_false (by first | exact congrArg D.bool k67 | rfl) ?_
      refine rb_exit ?_
      refine eb_seq_e ?_
      obtain rfl := Option.some.inj h
      exact eb_nil ⟨rfl, Wk.of (fun i => some i) _ _ _ (by simp -implicitDefEqProofs [kv, dd_GD, k67]) (by simp -implicitDefEqProofs [kv, dd_GD, k67])⟩
  · rcases e6 with e6 | e6
    · try dsimp only at h ⊢
      refine eb_blk_r ?_
      refine eb_seq_r ?_
      obtain rfl := Option.some.inj h
      refine eb_nil ?_
      simp -implicitDefEqProofs only [vt, ↓atI_fold, forall_const, implies_true, sevalprocAttr, retQ_r, Tryd.results88, dd_GD] <;> first | rfl | (simp [List.map_append, dd_GD]; done)
    · try dsimp only at h ⊢
      refine eb_blk_hit ?_
      refine eb_seq ?_
      refine rb_seq ?_
      refine rb_regionK fun K123 hK123 => ?_
      simp -implicitDefEqProofs only [vt, ↓atI_fold, forall_const, implies_true, sevalprocAttr, dd_GD]
      subst hK123
      refine eb_seq ?_
      refine rb_ret ?_
      obtain rfl := Option.some.inj h
      refine eb_nil ?_
      simp -implicitDefEqProofs only [vt, ↓atI_fold, forall_const, implies_true, sevalprocAttr, retQ_r, Tryd.results88, dd_GD] <;> first | rfl | (simp [List.map_append, dd_GD]; done)
-- lines.quoted
def g_lines_quoted_s1 (s_0 : List UInt8) (x7 : (List Int) × Int) : Option (Nx ((List Int) × Int) (((List UInt8) × Int × Int) ⊕ Unit)) :=
  (if (decide (x7.2 < (s_0.length : Int))) then ((atI s_0 x7.2).bind fun b367 => (if ((b367.toNat : Int) == 34) then (((if (decide ((IntKind.i64.wrap (x7.2 + 1)) < (s_0.length : Int))) then ((atI s_0 (IntKind.i64.wrap (x7.2 + 1))).bind fun b379 => (some ((b379.toNat : Int) != 32))) else (some false)) : Option (Bool)).bind fun v376 => (if v376 then (some (.out (.inl ([], 0, (IntKind.i64.wrap (x7.2 + 1)))))) else (some (.out (.inl ((bytesOf x7.1), (IntKind.i64.wrap (x7.2 + 1)), -1)))))) else (if ((b367.toNat : Int) == 92) then (((if ((IntKind.i64.wrap (x7.2 + 1)) == (s_0.length : Int)) then (some true) else ((atI s_0 (IntKind.i64.wrap (x7.2 + 1))).bind fun b399 => ((g_strings_IndexByte [34, 92, 110] (b399.toNat : Int)).bind fun r401 => (some (decide (r401 < 0)))))) : Option (Bool)).bind fun v396 => (if v396 then (some (.out (.inl ([], 0, x7.2)))) else ((atI s_0 (IntKind.i64.wrap (x7.2 + 1))).bind fun b413 => (if ((b413.toNat : Int) == 110) then (if (x7.1.length + 1) * 1 ≤ 140737488355328 then (some (.go ((x7.1 ++ [10]), (IntKind.i64.wrap ((IntKind.i64.wrap (x7.2 + 1)) + 1))))) else none) else (if (x7.1.length + 1) * 1 ≤ 140737488355328 then (some (.go ((x7.1 ++ [(b413.toNat : Int)]), (IntKind.i64.wrap ((IntKind.i64.wrap (x7.2 + 1)) + 1))))) else none))))) else (((if (decide ((b367.toNat : Int) < 32)) then (some true) else (some ((b367.toNat : Int) == 127))) : Option (Bool)).bind fun v428 => (if v428 then (some (.out (.inl ([], 0, x7.2)))) else (if (x7.1.length + 1) * 1 ≤ 140737488355328 then (some (.go ((x7.1 ++ [(b367.toNat : Int)]), (IntKind.i64.wrap (x7.2 + 1))))) else none)))))) else (some (.out (.inr ()))))
def g_lines_quoted (s_0 : List UInt8) : Option ((List UInt8) × Int × Int) :=
  ((iter (g_lines_quoted_s1 s_0) ([], 1)).bind fun e8 => (match e8 with | Sum.inl e8 => (some (e8.1, e8.2.1, e8.2.2)) | Sum.inr (e8) => (some ([], 0, (s_0.length : Int)))))
theorem a_lines_quoted (I : World → Prop) (hI : Stab I) (s_0 : List UInt8) {r : (List UInt8) × Int × Int} (h : g_lines_quoted s_0 = some r) : AFun Tryd.prog I 72 [.str s_0] (.tup [.str r.1, .int .i64 r.2.1, .int .i64 r.2.2]) := by
  refine AFun.enterB hI Tryd.func72 rfl (by decide) (by simp [Tryd.f72]) (by kernel_rfl) ?_
  unfold g_lines_quoted at h
  simp only [S0, Tryd.ntmps72, dd_GD]
  refine rb_seq ?_
  refine rb_regionK fun K2 hK2 => ?_
  simp -implicitDefEqProofs only [vt, ↓atI_fold, forall_const, implies_true, sevalprocAttr, dd_GD]
  subst hK2
  refine eb_seq ?_
  refine rb_seq ?_
  refine rb_regionK fun K4 hK4 => ?_
  simp -implicitDefEqProofs only [vt, ↓atI_fold, forall_const, implies_true, sevalprocAttr, dd_GD]
  subst hK4
  refine eb_seq ?_
  refine rb_seq ?_
  refine rb_seq ?_
  refine rb_regionK fun K6 hK6 => ?_
  simp -implicitDefEqProofs only [vt, ↓atI_fold, forall_const, implies_true, sevalprocAttr, dd_GD]
  subst hK6
  refine eb_seq ?_
  refine rb_block ?_
  obtain ⟨e8, h440, h⟩ := bind_some h
  refine rb_loop (fun x7 => ⟨envL [(0, .str s_0), (5, .own 0 x7.1.length), (6, .int .i64 x7.2)], heapL [(0, .vec 5 1 (x7.1.map (D.int .u8)) false)], 1, 84⟩) (fun w => match w with | Sum.inl _ => .ret | Sum.inr (_) => .exit 0) (fun w => match w with | Sum.inl e8 => ⟨envL [(2, .str e8.1), (3, .int .i64 e8.2.1), (4, .int .i64 e8.2.2)], heapL [], 0, 84⟩ | Sum.inr (e8) => ⟨envL [(0, .str s_0)], heapL [], 0, 84⟩) h440 (Wk.of (fun i => if i = 0 then none else some i) _ _ _ (by simp -implicitDefEqProofs [kv, dd_GD]) (by simp -implicitDefEqProofs [kv, dd_GD])) (by intro w; rcases w with w | w <;> simp) ?_ ?_
  · clear h
    intro x7 y h
    unfold g_lines_quoted_s1 at h
    refine rb_seq ?_
    refine rb_seq ?_
    refine rb_regionK fun K287 hK287 => ?_
    simp -implicitDefEqProofs only [vt, ↓atI_fold, forall_const, implies_true, sevalprocAttr, dd_GD]
    subst hK287
    refine eb_seq ?_
    rcases ite_or h with ⟨k288, h⟩ | ⟨k288, h⟩
    · refine rb_true (by first | exact congrArg D.bool k288 | rfl) ?_
      refine rb_skip ?_
      refine eb_seq ?_
      refine rb_seq ?_
      refine rb_block ?_
      refine rb_seq ?_
      refine rb_regionK fun K366 hK366 => ?_
      simp -implicitDefEqProofs only [vt, ↓atI_fold, forall_const, implies_true, sevalprocAttr, dd_GD, k288]
      obtain ⟨b367, h368, h⟩ := bind_some h
      simp -implicitDefEqProofs only [vt, ↓atI_fold, forall_const, implies_true, sevalprocAttr, dd_GD, k288, h368]
      subst hK366
      refine eb_seq ?_
      refine rb_block ?_
      refine rb_seq ?_
      refine rb_regionK fun K370 hK370 => ?_
      simp -implicitDefEqProofs only [vt, ↓atI_fold, forall_const, implies_true, sevalprocAttr, dd_GD, k288, h368]
      subst hK370
      refine eb_seq ?_
      rcases ite_or h with ⟨k371, h⟩ | ⟨k371, h⟩
      · refine rb_true (by first | exact congrArg D.bool k371 | rfl) ?_
        refine rb_seq ?_
        obtain ⟨v376, h381, h⟩ := bind_some h
        refine rb_cut (fun v376 => ⟨envL [(5, .own 0 x7.1.length), (6, .int .i64 x7.2), (35, .bool v376)], heapL [(0, .vec 5 1 (x7.1.map (D.int .u8)) false)], 1, 84⟩) h381 ?_ ?_
        · clear h
          intro v376 h
          refine rb_regionK fun K377 hK377 => ?_
          simp -implicitDefEqProofs only [vt, ↓atI_fold, forall_const, implies_true, sevalprocAttr, dd_GD, k288, h368, k371]
          rcases ite_or h with ⟨k378, h⟩ | ⟨k378, h⟩
          · simp -implicitDefEqProofs only [vt, ↓atI_fold, forall_const, implies_true, sevalprocAttr, dd_GD, k288, h368, k371, k378]
            obtain ⟨b379, h380, h⟩ := bind_some h
            simp -implicitDefEqProofs only [vt, ↓atI_fold, forall_const, implies_true, sevalprocAttr, dd_GD, k288, h368, k371, k378, h380]
            subst hK377
            obtain rfl := Option.some.inj h
            exact eb_nil ⟨rfl, Wk.of (fun i => if i = 0 then some 0 else some i) _ _ _ (by simp -implicitDefEqProofs [kv, dd_GD, k288, k371, k378]) (by simp -implicitDefEqProofs [kv, dd_GD, k288, k371, k378])⟩
          · simp -implicitDefEqProofs only [vt, ↓atI_fold, forall_const, implies_true, sevalprocAttr, dd_GD, k288, h368, k371, k378]
            subst hK377
            obtain rfl := Option.some.inj h
            exact eb_nil ⟨rfl, Wk.of (fun i => if i = 0 then some 0 else some i) _ _ _ (by simp -implicitDefEqProofs [kv, dd_GD, k288, k371, k378]) (by simp -implicitDefEqProofs [kv, dd_GD, k288, k371, k378])⟩
        · rcases ite_or h with ⟨k382, h⟩ | ⟨k382, h⟩
          · refine rb_true (by first | exact congrArg D.bool k382 | rfl) ?_
            refine rb_seq ?_
            refine rb_regionK fun K384 hK384 => ?_
            simp -implicitDefEqProofs only [vt, ↓atI_fold, forall_const, implies_true, sevalprocAttr, dd_GD, k288, h368, k371, k382]
            subst hK384
            refine eb_seq ?_
            refine rb_ret ?_
            refine eb_seq_r ?_
            refine eb_blk_r ?_
            refine eb_blk_r ?_
            refine eb_seq_r ?_
            obtain rfl := Option.some.inj h
            exact eb_nil ⟨rfl, Wk.of (fun i => some i) _ _ _ (by simp -implicitDefEqProofs [kv, dd_GD, k288, k371, k382]) (by simp -implicitDefEqProofs [kv, dd_GD, k288, k371, k382])⟩
          · refine rb_false (by first | exact congrArg D.bool k382 | rfl) ?_
            refine rb_skip ?_
            refine eb_seq ?_
            refine rb_seq ?_
            refine rb_regionK fun K386 hK386 => ?_
            simp -implicitDefEqProofs only [vt, ↓atI_fold, forall_const, implies_true, sevalprocAttr, dd_GD, k288, h368, k371, k382]
            subst hK386
            refine eb_seq ?_
            refine rb_ret ?_
            refine eb_blk_r ?_
            refine eb_blk_r ?_
            refine eb_seq_r ?_
            obtain rfl := Option.some.inj h
            exact eb_nil ⟨rfl, Wk.of (fun i => some i) _ _ _ (by simp -implicitDefEqProofs [kv, dd_GD, k288, k371, k382]) (by simp -implicitDefEqProofs [kv, dd_GD, k288, k371, k382])⟩
      · refine rb_false (by first | exact congrArg D.bool k371 | rfl) ?_
        refine rb_seq ?_
        refine rb_regionK fun K388 hK388 => ?_
        simp -implicitDefEqProofs only [vt, ↓atI_fold, forall_const, implies_true, sevalprocAttr, dd_GD, k288, h368, k371]
        subst hK388
        refine eb_seq ?_
        rcases ite_or h with ⟨k389, h⟩ | ⟨k389, h⟩
        · refine rb_true (by first | exact congrArg D.bool k389 | rfl) ?_
          refine rb_seq ?_
          obtain ⟨v396, h403, h⟩ := bind_some h
          refine rb_cut (fun v396 => ⟨envL [(0, .str s_0), (5, .own 0 x7.1.length), (6, .int .i64 x7.2), (57, .bool v396)], heapL [(0, .vec 5 1 (x7.1.map (D.int .u8)) false)], 1, 84⟩) h403 ?_ ?_
          · clear h
            intro v396 h
            refine rb_regionK fun K397 hK397 => ?_
            simp -implicitDefEqProofs only [vt, ↓atI_fold, forall_const, implies_true, sevalprocAttr, dd_GD, k288, h368, k371, k389]
            rcases ite_or h with ⟨k398, h⟩ | ⟨k398, h⟩
            · simp -implicitDefEqProofs only [vt, ↓atI_fold, forall_const, implies_true, sevalprocAttr, dd_GD, k288, h368, k371, k389, k398]
              subst hK397
              obtain rfl := Option.some.inj h
              exact eb_nil ⟨rfl, Wk.of (fun i => if i = 0 then some 0 else some i) _ _ _ (by simp -implicitDefEqProofs [kv, dd_GD, k288, k371, k389, k398]) (by simp -implicitDefEqProofs [kv, dd_GD, k288, k371, k389, k398])⟩
            · simp -implicitDefEqProofs only [vt, ↓atI_fold, forall_const, implies_true, sevalprocAttr, dd_GD, k288, h368, k371, k389, k398]
              obtain ⟨b399, h400, h⟩ := bind_some h
              simp -implicitDefEqProofs only [vt, ↓atI_fold, forall_const, implies_true, sevalprocAttr, dd_GD, k288, h368, k371, k389, k398, h400]
              obtain ⟨r401, h402, h⟩ := bind_some h
              refine cW.intro (a_strings_IndexByte I hI [34, 92, 110] (b399.toNat : Int) h402) (by first | rfl | (simp [List.map_append, dd_GD]; done)) ?_
              simp -implicitDefEqProofs only [vt, ↓atI_fold, forall_const, implies_true, sevalprocAttr, dd_GD, k288, h368, k371, k389, k398, h400]
              subst hK397
              obtain rfl := Option.some.inj h
              exact eb_nil ⟨rfl, Wk.of (fun i => if i = 0 then some 0 else some i) _ _ _ (by simp -implicitDefEqProofs [kv, dd_GD, k288, k371, k389, k398]) (by simp -implicitDefEqProofs [kv, dd_GD, k288, k371, k389, k398])⟩
          · rcases ite_or h with ⟨k404, h⟩ | ⟨k404, h⟩
            · refine rb_true (by first | exact congrArg D.bool k404 | rfl) ?_
              refine rb_seq ?_
              refine rb_regionK fun K406 hK406 => ?_
              simp -implicitDefEqProofs only [vt, ↓atI_fold, forall_const, implies_true, sevalprocAttr, dd_GD, k288, h368, k371, k389, k404]
              subst hK406
              refine eb_seq ?_
              refine rb_ret ?_
              refine eb_seq_r ?_
              refine eb_blk_r ?_
              refine eb_blk_r ?_
              refine eb_seq_r ?_
              obtain rfl := Option.some.inj h
              exact eb_nil ⟨rfl, Wk.of (fun i => some i) _ _ _ (by simp -implicitDefEqProofs [kv, dd_GD, k288, k371, k389, k404]) (by simp -implicitDefEqProofs [kv, dd_GD, k288, k371, k389, k404])⟩
            · refine rb_false (by first | exact congrArg D.bool k404 | rfl) ?_
              refine rb_skip ?_
              refine eb_seq ?_
              refine rb_seq ?_
              refine rb_regionK fun K408 hK408 => ?_
              simp -implicitDefEqProofs only [vt, ↓atI_fold, forall_const, implies_true, sevalprocAttr, dd_GD, k288, h368, k371, k389, k404]
              subst hK408
              refine eb_seq ?_
              refine rb_seq ?_
              refine rb_regionK fun K412 hK412 => ?_
              simp -implicitDefEqProofs only [vt, ↓atI_fold, forall_const, implies_true, sevalprocAttr, dd_GD, k288, h368, k371, k389, k404]
              obtain ⟨b413, h414, h⟩ := bind_some h
              simp -implicitDefEqProofs only [vt, ↓atI_fold, forall_const, implies_true, sevalprocAttr, dd_GD, k288, h368, k371, k389, k404, h414]
              subst hK412
              refine eb_seq ?_
              rcases ite_or h with ⟨k415, h⟩ | ⟨k415, h⟩
              · refine rb_true (by first | exact congrArg D.bool k415 | rfl) ?_
                refine rb_regionK fun K416 hK416 => ?_
                simp -implicitDefEqProofs only [vt, ↓atI_fold, forall_const, implies_true, sevalprocAttr, dd_GD, k288, h368, k371, k389, k404, h414, k415]
                obtain ⟨h417, h⟩ := ite_on h
                have h418 : x7.1.length + 1 ≤ 9223372036854775807 := by omega
                try simp only [Nat.reduceLeDiff] at h418
                have h419 : x7.1.length + 1 ≤ 140737488355328 := by omega
                try simp only [Nat.reduceLeDiff] at h419
                simp -implicitDefEqProofs only [vt, ↓atI_fold, forall_const, implies_true, sevalprocAttr, dd_GD, k288, h368, k371, k389, k404, h414, k415, h418, h419, h417]
                subst hK416
                refine eb_blk_n ?_
                refine eb_blk_n ?_
                refine eb_seq ?_
                refine rb_regionK fun K420 hK420 => ?_
                simp -implicitDefEqProofs only [vt, ↓atI_fold, forall_const, implies_true, sevalprocAttr, dd_GD, k288, h368, k371, k389, k404, h414, k415, h418, h419, h417]
                subst hK420
                obtain rfl := Option.some.inj h
                exact eb_nil ⟨rfl, Wk.of (fun i => if i = 0 then some 10 else some i) _ _ _ (by simp -implicitDefEqProofs [kv, dd_GD, k288, k371, k389, k404, k415]) (by simp -implicitDefEqProofs [kv, dd_GD, k288, k371, k389, k404, k415])⟩
              · refine rb_false (by first | exact congrArg D.bool k415 | rfl) ?_
                refine rb_regionK fun K421 hK421 => ?_
                simp -implicitDefEqProofs only [vt, ↓atI_fold, forall_const, implies_true, sevalprocAttr, dd_GD, k288, h368, k371, k389, k404, h414, k415]
                obtain ⟨h422, h⟩ := ite_on h
                have h423 : x7.1.length + 1 ≤ 9223372036854775807 := by omega
                try simp only [Nat.reduceLeDiff] at h423
                have h424 : x7.1.length + 1 ≤ 140737488355328 := by omega
                try simp only [Nat.reduceLeDiff] at h424
                simp -implicitDefEqProofs only [vt, ↓atI_fold, forall_const, implies_true, sevalprocAttr, dd_GD, k288, h368, k371, k389, k404, h414, k415, h423, h424, h422]
                subst hK421
                refine eb_blk_n ?_
                refine eb_blk_n ?_
                refine eb_seq ?_
                refine rb_regionK fun K425 hK425 => ?_
                simp -implicitDefEqProofs only [vt, ↓atI_fold, forall_const, implies_true, sevalprocAttr, dd_GD, k288, h368, k371, k389, k404, h414, k415, h423, h424, h422]
                subst hK425
                obtain rfl := Option.some.inj h
                exact eb_nil ⟨rfl, Wk.of (fun i => if i = 0 then some 13 else some i) _ _ _ (by simp -implicitDefEqProofs [kv, dd_GD, k288, k371, k389, k404, k415]) (by simp -implicitDefEqProofs [kv, dd_GD, k288, k371, k389, k404, k415])⟩
        · refine rb_false (by first | exact congrArg D.bool k389 | rfl) ?_
          obtain ⟨v428, h431, h⟩ := bind_some h
          refine rb_cut (fun v428 => ⟨envL [(0, .str s_0), (5, .own 0 x7.1.length), (6, .int .i64 x7.2), (7, .int .u8 (b367.toNat : Int)), (74, .bool v428)], heapL [(0, .vec 5 1 (x7.1.map (D.int .u8)) false)], 1, 84⟩) h431 ?_ ?_
          · clear h
            intro v428 h
            refine rb_regionK fun K429 hK429 => ?_
            simp -implicitDefEqProofs only [vt, ↓atI_fold, forall_const, implies_true, sevalprocAttr, dd_GD, k288, h368, k371, k389]
            rcases ite_or h with ⟨k430, h⟩ | ⟨k430, h⟩
            · simp -implicitDefEqProofs only [vt, ↓atI_fold, forall_const, implies_true, sevalprocAttr, dd_GD, k288, h368, k371, k389, k430]
              subst hK429
              obtain rfl := Option.some.inj h
              exact eb_nil ⟨rfl, Wk.of (fun i => if i = 0 then some 0 else some i) _ _ _ (by simp -implicitDefEqProofs [kv, dd_GD, k288, k371, k389, k430]) (by simp -implicitDefEqProofs [kv, dd_GD, k288, k371, k389, k430])⟩
            · simp -implicitDefEqProofs only [vt, ↓atI_fold, forall_const, implies_true, sevalprocAttr, dd_GD, k288, h368, k371, k389, k430]
              subst hK429
              obtain rfl := Option.some.inj h
              exact eb_nil ⟨rfl, Wk.of (fun i => if i = 0 then some 0 else some i) _ _ _ (by simp -implicitDefEqProofs [kv, dd_GD, k288, k371, k389, k430]) (by simp -implicitDefEqProofs [kv, dd_GD, k288, k371, k389, k430])⟩
          · rcases ite_or h with ⟨k432, h⟩ | ⟨k432, h⟩
            · refine rb_true (by first | exact congrArg D.bool k432 | rfl) ?_
              refine rb_seq ?_
              refine rb_regionK fun K434 hK434 => ?_
              simp -implicitDefEqProofs only [vt, ↓atI_fold, forall_const, implies_true, sevalprocAttr, dd_GD, k288, h368, k371, k389, k432]
              subst hK434
              refine eb_seq ?_
              refine rb_ret ?_
              refine eb_blk_r ?_
              refine eb_blk_r ?_
              refine eb_seq_r ?_
              obtain rfl := Option.some.inj h
              exact eb_nil ⟨rfl, Wk.of (fun i => some i) _ _ _ (by simp -implicitDefEqProofs [kv, dd_GD, k288, k371, k389, k432]) (by simp -implicitDefEqProofs [kv, dd_GD, k288, k371, k389, k432])⟩
            · refine rb_false (by first | exact congrArg D.bool k432 | rfl) ?_
              refine rb_regionK fun K435 hK435 => ?_
              simp -implicitDefEqProofs only [vt, ↓atI_fold, forall_const, implies_true, sevalprocAttr, dd_GD, k288, h368, k371, k389, k432]
              obtain ⟨h436, h⟩ := ite_on h
              have h437 : x7.1.length + 1 ≤ 9223372036854775807 := by omega
              try simp only [Nat.reduceLeDiff] at h437
              have h438 : x7.1.length + 1 ≤ 140737488355328 := by omega
              try simp only [Nat.reduceLeDiff] at h438
              simp -implicitDefEqProofs only [vt, ↓atI_fold, forall_const, implies_true, sevalprocAttr, dd_GD, k288, h368, k371, k389, k432, h437, h438, h436]
              subst hK435
              refine eb_blk_n ?_
              refine eb_blk_n ?_
              refine eb_seq ?_
              refine rb_regionK fun K439 hK439 => ?_
              simp -implicitDefEqProofs only [vt, ↓atI_fold, forall_const, implies_true, sevalprocAttr, dd_GD, k288, h368, k371, k389, k432, h437, h438, h436]
              subst hK439
              obtain rfl := Option.some.inj h
              exact eb_nil ⟨rfl, Wk.of (fun i => if i = 0 then some 4 else some i) _ _ _ (by simp -implicitDefEqProofs [kv, dd_GD, k288, k371, k389, k432]) (by simp -implicitDefEqProofs [kv, dd_GD, k288, k371, k389, k432])⟩
    · refine rb_false (by first | exact congrArg D.bool k288 | rfl) ?_
      refine rb_exit ?_
      refine eb_seq_e ?_
      obtain rfl := Option.some.inj h
      exact eb_nil ⟨rfl, Wk.of (fun i => some i) _ _ _ (by simp -implicitDefEqProofs [kv, dd_GD, k288]) (by simp -implicitDefEqProofs [kv, dd_GD, k288])⟩
  · rcases e8 with e8 | e8
    · try dsimp only at h ⊢
      refine eb_blk_r ?_
      refine eb_seq_r ?_
      obtain rfl := Option.some.inj h
      refine eb_nil ?_
      simp -implicitDefEqProofs only [vt, ↓atI_fold, forall_const, implies_true, sevalprocAttr, retQ_r, Tryd.results72, dd_GD] <;> first | rfl | (simp [List.map_append, dd_GD]; done)
    · try dsimp only at h ⊢
      refine eb_blk_hit ?_
      refine eb_seq ?_
      refine rb_seq ?_
      refine rb_regionK fun K442 hK442 => ?_
      simp -implicitDefEqProofs only [vt, ↓atI_fold, forall_const, implies_true, sevalprocAttr, dd_GD]
      subst hK442
      refine eb_seq ?_
      refine rb_ret ?_
      obtain rfl := Option.some.inj h
      refine eb_nil ?_
      simp -implicitDefEqProofs only [vt, ↓atI_fold, forall_const, implies_true, sevalprocAttr, retQ_r, Tryd.results72, dd_GD] <;> first | rfl | (simp [List.map_append, dd_GD]; done)
-- lines.fields
def g_lines_fields_s1 (s_0 : List UInt8) (x7 : (List T_api_Field) × Int) : Option (Nx ((List T_api_Field) × Int) (((List T_api_Field)) ⊕ Int)) :=
  (if (decide (x7.2 < (s_0.length : Int))) then ((atI s_0 x7.2).bind fun b136 => (if ((b136.toNat : Int) == 32) then (some (.go (x7.1, (IntKind.i64.wrap (x7.2 + 1))))) else (if ((b136.toNat : Int) == 35) then (some (.out (.inl x7.1))) else (if ((b136.toNat : Int) == 34) then ((subL s_0 x7.2).bind fun z154 => ((g_lines_quoted z154).bind fun r159 => (if (decide (0 ≤ r159.2.2)) then (some (.out (.inr (IntKind.i64.wrap ((IntKind.i64.wrap (x7.2 + r159.2.2)) + 1))))) else (if (x7.1.length + 1) * 32 ≤ 140737488355328 then (some (.go ((x7.1 ++ [(T_api_Field.mk r159.1 (IntKind.i64.wrap (x7.2 + 1)) true)]), (IntKind.i64.wrap (x7.2 + r159.2.1))))) else none)))) else ((subL s_0 x7.2).bind fun z182 => ((g_lines_word z182).bind fun r187 => ((subI s_0 x7.2 (IntKind.i64.wrap (x7.2 + r187.1))).bind fun z190 => (if (decide (0 ≤ r187.2)) then (some (.out (.inr (IntKind.i64.wrap ((IntKind.i64.wrap (x7.2 + r187.2)) + 1))))) else (if (x7.1.length + 1) * 32 ≤ 140737488355328 then (some (.go ((x7.1 ++ [(T_api_Field.mk z190 (IntKind.i64.wrap (x7.2 + 1)) false)]), (IntKind.i64.wrap (x7.2 + r187.1))))) else none))))))))) else (some (.out (.inl x7.1))))
def g_lines_fields (s_0 : List UInt8) : Option ((List T_api_Field) × Int) :=
  ((iter (g_lines_fields_s1 s_0) ([], 0)).bind fun e8 => (match e8 with | Sum.inl e8 => (some (e8, 0)) | Sum.inr (e8) => (some ([], e8))))
theorem a_lines_fields (I : World → Prop) (hI : Stab I) (s_0 : List UInt8) {r : (List T_api_Field) × Int} (h : g_lines_fields s_0 = some r) : AFun Tryd.prog I 70 [.str s_0] (.tup [.sl (r.1.map T_api_Field.d), .int .i64 r.2]) := by
  refine AFun.enterB hI Tryd.func70 rfl (by decide) (by simp [Tryd.f70]) (by kernel_rfl) ?_
  unfold g_lines_fields at h
  simp only [S0, Tryd.ntmps70, dd_GD]
  refine rb_seq ?_
  refine rb_regionK fun K2 hK2 => ?_
  simp -implicitDefEqProofs only [vt, ↓atI_fold, forall_const, implies_true, sevalprocAttr, dd_GD]
  subst hK2
  refine eb_seq ?_
  refine rb_seq ?_
  refine rb_regionK fun K4 hK4 => ?_
  simp -implicitDefEqProofs only [vt, ↓atI_fold, forall_const, implies_true, sevalprocAttr, dd_GD]
  subst hK4
  refine eb_seq ?_
  refine rb_seq ?_
  refine rb_seq ?_
  refine rb_regionK fun K6 hK6 => ?_
  simp -implicitDefEqProofs only [vt, ↓atI_fold, forall_const, implies_true, sevalprocAttr, dd_GD]
  subst hK6
  refine eb_seq ?_
  refine rb_block ?_
  obtain ⟨e8, h209, h⟩ := bind_some h
  refine rb_loop (fun x7 => ⟨envL [(0, .str s_0), (4, .own 0 x7.1.length), (5, .int .i64 x7.2)], heapL [(0, .vec 78 3 (x7.1.map T_api_Field.d) false)], 1, 68⟩) (fun w => match w with | Sum.inl _ => .exit 0 | Sum.inr (_) => .ret) (fun w => match w with | Sum.inl e8 => ⟨envL [(4, .own 0 e8.length)], heapL [(0, .vec 78 3 (e8.map T_api_Field.d) false)], 1, 68⟩ | Sum.inr (e8) => ⟨envL [(2, .nils), (3, .int .i64 e8)], heapL [], 0, 68⟩) h209 (Wk.of (fun i => if i = 0 then none else some i) _ _ _ (by simp -implicitDefEqProofs [kv, dd_GD]) (by simp -implicitDefEqProofs [kv, dd_GD])) (by intro w; rcases w with w | w <;> simp) ?_ ?_
  · clear h
    intro x7 y h
    unfold g_lines_fields_s1 at h
    refine rb_seq ?_
    refine rb_seq ?_
    refine rb_regionK fun K130 hK130 => ?_
    simp -implicitDefEqProofs only [vt, ↓atI_fold, forall_const, implies_true, sevalprocAttr, dd_GD]
    subst hK130
    refine eb_seq ?_
    rcases ite_or h with ⟨k131, h⟩ | ⟨k131, h⟩
    · refine rb_true (by first | exact congrArg D.bool k131 | rfl) ?_
      refine rb_skip ?_
      refine eb_seq ?_
      refine rb_block ?_
      refine rb_seq ?_
      refine rb_seq ?_
      refine rb_regionK fun K135 hK135 => ?_
      simp -implicitDefEqProofs only [vt, ↓atI_fold, forall_const, implies_true, sevalprocAttr, dd_GD, k131]
      obtain ⟨b136, h137, h⟩ := bind_some h
      simp -implicitDefEqProofs only [vt, ↓atI_fold, forall_const, implies_true, sevalprocAttr, dd_GD, k131, h137]
      subst hK135
      refine eb_seq ?_
      rcases ite_or h with ⟨k138, h⟩ | ⟨k138, h⟩
      · refine rb_true (by first | exact congrArg D.bool k138 | rfl) ?_
        refine rb_seq ?_
        refine rb_regionK fun K140 hK140 => ?_
        simp -implicitDefEqProofs only [vt, ↓atI_fold, forall_const, implies_true, sevalprocAttr, dd_GD, k131, h137, k138]
        subst hK140
        refine eb_seq ?_
        refine rb_exit ?_
        refine eb_seq_e ?_
        refine eb_blk_hit ?_
        obtain rfl := Option.some.inj h
        exact eb_nil ⟨rfl, Wk.of (fun i => if i = 0 then some 0 else some i) _ _ _ (by simp -implicitDefEqProofs [kv, dd_GD, k131, k138]) (by simp -implicitDefEqProofs [kv, dd_GD, k131, k138])⟩
      · refine rb_false (by first | exact congrArg D.bool k138 | rfl) ?_
        refine rb_skip ?_
        refine eb_seq ?_
        refine rb_seq ?_
        refine rb_seq ?_
        refine rb_regionK fun K142 hK142 => ?_
        simp -implicitDefEqProofs only [vt, ↓atI_fold, forall_const, implies_true, sevalprocAttr, dd_GD, k131, h137, k138]
        subst hK142
        refine eb_seq ?_
        rcases ite_or h with ⟨k143, h⟩ | ⟨k143, h⟩
        · refine rb_true (by first | exact congrArg D.bool k143 | rfl) ?_
          refine rb_exit ?_
          refine eb_seq_e ?_
          refine eb_blk_miss (by decide) ?_
          obtain rfl := Option.some.inj h
          exact eb_nil ⟨rfl, Wk.of (fun i => if i = 0 then some 0 else some i) _ _ _ (by simp -implicitDefEqProofs [kv, dd_GD, k131, k138, k143]) (by simp -implicitDefEqProofs [kv, dd_GD, k131, k138, k143])⟩
        · refine rb_false (by first | exact congrArg D.bool k143 | rfl) ?_
          refine rb_skip ?_
          refine eb_seq ?_
          refine rb_seq ?_
          refine rb_regionK fun K145 hK145 => ?_
          simp -implicitDefEqProofs only [vt, ↓atI_fold, forall_const, implies_true, sevalprocAttr, dd_GD, k131, h137, k138, k143]
          subst hK145
          refine eb_seq ?_
          refine rb_seq ?_
          refine rb_regionK fun K147 hK147 => ?_
          simp -implicitDefEqProofs only [vt, ↓atI_fold, forall_const, implies_true, sevalprocAttr, dd_GD, k131, h137, k138, k143]
          subst hK147
          refine eb_seq ?_
          refine rb_seq ?_
          refine rb_seq ?_
          refine rb_regionK fun K149 hK149 => ?_
          simp -implicitDefEqProofs only [vt, ↓atI_fold, forall_const, implies_true, sevalprocAttr, dd_GD, k131, h137, k138, k143]
          subst hK149
          refine eb_seq ?_
          rcases ite_or h with ⟨k150, h⟩ | ⟨k150, h⟩
          · refine rb_true (by first | exact congrArg D.bool k150 | rfl) ?_
            refine rb_seq ?_
            refine rb_regionK fun K152 hK152 => ?_
            simp -implicitDefEqProofs only [vt, ↓atI_fold, forall_const, implies_true, sevalprocAttr, dd_GD, k131, h137, k138, k143, k150]
            subst hK152
            refine eb_seq ?_
            refine rb_regionK fun K153 hK153 => ?_
            simp -implicitDefEqProofs only [vt, ↓atI_fold, forall_const, implies_true, sevalprocAttr, dd_GD, k131, h137, k138, k143, k150]
            obtain ⟨z154, h155, h⟩ := bind_some h
            obtain ⟨⟨h156, h157⟩, h158⟩ := subL_some h155
            try simp -implicitDefEqProofs only [vt, ↓atI_fold, forall_const, implies_true, sevalprocAttr, dd_GD, k131, h137, k138, k143, k150, h156, h157] at h158
            simp -implicitDefEqProofs only [vt, ↓atI_fold, forall_const, implies_true, sevalprocAttr, dd_GD, k131, h137, k138, k143, k150, h156, h157, h158]
            obtain ⟨r159, h160, h⟩ := bind_some h
            refine cW.intro (a_lines_quoted I hI z154 h160) (by first | rfl | (simp [List.map_append, dd_GD]; done)) ?_
            simp -implicitDefEqProofs only [vt, ↓atI_fold, forall_const, implies_true, sevalprocAttr, dd_GD, k131, h137, k138, k143, k150, h156, h157, h158]
            subst hK153
            refine eb_seq ?_
            refine rb_seq ?_
            refine rb_seq ?_
            refine rb_regionK fun K162 hK162 => ?_
            simp -implicitDefEqProofs only [vt, ↓atI_fold, forall_const, implies_true, sevalprocAttr, dd_GD, k131, h137, k138, k143, k150, h156, h157, h158]
            subst hK162
            refine eb_seq ?_
            rcases ite_or h with ⟨k163, h⟩ | ⟨k163, h⟩
            · refine rb_true (by first | exact congrArg D.bool k163 | rfl) ?_
              refine rb_seq ?_
              refine rb_regionK fun K165 hK165 => ?_
              simp -implicitDefEqProofs only [vt, ↓atI_fold, forall_const, implies_true, sevalprocAttr, dd_GD, k131, h137, k138, k143, k150, h156, h157, h158, k163]
              subst hK165
              refine eb_seq ?_
              refine rb_ret ?_
              refine eb_seq_r ?_
              refine eb_blk_r ?_
              obtain rfl := Option.some.inj h
              exact eb_nil ⟨rfl, Wk.of (fun i => some i) _ _ _ (by simp -implicitDefEqProofs [kv, dd_GD, k131, k138, k143, k150, k163]) (by simp -implicitDefEqProofs [kv, dd_GD, k131, k138, k143, k150, k163])⟩
            · refine rb_false (by first | exact congrArg D.bool k163 | rfl) ?_
              refine rb_skip ?_
              refine eb_seq ?_
              refine rb_seq ?_
              refine rb_regionK fun K169 hK169 => ?_
              simp -implicitDefEqProofs only [vt, ↓atI_fold, forall_const, implies_true, sevalprocAttr, dd_GD, k131, h137, k138, k143, k150, h156, h157, h158, k163]
              obtain ⟨h170, h⟩ := ite_on h
              have h171 : x7.1.length + 1 ≤ 9223372036854775807 := by omega
              try simp only [Nat.reduceLeDiff] at h171
              simp -implicitDefEqProofs only [vt, ↓atI_fold, forall_const, implies_true, sevalprocAttr, dd_GD, k131, h137, k138, k143, k150, h156, h157, h158, k163, h171, h170]
              subst hK169
              refine eb_seq ?_
              refine rb_regionK fun K172 hK172 => ?_
              simp -implicitDefEqProofs only [vt, ↓atI_fold, forall_const, implies_true, sevalprocAttr, dd_GD, k131, h137, k138, k143, k150, h156, h157, h158, k163, h171, h170]
              subst hK172
              refine eb_blk_n ?_
              obtain rfl := Option.some.inj h
              exact eb_nil ⟨rfl, Wk.of (fun i => if i = 0 then some 43 else some i) _ _ _ (by simp -implicitDefEqProofs [kv, dd_GD, k131, k138, k143, k150, k163]) (by simp -implicitDefEqProofs [kv, dd_GD, k131, k138, k143, k150, k163])⟩
          · refine rb_false (by first | exact congrArg D.bool k150 | rfl) ?_
            refine rb_seq ?_
            refine rb_regionK fun K181 hK181 => ?_
            simp -implicitDefEqProofs only [vt, ↓atI_fold, forall_const, implies_true, sevalprocAttr, dd_GD, k131, h137, k138, k143, k150]
            obtain ⟨z182, h183, h⟩ := bind_some h
            obtain ⟨⟨h184, h185⟩, h186⟩ := subL_some h183
            try simp -implicitDefEqProofs only [vt, ↓atI_fold, forall_const, implies_true, sevalprocAttr, dd_GD, k131, h137, k138, k143, k150, h184, h185] at h186
            simp -implicitDefEqProofs only [vt, ↓atI_fold, forall_const, implies_true, sevalprocAttr, dd_GD, k131, h137, k138, k143, k150, h184, h185, h186]
            obtain ⟨r187, h188, h⟩ := bind_some h
            refine cW.intro (a_lines_word I hI z182 h188) (by first | rfl | (simp [List.map_append, dd_GD]; done)) ?_
            simp -implicitDefEqProofs only [vt, ↓atI_fold, forall_const, implies_true, sevalprocAttr, dd_GD, k131, h137, k138, k143, k150, h184, h185, h186]
            subst hK181
            refine eb_seq ?_
            refine rb_regionK fun K189 hK189 => ?_
            simp -implicitDefEqProofs only [vt, ↓atI_fold, forall_const, implies_true, sevalprocAttr, dd_GD, k131, h137, k138, k143, k150, h184, h185, h186]
            obtain ⟨z190, h191, h⟩ := bind_some h
            obtain ⟨⟨h192, h193, h194, h195⟩, h196⟩ := subI_some h191
            try simp -implicitDefEqProofs only [vt, ↓atI_fold, forall_const, implies_true, sevalprocAttr, dd_GD, k131, h137, k138, k143, k150, h184, h185, h186, h192, h193, h194, h195] at h196
            simp -implicitDefEqProofs only [vt, ↓atI_fold, forall_const, implies_true, sevalprocAttr, dd_GD, k131, h137, k138, k143, k150, h184, h185, h186, h192, h193, h194, h195, h196]
            subst hK189
            refine eb_seq ?_
            refine rb_seq ?_
            refine rb_seq ?_
            refine rb_regionK fun K198 hK198 => ?_
            simp -implicitDefEqProofs only [vt, ↓atI_fold, forall_const, implies_true, sevalprocAttr, dd_GD, k131, h137, k138, k143, k150, h184, h185, h186, h192, h193, h194, h195, h196]
            subst hK198
            refine eb_seq ?_
            rcases ite_or h with ⟨k199, h⟩ | ⟨k199, h⟩
            · refine rb_true (by first | exact congrArg D.bool k199 | rfl) ?_
              refine rb_seq ?_
              refine rb_regionK fun K201 hK201 => ?_
              simp -implicitDefEqProofs only [vt, ↓atI_fold, forall_const, implies_true, sevalprocAttr, dd_GD, k131, h137, k138, k143, k150, h184, h185, h186, h192, h193, h194, h195, h196, k199]
              subst hK201
              refine eb_seq ?_
              refine rb_ret ?_
              refine eb_seq_r ?_
              refine eb_blk_r ?_
              obtain rfl := Option.some.inj h
              exact eb_nil ⟨rfl, Wk.of (fun i => some i) _ _ _ (by simp -implicitDefEqProofs [kv, dd_GD, k131, k138, k143, k150, k199]) (by simp -implicitDefEqProofs [kv, dd_GD, k131, k138, k143, k150, k199])⟩
            · refine rb_false (by first | exact congrArg D.bool k199 | rfl) ?_
              refine rb_skip ?_
              refine eb_seq ?_
              refine rb_seq ?_
              refine rb_regionK fun K205 hK205 => ?_
              simp -implicitDefEqProofs only [vt, ↓atI_fold, forall_const, implies_true, sevalprocAttr, dd_GD, k131, h137, k138, k143, k150, h184, h185, h186, h192, h193, h194, h195, h196, k199]
              obtain ⟨h206, h⟩ := ite_on h
              have h207 : x7.1.length + 1 ≤ 9223372036854775807 := by omega
              try simp only [Nat.reduceLeDiff] at h207
              simp -implicitDefEqProofs only [vt, ↓atI_fold, forall_const, implies_true, sevalprocAttr, dd_GD, k131, h137, k138, k143, k150, h184, h185, h186, h192, h193, h194, h195, h196, k199, h207, h206]
              subst hK205
              refine eb_seq ?_
              refine rb_regionK fun K208 hK208 => ?_
              simp -implicitDefEqProofs only [vt, ↓atI_fold, forall_const, implies_true, sevalprocAttr, dd_GD, k131, h137, k138, k143, k150, h184, h185, h186, h192, h193, h194, h195, h196, k199, h207, h206]
              subst hK208
              refine eb_blk_n ?_
              obtain rfl := Option.some.inj h
              exact eb_nil ⟨rfl, Wk.of (fun i => if i = 0 then some 46 else some i) _ _ _ (by simp -implicitDefEqProofs [kv, dd_GD, k131, k138, k143, k150, k199]) (by simp -implicitDefEqProofs [kv, dd_GD, k131, k138, k143, k150, k199])⟩
    · refine rb_false (by first | exact congrArg D.bool k131 | rfl) ?_
      refine rb_exit ?_
      refine eb_seq_e ?_
      obtain rfl := Option.some.inj h
      exact eb_nil ⟨rfl, Wk.of (fun i => if i = 0 then some 0 else some i) _ _ _ (by simp -implicitDefEqProofs [kv, dd_GD, k131]) (by simp -implicitDefEqProofs [kv, dd_GD, k131])⟩
  · rcases e8 with e8 | e8
    · try dsimp only at h ⊢
      refine eb_blk_hit ?_
      refine eb_seq ?_
      refine rb_seq ?_
      refine rb_regionK fun K211 hK211 => ?_
      simp -implicitDefEqProofs only [vt, ↓atI_fold, forall_const, implies_true, sevalprocAttr, dd_GD]
      subst hK211
      refine eb_seq ?_
      refine rb_ret ?_
      obtain rfl := Option.some.inj h
      refine eb_nil ?_
      simp -implicitDefEqProofs only [vt, ↓atI_fold, forall_const, implies_true, sevalprocAttr, retQ_r, Tryd.results70, dd_GD] <;> first | rfl | (simp [List.map_append, dd_GD]; done)
    · try dsimp only at h ⊢
      refine eb_blk_r ?_
      refine eb_seq_r ?_
      obtain rfl := Option.some.inj h
      refine eb_nil ?_
      simp -implicitDefEqProofs only [vt, ↓atI_fold, forall_const, implies_true, sevalprocAttr, retQ_r, Tryd.results70, dd_GD] <;> first | rfl | (simp [List.map_append, dd_GD]; done)
-- captionerref07.wordByte
def g_ref07_wordByte (c_0 : Int) : Option (Bool) :=
  (if (decide (33 ≤ c_0)) then (if (decide (c_0 ≤ 126)) then (some (c_0 != 34)) else (some false)) else (some false))
theorem a_ref07_wordByte (I : World → Prop) (hI : Stab I) (c_0 : Int) {r : Bool} (h : g_ref07_wordByte c_0 = some r) : AFun Tryd.prog I 89 [.int .u8 c_0] (.bool r) := by
  refine AFun.enterB hI Tryd.func89 rfl (by decide) (by simp [Tryd.f89]) (by kernel_rfl) ?_
  unfold g_ref07_wordByte at h
  simp only [S0, Tryd.ntmps89, dd_GD]
  refine rb_seq ?_
  refine rb_regionK fun K2 hK2 => ?_
  simp -implicitDefEqProofs only [vt, ↓atI_fold, forall_const, implies_true, sevalprocAttr, dd_GD]
  subst hK2
  refine eb_seq ?_
  refine rb_seq ?_
  refine rb_regionK fun K6 hK6 => ?_
  simp -implicitDefEqProofs only [vt, ↓atI_fold, forall_const, implies_true, sevalprocAttr, dd_GD]
  rcases ite_or h with ⟨k7, h⟩ | ⟨k7, h⟩
  · simp -implicitDefEqProofs only [vt, ↓atI_fold, forall_const, implies_true, sevalprocAttr, dd_GD, k7]
    rcases ite_or h with ⟨k8, h⟩ | ⟨k8, h⟩
    · simp -implicitDefEqProofs only [vt, ↓atI_fold, forall_const, implies_true, sevalprocAttr, dd_GD, k7, k8]
      subst hK6
      refine eb_seq ?_
      refine rb_ret ?_
      obtain rfl := Option.some.inj h
      refine eb_nil ?_
      simp -implicitDefEqProofs only [vt, ↓atI_fold, forall_const, implies_true, sevalprocAttr, retQ_r, Tryd.results89, dd_GD, k7, k8] <;> first | rfl | (simp [List.map_append, dd_GD]; done)
    · simp -implicitDefEqProofs only [vt, ↓atI_fold, forall_const, implies_true, sevalprocAttr, dd_GD, k7, k8]
      subst hK6
      refine eb_seq ?_
      refine rb_ret ?_
      obtain rfl := Option.some.inj h
      refine eb_nil ?_
      simp -implicitDefEqProofs only [vt, ↓atI_fold, forall_const, implies_true, sevalprocAttr, retQ_r, Tryd.results89, dd_GD, k7, k8] <;> first | rfl | (simp [List.map_append, dd_GD]; done)
  · simp -implicitDefEqProofs only [vt, ↓atI_fold, forall_const, implies_true, sevalprocAttr, dd_GD, k7]
    subst hK6
    refine eb_seq ?_
    refine rb_ret ?_
    obtain rfl := Option.some.inj h
    refine eb_nil ?_
    simp -implicitDefEqProofs only [vt, ↓atI_fold, forall_const, implies_true, sevalprocAttr, retQ_r, Tryd.results89, dd_GD, k7] <;> first | rfl | (simp [List.map_append, dd_GD]; done)
-- captionerref07.quoted
def g_ref07_quoted_s1 (s_0 : List UInt8) (x226 : Int × (List UInt8)) : Option (Nx (Int × (List UInt8)) (((List UInt8) × Int × Int) ⊕ Unit)) :=
  (if (decide (x226.1 < (s_0.length : Int))) then ((atI s_0 x226.1).bind fun b343 => (if ((b343.toNat : Int) == 34) then (((if (decide ((IntKind.i64.wrap (x226.1 + 1)) < (s_0.length : Int))) then ((atI s_0 (IntKind.i64.wrap (x226.1 + 1))).bind fun b355 => (some ((b355.toNat : Int) != 32))) else (some false)) : Option (Bool)).bind fun v352 => (if v352 then (some (.out (.inl ([], 0, (IntKind.i64.wrap (x226.1 + 1)))))) else (some (.out (.inl (x226.2, (IntKind.i64.wrap (x226.1 + 1)), -1)))))) else (((if (decide ((b343.toNat : Int) < 32)) then (some true) else (some ((b343.toNat : Int) == 127))) : Option (Bool)).bind fun v365 => (if v365 then (some (.out (.inl ([], 0, x226.1)))) else (if ((b343.toNat : Int) != 92) then ((subI s_0 x226.1 (IntKind.i64.wrap (x226.1 + 1))).bind fun z386 => (if x226.2.length + z386.length ≤ 9223372036854775807 then (some (.go ((IntKind.i64.wrap (x226.1 + 1)), (x226.2 ++ z386)))) else none)) else (if (decide ((s_0.length : Int) ≤ (IntKind.i64.wrap (x226.1 + 1)))) then (some (.out (.inl ([], 0, x226.1)))) else ((atI s_0 (IntKind.i64.wrap (x226.1 + 1))).bind fun b406 => (if ((b406.toNat : Int) == 34) then ((subI s_0 (IntKind.i64.wrap (x226.1 + 1)) (IntKind.i64.wrap (x226.1 + 2))).bind fun z412 => (if x226.2.length + z412.length ≤ 9223372036854775807 then (some (.go ((IntKind.i64.wrap (x226.1 + 2)), (x226.2 ++ z412)))) else none)) else (if ((b406.toNat : Int) == 92) then ((subI s_0 (IntKind.i64.wrap (x226.1 + 1)) (IntKind.i64.wrap (x226.1 + 2))).bind fun z425 => (if x226.2.length + z425.length ≤ 9223372036854775807 then (some (.go ((IntKind.i64.wrap (x226.1 + 2)), (x226.2 ++ z425)))) else none)) else (if ((b406.toNat : Int) == 110) then (if x226.2.length + 1 ≤ 9223372036854775807 then (some (.go ((IntKind.i64.wrap (x226.1 + 2)), (x226.2 ++ [10])))) else none) else (some (.out (.inl ([], 0, x226.1)))))))))))))) else (some (.out (.inr ()))))
def g_ref07_quoted (s_0 : List UInt8) (i_1 : Int) : Option ((List UInt8) × Int × Int) :=
  ((iter (g_ref07_quoted_s1 s_0) ((IntKind.i64.wrap (i_1 + 1)), [])).bind fun e227 => (match e227 with | Sum.inl e227 => (some (e227.1, e227.2.1, e227.2.2)) | Sum.inr (e227) => (some ([], 0, (s_0.length : Int)))))
theorem a_ref07_quoted (I : World → Prop) (hI : Stab I) (s_0 : List UInt8) (i_1 : Int) {r : (List UInt8) × Int × Int} (h : g_ref07_quoted s_0 i_1 = some r) : AFun Tryd.prog I 73 [.str s_0, .int .i64 i_1] (.tup [.str r.1, .int .i64 r.2.1, .int .i64 r.2.2]) := by
  refine AFun.enterB hI Tryd.func73 rfl (by decide) (by simp [Tryd.f73]) (by kernel_rfl) ?_
  unfold g_ref07_quoted at h
  simp only [S0, Tryd.ntmps73, dd_GD]
  refine rb_seq ?_
  refine rb_regionK fun K2 hK2 => ?_
  simp -implicitDefEqProofs only [vt, ↓atI_fold, forall_const, implies_true, sevalprocAttr, dd_GD]
  subst hK2
  refine eb_seq ?_
  refine rb_seq ?_
  refine rb_regionK fun K4 hK4 => ?_
  simp -implicitDefEqProofs only [vt, ↓atI_fold, forall_const, implies_true, sevalprocAttr, dd_GD]
  subst hK4
  refine eb_seq ?_
  refine rb_seq ?_
  refine rb_regionK fun K6 hK6 => ?_
  simp -implicitDefEqProofs only [vt, ↓atI_fold, forall_const, implies_true, sevalprocAttr, dd_GD]
  subst hK6
  refine eb_seq ?_
  refine rb_seq ?_
  refine rb_block ?_
  obtain ⟨e227, h444, h⟩ := bind_some h
  refine rb_loop (fun x226 => ⟨envL [(0, .str s_0), (1, .int .i64 x226.1), (7, .str x226.2)], heapL [], 0, 85⟩) (fun w => match w with | Sum.inl _ => .ret | Sum.inr (_) => .exit 0) (fun w => match w with | Sum.inl e227 => ⟨envL [(4, .str e227.1), (5, .int .i64 e227.2.1), (6, .int .i64 e227.2.2)], heapL [], 0, 85⟩ | Sum.inr (e227) => ⟨envL [(0, .str s_0)], heapL [], 0, 85⟩) h444 (Wk.of (fun i => some i) _ _ _ (by simp -implicitDefEqProofs [kv, dd_GD]) (by simp -implicitDefEqProofs [kv, dd_GD])) (by intro w; rcases w with w | w <;> simp) ?_ ?_
  · clear h
    intro x226 y h
    unfold g_ref07_quoted_s1 at h
    refine rb_seq ?_
    refine rb_seq ?_
    refine rb_regionK fun K337 hK337 => ?_
    simp -implicitDefEqProofs only [vt, ↓atI_fold, forall_const, implies_true, sevalprocAttr, dd_GD]
    subst hK337
    refine eb_seq ?_
    rcases ite_or h with ⟨k338, h⟩ | ⟨k338, h⟩
    · refine rb_true (by first | exact congrArg D.bool k338 | rfl) ?_
      refine rb_skip ?_
      refine eb_seq ?_
      refine rb_block ?_
      refine rb_seq ?_
      refine rb_regionK fun K342 hK342 => ?_
      simp -implicitDefEqProofs only [vt, ↓atI_fold, forall_const, implies_true, sevalprocAttr, dd_GD, k338]
      obtain ⟨b343, h344, h⟩ := bind_some h
      simp -implicitDefEqProofs only [vt, ↓atI_fold, forall_const, implies_true, sevalprocAttr, dd_GD, k338, h344]
      subst hK342
      refine eb_seq ?_
      refine rb_seq ?_
      refine rb_seq ?_
      refine rb_regionK fun K346 hK346 => ?_
      simp -implicitDefEqProofs only [vt, ↓atI_fold, forall_const, implies_true, sevalprocAttr, dd_GD, k338, h344]
      subst hK346
      refine eb_seq ?_
      rcases ite_or h with ⟨k347, h⟩ | ⟨k347, h⟩
      · refine rb_true (by first | exact congrArg D.bool k347 | rfl) ?_
        refine rb_seq ?_
        obtain ⟨v352, h357, h⟩ := bind_some h
        refine rb_cut (fun v352 => ⟨envL [(1, .int .i64 x226.1), (7, .str x226.2), (31, .bool v352)], heapL [], 0, 85⟩) h357 ?_ ?_
        · clear h
          intro v352 h
          refine rb_regionK fun K353 hK353 => ?_
          simp -implicitDefEqProofs only [vt, ↓atI_fold, forall_const, implies_true, sevalprocAttr, dd_GD, k338, h344, k347]
          rcases ite_or h with ⟨k354, h⟩ | ⟨k354, h⟩
          · simp -implicitDefEqProofs only [vt, ↓atI_fold, forall_const, implies_true, sevalprocAttr, dd_GD, k338, h344, k347, k354]
            obtain ⟨b355, h356, h⟩ := bind_some h
            simp -implicitDefEqProofs only [vt, ↓atI_fold, forall_const, implies_true, sevalprocAttr, dd_GD, k338, h344, k347, k354, h356]
            subst hK353
            obtain rfl := Option.some.inj h
            exact eb_nil ⟨rfl, Wk.of (fun i => some i) _ _ _ (by simp -implicitDefEqProofs [kv, dd_GD, k338, k347, k354]) (by simp -implicitDefEqProofs [kv, dd_GD, k338, k347, k354])⟩
          · simp -implicitDefEqProofs only [vt, ↓atI_fold, forall_const, implies_true, sevalprocAttr, dd_GD, k338, h344, k347, k354]
            subst hK353
            obtain rfl := Option.some.inj h
            exact eb_nil ⟨rfl, Wk.of (fun i => some i) _ _ _ (by simp -implicitDefEqProofs [kv, dd_GD, k338, k347, k354]) (by simp -implicitDefEqProofs [kv, dd_GD, k338, k347, k354])⟩
        · rcases ite_or h with ⟨k358, h⟩ | ⟨k358, h⟩
          · refine rb_true (by first | exact congrArg D.bool k358 | rfl) ?_
            refine rb_seq ?_
            refine rb_regionK fun K360 hK360 => ?_
            simp -implicitDefEqProofs only [vt, ↓atI_fold, forall_const, implies_true, sevalprocAttr, dd_GD, k338, h344, k347, k358]
            subst hK360
            refine eb_seq ?_
            refine rb_ret ?_
            refine eb_seq_r ?_
            refine eb_seq_r ?_
            refine eb_blk_r ?_
            obtain rfl := Option.some.inj h
            exact eb_nil ⟨rfl, Wk.of (fun i => some i) _ _ _ (by simp -implicitDefEqProofs [kv, dd_GD, k338, k347, k358]) (by simp -implicitDefEqProofs [kv, dd_GD, k338, k347, k358])⟩
          · refine rb_false (by first | exact congrArg D.bool k358 | rfl) ?_
            refine rb_skip ?_
            refine eb_seq ?_
            refine rb_seq ?_
            refine rb_regionK fun K362 hK362 => ?_
            simp -implicitDefEqProofs only [vt, ↓atI_fold, forall_const, implies_true, sevalprocAttr, dd_GD, k338, h344, k347, k358]
            subst hK362
            refine eb_seq ?_
            refine rb_ret ?_
            refine eb_seq_r ?_
            refine eb_blk_r ?_
            obtain rfl := Option.some.inj h
            exact eb_nil ⟨rfl, Wk.of (fun i => some i) _ _ _ (by simp -implicitDefEqProofs [kv, dd_GD, k338, k347, k358]) (by simp -implicitDefEqProofs [kv, dd_GD, k338, k347, k358])⟩
      · refine rb_false (by first | exact congrArg D.bool k347 | rfl) ?_
        refine rb_skip ?_
        refine eb_seq ?_
        refine rb_seq ?_
        obtain ⟨v365, h368, h⟩ := bind_some h
        refine rb_cut (fun v365 => ⟨envL [(0, .str s_0), (1, .int .i64 x226.1), (7, .str x226.2), (8, .int .u8 (b343.toNat : Int)), (42, .bool v365)], heapL [], 0, 85⟩) h368 ?_ ?_
        · clear h
          intro v365 h
          refine rb_regionK fun K366 hK366 => ?_
          simp -implicitDefEqProofs only [vt, ↓atI_fold, forall_const, implies_true, sevalprocAttr, dd_GD, k338, h344, k347]
          rcases ite_or h with ⟨k367, h⟩ | ⟨k367, h⟩
          · simp -implicitDefEqProofs only [vt, ↓atI_fold, forall_const, implies_true, sevalprocAttr, dd_GD, k338, h344, k347, k367]
            subst hK366
            obtain rfl := Option.some.inj h
            exact eb_nil ⟨rfl, Wk.of (fun i => some i) _ _ _ (by simp -implicitDefEqProofs [kv, dd_GD, k338, k347, k367]) (by simp -implicitDefEqProofs [kv, dd_GD, k338, k347, k367])⟩
          · simp -implicitDefEqProofs only [vt, ↓atI_fold, forall_const, implies_true, sevalprocAttr, dd_GD, k338, h344, k347, k367]
            subst hK366
            obtain rfl := Option.some.inj h
            exact eb_nil ⟨rfl, Wk.of (fun i => some i) _ _ _ (by simp -implicitDefEqProofs [kv, dd_GD, k338, k347, k367]) (by simp -implicitDefEqProofs [kv, dd_GD, k338, k347, k367])⟩
        · rcases ite_or h with ⟨k369, h⟩ | ⟨k369, h⟩
          · refine rb_true (by first | exact congrArg D.bool k369 | rfl) ?_
            refine rb_seq ?_
            refine rb_regionK fun K371 hK371 => ?_
            simp -implicitDefEqProofs only [vt, ↓atI_fold, forall_const, implies_true, sevalprocAttr, dd_GD, k338, h344, k347, k369]
            subst hK371
            refine eb_seq ?_
            refine rb_ret ?_
            refine eb_seq_r ?_
            refine eb_blk_r ?_
            obtain rfl := Option.some.inj h
            exact eb_nil ⟨rfl, Wk.of (fun i => some i) _ _ _ (by simp -implicitDefEqProofs [kv, dd_GD, k338, k347, k369]) (by simp -implicitDefEqProofs [kv, dd_GD, k338, k347, k369])⟩
          · refine rb_false (by first | exact congrArg D.bool k369 | rfl) ?_
            refine rb_skip ?_
            refine eb_seq ?_
            refine rb_seq ?_
            refine rb_seq ?_
            refine rb_regionK fun K373 hK373 => ?_
            simp -implicitDefEqProofs only [vt, ↓atI_fold, forall_const, implies_true, sevalprocAttr, dd_GD, k338, h344, k347, k369]
            subst hK373
            refine eb_seq ?_
            rcases ite_or h with ⟨k374, h⟩ | ⟨k374, h⟩
            · refine rb_true (by first | exact congrArg D.bool k374 | rfl) ?_
              refine rb_seq ?_
              refine rb_regionK fun K385 hK385 => ?_
              simp -implicitDefEqProofs only [vt, ↓atI_fold, forall_const, implies_true, sevalprocAttr, dd_GD, k338, h344, k347, k369, k374]
              obtain ⟨z386, h387, h⟩ := bind_some h
              obtain ⟨⟨h388, h389, h390, h391⟩, h392⟩ := subI_some h387
              try simp -implicitDefEqProofs only [vt, ↓atI_fold, forall_const, implies_true, sevalprocAttr, dd_GD, k338, h344, k347, k369, k374, h388, h389, h390, h391] at h392
              simp -implicitDefEqProofs only [vt, ↓atI_fold, forall_const, implies_true, sevalprocAttr, dd_GD, k338, h344, k347, k369, k374, h388, h389, h390, h391, h392]
              obtain ⟨h393, h⟩ := ite_on h
              have h394 : x226.2.length + z386.length ≤ 9223372036854775807 := by (try simp only [List.length_append, List.length_cons, List.length_nil]); omega
              try simp -implicitDefEqProofs only [vt, ↓atI_fold, forall_const, implies_true, sevalprocAttr, dd_GD, k338, h344, k347, k369, k374, h388, h389, h390, h391, h392] at h394
              simp -implicitDefEqProofs only [vt, ↓atI_fold, forall_const, implies_true, sevalprocAttr, dd_GD, k338, h344, k347, k369, k374, h388, h389, h390, h391, h392, h394, h393]
              subst hK385
              refine eb_seq ?_
              refine rb_seq ?_
              refine rb_regionK fun K396 hK396 => ?_
              simp -implicitDefEqProofs only [vt, ↓atI_fold, forall_const, implies_true, sevalprocAttr, dd_GD, k338, h344, k347, k369, k374, h388, h389, h390, h391, h392, h394, h393]
              subst hK396
              refine eb_seq ?_
              refine rb_exit ?_
              refine eb_seq_e ?_
              refine eb_blk_hit ?_
              obtain rfl := Option.some.inj h
              exact eb_nil ⟨rfl, Wk.of (fun i => some i) _ _ _ (by simp -implicitDefEqProofs [kv, dd_GD, k338, k347, k369, k374]) (by simp -implicitDefEqProofs [kv, dd_GD, k338, k347, k369, k374])⟩
            · refine rb_false (by first | exact congrArg D.bool k374 | rfl) ?_
              refine rb_skip ?_
              refine eb_seq ?_
              refine rb_seq ?_
              refine rb_seq ?_
              refine rb_regionK fun K398 hK398 => ?_
              simp -implicitDefEqProofs only [vt, ↓atI_fold, forall_const, implies_true, sevalprocAttr, dd_GD, k338, h344, k347, k369, k374]
              subst hK398
              refine eb_seq ?_
              rcases ite_or h with ⟨k399, h⟩ | ⟨k399, h⟩
              · refine rb_true (by first | exact congrArg D.bool k399 | rfl) ?_
                refine rb_seq ?_
                refine rb_regionK fun K401 hK401 => ?_
                simp -implicitDefEqProofs only [vt, ↓atI_fold, forall_const, implies_true, sevalprocAttr, dd_GD, k338, h344, k347, k369, k374, k399]
                subst hK401
                refine eb_seq ?_
                refine rb_ret ?_
                refine eb_seq_r ?_
                refine eb_blk_r ?_
                obtain rfl := Option.some.inj h
                exact eb_nil ⟨rfl, Wk.of (fun i => some i) _ _ _ (by simp -implicitDefEqProofs [kv, dd_GD, k338, k347, k369, k374, k399]) (by simp -implicitDefEqProofs [kv, dd_GD, k338, k347, k369, k374, k399])⟩
              · refine rb_false (by first | exact congrArg D.bool k399 | rfl) ?_
                refine rb_skip ?_
                refine eb_seq ?_
                refine rb_seq ?_
                refine rb_seq ?_
                refine rb_regionK fun K405 hK405 => ?_
                simp -implicitDefEqProofs only [vt, ↓atI_fold, forall_const, implies_true, sevalprocAttr, dd_GD, k338, h344, k347, k369, k374, k399]
                obtain ⟨b406, h407, h⟩ := bind_some h
                simp -implicitDefEqProofs only [vt, ↓atI_fold, forall_const, implies_true, sevalprocAttr, dd_GD, k338, h344, k347, k369, k374, k399, h407]
                subst hK405
                refine eb_seq ?_
                refine rb_block ?_
                refine rb_seq ?_
                refine rb_seq ?_
                refine rb_regionK fun K409 hK409 => ?_
                simp -implicitDefEqProofs only [vt, ↓atI_fold, forall_const, implies_true, sevalprocAttr, dd_GD, k338, h344, k347, k369, k374, k399, h407]
                subst hK409
                refine eb_seq ?_
                rcases ite_or h with ⟨k410, h⟩ | ⟨k410, h⟩
                · refine rb_true (by first | exact congrArg D.bool k410 | rfl) ?_
                  refine rb_skip ?_
                  refine eb_seq ?_
                  refine rb_true (by first | exact congrArg D.bool k410 | rfl) ?_
                  refine rb_regionK fun K411 hK411 => ?_
                  simp -implicitDefEqProofs only [vt, ↓atI_fold, forall_const, implies_true, sevalprocAttr, dd_GD, k338, h344, k347, k369, k374, k399, h407, k410]
                  obtain ⟨z412, h413, h⟩ := bind_some h
                  obtain ⟨⟨h414, h415, h416, h417⟩, h418⟩ := subI_some h413
                  try simp -implicitDefEqProofs only [vt, ↓atI_fold, forall_const, implies_true, sevalprocAttr, dd_GD, k338, h344, k347, k369, k374, k399, h407, k410, h414, h415, h416, h417] at h418
                  simp -implicitDefEqProofs only [vt, ↓atI_fold, forall_const, implies_true, sevalprocAttr, dd_GD, k338, h344, k347, k369, k374, k399, h407, k410, h414, h415, h416, h417, h418]
                  obtain ⟨h419, h⟩ := ite_on h
                  have h420 : x226.2.length + z412.length ≤ 9223372036854775807 := by (try simp only [List.length_append, List.length_cons, List.length_nil]); omega
                  try simp -implicitDefEqProofs only [vt, ↓atI_fold, forall_const, implies_true, sevalprocAttr, dd_GD, k338, h344, k347, k369, k374, k399, h407, k410, h414, h415, h416, h417, h418] at h420
                  simp -implicitDefEqProofs only [vt, ↓atI_fold, forall_const, implies_true, sevalprocAttr, dd_GD, k338, h344, k347, k369, k374, k399, h407, k410, h414, h415, h416, h417, h418, h420, h419]
                  subst hK411
                  refine eb_blk_n ?_
                  refine eb_seq ?_
                  refine rb_regionK fun K421 hK421 => ?_
                  simp -implicitDefEqProofs only [vt, ↓atI_fold, forall_const, implies_true, sevalprocAttr, dd_GD, k338, h344, k347, k369, k374, k399, h407, k410, h414, h415, h416, h417, h418, h420, h419]
                  subst hK421
                  refine eb_blk_n ?_
                  obtain rfl := Option.some.inj h
                  exact eb_nil ⟨rfl, Wk.of (fun i => some i) _ _ _ (by simp -implicitDefEqProofs [kv, dd_GD, k338, k347, k369, k374, k399, k410]) (by simp -implicitDefEqProofs [kv, dd_GD, k338, k347, k369, k374, k399, k410])⟩
                · refine rb_false (by first | exact congrArg D.bool k410 | rfl) ?_
                  refine rb_regionK fun K422 hK422 => ?_
                  simp -implicitDefEqProofs only [vt, ↓atI_fold, forall_const, implies_true, sevalprocAttr, dd_GD, k338, h344, k347, k369, k374, k399, h407, k410]
                  subst hK422
                  refine eb_seq ?_
                  rcases ite_or h with ⟨k423, h⟩ | ⟨k423, h⟩
                  · refine rb_true (by first | exact congrArg D.bool k423 | rfl) ?_
                    refine rb_regionK fun K424 hK424 => ?_
                    simp -implicitDefEqProofs only [vt, ↓atI_fold, forall_const, implies_true, sevalprocAttr, dd_GD, k338, h344, k347, k369, k374, k399, h407, k410, k423]
                    obtain ⟨z425, h426, h⟩ := bind_some h
                    obtain ⟨⟨h427, h428, h429, h430⟩, h431⟩ := subI_some h426
                    try simp -implicitDefEqProofs only [vt, ↓atI_fold, forall_const, implies_true, sevalprocAttr, dd_GD, k338, h344, k347, k369, k374, k399, h407, k410, k423, h427, h428, h429, h430] at h431
                    simp -implicitDefEqProofs only [vt, ↓atI_fold, forall_const, implies_true, sevalprocAttr, dd_GD, k338, h344, k347, k369, k374, k399, h407, k410, k423, h427, h428, h429, h430, h431]
                    obtain ⟨h432, h⟩ := ite_on h
                    have h433 : x226.2.length + z425.length ≤ 9223372036854775807 := by (try simp only [List.length_append, List.length_cons, List.length_nil]); omega
                    try simp -implicitDefEqProofs only [vt, ↓atI_fold, forall_const, implies_true, sevalprocAttr, dd_GD, k338, h344, k347, k369, k374, k399, h407, k410, k423, h427, h428, h429, h430, h431] at h433
                    simp -implicitDefEqProofs only [vt, ↓atI_fold, forall_const, implies_true, sevalprocAttr, dd_GD, k338, h344, k347, k369, k374, k399, h407, k410, k423, h427, h428, h429, h430, h431, h433, h432]
                    subst hK424
                    refine eb_blk_n ?_
                    refine eb_seq ?_
                    refine rb_regionK fun K434 hK434 => ?_
                    simp -implicitDefEqProofs only [vt, ↓atI_fold, forall_const, implies_true, sevalprocAttr, dd_GD, k338, h344, k347, k369, k374, k399, h407, k410, k423, h427, h428, h429, h430, h431, h433, h432]
                    subst hK434
                    refine eb_blk_n ?_
                    obtain rfl := Option.some.inj h
                    exact eb_nil ⟨rfl, Wk.of (fun i => some i) _ _ _ (by simp -implicitDefEqProofs [kv, dd_GD, k338, k347, k369, k374, k399, k410, k423]) (by simp -implicitDefEqProofs [kv, dd_GD, k338, k347, k369, k374, k399, k410, k423])⟩
                  · refine rb_false (by first | exact congrArg D.bool k423 | rfl) ?_
                    refine rb_seq ?_
                    refine rb_regionK fun K436 hK436 => ?_
                    simp -implicitDefEqProofs only [vt, ↓atI_fold, forall_const, implies_true, sevalprocAttr, dd_GD, k338, h344, k347, k369, k374, k399, h407, k410, k423]
                    subst hK436
                    refine eb_seq ?_
                    rcases ite_or h with ⟨k437, h⟩ | ⟨k437, h⟩
                    · refine rb_true (by first | exact congrArg D.bool k437 | rfl) ?_
                      refine rb_regionK fun K438 hK438 => ?_
                      simp -implicitDefEqProofs only [vt, ↓atI_fold, forall_const, implies_true, sevalprocAttr, dd_GD, k338, h344, k347, k369, k374, k399, h407, k410, k423, k437]
                      obtain ⟨h439, h⟩ := ite_on h
                      have h440 : x226.2.length + ([10] : List UInt8).length ≤ 9223372036854775807 := by (try simp only [List.length_append, List.length_cons, List.length_nil]); omega
                      try simp -implicitDefEqProofs only [vt, ↓atI_fold, forall_const, implies_true, sevalprocAttr, dd_GD, k338, h344, k347, k369, k374, k399, h407, k410, k423, k437] at h440
                      simp -implicitDefEqProofs only [vt, ↓atI_fold, forall_const, implies_true, sevalprocAttr, dd_GD, k338, h344, k347, k369, k374, k399, h407, k410, k423, k437, h440, h439]
                      subst hK438
                      refine eb_blk_n ?_
                      refine eb_seq ?_
                      refine rb_regionK fun K441 hK441 => ?_
                      simp -implicitDefEqProofs only [vt, ↓atI_fold, forall_const, implies_true, sevalprocAttr, dd_GD, k338, h344, k347, k369, k374, k399, h407, k410, k423, k437, h440, h439]
                      subst hK441
                      refine eb_blk_n ?_
                      obtain rfl := Option.some.inj h
                      exact eb_nil ⟨rfl, Wk.of (fun i => some i) _ _ _ (by simp -implicitDefEqProofs [kv, dd_GD, k338, k347, k369, k374, k399, k410, k423, k437]) (by simp -implicitDefEqProofs [kv, dd_GD, k338, k347, k369, k374, k399, k410, k423, k437])⟩
                    · refine rb_false (by first | exact congrArg D.bool k437 | rfl) ?_
                      refine rb_seq ?_
                      refine rb_regionK fun K443 hK443 => ?_
                      simp -implicitDefEqProofs only [vt, ↓atI_fold, forall_const, implies_true, sevalprocAttr, dd_GD, k338, h344, k347, k369, k374, k399, h407, k410, k423, k437]
                      subst hK443
                      refine eb_seq ?_
                      refine rb_ret ?_
                      refine eb_blk_r ?_
                      refine eb_seq_r ?_
                      refine eb_blk_r ?_
                      obtain rfl := Option.some.inj h
                      exact eb_nil ⟨rfl, Wk.of (fun i => some i) _ _ _ (by simp -implicitDefEqProofs [kv, dd_GD, k338, k347, k369, k374, k399, k410, k423, k437]) (by simp -implicitDefEqProofs [kv, dd_GD, k338, k347, k369, k374, k399, k410, k423, k437])⟩
    · refine rb_false (by first | exact congrArg D.bool k338 | rfl) ?_
      refine rb_exit ?_
      refine eb_seq_e ?_
      obtain rfl := Option.some.inj h
      exact eb_nil ⟨rfl, Wk.of (fun i => some i) _ _ _ (by simp -implicitDefEqProofs [kv, dd_GD, k338]) (by simp -implicitDefEqProofs [kv, dd_GD, k338])⟩
  · rcases e227 with e227 | e227
    · try dsimp only at h ⊢
      refine eb_blk_r ?_
      refine eb_seq_r ?_
      obtain rfl := Option.some.inj h
      refine eb_nil ?_
      simp -implicitDefEqProofs only [vt, ↓atI_fold, forall_const, implies_true, sevalprocAttr, retQ_r, Tryd.results73, dd_GD] <;> first | rfl | (simp [List.map_append, dd_GD]; done)
    · try dsimp only at h ⊢
      refine eb_blk_hit ?_
      refine eb_seq ?_
      refine rb_seq ?_
      refine rb_regionK fun K446 hK446 => ?_
      simp -implicitDefEqProofs only [vt, ↓atI_fold, forall_const, implies_true, sevalprocAttr, dd_GD]
      subst hK446
      refine eb_seq ?_
      refine rb_ret ?_
      obtain rfl := Option.some.inj h
      refine eb_nil ?_
      simp -implicitDefEqProofs only [vt, ↓atI_fold, forall_const, implies_true, sevalprocAttr, retQ_r, Tryd.results73, dd_GD] <;> first | rfl | (simp [List.map_append, dd_GD]; done)
-- captionerref07.fields
def g_ref07_fields_s2 (s_0 : List UInt8) (x398 : Int) : Option (Nx (Int) (Int)) :=
  (if (decide (x398 < (s_0.length : Int))) then ((atI s_0 x398).bind fun b426 => (if ((b426.toNat : Int) == 32) then (some (.go (IntKind.i64.wrap (x398 + 1)))) else (some (.out x398)))) else (some (.out x398)))
def g_ref07_fields_s3 (s_0 : List UInt8) (x550 : Int) : Option (Nx (Int) (Int ⊕ Int)) :=
  (((if (decide (x550 < (s_0.length : Int))) then ((atI s_0 x550).bind fun b609 => (some ((b609.toNat : Int) != 32))) else (some false)) : Option (Bool)).bind fun v606 => (if v606 then ((atI s_0 x550).bind fun b619 => ((g_ref07_wordByte (b619.toNat : Int)).bind fun r621 => (if r621 then (some (.go (IntKind.i64.wrap (x550 + 1)))) else (some (.out (.inl x550)))))) else (some (.out (.inr x550)))))
def g_ref07_fields_s1 (s_0 : List UInt8) (x7 : (List T_api_Field) × Int) : Option (Nx ((List T_api_Field) × Int) ((List T_api_Field) × Int)) :=
  ((iter (g_ref07_fields_s2 s_0) x7.2).bind fun e399 => (((if (decide ((s_0.length : Int) ≤ e399)) then (some true) else ((atI s_0 e399).bind fun b438 => (some ((b438.toNat : Int) == 35)))) : Option (Bool)).bind fun v435 => (if v435 then (some (.out (x7.1, -1))) else ((atI s_0 e399).bind fun b450 => (if ((b450.toNat : Int) == 34) then ((g_ref07_quoted s_0 e399).bind fun r457 => (if (decide (0 ≤ r457.2.2)) then (some (.out ([], r457.2.2))) else (if (x7.1.length + 1) * 32 ≤ 140737488355328 then (some (.go ((x7.1 ++ [(T_api_Field.mk r457.1 (IntKind.i64.wrap (e399 + 1)) true)]), r457.2.1))) else none))) else ((iter (g_ref07_fields_s3 s_0) e399).bind fun e551 => (match e551 with | Sum.inl e551 => (some (.out ([], e551))) | Sum.inr (e551) => ((subI s_0 e399 e551).bind fun z629 => (if (x7.1.length + 1) * 32 ≤ 140737488355328 then (some (.go ((x7.1 ++ [(T_api_Field.mk z629 (IntKind.i64.wrap (e399 + 1)) false)]), e551))) else none)))))))))
def g_ref07_fields (s_0 : List UInt8) : Option ((List T_api_Field) × Int) :=
  ((iter (g_ref07_fields_s1 s_0) ([], 0)).bind fun e8 => (some (e8.1, e8.2)))
theorem a_ref07_fields (I : World → Prop) (hI : Stab I) (s_0 : List UInt8) {r : (List T_api_Field) × Int} (h : g_ref07_fields s_0 = some r) : AFun Tryd.prog I 71 [.str s_0] (.tup [.sl (r.1.map T_api_Field.d), .int .i64 r.2]) := by
  refine AFun.enterB hI Tryd.func71 rfl (by decide) (by simp [Tryd.f71]) (by kernel_rfl) ?_
  unfold g_ref07_fields at h
  simp only [S0, Tryd.ntmps71, dd_GD]
  refine rb_seq ?_
  refine rb_regionK fun K2 hK2 => ?_
  simp -implicitDefEqProofs only [vt, ↓atI_fold, forall_const, implies_true, sevalprocAttr, dd_GD]
  subst hK2
  refine eb_seq ?_
  refine rb_seq ?_
  refine rb_regionK fun K4 hK4 => ?_
  simp -implicitDefEqProofs only [vt, ↓atI_fold, forall_const, implies_true, sevalprocAttr, dd_GD]
  subst hK4
  refine eb_seq ?_
  refine rb_seq ?_
  refine rb_regionK fun K6 hK6 => ?_
  simp -implicitDefEqProofs only [vt, ↓atI_fold, forall_const, implies_true, sevalprocAttr, dd_GD]
  subst hK6
  refine eb_seq ?_
  refine rb_block ?_
  obtain ⟨e8, h638, h⟩ := bind_some h
  refine rb_loop (fun x7 => ⟨envL [(0, .str s_0), (4, .own 0 x7.1.length), (5, .int .i64 x7.2)], heapL [(0, .vec 78 3 (x7.1.map T_api_Field.d) false)], 1, 84⟩) (fun _ => .ret) (fun e8 => ⟨envL [(2, .own 0 e8.1.length), (3, .int .i64 e8.2)], heapL [(0, .vec 78 3 (e8.1.map T_api_Field.d) false)], 1, 84⟩) h638 (Wk.of (fun i => if i = 0 then none else some i) _ _ _ (by simp -implicitDefEqProofs [kv, dd_GD]) (by simp -implicitDefEqProofs [kv, dd_GD])) (by intro w; simp) ?_ ?_
  · clear h
    intro x7 y h
    unfold g_ref07_fields_s1 at h
    refine rb_block ?_
    refine rb_seq ?_
    refine rb_block ?_
    obtain ⟨e399, h430, h⟩ := bind_some h
    refine rb_loop (fun x398 => ⟨envL [(0, .str s_0), (4, .own 0 x7.1.length), (5, .int .i64 x398)], heapL [(0, .vec 78 3 (x7.1.map T_api_Field.d) false)], 1, 84⟩) (fun _ => .exit 2) (fun e399 => ⟨envL [(0, .str s_0), (4, .own 0 x7.1.length), (5, .int .i64 e399)], heapL [(0, .vec 78 3 (x7.1.map T_api_Field.d) false)], 1, 84⟩) h430 (Wk.of (fun i => if i = 0 then some 0 else some i) _ _ _ (by simp -implicitDefEqProofs [kv, dd_GD]) (by simp -implicitDefEqProofs [kv, dd_GD])) (by intro w; simp) ?_ ?_
    · clear h
      intro x398 y h
      unfold g_ref07_fields_s2 at h
      refine rb_seq ?_
      refine rb_seq ?_
      refine rb_regionK fun K424 hK424 => ?_
      simp -implicitDefEqProofs only [vt, ↓atI_fold, forall_const, implies_true, sevalprocAttr, dd_GD]
      rcases ite_or h with ⟨k425, h⟩ | ⟨k425, h⟩
      · simp -implicitDefEqProofs only [vt, ↓atI_fold, forall_const, implies_true, sevalprocAttr, dd_GD, k425]
        obtain ⟨b426, h427, h⟩ := bind_some h
        simp -implicitDefEqProofs only [vt, ↓atI_fold, forall_const, implies_true, sevalprocAttr, dd_GD, k425, h427]
        subst hK424
        refine eb_seq ?_
        rcases ite_or h with ⟨k428, h⟩ | ⟨k428, h⟩
        · refine rb_true (by first | exact congrArg D.bool k428 | rfl) ?_
          refine rb_skip ?_
          refine eb_seq ?_
          refine rb_block ?_
          refine rb_regionK fun K429 hK429 => ?_
          simp -implicitDefEqProofs only [vt, ↓atI_fold, forall_const, implies_true, sevalprocAttr, dd_GD, k425, h427, k428]
          subst hK429
          refine eb_blk_n ?_
          obtain rfl := Option.some.inj h
          exact eb_nil ⟨rfl, Wk.of (fun i => if i = 0 then some 0 else some i) _ _ _ (by simp -implicitDefEqProofs [kv, dd_GD, k425, k428]) (by simp -implicitDefEqProofs [kv, dd_GD, k425, k428])⟩
        · refine rb_false (by first | exact congrArg D.bool k428 | rfl) ?_
          refine rb_exit ?_
          refine eb_seq_e ?_
          obtain rfl := Option.some.inj h
          exact eb_nil ⟨rfl, Wk.of (fun i => if i = 0 then some 0 else some i) _ _ _ (by simp -implicitDefEqProofs [kv, dd_GD, k425, k428]) (by simp -implicitDefEqProofs [kv, dd_GD, k425, k428])⟩
      · simp -implicitDefEqProofs only [vt, ↓atI_fold, forall_const, implies_true, sevalprocAttr, dd_GD, k425]
        subst hK424
        refine eb_seq ?_
        refine rb_false (rfl) ?_
        refine rb_exit ?_
        refine eb_seq_e ?_
        obtain rfl := Option.some.inj h
        exact eb_nil ⟨rfl, Wk.of (fun i => if i = 0 then some 0 else some i) _ _ _ (by simp -implicitDefEqProofs [kv, dd_GD, k425]) (by simp -implicitDefEqProofs [kv, dd_GD, k425])⟩
    · refine eb_blk_hit ?_
      refine eb_seq ?_
      refine rb_seq ?_
      obtain ⟨v435, h440, h⟩ := bind_some h
      refine rb_cut (fun v435 => ⟨envL [(0, .str s_0), (4, .own 0 x7.1.length), (5, .int .i64 e399), (31, .bool v435)], heapL [(0, .vec 78 3 (x7.1.map T_api_Field.d) false)], 1, 84⟩) h440 ?_ ?_
      · clear h
        intro v435 h
        refine rb_regionK fun K436 hK436 => ?_
        simp -implicitDefEqProofs only [vt, ↓atI_fold, forall_const, implies_true, sevalprocAttr, dd_GD]
        rcases ite_or h with ⟨k437, h⟩ | ⟨k437, h⟩
        · simp -implicitDefEqProofs only [vt, ↓atI_fold, forall_const, implies_true, sevalprocAttr, dd_GD, k437]
          subst hK436
          obtain rfl := Option.some.inj h
          exact eb_nil ⟨rfl, Wk.of (fun i => if i = 0 then some 0 else some i) _ _ _ (by simp -implicitDefEqProofs [kv, dd_GD, k437]) (by simp -implicitDefEqProofs [kv, dd_GD, k437])⟩
        · simp -implicitDefEqProofs only [vt, ↓atI_fold, forall_const, implies_true, sevalprocAttr, dd_GD, k437]
          obtain ⟨b438, h439, h⟩ := bind_some h
          simp -implicitDefEqProofs only [vt, ↓atI_fold, forall_const, implies_true, sevalprocAttr, dd_GD, k437, h439]
          subst hK436
          obtain rfl := Option.some.inj h
          exact eb_nil ⟨rfl, Wk.of (fun i => if i = 0 then some 0 else some i) _ _ _ (by simp -implicitDefEqProofs [kv, dd_GD, k437]) (by simp -implicitDefEqProofs [kv, dd_GD, k437])⟩
      · rcases ite_or h with ⟨k441, h⟩ | ⟨k441, h⟩
        · refine rb_true (by first | exact congrArg D.bool k441 | rfl) ?_
          refine rb_seq ?_
          refine rb_regionK fun K443 hK443 => ?_
          simp -implicitDefEqProofs only [vt, ↓atI_fold, forall_const, implies_true, sevalprocAttr, dd_GD, k441]
          subst hK443
          refine eb_seq ?_
          refine rb_ret ?_
          refine eb_seq_r ?_
          refine eb_blk_r ?_
          obtain rfl := Option.some.inj h
          exact eb_nil ⟨rfl, Wk.of (fun i => if i = 0 then some 0 else some i) _ _ _ (by simp -implicitDefEqProofs [kv, dd_GD, k441]) (by simp -implicitDefEqProofs [kv, dd_GD, k441])⟩
        · refine rb_false (by first | exact congrArg D.bool k441 | rfl) ?_
          refine rb_skip ?_
          refine eb_seq ?_
          refine rb_seq ?_
          refine rb_regionK fun K445 hK445 => ?_
          simp -implicitDefEqProofs only [vt, ↓atI_fold, forall_const, implies_true, sevalprocAttr, dd_GD, k441]
          subst hK445
          refine eb_seq ?_
          refine rb_seq ?_
          refine rb_seq ?_
          refine rb_regionK fun K449 hK449 => ?_
          simp -implicitDefEqProofs only [vt, ↓atI_fold, forall_const, implies_true, sevalprocAttr, dd_GD, k441]
          obtain ⟨b450, h451, h⟩ := bind_some h
          simp -implicitDefEqProofs only [vt, ↓atI_fold, forall_const, implies_true, sevalprocAttr, dd_GD, k441, h451]
          subst hK449
          refine eb_seq ?_
          rcases ite_or h with ⟨k452, h⟩ | ⟨k452, h⟩
          · refine rb_true (by first | exact congrArg D.bool k452 | rfl) ?_
            refine rb_seq ?_
            refine rb_regionK fun K456 hK456 => ?_
            simp -implicitDefEqProofs only [vt, ↓atI_fold, forall_const, implies_true, sevalprocAttr, dd_GD, k441, h451, k452]
            obtain ⟨r457, h458, h⟩ := bind_some h
            refine cW.intro (a_ref07_quoted I hI s_0 e399 h458) (by first | rfl | (simp [List.map_append, dd_GD]; done)) ?_
            simp -implicitDefEqProofs only [vt, ↓atI_fold, forall_const, implies_true, sevalprocAttr, dd_GD, k441, h451, k452]
            subst hK456
            refine eb_seq ?_
            refine rb_seq ?_
            refine rb_seq ?_
            refine rb_regionK fun K460 hK460 => ?_
            simp -implicitDefEqProofs only [vt, ↓atI_fold, forall_const, implies_true, sevalprocAttr, dd_GD, k441, h451, k452]
            subst hK460
            refine eb_seq ?_
            rcases ite_or h with ⟨k461, h⟩ | ⟨k461, h⟩
            · refine rb_true (by first | exact congrArg D.bool k461 | rfl) ?_
              refine rb_seq ?_
              refine rb_regionK fun K463 hK463 => ?_
              simp -implicitDefEqProofs only [vt, ↓atI_fold, forall_const, implies_true, sevalprocAttr, dd_GD, k441, h451, k452, k461]
              subst hK463
              refine eb_seq ?_
              refine rb_ret ?_
              refine eb_seq_r ?_
              refine eb_seq_r ?_
              refine eb_blk_r ?_
              obtain rfl := Option.some.inj h
              exact eb_nil ⟨rfl, Wk.of (fun i => if i = 0 then none else some i) _ _ _ (by simp -implicitDefEqProofs [kv, dd_GD, k441, k452, k461]) (by simp -implicitDefEqProofs [kv, dd_GD, k441, k452, k461])⟩
            · refine rb_false (by first | exact congrArg D.bool k461 | rfl) ?_
              refine rb_skip ?_
              refine eb_seq ?_
              refine rb_seq ?_
              refine rb_regionK fun K467 hK467 => ?_
              simp -implicitDefEqProofs only [vt, ↓atI_fold, forall_const, implies_true, sevalprocAttr, dd_GD, k441, h451, k452, k461]
              obtain ⟨h468, h⟩ := ite_on h
              have h469 : x7.1.length + 1 ≤ 9223372036854775807 := by omega
              try simp only [Nat.reduceLeDiff] at h469
              simp -implicitDefEqProofs only [vt, ↓atI_fold, forall_const, implies_true, sevalprocAttr, dd_GD, k441, h451, k452, k461, h469, h468]
              subst hK467
              refine eb_seq ?_
              refine rb_seq ?_
              refine rb_regionK fun K471 hK471 => ?_
              simp -implicitDefEqProofs only [vt, ↓atI_fold, forall_const, implies_true, sevalprocAttr, dd_GD, k441, h451, k452, k461, h469, h468]
              subst hK471
              refine eb_seq ?_
              refine rb_exit ?_
              refine eb_seq_e ?_
              refine eb_blk_hit ?_
              obtain rfl := Option.some.inj h
              exact eb_nil ⟨rfl, Wk.of (fun i => if i = 0 then some 25 else some i) _ _ _ (by simp -implicitDefEqProofs [kv, dd_GD, k441, k452, k461]) (by simp -implicitDefEqProofs [kv, dd_GD, k441, k452, k461])⟩
          · refine rb_false (by first | exact congrArg D.bool k452 | rfl) ?_
            refine rb_skip ?_
            refine eb_seq ?_
            refine rb_seq ?_
            refine rb_block ?_
            obtain ⟨e551, h627, h⟩ := bind_some h
            refine rb_loop (fun x550 => ⟨envL [(0, .str s_0), (4, .own 0 x7.1.length), (5, .int .i64 x550), (6, .int .i64 e399)], heapL [(0, .vec 78 3 (x7.1.map T_api_Field.d) false)], 1, 84⟩) (fun w => match w with | Sum.inl _ => .ret | Sum.inr (_) => .exit 4) (fun w => match w with | Sum.inl e551 => ⟨envL [(2, .nils), (3, .int .i64 e551)], heapL [], 0, 84⟩ | Sum.inr (e551) => ⟨envL [(0, .str s_0), (4, .own 0 x7.1.length), (5, .int .i64 e551), (6, .int .i64 e399)], heapL [(0, .vec 78 3 (x7.1.map T_api_Field.d) false)], 1, 84⟩) h627 (Wk.of (fun i => if i = 0 then some 0 else some i) _ _ _ (by simp -implicitDefEqProofs [kv, dd_GD, k441, k452]) (by simp -implicitDefEqProofs [kv, dd_GD, k441, k452])) (by intro w; rcases w with w | w <;> simp) ?_ ?_
            · clear h
              intro x550 y h
              unfold g_ref07_fields_s3 at h
              refine rb_seq ?_
              obtain ⟨v606, h611, h⟩ := bind_some h
              refine rb_cut (fun v606 => ⟨envL [(0, .str s_0), (4, .own 0 x7.1.length), (5, .int .i64 x550), (6, .int .i64 e399), (65, .bool v606)], heapL [(0, .vec 78 3 (x7.1.map T_api_Field.d) false)], 1, 84⟩) h611 ?_ ?_
              · clear h
                intro v606 h
                refine rb_regionK fun K607 hK607 => ?_
                simp -implicitDefEqProofs only [vt, ↓atI_fold, forall_const, implies_true, sevalprocAttr, dd_GD, k441, h451, k452]
                rcases ite_or h with ⟨k608, h⟩ | ⟨k608, h⟩
                · simp -implicitDefEqProofs only [vt, ↓atI_fold, forall_const, implies_true, sevalprocAttr, dd_GD, k441, h451, k452, k608]
                  obtain ⟨b609, h610, h⟩ := bind_some h
                  simp -implicitDefEqProofs only [vt, ↓atI_fold, forall_const, implies_true, sevalprocAttr, dd_GD, k441, h451, k452, k608, h610]
                  subst hK607
                  obtain rfl := Option.some.inj h
                  exact eb_nil ⟨rfl, Wk.of (fun i => if i = 0 then some 0 else some i) _ _ _ (by simp -implicitDefEqProofs [kv, dd_GD, k441, k452, k608]) (by simp -implicitDefEqProofs [kv, dd_GD, k441, k452, k608])⟩
                · simp -implicitDefEqProofs only [vt, ↓atI_fold, forall_const, implies_true, sevalprocAttr, dd_GD, k441, h451, k452, k608]
                  subst hK607
                  obtain rfl := Option.some.inj h
                  exact eb_nil ⟨rfl, Wk.of (fun i => if i = 0 then some 0 else some i) _ _ _ (by simp -implicitDefEqProofs [kv, dd_GD, k441, k452, k608]) (by simp -implicitDefEqProofs [kv, dd_GD, k441, k452, k608])⟩
              · rcases ite_or h with ⟨k612, h⟩ | ⟨k612, h⟩
                · refine rb_true (by first | exact congrArg D.bool k612 | rfl) ?_
                  refine rb_skip ?_
                  refine eb_seq ?_
                  refine rb_block ?_
                  refine rb_seq ?_
                  refine rb_seq ?_
                  refine rb_regionK fun K618 hK618 => ?_
                  simp -implicitDefEqProofs only [vt, ↓atI_fold, forall_const, implies_true, sevalprocAttr, dd_GD, k441, h451, k452, k612]
                  obtain ⟨b619, h620, h⟩ := bind_some h
                  simp -implicitDefEqProofs only [vt, ↓atI_fold, forall_const, implies_true, sevalprocAttr, dd_GD, k441, h451, k452, k612, h620]
                  obtain ⟨r621, h622, h⟩ := bind_some h
                  refine cW.intro (a_ref07_wordByte I hI (b619.toNat : Int) h622) (by first | rfl | (simp [List.map_append, dd_GD]; done)) ?_
                  simp -implicitDefEqProofs only [vt, ↓atI_fold, forall_const, implies_true, sevalprocAttr, dd_GD, k441, h451, k452, k612, h620]
                  subst hK618
                  refine eb_seq ?_
                  rcases ite_or h with ⟨k623, h⟩ | ⟨k623, h⟩
                  · refine rb_false (by first | exact congrArg D.bool (congrArg Bool.not k623) | rfl) ?_
                    refine rb_skip ?_
                    refine eb_seq ?_
                    refine rb_regionK fun K624 hK624 => ?_
                    simp -implicitDefEqProofs only [vt, ↓atI_fold, forall_const, implies_true, sevalprocAttr, dd_GD, k441, h451, k452, k612, h620, k623]
                    subst hK624
                    refine eb_blk_n ?_
                    obtain rfl := Option.some.inj h
                    exact eb_nil ⟨rfl, Wk.of (fun i => if i = 0 then some 0 else some i) _ _ _ (by simp -implicitDefEqProofs [kv, dd_GD, k441, k452, k612, k623]) (by simp -implicitDefEqProofs [kv, dd_GD, k441, k452, k612, k623])⟩
                  · refine rb_true (by first | exact congrArg D.bool (congrArg Bool.not k623) | rfl) ?_
                    refine rb_seq ?_
                    refine rb_regionK fun K626 hK626 => ?_
                    simp -implicitDefEqProofs only [vt, ↓atI_fold, forall_const, implies_true, sevalprocAttr, dd_GD, k441, h451, k452, k612, h620, k623]
                    subst hK626
                    refine eb_seq ?_
                    refine rb_ret ?_
                    refine eb_seq_r ?_
                    refine eb_blk_r ?_
                    obtain rfl := Option.some.inj h
                    exact eb_nil ⟨rfl, Wk.of (fun i => some i) _ _ _ (by simp -implicitDefEqProofs [kv, dd_GD, k441, k452, k612, k623]) (by simp -implicitDefEqProofs [kv, dd_GD, k441, k452, k612, k623])⟩
                · refine rb_false (by first | exact congrArg D.bool k612 | rfl) ?_
                  refine rb_exit ?_
                  refine eb_seq_e ?_
                  obtain rfl := Option.some.inj h
                  exact eb_nil ⟨rfl, Wk.of (fun i => if i = 0 then some 0 else some i) _ _ _ (by simp -implicitDefEqProofs [kv, dd_GD, k441, k452, k612]) (by simp -implicitDefEqProofs [kv, dd_GD, k441, k452, k612])⟩
            · rcases e551 with e551 | e551
              · try dsimp only at h ⊢
                refine eb_blk_r ?_
                refine eb_seq_r ?_
                refine eb_blk_r ?_
                obtain rfl := Option.some.inj h
                exact eb_nil ⟨rfl, Wk.of (fun i => if i = 0 then none else some i) _ _ _ (by simp -implicitDefEqProofs [kv, dd_GD, k441, k452]) (by simp -implicitDefEqProofs [kv, dd_GD, k441, k452])⟩
              · try dsimp only at h ⊢
                refine eb_blk_hit ?_
                refine eb_seq ?_
                refine rb_regionK fun K628 hK628 => ?_
                simp -implicitDefEqProofs only [vt, ↓atI_fold, forall_const, implies_true, sevalprocAttr, dd_GD, k441, h451, k452]
                obtain ⟨z629, h630, h⟩ := bind_some h
                obtain ⟨⟨h631, h632, h633, h634⟩, h635⟩ := subI_some h630
                try simp -implicitDefEqProofs only [vt, ↓atI_fold, forall_const, implies_true, sevalprocAttr, dd_GD, k441, h451, k452, h631, h632, h633, h634] at h635
                simp -implicitDefEqProofs only [vt, ↓atI_fold, forall_const, implies_true, sevalprocAttr, dd_GD, k441, h451, k452, h631, h632, h633, h634, h635]
                obtain ⟨h636, h⟩ := ite_on h
                have h637 : x7.1.length + 1 ≤ 9223372036854775807 := by omega
                try simp only [Nat.reduceLeDiff] at h637
                simp -implicitDefEqProofs only [vt, ↓atI_fold, forall_const, implies_true, sevalprocAttr, dd_GD, k441, h451, k452, h631, h632, h633, h634, h635, h637, h636]
                subst hK628
                refine eb_blk_n ?_
                obtain rfl := Option.some.inj h
                exact eb_nil ⟨rfl, Wk.of (fun i => if i = 0 then some 10 else some i) _ _ _ (by simp -implicitDefEqProofs [kv, dd_GD, k441, k452]) (by simp -implicitDefEqProofs [kv, dd_GD, k441, k452])⟩
  · refine eb_blk_r ?_
    obtain rfl := Option.some.inj h
    refine eb_nil ?_
    simp -implicitDefEqProofs only [vt, ↓atI_fold, forall_const, implies_true, sevalprocAttr, retQ_r, Tryd.results71, dd_GD] <;> first | rfl | (simp [List.map_append, dd_GD]; done)
end Go.Proofs.YtncmdhkmbmkiiaaDoor
