/- What some functions compute, read off their texts by a program of mine (gen.py): definitions, and contracts (the text computes it). No condition but that the definition answers. -/
import Derived.Test.YtipdmcpmedmicaaDoorGC2
namespace Go.Proofs.YtipdmcpmedmicaaDoor
open Go.RowKit
set_option maxRecDepth 100000
set_option linter.unusedVariables false
set_option linter.unusedSimpArgs false
set_option maxHeartbeats 10000000
structure T_api_Region where
  Name : List UInt8
  Top : Int
  Height : Int
  Left : Int
  Width : Int
  Align : Int
  Bottom : Bool
  deriving DecidableEq
def T_api_Region.d (x : T_api_Region) : D := .agg [.str x.Name, .int .i64 x.Top, .int .i64 x.Height, .int .i64 x.Left, .int .i64 x.Width, .int .u8 x.Align, .bool x.Bottom]
structure T_api_Spot where
  Row : Int
  Col : Int
  Len : Int
  deriving DecidableEq
def T_api_Spot.d (x : T_api_Spot) : D := .agg [.int .i64 x.Row, .int .i64 x.Col, .int .i64 x.Len]
theorem dd_TA : (∀ x, T_api_Region.d x = .agg [.str x.Name, .int .i64 x.Top, .int .i64 x.Height, .int .i64 x.Left, .int .i64 x.Width, .int .u8 x.Align, .bool x.Bottom]) ∧ (∀ x, T_api_Spot.d x = .agg [.int .i64 x.Row, .int .i64 x.Col, .int .i64 x.Len]) := ⟨fun _ => rfl, fun _ => rfl⟩
-- region.Default
def g_region_Default  : Option (T_api_Region) :=
  (some (T_api_Region.mk [] 11 4 0 32 2 true))
theorem a_region_Default (I : World → Prop) (hI : Stab I)  {r : T_api_Region} (h : g_region_Default  = some r) : AFun Tryd.prog I 51 [] (T_api_Region.d r) := by
  refine AFun.enterB hI Tryd.func51 rfl (by decide) (by simp [Tryd.f51]) (by kernel_rfl) ?_
  unfold g_region_Default at h
  simp only [S0, Tryd.ntmps51, dd_TA]
  refine rb_seq ?_
  refine rb_regionK fun K2 hK2 => ?_
  simp -implicitDefEqProofs only [vt, vm, ↓atI_fold, forall_const, implies_true, sevalprocAttr, dd_TA]
  subst hK2
  refine eb_seq ?_
  refine rb_seq ?_
  refine rb_regionK fun K4 hK4 => ?_
  simp -implicitDefEqProofs only [vt, vm, ↓atI_fold, forall_const, implies_true, sevalprocAttr, dd_TA]
  subst hK4
  refine eb_seq ?_
  refine rb_ret ?_
  obtain rfl := Option.some.inj h
  refine eb_nil ?_
  simp -implicitDefEqProofs only [vt, vm, ↓atI_fold, forall_const, implies_true, sevalprocAttr, retQ_r, Tryd.results51, dd_TA] <;> first | rfl | (simp [List.map_append, dd_TA]; done)
-- lines.Name
def g_lines_Name_s1 (s_0 : List UInt8) (x22 : Int) : Option (Nx (Int) (Unit ⊕ Unit)) :=
  (if (decide (x22 < (s_0.length : Int))) then ((atI s_0 x22).bind fun b144 => (((if (decide ((b144.toNat : Int) < 65)) then (if (decide ((b144.toNat : Int) < 48)) then (if ((b144.toNat : Int) != 95) then (some ((b144.toNat : Int) != 45)) else (some false)) else (if (decide (57 < (b144.toNat : Int))) then (if ((b144.toNat : Int) != 95) then (some ((b144.toNat : Int) != 45)) else (some false)) else (some false))) else (if (decide (90 < (b144.toNat : Int))) then (if (decide ((b144.toNat : Int) < 48)) then (if ((b144.toNat : Int) != 95) then (some ((b144.toNat : Int) != 45)) else (some false)) else (if (decide (57 < (b144.toNat : Int))) then (if ((b144.toNat : Int) != 95) then (some ((b144.toNat : Int) != 45)) else (some false)) else (some false))) else (some false))) : Option (Bool)).bind fun v157 => (if v157 then (some (.out (.inl ()))) else (some (.go (IntKind.i64.wrap (x22 + 1))))))) else (some (.out (.inr ()))))
def g_lines_Name (s_0 : List UInt8) : Option (Bool) :=
  (((if (decide ((s_0.length : Int) < 1)) then (some true) else (if (decide (16 < (s_0.length : Int))) then (some true) else ((atI s_0 0).bind fun b13 => (if (decide ((b13.toNat : Int) < 65)) then (some true) else (some (decide (90 < (b13.toNat : Int)))))))) : Option (Bool)).bind fun v9 => (if v9 then (some false) else ((iter (g_lines_Name_s1 s_0) 0).bind fun e23 => (match e23 with | Sum.inl e23 => (some false) | Sum.inr (e23) => (some true)))))
theorem a_lines_Name (I : World → Prop) (hI : Stab I) (s_0 : List UInt8) {r : Bool} (h : g_lines_Name s_0 = some r) : AFun Tryd.prog I 83 [.str s_0] (.bool r) := by
  refine AFun.enterB hI Tryd.func83 rfl (by decide) (by simp [Tryd.f83]) (by kernel_rfl) ?_
  unfold g_lines_Name at h
  simp only [S0, Tryd.ntmps83, dd_TA]
  refine rb_seq ?_
  refine rb_regionK fun K2 hK2 => ?_
  simp -implicitDefEqProofs only [vt, vm, ↓atI_fold, forall_const, implies_true, sevalprocAttr, dd_TA]
  subst hK2
  refine eb_seq ?_
  refine rb_seq ?_
  obtain ⟨v9, h16, h⟩ := bind_some h
  refine rb_cut (fun v9 => ⟨envL [(0, .str s_0), (22, .bool v9)], heapL [], 0, 54⟩) h16 ?_ ?_
  · clear h
    intro v9 h
    refine rb_regionK fun K10 hK10 => ?_
    simp -implicitDefEqProofs only [vt, vm, ↓atI_fold, forall_const, implies_true, sevalprocAttr, dd_TA]
    rcases ite_or h with ⟨k11, h⟩ | ⟨k11, h⟩
    · simp -implicitDefEqProofs only [vt, vm, ↓atI_fold, forall_const, implies_true, sevalprocAttr, dd_TA, k11]
      subst hK10
      obtain rfl := Option.some.inj h
      exact eb_nil ⟨rfl, Wk.of (fun i => some i) _ _ _ (by simp -implicitDefEqProofs [kv, km, dd_TA, k11]) (by simp -implicitDefEqProofs [kv, km, dd_TA, k11])⟩
    · simp -implicitDefEqProofs only [vt, vm, ↓atI_fold, forall_const, implies_true, sevalprocAttr, dd_TA, k11]
      rcases ite_or h with ⟨k12, h⟩ | ⟨k12, h⟩
      · simp -implicitDefEqProofs only [vt, vm, ↓atI_fold, forall_const, implies_true, sevalprocAttr, dd_TA, k11, k12]
        subst hK10
        obtain rfl := Option.some.inj h
        exact eb_nil ⟨rfl, Wk.of (fun i => some i) _ _ _ (by simp -implicitDefEqProofs [kv, km, dd_TA, k11, k12]) (by simp -implicitDefEqProofs [kv, km, dd_TA, k11, k12])⟩
      · simp -implicitDefEqProofs only [vt, vm, ↓atI_fold, forall_const, implies_true, sevalprocAttr, dd_TA, k11, k12]
        obtain ⟨b13, h14, h⟩ := bind_some h
        simp -implicitDefEqProofs only [vt, vm, ↓atI_fold, forall_const, implies_true, sevalprocAttr, dd_TA, k11, k12, h14]
        rcases ite_or h with ⟨k15, h⟩ | ⟨k15, h⟩
        · simp -implicitDefEqProofs only [vt, vm, ↓atI_fold, forall_const, implies_true, sevalprocAttr, dd_TA, k11, k12, h14, k15]
          subst hK10
          obtain rfl := Option.some.inj h
          exact eb_nil ⟨rfl, Wk.of (fun i => some i) _ _ _ (by simp -implicitDefEqProofs [kv, km, dd_TA, k11, k12, k15]) (by simp -implicitDefEqProofs [kv, km, dd_TA, k11, k12, k15])⟩
        · simp -implicitDefEqProofs only [vt, vm, ↓atI_fold, forall_const, implies_true, sevalprocAttr, dd_TA, k11, k12, h14, k15]
          subst hK10
          obtain rfl := Option.some.inj h
          exact eb_nil ⟨rfl, Wk.of (fun i => some i) _ _ _ (by simp -implicitDefEqProofs [kv, km, dd_TA, k11, k12, k15]) (by simp -implicitDefEqProofs [kv, km, dd_TA, k11, k12, k15])⟩
  · rcases ite_or h with ⟨k17, h⟩ | ⟨k17, h⟩
    · refine rb_true (by first | exact congrArg D.bool k17 | rfl) ?_
      refine rb_seq ?_
      refine rb_regionK fun K19 hK19 => ?_
      simp -implicitDefEqProofs only [vt, vm, ↓atI_fold, forall_const, implies_true, sevalprocAttr, dd_TA, k17]
      subst hK19
      refine eb_seq ?_
      refine rb_ret ?_
      refine eb_seq_r ?_
      obtain rfl := Option.some.inj h
      refine eb_nil ?_
      simp -implicitDefEqProofs only [vt, vm, ↓atI_fold, forall_const, implies_true, sevalprocAttr, retQ_r, Tryd.results83, dd_TA, k17] <;> first | rfl | (simp [List.map_append, dd_TA]; done)
    · refine rb_false (by first | exact congrArg D.bool k17 | rfl) ?_
      refine rb_skip ?_
      refine eb_seq ?_
      refine rb_seq ?_
      refine rb_seq ?_
      refine rb_regionK fun K21 hK21 => ?_
      simp -implicitDefEqProofs only [vt, vm, ↓atI_fold, forall_const, implies_true, sevalprocAttr, dd_TA, k17]
      subst hK21
      refine eb_seq ?_
      refine rb_block ?_
      obtain ⟨e23, h174, h⟩ := bind_some h
      refine rb_loop (fun x22 => ⟨envL [(0, .str s_0), (24, .int .i64 (s_0.length : Int)), (25, .int .i64 x22)], heapL [], 0, 54⟩) (fun w => match w with | Sum.inl _ => .ret | Sum.inr (_) => .exit 0) (fun w => match w with | Sum.inl e23 => ⟨envL [(2, .bool false)], heapL [], 0, 54⟩ | Sum.inr (e23) => ⟨envL [], heapL [], 0, 54⟩) h174 (Wk.of (fun i => some i) _ _ _ (by simp -implicitDefEqProofs [kv, km, dd_TA, k17]) (by simp -implicitDefEqProofs [kv, km, dd_TA, k17])) (by intro w; rcases w with w | w <;> simp) ?_ ?_
      · clear h
        intro x22 y h
        unfold g_lines_Name_s1 at h
        refine rb_seq ?_
        refine rb_regionK fun K100 hK100 => ?_
        simp -implicitDefEqProofs only [vt, vm, ↓atI_fold, forall_const, implies_true, sevalprocAttr, dd_TA, k17]
        subst hK100
        refine eb_seq ?_
        refine rb_seq ?_
        rcases ite_or h with ⟨k102, h⟩ | ⟨k102, h⟩
        · refine rb_true (by first | exact congrArg D.bool k102 | rfl) ?_
          refine rb_skip ?_
          refine eb_seq ?_
          refine rb_seq ?_
          refine rb_block ?_
          refine rb_seq ?_
          refine rb_regionK fun K139 hK139 => ?_
          simp -implicitDefEqProofs only [vt, vm, ↓atI_fold, forall_const, implies_true, sevalprocAttr, dd_TA, k17, k102]
          subst hK139
          refine eb_seq ?_
          refine rb_seq ?_
          refine rb_regionK fun K143 hK143 => ?_
          simp -implicitDefEqProofs only [vt, vm, ↓atI_fold, forall_const, implies_true, sevalprocAttr, dd_TA, k17, k102]
          obtain ⟨b144, h145, h⟩ := bind_some h
          simp -implicitDefEqProofs only [vt, vm, ↓atI_fold, forall_const, implies_true, sevalprocAttr, dd_TA, k17, k102, h145]
          subst hK143
          refine eb_seq ?_
          obtain ⟨v157, h169, h⟩ := bind_some h
          refine rb_cut (fun v157 => ⟨envL [(0, .str s_0), (24, .int .i64 (s_0.length : Int)), (25, .int .i64 x22), (52, .bool v157)], heapL [], 0, 54⟩) h169 ?_ ?_
          · clear h
            intro v157 h
            refine rb_regionK fun K158 hK158 => ?_
            simp -implicitDefEqProofs only [vt, vm, ↓atI_fold, forall_const, implies_true, sevalprocAttr, dd_TA, k17, k102, h145]
            rcases ite_or h with ⟨k159, h⟩ | ⟨k159, h⟩
            · simp -implicitDefEqProofs only [vt, vm, ↓atI_fold, forall_const, implies_true, sevalprocAttr, dd_TA, k17, k102, h145, k159]
              rcases ite_or h with ⟨k160, h⟩ | ⟨k160, h⟩
              · simp -implicitDefEqProofs only [vt, vm, ↓atI_fold, forall_const, implies_true, sevalprocAttr, dd_TA, k17, k102, h145, k159, k160]
                rcases ite_or h with ⟨k161, h⟩ | ⟨k161, h⟩
                · simp -implicitDefEqProofs only [vt, vm, ↓atI_fold, forall_const, implies_true, sevalprocAttr, dd_TA, k17, k102, h145, k159, k160, k161]
                  subst hK158
                  obtain rfl := Option.some.inj h
                  exact eb_nil ⟨rfl, Wk.of (fun i => some i) _ _ _ (by simp -implicitDefEqProofs [kv, km, dd_TA, k17, k102, k159, k160, k161]) (by simp -implicitDefEqProofs [kv, km, dd_TA, k17, k102, k159, k160, k161])⟩
                · simp -implicitDefEqProofs only [vt, vm, ↓atI_fold, forall_const, implies_true, sevalprocAttr, dd_TA, k17, k102, h145, k159, k160, k161]
                  subst hK158
                  obtain rfl := Option.some.inj h
                  exact eb_nil ⟨rfl, Wk.of (fun i => some i) _ _ _ (by simp -implicitDefEqProofs [kv, km, dd_TA, k17, k102, k159, k160, k161]) (by simp -implicitDefEqProofs [kv, km, dd_TA, k17, k102, k159, k160, k161])⟩
              · simp -implicitDefEqProofs only [vt, vm, ↓atI_fold, forall_const, implies_true, sevalprocAttr, dd_TA, k17, k102, h145, k159, k160]
                rcases ite_or h with ⟨k162, h⟩ | ⟨k162, h⟩
                · simp -implicitDefEqProofs only [vt, vm, ↓atI_fold, forall_const, implies_true, sevalprocAttr, dd_TA, k17, k102, h145, k159, k160, k162]
                  rcases ite_or h with ⟨k163, h⟩ | ⟨k163, h⟩
                  · simp -implicitDefEqProofs only [vt, vm, ↓atI_fold, forall_const, implies_true, sevalprocAttr, dd_TA, k17, k102, h145, k159, k160, k162, k163]
                    subst hK158
                    obtain rfl := Option.some.inj h
                    exact eb_nil ⟨rfl, Wk.of (fun i => some i) _ _ _ (by simp -implicitDefEqProofs [kv, km, dd_TA, k17, k102, k159, k160, k162, k163]) (by simp -implicitDefEqProofs [kv, km, dd_TA, k17, k102, k159, k160, k162, k163])⟩
                  · simp -implicitDefEqProofs only [vt, vm, ↓atI_fold, forall_const, implies_true, sevalprocAttr, dd_TA, k17, k102, h145, k159, k160, k162, k163]
                    subst hK158
                    obtain rfl := Option.some.inj h
                    exact eb_nil ⟨rfl, Wk.of (fun i => some i) _ _ _ (by simp -implicitDefEqProofs [kv, km, dd_TA, k17, k102, k159, k160, k162, k163]) (by simp -implicitDefEqProofs [kv, km, dd_TA, k17, k102, k159, k160, k162, k163])⟩
                · simp -implicitDefEqProofs only [vt, vm, ↓atI_fold, forall_const, implies_true, sevalprocAttr, dd_TA, k17, k102, h145, k159, k160, k162]
                  subst hK158
                  obtain rfl := Option.some.inj h
                  exact eb_nil ⟨rfl, Wk.of (fun i => some i) _ _ _ (by simp -implicitDefEqProofs [kv, km, dd_TA, k17, k102, k159, k160, k162]) (by simp -implicitDefEqProofs [kv, km, dd_TA, k17, k102, k159, k160, k162])⟩
            · simp -implicitDefEqProofs only [vt, vm, ↓atI_fold, forall_const, implies_true, sevalprocAttr, dd_TA, k17, k102, h145, k159]
              rcases ite_or h with ⟨k164, h⟩ | ⟨k164, h⟩
              · simp -implicitDefEqProofs only [vt, vm, ↓atI_fold, forall_const, implies_true, sevalprocAttr, dd_TA, k17, k102, h145, k159, k164]
                rcases ite_or h with ⟨k165, h⟩ | ⟨k165, h⟩
                · simp -implicitDefEqProofs only [vt, vm, ↓atI_fold, forall_const, implies_true, sevalprocAttr, dd_TA, k17, k102, h145, k159, k164, k165]
                  rcases ite_or h with ⟨k166, h⟩ | ⟨k166, h⟩
                  · simp -implicitDefEqProofs only [vt, vm, ↓atI_fold, forall_const, implies_true, sevalprocAttr, dd_TA, k17, k102, h145, k159, k164, k165, k166]
                    subst hK158
                    obtain rfl := Option.some.inj h
                    exact eb_nil ⟨rfl, Wk.of (fun i => some i) _ _ _ (by simp -implicitDefEqProofs [kv, km, dd_TA, k17, k102, k159, k164, k165, k166]) (by simp -implicitDefEqProofs [kv, km, dd_TA, k17, k102, k159, k164, k165, k166])⟩
                  · simp -implicitDefEqProofs only [vt, vm, ↓atI_fold, forall_const, implies_true, sevalprocAttr, dd_TA, k17, k102, h145, k159, k164, k165, k166]
                    subst hK158
                    obtain rfl := Option.some.inj h
                    exact eb_nil ⟨rfl, Wk.of (fun i => some i) _ _ _ (by simp -implicitDefEqProofs [kv, km, dd_TA, k17, k102, k159, k164, k165, k166]) (by simp -implicitDefEqProofs [kv, km, dd_TA, k17, k102, k159, k164, k165, k166])⟩
                · simp -implicitDefEqProofs only [vt, vm, ↓atI_fold, forall_const, implies_true, sevalprocAttr, dd_TA, k17, k102, h145, k159, k164, k165]
                  rcases ite_or h with ⟨k167, h⟩ | ⟨k167, h⟩
                  · simp -implicitDefEqProofs only [vt, vm, ↓atI_fold, forall_const, implies_true, sevalprocAttr, dd_TA, k17, k102, h145, k159, k164, k165, k167]
                    rcases ite_or h with ⟨k168, h⟩ | ⟨k168, h⟩
                    · simp -implicitDefEqProofs only [vt, vm, ↓atI_fold, forall_const, implies_true, sevalprocAttr, dd_TA, k17, k102, h145, k159, k164, k165, k167, k168]
                      subst hK158
                      obtain rfl := Option.some.inj h
                      exact eb_nil ⟨rfl, Wk.of (fun i => some i) _ _ _ (by simp -implicitDefEqProofs [kv, km, dd_TA, k17, k102, k159, k164, k165, k167, k168]) (by simp -implicitDefEqProofs [kv, km, dd_TA, k17, k102, k159, k164, k165, k167, k168])⟩
                    · simp -implicitDefEqProofs only [vt, vm, ↓atI_fold, forall_const, implies_true, sevalprocAttr, dd_TA, k17, k102, h145, k159, k164, k165, k167, k168]
                      subst hK158
                      obtain rfl := Option.some.inj h
                      exact eb_nil ⟨rfl, Wk.of (fun i => some i) _ _ _ (by simp -implicitDefEqProofs [kv, km, dd_TA, k17, k102, k159, k164, k165, k167, k168]) (by simp -implicitDefEqProofs [kv, km, dd_TA, k17, k102, k159, k164, k165, k167, k168])⟩
                  · simp -implicitDefEqProofs only [vt, vm, ↓atI_fold, forall_const, implies_true, sevalprocAttr, dd_TA, k17, k102, h145, k159, k164, k165, k167]
                    subst hK158
                    obtain rfl := Option.some.inj h
                    exact eb_nil ⟨rfl, Wk.of (fun i => some i) _ _ _ (by simp -implicitDefEqProofs [kv, km, dd_TA, k17, k102, k159, k164, k165, k167]) (by simp -implicitDefEqProofs [kv, km, dd_TA, k17, k102, k159, k164, k165, k167])⟩
              · simp -implicitDefEqProofs only [vt, vm, ↓atI_fold, forall_const, implies_true, sevalprocAttr, dd_TA, k17, k102, h145, k159, k164]
                subst hK158
                obtain rfl := Option.some.inj h
                exact eb_nil ⟨rfl, Wk.of (fun i => some i) _ _ _ (by simp -implicitDefEqProofs [kv, km, dd_TA, k17, k102, k159, k164]) (by simp -implicitDefEqProofs [kv, km, dd_TA, k17, k102, k159, k164])⟩
          · rcases ite_or h with ⟨k170, h⟩ | ⟨k170, h⟩
            · refine rb_true (by first | exact congrArg D.bool k170 | rfl) ?_
              refine rb_seq ?_
              refine rb_regionK fun K172 hK172 => ?_
              simp -implicitDefEqProofs only [vt, vm, ↓atI_fold, forall_const, implies_true, sevalprocAttr, dd_TA, k17, k102, h145, k170]
              subst hK172
              refine eb_seq ?_
              refine rb_ret ?_
              refine eb_blk_r ?_
              refine eb_seq_r ?_
              obtain rfl := Option.some.inj h
              exact eb_nil ⟨rfl, Wk.of (fun i => some i) _ _ _ (by simp -implicitDefEqProofs [kv, km, dd_TA, k17, k102, k170]) (by simp -implicitDefEqProofs [kv, km, dd_TA, k17, k102, k170])⟩
            · refine rb_false (by first | exact congrArg D.bool k170 | rfl) ?_
              refine rb_skip ?_
              refine eb_blk_n ?_
              refine eb_seq ?_
              refine rb_regionK fun K173 hK173 => ?_
              simp -implicitDefEqProofs only [vt, vm, ↓atI_fold, forall_const, implies_true, sevalprocAttr, dd_TA, k17, k102, h145, k170]
              subst hK173
              obtain rfl := Option.some.inj h
              exact eb_nil ⟨rfl, Wk.of (fun i => some i) _ _ _ (by simp -implicitDefEqProofs [kv, km, dd_TA, k17, k102, k170]) (by simp -implicitDefEqProofs [kv, km, dd_TA, k17, k102, k170])⟩
        · refine rb_false (by first | exact congrArg D.bool k102 | rfl) ?_
          refine rb_exit ?_
          refine eb_seq_e ?_
          obtain rfl := Option.some.inj h
          exact eb_nil ⟨rfl, Wk.of (fun i => some i) _ _ _ (by simp -implicitDefEqProofs [kv, km, dd_TA, k17, k102]) (by simp -implicitDefEqProofs [kv, km, dd_TA, k17, k102])⟩
      · rcases e23 with e23 | e23
        · try dsimp only at h ⊢
          refine eb_blk_r ?_
          refine eb_seq_r ?_
          obtain rfl := Option.some.inj h
          refine eb_nil ?_
          simp -implicitDefEqProofs only [vt, vm, ↓atI_fold, forall_const, implies_true, sevalprocAttr, retQ_r, Tryd.results83, dd_TA, k17] <;> first | rfl | (simp [List.map_append, dd_TA]; done)
        · try dsimp only at h ⊢
          refine eb_blk_hit ?_
          refine eb_seq ?_
          refine rb_seq ?_
          refine rb_regionK fun K176 hK176 => ?_
          simp -implicitDefEqProofs only [vt, vm, ↓atI_fold, forall_const, implies_true, sevalprocAttr, dd_TA, k17]
          subst hK176
          refine eb_seq ?_
          refine rb_ret ?_
          obtain rfl := Option.some.inj h
          refine eb_nil ?_
          simp -implicitDefEqProofs only [vt, vm, ↓atI_fold, forall_const, implies_true, sevalprocAttr, retQ_r, Tryd.results83, dd_TA, k17] <;> first | rfl | (simp [List.map_append, dd_TA]; done)
-- region.from
def g_region_from (n_0 : Int) (low_1 : Int) (high_2 : Int) : Option (Bool) :=
  (if (decide (low_1 ≤ n_0)) then (some (decide (n_0 ≤ high_2))) else (some false))
theorem a_region_from (I : World → Prop) (hI : Stab I) (n_0 : Int) (low_1 : Int) (high_2 : Int) {r : Bool} (h : g_region_from n_0 low_1 high_2 = some r) : AFun Tryd.prog I 91 [.int .i64 n_0, .int .i64 low_1, .int .i64 high_2] (.bool r) := by
  refine AFun.enterB hI Tryd.func91 rfl (by decide) (by simp [Tryd.f91]) (by kernel_rfl) ?_
  unfold g_region_from at h
  simp only [S0, Tryd.ntmps91, dd_TA]
  refine rb_seq ?_
  refine rb_regionK fun K2 hK2 => ?_
  simp -implicitDefEqProofs only [vt, vm, ↓atI_fold, forall_const, implies_true, sevalprocAttr, dd_TA]
  subst hK2
  refine eb_seq ?_
  refine rb_seq ?_
  refine rb_regionK fun K5 hK5 => ?_
  simp -implicitDefEqProofs only [vt, vm, ↓atI_fold, forall_const, implies_true, sevalprocAttr, dd_TA]
  rcases ite_or h with ⟨k6, h⟩ | ⟨k6, h⟩
  · simp -implicitDefEqProofs only [vt, vm, ↓atI_fold, forall_const, implies_true, sevalprocAttr, dd_TA, k6]
    subst hK5
    refine eb_seq ?_
    refine rb_ret ?_
    obtain rfl := Option.some.inj h
    refine eb_nil ?_
    simp -implicitDefEqProofs only [vt, vm, ↓atI_fold, forall_const, implies_true, sevalprocAttr, retQ_r, Tryd.results91, dd_TA, k6] <;> first | rfl | (simp [List.map_append, dd_TA]; done)
  · simp -implicitDefEqProofs only [vt, vm, ↓atI_fold, forall_const, implies_true, sevalprocAttr, dd_TA, k6]
    subst hK5
    refine eb_seq ?_
    refine rb_ret ?_
    obtain rfl := Option.some.inj h
    refine eb_nil ?_
    simp -implicitDefEqProofs only [vt, vm, ↓atI_fold, forall_const, implies_true, sevalprocAttr, retQ_r, Tryd.results91, dd_TA, k6] <;> first | rfl | (simp [List.map_append, dd_TA]; done)
-- region.Check
def g_region_Check (r_0 : T_api_Region) : Option (Int) :=
  ((g_lines_Name r_0.Name).bind fun r54 => (if r54 then ((((g_region_from r_0.Top 0 14).bind fun r71 => (if r71 then ((g_region_from r_0.Height 1 (IntKind.i64.wrap (15 - r_0.Top))).bind fun r74 => (if r74 then ((g_region_from r_0.Left 0 31).bind fun r77 => (if r77 then ((g_region_from r_0.Width 1 (IntKind.i64.wrap (32 - r_0.Left))).bind fun r80 => (some (!r80))) else (some true))) else (some true))) else (some true))) : Option (Bool)).bind fun v69 => (if v69 then (some 2) else (if (decide (r_0.Align < 1)) then (some 3) else (if (decide (3 < r_0.Align)) then (some 3) else (some 0))))) else (some 5)))
theorem a_region_Check (I : World → Prop) (hI : Stab I) (r_0 : T_api_Region) {r : Int} (h : g_region_Check r_0 = some r) : AFun Tryd.prog I 52 [T_api_Region.d r_0] (.int .i64 r) := by
  refine AFun.enterB hI Tryd.func52 rfl (by decide) (by simp [Tryd.f52]) (by kernel_rfl) ?_
  unfold g_region_Check at h
  simp only [S0, Tryd.ntmps52, dd_TA]
  refine rb_seq ?_
  refine rb_regionK fun K2 hK2 => ?_
  simp -implicitDefEqProofs only [vt, vm, ↓atI_fold, forall_const, implies_true, sevalprocAttr, dd_TA]
  subst hK2
  refine eb_seq ?_
  refine rb_seq ?_
  refine rb_block ?_
  refine rb_seq ?_
  refine rb_regionK fun K53 hK53 => ?_
  simp -implicitDefEqProofs only [vt, vm, ↓atI_fold, forall_const, implies_true, sevalprocAttr, dd_TA]
  obtain ⟨r54, h55, h⟩ := bind_some h
  refine cW.intro (a_lines_Name I hI r_0.Name h55) (by first | rfl | (simp [List.map_append, dd_TA]; done)) ?_
  simp -implicitDefEqProofs only [vt, vm, ↓atI_fold, forall_const, implies_true, sevalprocAttr, dd_TA]
  subst hK53
  refine eb_seq ?_
  rcases ite_or h with ⟨k56, h⟩ | ⟨k56, h⟩
  · refine rb_false (by first | exact congrArg D.bool (congrArg Bool.not k56) | rfl) ?_
    obtain ⟨v69, h82, h⟩ := bind_some h
    refine rb_cut (fun v69 => ⟨envL [(1, .ptr 0 0), (8, .bool v69)], heapL [(0, .box none [.str r_0.Name, .int .i64 r_0.Top, .int .i64 r_0.Height, .int .i64 r_0.Left, .int .i64 r_0.Width, .int .u8 r_0.Align, .bool r_0.Bottom])], 1, 46⟩) h82 ?_ ?_
    · clear h
      intro v69 h
      refine rb_regionK fun K70 hK70 => ?_
      simp -implicitDefEqProofs only [vt, vm, ↓atI_fold, forall_const, implies_true, sevalprocAttr, dd_TA, k56]
      obtain ⟨r71, h72, h⟩ := bind_some h
      refine cW.intro (a_region_from I hI r_0.Top 0 14 h72) (by first | rfl | (simp [List.map_append, dd_TA]; done)) ?_
      simp -implicitDefEqProofs only [vt, vm, ↓atI_fold, forall_const, implies_true, sevalprocAttr, dd_TA, k56]
      rcases ite_or h with ⟨k73, h⟩ | ⟨k73, h⟩
      · simp -implicitDefEqProofs only [vt, vm, ↓atI_fold, forall_const, implies_true, sevalprocAttr, dd_TA, k56, k73]
        obtain ⟨r74, h75, h⟩ := bind_some h
        refine cW.intro (a_region_from I hI r_0.Height 1 (IntKind.i64.wrap (15 - r_0.Top)) h75) (by first | rfl | (simp [List.map_append, dd_TA]; done)) ?_
        simp -implicitDefEqProofs only [vt, vm, ↓atI_fold, forall_const, implies_true, sevalprocAttr, dd_TA, k56, k73]
        rcases ite_or h with ⟨k76, h⟩ | ⟨k76, h⟩
        · simp -implicitDefEqProofs only [vt, vm, ↓atI_fold, forall_const, implies_true, sevalprocAttr, dd_TA, k56, k73, k76]
          obtain ⟨r77, h78, h⟩ := bind_some h
          refine cW.intro (a_region_from I hI r_0.Left 0 31 h78) (by first | rfl | (simp [List.map_append, dd_TA]; done)) ?_
          simp -implicitDefEqProofs only [vt, vm, ↓atI_fold, forall_const, implies_true, sevalprocAttr, dd_TA, k56, k73, k76]
          rcases ite_or h with ⟨k79, h⟩ | ⟨k79, h⟩
          · simp -implicitDefEqProofs only [vt, vm, ↓atI_fold, forall_const, implies_true, sevalprocAttr, dd_TA, k56, k73, k76, k79]
            obtain ⟨r80, h81, h⟩ := bind_some h
            refine cW.intro (a_region_from I hI r_0.Width 1 (IntKind.i64.wrap (32 - r_0.Left)) h81) (by first | rfl | (simp [List.map_append, dd_TA]; done)) ?_
            simp -implicitDefEqProofs only [vt, vm, ↓atI_fold, forall_const, implies_true, sevalprocAttr, dd_TA, k56, k73, k76, k79]
            subst hK70
            obtain rfl := Option.some.inj h
            exact eb_nil ⟨rfl, Wk.of (fun i => if i = 0 then some 0 else some i) _ _ _ (by simp -implicitDefEqProofs [kv, km, dd_TA, k56, k73, k76, k79]) (by simp -implicitDefEqProofs [kv, km, dd_TA, k56, k73, k76, k79])⟩
          · simp -implicitDefEqProofs only [vt, vm, ↓atI_fold, forall_const, implies_true, sevalprocAttr, dd_TA, k56, k73, k76, k79]
            subst hK70
            obtain rfl := Option.some.inj h
            exact eb_nil ⟨rfl, Wk.of (fun i => if i = 0 then some 0 else some i) _ _ _ (by simp -implicitDefEqProofs [kv, km, dd_TA, k56, k73, k76, k79]) (by simp -implicitDefEqProofs [kv, km, dd_TA, k56, k73, k76, k79])⟩
        · simp -implicitDefEqProofs only [vt, vm, ↓atI_fold, forall_const, implies_true, sevalprocAttr, dd_TA, k56, k73, k76]
          subst hK70
          obtain rfl := Option.some.inj h
          exact eb_nil ⟨rfl, Wk.of (fun i => if i = 0 then some 0 else some i) _ _ _ (by simp -implicitDefEqProofs [kv, km, dd_TA, k56, k73, k76]) (by simp -implicitDefEqProofs [kv, km, dd_TA, k56, k73, k76])⟩
      · simp -implicitDefEqProofs only [vt, vm, ↓atI_fold, forall_const, implies_true, sevalprocAttr, dd_TA, k56, k73]
        subst hK70
        obtain rfl := Option.some.inj h
        exact eb_nil ⟨rfl, Wk.of (fun i => if i = 0 then some 0 else some i) _ _ _ (by simp -implicitDefEqProofs [kv, km, dd_TA, k56, k73]) (by simp -implicitDefEqProofs [kv, km, dd_TA, k56, k73])⟩
    · rcases ite_or h with ⟨k83, h⟩ | ⟨k83, h⟩
      · refine rb_true (by first | exact congrArg D.bool k83 | rfl) ?_
        refine rb_seq ?_
        refine rb_regionK fun K85 hK85 => ?_
        simp -implicitDefEqProofs only [vt, vm, ↓atI_fold, forall_const, implies_true, sevalprocAttr, dd_TA, k56, k83]
        subst hK85
        refine eb_seq ?_
        refine rb_ret ?_
        refine eb_blk_r ?_
        refine eb_seq_r ?_
        obtain rfl := Option.some.inj h
        refine eb_nil ?_
        simp -implicitDefEqProofs only [vt, vm, ↓atI_fold, forall_const, implies_true, sevalprocAttr, retQ_r, Tryd.results52, dd_TA, k56, k83] <;> first | rfl | (simp [List.map_append, dd_TA]; done)
      · refine rb_false (by first | exact congrArg D.bool k83 | rfl) ?_
        refine rb_seq ?_
        refine rb_regionK fun K88 hK88 => ?_
        simp -implicitDefEqProofs only [vt, vm, ↓atI_fold, forall_const, implies_true, sevalprocAttr, dd_TA, k56, k83]
        rcases ite_or h with ⟨k89, h⟩ | ⟨k89, h⟩
        · simp -implicitDefEqProofs only [vt, vm, ↓atI_fold, forall_const, implies_true, sevalprocAttr, dd_TA, k56, k83, k89]
          subst hK88
          refine eb_seq ?_
          refine rb_true (rfl) ?_
          refine rb_seq ?_
          refine rb_regionK fun K91 hK91 => ?_
          simp -implicitDefEqProofs only [vt, vm, ↓atI_fold, forall_const, implies_true, sevalprocAttr, dd_TA, k56, k83, k89]
          subst hK91
          refine eb_seq ?_
          refine rb_ret ?_
          refine eb_blk_r ?_
          refine eb_seq_r ?_
          obtain rfl := Option.some.inj h
          refine eb_nil ?_
          simp -implicitDefEqProofs only [vt, vm, ↓atI_fold, forall_const, implies_true, sevalprocAttr, retQ_r, Tryd.results52, dd_TA, k56, k83, k89] <;> first | rfl | (simp [List.map_append, dd_TA]; done)
        · simp -implicitDefEqProofs only [vt, vm, ↓atI_fold, forall_const, implies_true, sevalprocAttr, dd_TA, k56, k83, k89]
          subst hK88
          refine eb_seq ?_
          rcases ite_or h with ⟨k92, h⟩ | ⟨k92, h⟩
          · refine rb_true (by first | exact congrArg D.bool k92 | rfl) ?_
            refine rb_seq ?_
            refine rb_regionK fun K94 hK94 => ?_
            simp -implicitDefEqProofs only [vt, vm, ↓atI_fold, forall_const, implies_true, sevalprocAttr, dd_TA, k56, k83, k89, k92]
            subst hK94
            refine eb_seq ?_
            refine rb_ret ?_
            refine eb_blk_r ?_
            refine eb_seq_r ?_
            obtain rfl := Option.some.inj h
            refine eb_nil ?_
            simp -implicitDefEqProofs only [vt, vm, ↓atI_fold, forall_const, implies_true, sevalprocAttr, retQ_r, Tryd.results52, dd_TA, k56, k83, k89, k92] <;> first | rfl | (simp [List.map_append, dd_TA]; done)
          · refine rb_false (by first | exact congrArg D.bool k92 | rfl) ?_
            refine rb_skip ?_
            refine eb_blk_n ?_
            refine eb_seq ?_
            refine rb_seq ?_
            refine rb_regionK fun K96 hK96 => ?_
            simp -implicitDefEqProofs only [vt, vm, ↓atI_fold, forall_const, implies_true, sevalprocAttr, dd_TA, k56, k83, k89, k92]
            subst hK96
            refine eb_seq ?_
            refine rb_ret ?_
            obtain rfl := Option.some.inj h
            refine eb_nil ?_
            simp -implicitDefEqProofs only [vt, vm, ↓atI_fold, forall_const, implies_true, sevalprocAttr, retQ_r, Tryd.results52, dd_TA, k56, k83, k89, k92] <;> first | rfl | (simp [List.map_append, dd_TA]; done)
  · refine rb_true (by first | exact congrArg D.bool (congrArg Bool.not k56) | rfl) ?_
    refine rb_seq ?_
    refine rb_regionK fun K98 hK98 => ?_
    simp -implicitDefEqProofs only [vt, vm, ↓atI_fold, forall_const, implies_true, sevalprocAttr, dd_TA, k56]
    subst hK98
    refine eb_seq ?_
    refine rb_ret ?_
    refine eb_blk_r ?_
    refine eb_seq_r ?_
    obtain rfl := Option.some.inj h
    refine eb_nil ?_
    simp -implicitDefEqProofs only [vt, vm, ↓atI_fold, forall_const, implies_true, sevalprocAttr, retQ_r, Tryd.results52, dd_TA, k56] <;> first | rfl | (simp [List.map_append, dd_TA]; done)
-- region.usable
def g_region_usable (r_0 : T_api_Region) : Option (Bool) :=
  ((g_region_Default).bind fun r10 => (if ((r_0.Name == r10.Name) && ((r_0.Top == r10.Top) && ((r_0.Height == r10.Height) && ((r_0.Left == r10.Left) && ((r_0.Width == r10.Width) && ((r_0.Align == r10.Align) && (r_0.Bottom == r10.Bottom))))))) then (some true) else ((g_region_Check r_0).bind fun r13 => (some (r13 == 0)))))
theorem a_region_usable (I : World → Prop) (hI : Stab I) (r_0 : T_api_Region) {r : Bool} (h : g_region_usable r_0 = some r) : AFun Tryd.prog I 90 [T_api_Region.d r_0] (.bool r) := by
  refine AFun.enterB hI Tryd.func90 rfl (by decide) (by simp [Tryd.f90]) (by kernel_rfl) ?_
  unfold g_region_usable at h
  simp only [S0, Tryd.ntmps90, dd_TA]
  refine rb_seq ?_
  refine rb_regionK fun K2 hK2 => ?_
  simp -implicitDefEqProofs only [vt, vm, ↓atI_fold, forall_const, implies_true, sevalprocAttr, dd_TA]
  subst hK2
  refine eb_seq ?_
  refine rb_seq ?_
  refine rb_drawK hI (by kernel_rfl) (by kernel_rfl) fun K9 hK9 => ?_
  simp -implicitDefEqProofs only [vt, vm, ↓atI_fold, forall_const, implies_true, sevalprocAttr, dd_TA]
  obtain ⟨r10, h11, h⟩ := bind_some h
  refine cD'.intro (a_region_Default I hI h11) (by first | rfl | (simp [List.map_append, dd_TA]; done)) (by kernel_rfl) ?_
  simp -implicitDefEqProofs only [vt, vm, ↓atI_fold, forall_const, implies_true, sevalprocAttr, dd_TA]
  rcases ite_or h with ⟨k12, h⟩ | ⟨k12, h⟩
  · simp -implicitDefEqProofs only [vt, vm, ↓atI_fold, forall_const, implies_true, sevalprocAttr, dd_TA, k12]
    subst hK9
    refine eb_seq ?_
    refine rb_ret ?_
    obtain rfl := Option.some.inj h
    refine eb_nil ?_
    simp -implicitDefEqProofs only [vt, vm, ↓atI_fold, forall_const, implies_true, sevalprocAttr, retQ_r, Tryd.results90, dd_TA, k12] <;> first | rfl | (simp [List.map_append, dd_TA]; done)
  · simp -implicitDefEqProofs only [vt, vm, ↓atI_fold, forall_const, implies_true, sevalprocAttr, dd_TA, k12]
    obtain ⟨r13, h14, h⟩ := bind_some h
    refine cD'.intro (a_region_Check I hI r_0 h14) (by first | rfl | (simp [List.map_append, dd_TA]; done)) (by kernel_rfl) ?_
    simp -implicitDefEqProofs only [vt, vm, ↓atI_fold, forall_const, implies_true, sevalprocAttr, dd_TA, k12]
    subst hK9
    refine eb_seq ?_
    refine rb_ret ?_
    obtain rfl := Option.some.inj h
    refine eb_nil ?_
    simp -implicitDefEqProofs only [vt, vm, ↓atI_fold, forall_const, implies_true, sevalprocAttr, retQ_r, Tryd.results90, dd_TA, k12] <;> first | rfl | (simp [List.map_append, dd_TA]; done)
-- region.Place
def g_region_Place_s1 (r_0 : T_api_Region) (lens_1 : List Int) (x39 : (List T_api_Spot) × Int) : Option (Nx ((List T_api_Spot) × Int) (Int ⊕ ((List T_api_Spot)))) :=
  (if (decide (x39.2 < (lens_1.length : Int))) then ((atI lens_1 x39.2).bind fun y309 => (if (decide (y309 < 0)) then (some (.out (.inl 2))) else (if (decide (r_0.Width < y309)) then (some (.out (.inl 11))) else (if (r_0.Align == 3) then (if (x39.1.length + 1) * 24 ≤ 140737488355328 then (some (.go ((x39.1 ++ [(T_api_Spot.mk (IntKind.i64.wrap ((IntKind.i64.wrap (r_0.Top + (IntKind.i64.wrap (r_0.Height - (lens_1.length : Int))))) + x39.2)) (IntKind.i64.wrap (r_0.Left + (IntKind.i64.wrap (r_0.Width - y309)))) y309)]), (IntKind.i64.wrap (x39.2 + 1))))) else none) else (if (r_0.Align == 2) then (if (x39.1.length + 1) * 24 ≤ 140737488355328 then (some (.go ((x39.1 ++ [(T_api_Spot.mk (IntKind.i64.wrap ((IntKind.i64.wrap (r_0.Top + (IntKind.i64.wrap (r_0.Height - (lens_1.length : Int))))) + x39.2)) (IntKind.i64.wrap (r_0.Left + (IntKind.i64.wrap (Int.tdiv (IntKind.i64.wrap (r_0.Width - y309)) 2)))) y309)]), (IntKind.i64.wrap (x39.2 + 1))))) else none) else (if (x39.1.length + 1) * 24 ≤ 140737488355328 then (some (.go ((x39.1 ++ [(T_api_Spot.mk (IntKind.i64.wrap ((IntKind.i64.wrap (r_0.Top + (IntKind.i64.wrap (r_0.Height - (lens_1.length : Int))))) + x39.2)) r_0.Left y309)]), (IntKind.i64.wrap (x39.2 + 1))))) else none)))))) else (some (.out (.inr x39.1))))
def g_region_Place_s2 (r_0 : T_api_Region) (lens_1 : List Int) (x352 : (List T_api_Spot) × Int) : Option (Nx ((List T_api_Spot) × Int) (Int ⊕ ((List T_api_Spot)))) :=
  (if (decide (x352.2 < (lens_1.length : Int))) then ((atI lens_1 x352.2).bind fun y622 => (if (decide (y622 < 0)) then (some (.out (.inl 2))) else (if (decide (r_0.Width < y622)) then (some (.out (.inl 11))) else (if (r_0.Align == 3) then (if (x352.1.length + 1) * 24 ≤ 140737488355328 then (some (.go ((x352.1 ++ [(T_api_Spot.mk (IntKind.i64.wrap (r_0.Top + x352.2)) (IntKind.i64.wrap (r_0.Left + (IntKind.i64.wrap (r_0.Width - y622)))) y622)]), (IntKind.i64.wrap (x352.2 + 1))))) else none) else (if (r_0.Align == 2) then (if (x352.1.length + 1) * 24 ≤ 140737488355328 then (some (.go ((x352.1 ++ [(T_api_Spot.mk (IntKind.i64.wrap (r_0.Top + x352.2)) (IntKind.i64.wrap (r_0.Left + (IntKind.i64.wrap (Int.tdiv (IntKind.i64.wrap (r_0.Width - y622)) 2)))) y622)]), (IntKind.i64.wrap (x352.2 + 1))))) else none) else (if (x352.1.length + 1) * 24 ≤ 140737488355328 then (some (.go ((x352.1 ++ [(T_api_Spot.mk (IntKind.i64.wrap (r_0.Top + x352.2)) r_0.Left y622)]), (IntKind.i64.wrap (x352.2 + 1))))) else none)))))) else (some (.out (.inr x352.1))))
def g_region_Place (r_0 : T_api_Region) (lens_1 : List Int) : Option ((List T_api_Spot) × Int) :=
  ((g_region_usable r_0).bind fun r21 => (if r21 then (if (decide (r_0.Height < (lens_1.length : Int))) then (some ([], 9)) else (if r_0.Bottom then ((iter (g_region_Place_s1 r_0 lens_1) ([], 0)).bind fun e40 => (match e40 with | Sum.inl e40 => (some ([], e40)) | Sum.inr (e40) => (some (e40, 0)))) else ((iter (g_region_Place_s2 r_0 lens_1) ([], 0)).bind fun e353 => (match e353 with | Sum.inl e353 => (some ([], e353)) | Sum.inr (e353) => (some (e353, 0)))))) else (some ([], 1))))
theorem a_region_Place (I : World → Prop) (hI : Stab I) (r_0 : T_api_Region) (lens_1 : List Int) {r : (List T_api_Spot) × Int} (h : g_region_Place r_0 lens_1 = some r) : AFun Tryd.prog I 50 [T_api_Region.d r_0, .sl (lens_1.map (D.int .i64))] (.tup [.sl (r.1.map T_api_Spot.d), .int .i64 r.2]) := by
  refine AFun.enterB hI Tryd.func50 rfl (by decide) (by simp [Tryd.f50]) (by kernel_rfl) ?_
  unfold g_region_Place at h
  simp only [S0, Tryd.ntmps50, dd_TA]
  refine rb_seq ?_
  refine rb_regionK fun K2 hK2 => ?_
  simp -implicitDefEqProofs only [vt, vm, ↓atI_fold, forall_const, implies_true, sevalprocAttr, dd_TA]
  subst hK2
  refine eb_seq ?_
  refine rb_seq ?_
  refine rb_block ?_
  refine rb_seq ?_
  refine rb_regionK fun K20 hK20 => ?_
  simp -implicitDefEqProofs only [vt, vm, ↓atI_fold, forall_const, implies_true, sevalprocAttr, dd_TA]
  obtain ⟨r21, h22, h⟩ := bind_some h
  refine cW.intro (a_region_usable I hI r_0 h22) (by first | rfl | (simp [List.map_append, dd_TA]; done)) ?_
  simp -implicitDefEqProofs only [vt, vm, ↓atI_fold, forall_const, implies_true, sevalprocAttr, dd_TA]
  subst hK20
  refine eb_seq ?_
  rcases ite_or h with ⟨k23, h⟩ | ⟨k23, h⟩
  · refine rb_false (by first | exact congrArg D.bool (congrArg Bool.not k23) | rfl) ?_
    refine rb_seq ?_
    refine rb_regionK fun K25 hK25 => ?_
    simp -implicitDefEqProofs only [vt, vm, ↓atI_fold, forall_const, implies_true, sevalprocAttr, dd_TA, k23]
    subst hK25
    refine eb_seq ?_
    rcases ite_or h with ⟨k26, h⟩ | ⟨k26, h⟩
    · refine rb_true (by first | exact congrArg D.bool k26 | rfl) ?_
      refine rb_seq ?_
      refine rb_regionK fun K28 hK28 => ?_
      simp -implicitDefEqProofs only [vt, vm, ↓atI_fold, forall_const, implies_true, sevalprocAttr, dd_TA, k23, k26]
      subst hK28
      refine eb_seq ?_
      refine rb_ret ?_
      refine eb_blk_r ?_
      refine eb_seq_r ?_
      obtain rfl := Option.some.inj h
      refine eb_nil ?_
      simp -implicitDefEqProofs only [vt, vm, ↓atI_fold, forall_const, implies_true, sevalprocAttr, retQ_r, Tryd.results50, dd_TA, k23, k26] <;> first | rfl | (simp [List.map_append, dd_TA]; done)
    · refine rb_false (by first | exact congrArg D.bool k26 | rfl) ?_
      refine rb_skip ?_
      refine eb_blk_n ?_
      refine eb_seq ?_
      refine rb_seq ?_
      refine rb_regionK fun K30 hK30 => ?_
      simp -implicitDefEqProofs only [vt, vm, ↓atI_fold, forall_const, implies_true, sevalprocAttr, dd_TA, k23, k26]
      subst hK30
      refine eb_seq ?_
      refine rb_seq ?_
      refine rb_seq ?_
      refine rb_regionK fun K32 hK32 => ?_
      simp -implicitDefEqProofs only [vt, vm, ↓atI_fold, forall_const, implies_true, sevalprocAttr, dd_TA, k23, k26]
      subst hK32
      refine eb_seq ?_
      rcases ite_or h with ⟨k33, h⟩ | ⟨k33, h⟩
      · refine rb_true (by first | exact congrArg D.bool k33 | rfl) ?_
        refine rb_regionK fun K34 hK34 => ?_
        simp -implicitDefEqProofs only [vt, vm, ↓atI_fold, forall_const, implies_true, sevalprocAttr, dd_TA, k23, k26, k33]
        subst hK34
        refine eb_seq ?_
        refine rb_seq ?_
        refine rb_regionK fun K36 hK36 => ?_
        simp -implicitDefEqProofs only [vt, vm, ↓atI_fold, forall_const, implies_true, sevalprocAttr, dd_TA, k23, k26, k33]
        subst hK36
        refine eb_seq ?_
        refine rb_seq ?_
        refine rb_seq ?_
        refine rb_regionK fun K38 hK38 => ?_
        simp -implicitDefEqProofs only [vt, vm, ↓atI_fold, forall_const, implies_true, sevalprocAttr, dd_TA, k23, k26, k33]
        subst hK38
        refine eb_seq ?_
        refine rb_block ?_
        obtain ⟨e40, h345, h⟩ := bind_some h
        refine rb_loop (fun x39 => ⟨envL [(2, .ptr 0 0), (6, .int .i64 (IntKind.i64.wrap (r_0.Top + (IntKind.i64.wrap (r_0.Height - (lens_1.length : Int)))))), (7, .own 1 x39.1.length), (32, .sl (lens_1.map (D.int .i64))), (33, .int .i64 (lens_1.length : Int)), (34, .int .i64 x39.2)], heapL [(0, .box none [.str r_0.Name, .int .i64 r_0.Top, .int .i64 r_0.Height, .int .i64 r_0.Left, .int .i64 r_0.Width, .int .u8 r_0.Align, .bool r_0.Bottom]), (1, .vec 99 3 (x39.1.map T_api_Spot.d) false)], 2, 81⟩) (fun w => match w with | Sum.inl _ => .ret | Sum.inr (_) => .exit 1) (fun w => match w with | Sum.inl e40 => ⟨envL [(4, .nils), (5, .int .i64 e40)], heapL [], 0, 81⟩ | Sum.inr (e40) => ⟨envL [(7, .own 0 e40.length)], heapL [(0, .vec 99 3 (e40.map T_api_Spot.d) false)], 1, 81⟩) h345 (Wk.of (fun i => if i = 1 then none else if i = 0 then some 0 else some i) _ _ _ (by simp -implicitDefEqProofs [kv, km, dd_TA, k23, k26, k33]) (by simp -implicitDefEqProofs [kv, km, dd_TA, k23, k26, k33])) (by intro w; rcases w with w | w <;> simp) ?_ ?_
        · clear h
          intro x39 y h
          unfold g_region_Place_s1 at h
          refine rb_seq ?_
          refine rb_regionK fun K265 hK265 => ?_
          simp -implicitDefEqProofs only [vt, vm, ↓atI_fold, forall_const, implies_true, sevalprocAttr, dd_TA, k23, k26, k33]
          subst hK265
          refine eb_seq ?_
          refine rb_seq ?_
          rcases ite_or h with ⟨k267, h⟩ | ⟨k267, h⟩
          · refine rb_true (by first | exact congrArg D.bool k267 | rfl) ?_
            refine rb_skip ?_
            refine eb_seq ?_
            refine rb_seq ?_
            refine rb_block ?_
            refine rb_seq ?_
            refine rb_regionK fun K308 hK308 => ?_
            simp -implicitDefEqProofs only [vt, vm, ↓atI_fold, forall_const, implies_true, sevalprocAttr, dd_TA, k23, k26, k33, k267]
            obtain ⟨y309, h310, h⟩ := bind_some h
            simp -implicitDefEqProofs only [vt, vm, ↓atI_fold, forall_const, implies_true, sevalprocAttr, dd_TA, k23, k26, k33, k267, h310]
            subst hK308
            refine eb_seq ?_
            refine rb_seq ?_
            refine rb_seq ?_
            refine rb_regionK fun K312 hK312 => ?_
            simp -implicitDefEqProofs only [vt, vm, ↓atI_fold, forall_const, implies_true, sevalprocAttr, dd_TA, k23, k26, k33, k267, h310]
            subst hK312
            refine eb_seq ?_
            rcases ite_or h with ⟨k313, h⟩ | ⟨k313, h⟩
            · refine rb_true (by first | exact congrArg D.bool k313 | rfl) ?_
              refine rb_seq ?_
              refine rb_regionK fun K315 hK315 => ?_
              simp -implicitDefEqProofs only [vt, vm, ↓atI_fold, forall_const, implies_true, sevalprocAttr, dd_TA, k23, k26, k33, k267, h310, k313]
              subst hK315
              refine eb_seq ?_
              refine rb_ret ?_
              refine eb_seq_r ?_
              refine eb_blk_r ?_
              refine eb_seq_r ?_
              obtain rfl := Option.some.inj h
              exact eb_nil ⟨rfl, Wk.of (fun i => some i) _ _ _ (by simp -implicitDefEqProofs [kv, km, dd_TA, k23, k26, k33, k267, k313]) (by simp -implicitDefEqProofs [kv, km, dd_TA, k23, k26, k33, k267, k313])⟩
            · refine rb_false (by first | exact congrArg D.bool k313 | rfl) ?_
              refine rb_skip ?_
              refine eb_seq ?_
              refine rb_seq ?_
              refine rb_seq ?_
              refine rb_regionK fun K317 hK317 => ?_
              simp -implicitDefEqProofs only [vt, vm, ↓atI_fold, forall_const, implies_true, sevalprocAttr, dd_TA, k23, k26, k33, k267, h310, k313]
              subst hK317
              refine eb_seq ?_
              rcases ite_or h with ⟨k318, h⟩ | ⟨k318, h⟩
              · refine rb_true (by first | exact congrArg D.bool k318 | rfl) ?_
                refine rb_seq ?_
                refine rb_regionK fun K320 hK320 => ?_
                simp -implicitDefEqProofs only [vt, vm, ↓atI_fold, forall_const, implies_true, sevalprocAttr, dd_TA, k23, k26, k33, k267, h310, k313, k318]
                subst hK320
                refine eb_seq ?_
                refine rb_ret ?_
                refine eb_seq_r ?_
                refine eb_blk_r ?_
                refine eb_seq_r ?_
                obtain rfl := Option.some.inj h
                exact eb_nil ⟨rfl, Wk.of (fun i => some i) _ _ _ (by simp -implicitDefEqProofs [kv, km, dd_TA, k23, k26, k33, k267, k313, k318]) (by simp -implicitDefEqProofs [kv, km, dd_TA, k23, k26, k33, k267, k313, k318])⟩
              · refine rb_false (by first | exact congrArg D.bool k318 | rfl) ?_
                refine rb_skip ?_
                refine eb_seq ?_
                refine rb_seq ?_
                refine rb_regionK fun K322 hK322 => ?_
                simp -implicitDefEqProofs only [vt, vm, ↓atI_fold, forall_const, implies_true, sevalprocAttr, dd_TA, k23, k26, k33, k267, h310, k313, k318]
                subst hK322
                refine eb_seq ?_
                refine rb_seq ?_
                refine rb_seq ?_
                refine rb_regionK fun K324 hK324 => ?_
                simp -implicitDefEqProofs only [vt, vm, ↓atI_fold, forall_const, implies_true, sevalprocAttr, dd_TA, k23, k26, k33, k267, h310, k313, k318]
                subst hK324
                refine eb_seq ?_
                refine rb_block ?_
                refine rb_seq ?_
                refine rb_regionK fun K326 hK326 => ?_
                simp -implicitDefEqProofs only [vt, vm, ↓atI_fold, forall_const, implies_true, sevalprocAttr, dd_TA, k23, k26, k33, k267, h310, k313, k318]
                subst hK326
                refine eb_seq ?_
                rcases ite_or h with ⟨k327, h⟩ | ⟨k327, h⟩
                · refine rb_true (by first | exact congrArg D.bool k327 | rfl) ?_
                  refine rb_regionK fun K328 hK328 => ?_
                  simp -implicitDefEqProofs only [vt, vm, ↓atI_fold, forall_const, implies_true, sevalprocAttr, dd_TA, k23, k26, k33, k267, h310, k313, k318, k327]
                  subst hK328
                  refine eb_blk_n ?_
                  refine eb_seq ?_
                  refine rb_regionK fun K329 hK329 => ?_
                  simp -implicitDefEqProofs only [vt, vm, ↓atI_fold, forall_const, implies_true, sevalprocAttr, dd_TA, k23, k26, k33, k267, h310, k313, k318, k327]
                  obtain ⟨h330, h⟩ := ite_on h
                  have h331 : x39.1.length + 1 ≤ 9223372036854775807 := by omega
                  try simp only [Nat.reduceLeDiff] at h331
                  simp -implicitDefEqProofs only [vt, vm, ↓atI_fold, forall_const, implies_true, sevalprocAttr, dd_TA, k23, k26, k33, k267, h310, k313, k318, k327, h331, h330]
                  subst hK329
                  refine eb_blk_n ?_
                  refine eb_seq ?_
                  refine rb_regionK fun K332 hK332 => ?_
                  simp -implicitDefEqProofs only [vt, vm, ↓atI_fold, forall_const, implies_true, sevalprocAttr, dd_TA, k23, k26, k33, k267, h310, k313, k318, k327, h331, h330]
                  subst hK332
                  obtain rfl := Option.some.inj h
                  exact eb_nil ⟨rfl, Wk.of (fun i => if i = 1 then some 39 else if i = 0 then some 0 else some i) _ _ _ (by simp -implicitDefEqProofs [kv, km, dd_TA, k23, k26, k33, k267, k313, k318, k327]) (by simp -implicitDefEqProofs [kv, km, dd_TA, k23, k26, k33, k267, k313, k318, k327])⟩
                · refine rb_false (by first | exact congrArg D.bool k327 | rfl) ?_
                  refine rb_seq ?_
                  refine rb_regionK fun K334 hK334 => ?_
                  simp -implicitDefEqProofs only [vt, vm, ↓atI_fold, forall_const, implies_true, sevalprocAttr, dd_TA, k23, k26, k33, k267, h310, k313, k318, k327]
                  subst hK334
                  refine eb_seq ?_
                  rcases ite_or h with ⟨k335, h⟩ | ⟨k335, h⟩
                  · refine rb_true (by first | exact congrArg D.bool k335 | rfl) ?_
                    refine rb_regionK fun K336 hK336 => ?_
                    simp -implicitDefEqProofs only [vt, vm, ↓atI_fold, forall_const, implies_true, sevalprocAttr, dd_TA, k23, k26, k33, k267, h310, k313, k318, k327, k335]
                    subst hK336
                    refine eb_blk_n ?_
                    refine eb_seq ?_
                    refine rb_regionK fun K337 hK337 => ?_
                    simp -implicitDefEqProofs only [vt, vm, ↓atI_fold, forall_const, implies_true, sevalprocAttr, dd_TA, k23, k26, k33, k267, h310, k313, k318, k327, k335]
                    obtain ⟨h338, h⟩ := ite_on h
                    have h339 : x39.1.length + 1 ≤ 9223372036854775807 := by omega
                    try simp only [Nat.reduceLeDiff] at h339
                    simp -implicitDefEqProofs only [vt, vm, ↓atI_fold, forall_const, implies_true, sevalprocAttr, dd_TA, k23, k26, k33, k267, h310, k313, k318, k327, k335, h339, h338]
                    subst hK337
                    refine eb_blk_n ?_
                    refine eb_seq ?_
                    refine rb_regionK fun K340 hK340 => ?_
                    simp -implicitDefEqProofs only [vt, vm, ↓atI_fold, forall_const, implies_true, sevalprocAttr, dd_TA, k23, k26, k33, k267, h310, k313, k318, k327, k335, h339, h338]
                    subst hK340
                    obtain rfl := Option.some.inj h
                    exact eb_nil ⟨rfl, Wk.of (fun i => if i = 1 then some 42 else if i = 0 then some 0 else some i) _ _ _ (by simp -implicitDefEqProofs [kv, km, dd_TA, k23, k26, k33, k267, k313, k318, k327, k335]) (by simp -implicitDefEqProofs [kv, km, dd_TA, k23, k26, k33, k267, k313, k318, k327, k335])⟩
                  · refine rb_false (by first | exact congrArg D.bool k335 | rfl) ?_
                    refine rb_skip ?_
                    refine eb_blk_n ?_
                    refine eb_seq ?_
                    refine rb_regionK fun K341 hK341 => ?_
                    simp -implicitDefEqProofs only [vt, vm, ↓atI_fold, forall_const, implies_true, sevalprocAttr, dd_TA, k23, k26, k33, k267, h310, k313, k318, k327, k335]
                    obtain ⟨h342, h⟩ := ite_on h
                    have h343 : x39.1.length + 1 ≤ 9223372036854775807 := by omega
                    try simp only [Nat.reduceLeDiff] at h343
                    simp -implicitDefEqProofs only [vt, vm, ↓atI_fold, forall_const, implies_true, sevalprocAttr, dd_TA, k23, k26, k33, k267, h310, k313, k318, k327, k335, h343, h342]
                    subst hK341
                    refine eb_blk_n ?_
                    refine eb_seq ?_
                    refine rb_regionK fun K344 hK344 => ?_
                    simp -implicitDefEqProofs only [vt, vm, ↓atI_fold, forall_const, implies_true, sevalprocAttr, dd_TA, k23, k26, k33, k267, h310, k313, k318, k327, k335, h343, h342]
                    subst hK344
                    obtain rfl := Option.some.inj h
                    exact eb_nil ⟨rfl, Wk.of (fun i => if i = 1 then some 32 else if i = 0 then some 0 else some i) _ _ _ (by simp -implicitDefEqProofs [kv, km, dd_TA, k23, k26, k33, k267, k313, k318, k327, k335]) (by simp -implicitDefEqProofs [kv, km, dd_TA, k23, k26, k33, k267, k313, k318, k327, k335])⟩
          · refine rb_false (by first | exact congrArg D.bool k267 | rfl) ?_
            refine rb_exit ?_
            refine eb_seq_e ?_
            obtain rfl := Option.some.inj h
            exact eb_nil ⟨rfl, Wk.of (fun i => if i = 0 then some 1 else some i) _ _ _ (by simp -implicitDefEqProofs [kv, km, dd_TA, k23, k26, k33, k267]) (by simp -implicitDefEqProofs [kv, km, dd_TA, k23, k26, k33, k267])⟩
        · rcases e40 with e40 | e40
          · try dsimp only at h ⊢
            refine eb_blk_r ?_
            refine eb_seq_r ?_
            obtain rfl := Option.some.inj h
            refine eb_nil ?_
            simp -implicitDefEqProofs only [vt, vm, ↓atI_fold, forall_const, implies_true, sevalprocAttr, retQ_r, Tryd.results50, dd_TA, k23, k26, k33] <;> first | rfl | (simp [List.map_append, dd_TA]; done)
          · try dsimp only at h ⊢
            refine eb_blk_hit ?_
            refine eb_seq ?_
            refine rb_seq ?_
            refine rb_regionK fun K347 hK347 => ?_
            simp -implicitDefEqProofs only [vt, vm, ↓atI_fold, forall_const, implies_true, sevalprocAttr, dd_TA, k23, k26, k33]
            subst hK347
            refine eb_seq ?_
            refine rb_ret ?_
            obtain rfl := Option.some.inj h
            refine eb_nil ?_
            simp -implicitDefEqProofs only [vt, vm, ↓atI_fold, forall_const, implies_true, sevalprocAttr, retQ_r, Tryd.results50, dd_TA, k23, k26, k33] <;> first | rfl | (simp [List.map_append, dd_TA]; done)
      · refine rb_false (by first | exact congrArg D.bool k33 | rfl) ?_
        refine rb_skip ?_
        refine eb_seq ?_
        refine rb_seq ?_
        refine rb_regionK fun K349 hK349 => ?_
        simp -implicitDefEqProofs only [vt, vm, ↓atI_fold, forall_const, implies_true, sevalprocAttr, dd_TA, k23, k26, k33]
        subst hK349
        refine eb_seq ?_
        refine rb_seq ?_
        refine rb_seq ?_
        refine rb_regionK fun K351 hK351 => ?_
        simp -implicitDefEqProofs only [vt, vm, ↓atI_fold, forall_const, implies_true, sevalprocAttr, dd_TA, k23, k26, k33]
        subst hK351
        refine eb_seq ?_
        refine rb_block ?_
        obtain ⟨e353, h658, h⟩ := bind_some h
        refine rb_loop (fun x352 => ⟨envL [(2, .ptr 0 0), (6, .int .i64 r_0.Top), (7, .own 1 x352.1.length), (32, .sl (lens_1.map (D.int .i64))), (33, .int .i64 (lens_1.length : Int)), (34, .int .i64 x352.2)], heapL [(0, .box none [.str r_0.Name, .int .i64 r_0.Top, .int .i64 r_0.Height, .int .i64 r_0.Left, .int .i64 r_0.Width, .int .u8 r_0.Align, .bool r_0.Bottom]), (1, .vec 99 3 (x352.1.map T_api_Spot.d) false)], 2, 81⟩) (fun w => match w with | Sum.inl _ => .ret | Sum.inr (_) => .exit 1) (fun w => match w with | Sum.inl e353 => ⟨envL [(4, .nils), (5, .int .i64 e353)], heapL [], 0, 81⟩ | Sum.inr (e353) => ⟨envL [(7, .own 0 e353.length)], heapL [(0, .vec 99 3 (e353.map T_api_Spot.d) false)], 1, 81⟩) h658 (Wk.of (fun i => if i = 1 then none else if i = 0 then some 0 else some i) _ _ _ (by simp -implicitDefEqProofs [kv, km, dd_TA, k23, k26, k33]) (by simp -implicitDefEqProofs [kv, km, dd_TA, k23, k26, k33])) (by intro w; rcases w with w | w <;> simp) ?_ ?_
        · clear h
          intro x352 y h
          unfold g_region_Place_s2 at h
          refine rb_seq ?_
          refine rb_regionK fun K578 hK578 => ?_
          simp -implicitDefEqProofs only [vt, vm, ↓atI_fold, forall_const, implies_true, sevalprocAttr, dd_TA, k23, k26, k33]
          subst hK578
          refine eb_seq ?_
          refine rb_seq ?_
          rcases ite_or h with ⟨k580, h⟩ | ⟨k580, h⟩
          · refine rb_true (by first | exact congrArg D.bool k580 | rfl) ?_
            refine rb_skip ?_
            refine eb_seq ?_
            refine rb_seq ?_
            refine rb_block ?_
            refine rb_seq ?_
            refine rb_regionK fun K621 hK621 => ?_
            simp -implicitDefEqProofs only [vt, vm, ↓atI_fold, forall_const, implies_true, sevalprocAttr, dd_TA, k23, k26, k33, k580]
            obtain ⟨y622, h623, h⟩ := bind_some h
            simp -implicitDefEqProofs only [vt, vm, ↓atI_fold, forall_const, implies_true, sevalprocAttr, dd_TA, k23, k26, k33, k580, h623]
            subst hK621
            refine eb_seq ?_
            refine rb_seq ?_
            refine rb_seq ?_
            refine rb_regionK fun K625 hK625 => ?_
            simp -implicitDefEqProofs only [vt, vm, ↓atI_fold, forall_const, implies_true, sevalprocAttr, dd_TA, k23, k26, k33, k580, h623]
            subst hK625
            refine eb_seq ?_
            rcases ite_or h with ⟨k626, h⟩ | ⟨k626, h⟩
            · refine rb_true (by first | exact congrArg D.bool k626 | rfl) ?_
              refine rb_seq ?_
              refine rb_regionK fun K628 hK628 => ?_
              simp -implicitDefEqProofs only [vt, vm, ↓atI_fold, forall_const, implies_true, sevalprocAttr, dd_TA, k23, k26, k33, k580, h623, k626]
              subst hK628
              refine eb_seq ?_
              refine rb_ret ?_
              refine eb_seq_r ?_
              refine eb_blk_r ?_
              refine eb_seq_r ?_
              obtain rfl := Option.some.inj h
              exact eb_nil ⟨rfl, Wk.of (fun i => some i) _ _ _ (by simp -implicitDefEqProofs [kv, km, dd_TA, k23, k26, k33, k580, k626]) (by simp -implicitDefEqProofs [kv, km, dd_TA, k23, k26, k33, k580, k626])⟩
            · refine rb_false (by first | exact congrArg D.bool k626 | rfl) ?_
              refine rb_skip ?_
              refine eb_seq ?_
              refine rb_seq ?_
              refine rb_seq ?_
              refine rb_regionK fun K630 hK630 => ?_
              simp -implicitDefEqProofs only [vt, vm, ↓atI_fold, forall_const, implies_true, sevalprocAttr, dd_TA, k23, k26, k33, k580, h623, k626]
              subst hK630
              refine eb_seq ?_
              rcases ite_or h with ⟨k631, h⟩ | ⟨k631, h⟩
              · refine rb_true (by first | exact congrArg D.bool k631 | rfl) ?_
                refine rb_seq ?_
                refine rb_regionK fun K633 hK633 => ?_
                simp -implicitDefEqProofs only [vt, vm, ↓atI_fold, forall_const, implies_true, sevalprocAttr, dd_TA, k23, k26, k33, k580, h623, k626, k631]
                subst hK633
                refine eb_seq ?_
                refine rb_ret ?_
                refine eb_seq_r ?_
                refine eb_blk_r ?_
                refine eb_seq_r ?_
                obtain rfl := Option.some.inj h
                exact eb_nil ⟨rfl, Wk.of (fun i => some i) _ _ _ (by simp -implicitDefEqProofs [kv, km, dd_TA, k23, k26, k33, k580, k626, k631]) (by simp -implicitDefEqProofs [kv, km, dd_TA, k23, k26, k33, k580, k626, k631])⟩
              · refine rb_false (by first | exact congrArg D.bool k631 | rfl) ?_
                refine rb_skip ?_
                refine eb_seq ?_
                refine rb_seq ?_
                refine rb_regionK fun K635 hK635 => ?_
                simp -implicitDefEqProofs only [vt, vm, ↓atI_fold, forall_const, implies_true, sevalprocAttr, dd_TA, k23, k26, k33, k580, h623, k626, k631]
                subst hK635
                refine eb_seq ?_
                refine rb_seq ?_
                refine rb_seq ?_
                refine rb_regionK fun K637 hK637 => ?_
                simp -implicitDefEqProofs only [vt, vm, ↓atI_fold, forall_const, implies_true, sevalprocAttr, dd_TA, k23, k26, k33, k580, h623, k626, k631]
                subst hK637
                refine eb_seq ?_
                refine rb_block ?_
                refine rb_seq ?_
                refine rb_regionK fun K639 hK639 => ?_
                simp -implicitDefEqProofs only [vt, vm, ↓atI_fold, forall_const, implies_true, sevalprocAttr, dd_TA, k23, k26, k33, k580, h623, k626, k631]
                subst hK639
                refine eb_seq ?_
                rcases ite_or h with ⟨k640, h⟩ | ⟨k640, h⟩
                · refine rb_true (by first | exact congrArg D.bool k640 | rfl) ?_
                  refine rb_regionK fun K641 hK641 => ?_
                  simp -implicitDefEqProofs only [vt, vm, ↓atI_fold, forall_const, implies_true, sevalprocAttr, dd_TA, k23, k26, k33, k580, h623, k626, k631, k640]
                  subst hK641
                  refine eb_blk_n ?_
                  refine eb_seq ?_
                  refine rb_regionK fun K642 hK642 => ?_
                  simp -implicitDefEqProofs only [vt, vm, ↓atI_fold, forall_const, implies_true, sevalprocAttr, dd_TA, k23, k26, k33, k580, h623, k626, k631, k640]
                  obtain ⟨h643, h⟩ := ite_on h
                  have h644 : x352.1.length + 1 ≤ 9223372036854775807 := by omega
                  try simp only [Nat.reduceLeDiff] at h644
                  simp -implicitDefEqProofs only [vt, vm, ↓atI_fold, forall_const, implies_true, sevalprocAttr, dd_TA, k23, k26, k33, k580, h623, k626, k631, k640, h644, h643]
                  subst hK642
                  refine eb_blk_n ?_
                  refine eb_seq ?_
                  refine rb_regionK fun K645 hK645 => ?_
                  simp -implicitDefEqProofs only [vt, vm, ↓atI_fold, forall_const, implies_true, sevalprocAttr, dd_TA, k23, k26, k33, k580, h623, k626, k631, k640, h644, h643]
                  subst hK645
                  obtain rfl := Option.some.inj h
                  exact eb_nil ⟨rfl, Wk.of (fun i => if i = 1 then some 39 else if i = 0 then some 0 else some i) _ _ _ (by simp -implicitDefEqProofs [kv, km, dd_TA, k23, k26, k33, k580, k626, k631, k640]) (by simp -implicitDefEqProofs [kv, km, dd_TA, k23, k26, k33, k580, k626, k631, k640])⟩
                · refine rb_false (by first | exact congrArg D.bool k640 | rfl) ?_
                  refine rb_seq ?_
                  refine rb_regionK fun K647 hK647 => ?_
                  simp -implicitDefEqProofs only [vt, vm, ↓atI_fold, forall_const, implies_true, sevalprocAttr, dd_TA, k23, k26, k33, k580, h623, k626, k631, k640]
                  subst hK647
                  refine eb_seq ?_
                  rcases ite_or h with ⟨k648, h⟩ | ⟨k648, h⟩
                  · refine rb_true (by first | exact congrArg D.bool k648 | rfl) ?_
                    refine rb_regionK fun K649 hK649 => ?_
                    simp -implicitDefEqProofs only [vt, vm, ↓atI_fold, forall_const, implies_true, sevalprocAttr, dd_TA, k23, k26, k33, k580, h623, k626, k631, k640, k648]
                    subst hK649
                    refine eb_blk_n ?_
                    refine eb_seq ?_
                    refine rb_regionK fun K650 hK650 => ?_
                    simp -implicitDefEqProofs only [vt, vm, ↓atI_fold, forall_const, implies_true, sevalprocAttr, dd_TA, k23, k26, k33, k580, h623, k626, k631, k640, k648]
                    obtain ⟨h651, h⟩ := ite_on h
                    have h652 : x352.1.length + 1 ≤ 9223372036854775807 := by omega
                    try simp only [Nat.reduceLeDiff] at h652
                    simp -implicitDefEqProofs only [vt, vm, ↓atI_fold, forall_const, implies_true, sevalprocAttr, dd_TA, k23, k26, k33, k580, h623, k626, k631, k640, k648, h652, h651]
                    subst hK650
                    refine eb_blk_n ?_
                    refine eb_seq ?_
                    refine rb_regionK fun K653 hK653 => ?_
                    simp -implicitDefEqProofs only [vt, vm, ↓atI_fold, forall_const, implies_true, sevalprocAttr, dd_TA, k23, k26, k33, k580, h623, k626, k631, k640, k648, h652, h651]
                    subst hK653
                    obtain rfl := Option.some.inj h
                    exact eb_nil ⟨rfl, Wk.of (fun i => if i = 1 then some 42 else if i = 0 then some 0 else some i) _ _ _ (by simp -implicitDefEqProofs [kv, km, dd_TA, k23, k26, k33, k580, k626, k631, k640, k648]) (by simp -implicitDefEqProofs [kv, km, dd_TA, k23, k26, k33, k580, k626, k631, k640, k648])⟩
                  · refine rb_false (by first | exact congrArg D.bool k648 | rfl) ?_
                    refine rb_skip ?_
                    refine eb_blk_n ?_
                    refine eb_seq ?_
                    refine rb_regionK fun K654 hK654 => ?_
                    simp -implicitDefEqProofs only [vt, vm, ↓atI_fold, forall_const, implies_true, sevalprocAttr, dd_TA, k23, k26, k33, k580, h623, k626, k631, k640, k648]
                    obtain ⟨h655, h⟩ := ite_on h
                    have h656 : x352.1.length + 1 ≤ 9223372036854775807 := by omega
                    try simp only [Nat.reduceLeDiff] at h656
                    simp -implicitDefEqProofs only [vt, vm, ↓atI_fold, forall_const, implies_true, sevalprocAttr, dd_TA, k23, k26, k33, k580, h623, k626, k631, k640, k648, h656, h655]
                    subst hK654
                    refine eb_blk_n ?_
                    refine eb_seq ?_
                    refine rb_regionK fun K657 hK657 => ?_
                    simp -implicitDefEqProofs only [vt, vm, ↓atI_fold, forall_const, implies_true, sevalprocAttr, dd_TA, k23, k26, k33, k580, h623, k626, k631, k640, k648, h656, h655]
                    subst hK657
                    obtain rfl := Option.some.inj h
                    exact eb_nil ⟨rfl, Wk.of (fun i => if i = 1 then some 32 else if i = 0 then some 0 else some i) _ _ _ (by simp -implicitDefEqProofs [kv, km, dd_TA, k23, k26, k33, k580, k626, k631, k640, k648]) (by simp -implicitDefEqProofs [kv, km, dd_TA, k23, k26, k33, k580, k626, k631, k640, k648])⟩
          · refine rb_false (by first | exact congrArg D.bool k580 | rfl) ?_
            refine rb_exit ?_
            refine eb_seq_e ?_
            obtain rfl := Option.some.inj h
            exact eb_nil ⟨rfl, Wk.of (fun i => if i = 0 then some 1 else some i) _ _ _ (by simp -implicitDefEqProofs [kv, km, dd_TA, k23, k26, k33, k580]) (by simp -implicitDefEqProofs [kv, km, dd_TA, k23, k26, k33, k580])⟩
        · rcases e353 with e353 | e353
          · try dsimp only at h ⊢
            refine eb_blk_r ?_
            refine eb_seq_r ?_
            obtain rfl := Option.some.inj h
            refine eb_nil ?_
            simp -implicitDefEqProofs only [vt, vm, ↓atI_fold, forall_const, implies_true, sevalprocAttr, retQ_r, Tryd.results50, dd_TA, k23, k26, k33] <;> first | rfl | (simp [List.map_append, dd_TA]; done)
          · try dsimp only at h ⊢
            refine eb_blk_hit ?_
            refine eb_seq ?_
            refine rb_seq ?_
            refine rb_regionK fun K660 hK660 => ?_
            simp -implicitDefEqProofs only [vt, vm, ↓atI_fold, forall_const, implies_true, sevalprocAttr, dd_TA, k23, k26, k33]
            subst hK660
            refine eb_seq ?_
            refine rb_ret ?_
            obtain rfl := Option.some.inj h
            refine eb_nil ?_
            simp -implicitDefEqProofs only [vt, vm, ↓atI_fold, forall_const, implies_true, sevalprocAttr, retQ_r, Tryd.results50, dd_TA, k23, k26, k33] <;> first | rfl | (simp [List.map_append, dd_TA]; done)
  · refine rb_true (by first | exact congrArg D.bool (congrArg Bool.not k23) | rfl) ?_
    refine rb_seq ?_
    refine rb_regionK fun K662 hK662 => ?_
    simp -implicitDefEqProofs only [vt, vm, ↓atI_fold, forall_const, implies_true, sevalprocAttr, dd_TA, k23]
    subst hK662
    refine eb_seq ?_
    refine rb_ret ?_
    refine eb_blk_r ?_
    refine eb_seq_r ?_
    obtain rfl := Option.some.inj h
    refine eb_nil ?_
    simp -implicitDefEqProofs only [vt, vm, ↓atI_fold, forall_const, implies_true, sevalprocAttr, retQ_r, Tryd.results50, dd_TA, k23] <;> first | rfl | (simp [List.map_append, dd_TA]; done)
-- lines.Decimal
def g_lines_Decimal (n_0 : Int) : Option ((List UInt8)) :=
  ((g_strconv_FormatInt n_0 10).bind fun r7 => (some r7))
theorem a_lines_Decimal (I : World → Prop) (hI : Stab I) (hTab : ∀ w, I w → Tab w) (n_0 : Int) {r : (List UInt8)} (h : g_lines_Decimal n_0 = some r) : AFun Tryd.prog I 53 [.int .i64 n_0] (.str r) := by
  refine AFun.enterB hI Tryd.func53 rfl (by decide) (by simp [Tryd.f53]) (by kernel_rfl) ?_
  unfold g_lines_Decimal at h
  simp only [S0, Tryd.ntmps53, dd_TA]
  refine rb_seq ?_
  refine rb_regionK fun K2 hK2 => ?_
  simp -implicitDefEqProofs only [vt, vm, ↓atI_fold, forall_const, implies_true, sevalprocAttr, dd_TA]
  subst hK2
  refine eb_seq ?_
  refine rb_seq ?_
  refine rb_regionK fun K6 hK6 => ?_
  simp -implicitDefEqProofs only [vt, vm, ↓atI_fold, forall_const, implies_true, sevalprocAttr, dd_TA]
  obtain ⟨r7, h8, h⟩ := bind_some h
  refine cW.intro (a_strconv_FormatInt I hI hTab n_0 10 h8) (by first | rfl | (simp [List.map_append, dd_TA]; done)) ?_
  simp -implicitDefEqProofs only [vt, vm, ↓atI_fold, forall_const, implies_true, sevalprocAttr, dd_TA]
  subst hK6
  refine eb_seq ?_
  refine rb_ret ?_
  obtain rfl := Option.some.inj h
  refine eb_nil ?_
  simp -implicitDefEqProofs only [vt, vm, ↓atI_fold, forall_const, implies_true, sevalprocAttr, retQ_r, Tryd.results53, dd_TA] <;> first | rfl | (simp [List.map_append, dd_TA]; done)
-- region.aligns
def g_region_aligns  : Option ((List (List UInt8))) :=
  (some [[76, 69, 70, 84], [67, 69, 78, 84, 69, 82], [82, 73, 71, 72, 84]])
theorem a_region_aligns (I : World → Prop) (hI : Stab I)  {r : (List (List UInt8))} (h : g_region_aligns  = some r) : AFun Tryd.prog I 55 [] (.sl (r.map D.str)) := by
  refine AFun.enterB hI Tryd.func55 rfl (by decide) (by simp [Tryd.f55]) (by kernel_rfl) ?_
  unfold g_region_aligns at h
  simp only [S0, Tryd.ntmps55, dd_TA]
  refine rb_seq ?_
  refine rb_regionK fun K2 hK2 => ?_
  simp -implicitDefEqProofs only [vt, vm, ↓atI_fold, forall_const, implies_true, sevalprocAttr, dd_TA]
  subst hK2
  refine eb_seq ?_
  refine rb_seq ?_
  refine rb_regionK fun K4 hK4 => ?_
  simp -implicitDefEqProofs only [vt, vm, ↓atI_fold, forall_const, implies_true, sevalprocAttr, dd_TA]
  subst hK4
  refine eb_seq ?_
  refine rb_ret ?_
  obtain rfl := Option.some.inj h
  refine eb_nil ?_
  simp -implicitDefEqProofs only [vt, vm, ↓atI_fold, forall_const, implies_true, sevalprocAttr, retQ_r, Tryd.results55, dd_TA] <;> first | rfl | (simp [List.map_append, dd_TA]; done)
-- region.Text
def g_region_Text_s1 (r_0 : T_api_Region) (x18 : Int × (List (List UInt8))) : Option (Nx (Int × (List (List UInt8))) ((List (List UInt8)))) :=
  (if (decide (x18.1 < 4)) then ((atI [r_0.Top, r_0.Height, r_0.Left, r_0.Width] x18.1).bind fun y126 => ((g_lines_Decimal y126).bind fun r132 => (if (x18.2.length + 1) * 16 ≤ 140737488355328 then (some (.go ((IntKind.i64.wrap (x18.1 + 1)), (x18.2 ++ [r132])))) else none))) else (some (.out x18.2)))
def g_region_Text (r_0 : T_api_Region) : Option ((List UInt8) × Int) :=
  ((g_region_Check r_0).bind fun r7 => (if (r7 != 0) then (some ([], r7)) else ((iter (g_region_Text_s1 r_0) (0, [r_0.Name])).bind fun e19 => (if r_0.Bottom then ((g_region_aligns).bind fun r154 => ((atI r154 (IntKind.u8.wrap (r_0.Align - 1))).bind fun y156 => (if (e19.length + 2) * 16 ≤ 140737488355328 then ((g_strings_Join (e19 ++ [y156, [66, 79, 84, 84, 79, 77]]) [32]).bind fun r160 => (some (r160, 0))) else none))) else ((g_region_aligns).bind fun r172 => ((atI r172 (IntKind.u8.wrap (r_0.Align - 1))).bind fun y174 => (if (e19.length + 2) * 16 ≤ 140737488355328 then ((g_strings_Join (e19 ++ [y174, [84, 79, 80]]) [32]).bind fun r178 => (some (r178, 0))) else none)))))))
theorem a_region_Text (I : World → Prop) (hI : Stab I) (hTab : ∀ w, I w → Tab w) (r_0 : T_api_Region) {r : (List UInt8) × Int} (h : g_region_Text r_0 = some r) : AFun Tryd.prog I 26 [T_api_Region.d r_0] (.tup [.str r.1, .int .i64 r.2]) := by
  refine AFun.enterB hI Tryd.func26 rfl (by decide) (by simp [Tryd.f26]) (by kernel_rfl) ?_
  unfold g_region_Text at h
  simp only [S0, Tryd.ntmps26, dd_TA]
  refine rb_seq ?_
  refine rb_regionK fun K2 hK2 => ?_
  simp -implicitDefEqProofs only [vt, vm, ↓atI_fold, forall_const, implies_true, sevalprocAttr, dd_TA]
  subst hK2
  refine eb_seq ?_
  refine rb_seq ?_
  refine rb_seq ?_
  refine rb_regionK fun K6 hK6 => ?_
  simp -implicitDefEqProofs only [vt, vm, ↓atI_fold, forall_const, implies_true, sevalprocAttr, dd_TA]
  obtain ⟨r7, h8, h⟩ := bind_some h
  refine cW.intro (a_region_Check I hI r_0 h8) (by first | rfl | (simp [List.map_append, dd_TA]; done)) ?_
  simp -implicitDefEqProofs only [vt, vm, ↓atI_fold, forall_const, implies_true, sevalprocAttr, dd_TA]
  subst hK6
  refine eb_seq ?_
  refine rb_seq ?_
  refine rb_regionK fun K10 hK10 => ?_
  simp -implicitDefEqProofs only [vt, vm, ↓atI_fold, forall_const, implies_true, sevalprocAttr, dd_TA]
  subst hK10
  refine eb_seq ?_
  rcases ite_or h with ⟨k11, h⟩ | ⟨k11, h⟩
  · refine rb_true (by first | exact congrArg D.bool k11 | rfl) ?_
    refine rb_seq ?_
    refine rb_regionK fun K13 hK13 => ?_
    simp -implicitDefEqProofs only [vt, vm, ↓atI_fold, forall_const, implies_true, sevalprocAttr, dd_TA, k11]
    subst hK13
    refine eb_seq ?_
    refine rb_ret ?_
    refine eb_seq_r ?_
    obtain rfl := Option.some.inj h
    refine eb_nil ?_
    simp -implicitDefEqProofs only [vt, vm, ↓atI_fold, forall_const, implies_true, sevalprocAttr, retQ_r, Tryd.results26, dd_TA, k11] <;> first | rfl | (simp [List.map_append, dd_TA]; done)
  · refine rb_false (by first | exact congrArg D.bool k11 | rfl) ?_
    refine rb_skip ?_
    refine eb_seq ?_
    refine rb_seq ?_
    refine rb_regionK fun K15 hK15 => ?_
    simp -implicitDefEqProofs only [vt, vm, ↓atI_fold, forall_const, implies_true, sevalprocAttr, dd_TA, k11]
    subst hK15
    refine eb_seq ?_
    refine rb_seq ?_
    refine rb_seq ?_
    refine rb_regionK fun K17 hK17 => ?_
    simp -implicitDefEqProofs only [vt, vm, ↓atI_fold, forall_const, implies_true, sevalprocAttr, dd_TA, k11]
    subst hK17
    refine eb_seq ?_
    refine rb_block ?_
    obtain ⟨e19, h137, h⟩ := bind_some h
    refine rb_loop (fun x18 => ⟨envL [(1, .ptr 0 0), (5, .own 1 x18.2.length), (25, .own 2 4), (26, .int .i64 4), (27, .int .i64 x18.1)], heapL [(0, .box none [.str r_0.Name, .int .i64 r_0.Top, .int .i64 r_0.Height, .int .i64 r_0.Left, .int .i64 r_0.Width, .int .u8 r_0.Align, .bool r_0.Bottom]), (1, .vec 9 1 (x18.2.map D.str) false), (2, .vec 3 1 ([r_0.Top, r_0.Height, r_0.Left, r_0.Width].map (D.int .i64)) false)], 3, 50⟩) (fun _ => .exit 0) (fun e19 => ⟨envL [(1, .ptr 0 0), (5, .own 1 e19.length)], heapL [(0, .box none [.str r_0.Name, .int .i64 r_0.Top, .int .i64 r_0.Height, .int .i64 r_0.Left, .int .i64 r_0.Width, .int .u8 r_0.Align, .bool r_0.Bottom]), (1, .vec 9 1 (e19.map D.str) false)], 2, 50⟩) h137 (Wk.of (fun i => if i = 2 then some 20 else if i = 1 then some 10 else if i = 0 then some 0 else some i) _ _ _ (by simp -implicitDefEqProofs [kv, km, dd_TA, k11]) (by simp -implicitDefEqProofs [kv, km, dd_TA, k11])) (by intro w; simp) ?_ ?_
    · clear h
      intro x18 y h
      unfold g_region_Text_s1 at h
      refine rb_seq ?_
      refine rb_regionK fun K99 hK99 => ?_
      simp -implicitDefEqProofs only [vt, vm, ↓atI_fold, forall_const, implies_true, sevalprocAttr, dd_TA, k11]
      subst hK99
      refine eb_seq ?_
      refine rb_seq ?_
      rcases ite_or h with ⟨k101, h⟩ | ⟨k101, h⟩
      · refine rb_true (by first | exact congrArg D.bool k101 | rfl) ?_
        refine rb_skip ?_
        refine eb_seq ?_
        refine rb_seq ?_
        refine rb_block ?_
        refine rb_seq ?_
        refine rb_regionK fun K125 hK125 => ?_
        simp -implicitDefEqProofs only [vt, vm, ↓atI_fold, forall_const, implies_true, sevalprocAttr, dd_TA, k11, k101]
        obtain ⟨y126, h127, h⟩ := bind_some h
        obtain ⟨h128, h129, h130⟩ := atI_own h127
        have h130 := h130 (D.int .i64)
        simp only [List.map_cons, List.map_nil, dd_TA] at h130
        have h129 : x18.1 < 4 := by simpa using h129
        simp -implicitDefEqProofs only [vt, vm, ↓atI_fold, forall_const, implies_true, sevalprocAttr, dd_TA, k11, k101, h128, h129, h130]
        subst hK125
        refine eb_seq ?_
        refine rb_regionK fun K131 hK131 => ?_
        simp -implicitDefEqProofs only [vt, vm, ↓atI_fold, forall_const, implies_true, sevalprocAttr, dd_TA, k11, k101, h128, h129, h130]
        obtain ⟨r132, h133, h⟩ := bind_some h
        refine cW.intro (a_lines_Decimal I hI hTab y126 h133) (by first | rfl | (simp [List.map_append, dd_TA]; done)) ?_
        simp -implicitDefEqProofs only [vt, vm, ↓atI_fold, forall_const, implies_true, sevalprocAttr, dd_TA, k11, k101, h128, h129, h130]
        obtain ⟨h134, h⟩ := ite_on h
        have h135 : x18.2.length + 1 ≤ 9223372036854775807 := by omega
        try simp only [Nat.reduceLeDiff] at h135
        simp -implicitDefEqProofs only [vt, vm, ↓atI_fold, forall_const, implies_true, sevalprocAttr, dd_TA, k11, k101, h128, h129, h130, h135, h134]
        subst hK131
        refine eb_blk_n ?_
        refine eb_seq ?_
        refine rb_regionK fun K136 hK136 => ?_
        simp -implicitDefEqProofs only [vt, vm, ↓atI_fold, forall_const, implies_true, sevalprocAttr, dd_TA, k11, k101, h128, h129, h130, h135, h134]
        subst hK136
        obtain rfl := Option.some.inj h
        exact eb_nil ⟨rfl, Wk.of (fun i => if i = 2 then some 2 else if i = 1 then some 11 else if i = 0 then some 0 else some i) _ _ _ (by simp -implicitDefEqProofs [kv, km, dd_TA, k11, k101]) (by simp -implicitDefEqProofs [kv, km, dd_TA, k11, k101])⟩
      · refine rb_false (by first | exact congrArg D.bool k101 | rfl) ?_
        refine rb_exit ?_
        refine eb_seq_e ?_
        obtain rfl := Option.some.inj h
        exact eb_nil ⟨rfl, Wk.of (fun i => if i = 1 then some 1 else if i = 0 then some 0 else some i) _ _ _ (by simp -implicitDefEqProofs [kv, km, dd_TA, k11, k101]) (by simp -implicitDefEqProofs [kv, km, dd_TA, k11, k101])⟩
    · refine eb_blk_hit ?_
      refine eb_seq ?_
      refine rb_seq ?_
      refine rb_regionK fun K139 hK139 => ?_
      simp -implicitDefEqProofs only [vt, vm, ↓atI_fold, forall_const, implies_true, sevalprocAttr, dd_TA, k11]
      subst hK139
      refine eb_seq ?_
      refine rb_seq ?_
      refine rb_seq ?_
      refine rb_regionK fun K141 hK141 => ?_
      simp -implicitDefEqProofs only [vt, vm, ↓atI_fold, forall_const, implies_true, sevalprocAttr, dd_TA, k11]
      subst hK141
      refine eb_seq ?_
      rcases ite_or h with ⟨k142, h⟩ | ⟨k142, h⟩
      · refine rb_true (by first | exact congrArg D.bool k142 | rfl) ?_
        refine rb_regionK fun K143 hK143 => ?_
        simp -implicitDefEqProofs only [vt, vm, ↓atI_fold, forall_const, implies_true, sevalprocAttr, dd_TA, k11, k142]
        subst hK143
        refine eb_seq ?_
        refine rb_seq ?_
        refine rb_drawK hI (by kernel_rfl) (by kernel_rfl) fun K153 hK153 => ?_
        simp -implicitDefEqProofs only [vt, vm, ↓atI_fold, forall_const, implies_true, sevalprocAttr, dd_TA, k11, k142]
        obtain ⟨r154, h155, h⟩ := bind_some h
        refine cD'.intro (a_region_aligns I hI h155) (by first | rfl | (simp [List.map_append, dd_TA]; done)) (by kernel_rfl) ?_
        simp -implicitDefEqProofs only [vt, vm, ↓atI_fold, forall_const, implies_true, sevalprocAttr, dd_TA, k11, k142]
        obtain ⟨y156, h157, h⟩ := bind_some h
        simp -implicitDefEqProofs only [vt, vm, ↓atI_fold, forall_const, implies_true, sevalprocAttr, dd_TA, k11, k142, h157]
        obtain ⟨h158, h⟩ := ite_on h
        have h159 : e19.length + 2 ≤ 9223372036854775807 := by omega
        try simp only [Nat.reduceLeDiff] at h159
        simp -implicitDefEqProofs only [vt, vm, ↓atI_fold, forall_const, implies_true, sevalprocAttr, dd_TA, k11, k142, h157, h159, h158]
        refine hD.intro (by kernel_rfl) ?_
        simp -implicitDefEqProofs only [vt, vm, ↓atI_fold, forall_const, implies_true, sevalprocAttr, dd_TA, k11, k142, h157, h159, h158]
        obtain ⟨r160, h161, h⟩ := bind_some h
        refine cD'.intro (a_strings_Join I hI (e19 ++ [y156, [66, 79, 84, 84, 79, 77]]) [32] h161) (by first | rfl | (simp [List.map_append, dd_TA]; done)) (by kernel_rfl) ?_
        simp -implicitDefEqProofs only [vt, vm, ↓atI_fold, forall_const, implies_true, sevalprocAttr, dd_TA, k11, k142, h157, h159, h158]
        subst hK153
        refine eb_seq ?_
        refine rb_ret ?_
        obtain rfl := Option.some.inj h
        refine eb_nil ?_
        simp -implicitDefEqProofs only [vt, vm, ↓atI_fold, forall_const, implies_true, sevalprocAttr, retQ_r, Tryd.results26, dd_TA, k11, k142, h157, h159, h158] <;> first | rfl | (simp [List.map_append, dd_TA]; done)
      · refine rb_false (by first | exact congrArg D.bool k142 | rfl) ?_
        refine rb_skip ?_
        refine eb_seq ?_
        refine rb_seq ?_
        refine rb_drawK hI (by kernel_rfl) (by kernel_rfl) fun K171 hK171 => ?_
        simp -implicitDefEqProofs only [vt, vm, ↓atI_fold, forall_const, implies_true, sevalprocAttr, dd_TA, k11, k142]
        obtain ⟨r172, h173, h⟩ := bind_some h
        refine cD'.intro (a_region_aligns I hI h173) (by first | rfl | (simp [List.map_append, dd_TA]; done)) (by kernel_rfl) ?_
        simp -implicitDefEqProofs only [vt, vm, ↓atI_fold, forall_const, implies_true, sevalprocAttr, dd_TA, k11, k142]
        obtain ⟨y174, h175, h⟩ := bind_some h
        simp -implicitDefEqProofs only [vt, vm, ↓atI_fold, forall_const, implies_true, sevalprocAttr, dd_TA, k11, k142, h175]
        obtain ⟨h176, h⟩ := ite_on h
        have h177 : e19.length + 2 ≤ 9223372036854775807 := by omega
        try simp only [Nat.reduceLeDiff] at h177
        simp -implicitDefEqProofs only [vt, vm, ↓atI_fold, forall_const, implies_true, sevalprocAttr, dd_TA, k11, k142, h175, h177, h176]
        refine hD.intro (by kernel_rfl) ?_
        simp -implicitDefEqProofs only [vt, vm, ↓atI_fold, forall_const, implies_true, sevalprocAttr, dd_TA, k11, k142, h175, h177, h176]
        obtain ⟨r178, h179, h⟩ := bind_some h
        refine cD'.intro (a_strings_Join I hI (e19 ++ [y174, [84, 79, 80]]) [32] h179) (by first | rfl | (simp [List.map_append, dd_TA]; done)) (by kernel_rfl) ?_
        simp -implicitDefEqProofs only [vt, vm, ↓atI_fold, forall_const, implies_true, sevalprocAttr, dd_TA, k11, k142, h175, h177, h176]
        subst hK171
        refine eb_seq ?_
        refine rb_ret ?_
        obtain rfl := Option.some.inj h
        refine eb_nil ?_
        simp -implicitDefEqProofs only [vt, vm, ↓atI_fold, forall_const, implies_true, sevalprocAttr, retQ_r, Tryd.results26, dd_TA, k11, k142, h175, h177, h176] <;> first | rfl | (simp [List.map_append, dd_TA]; done)
-- captionerlaw10.awake
def g_law10_awake  : Option (Bool) :=
  ((g_region_Default).bind fun r9 => ((g_region_Place r9 [5, 32]).bind fun r11 => ((g_region_Default).bind fun r19 => ((g_region_Place r19 [1, 1, 1, 1, 1]).bind fun r21 => ((g_region_Default).bind fun r29 => ((g_region_Place r29 [33]).bind fun r31 => ((g_region_Text (T_api_Region.mk [84, 79, 80] 1 2 4 24 1 false)).bind fun r37 => (if ((r11.1.length : Int) == 2) then ((atI r11.1 0).bind fun y53 => (if ((y53.Row == 13) && ((y53.Col == 13) && (y53.Len == 5))) then ((atI r11.1 1).bind fun y56 => (if ((y56.Row == 14) && ((y56.Col == 0) && (y56.Len == 32))) then (if (r11.2 == 0) then (if (r21.2 == 9) then (if (r31.2 == 11) then (if (r37.1 == ([84, 79, 80, 32, 49, 32, 50, 32, 52, 32, 50, 52, 32, 76, 69, 70, 84, 32, 84, 79, 80] : List UInt8)) then (some (r37.2 == 0)) else (some false)) else (some false)) else (some false)) else (some false)) else (some false))) else (some false))) else (some false)))))))))
theorem a_law10_awake (I : World → Prop) (hI : Stab I) (hTab : ∀ w, I w → Tab w)  {r : Bool} (h : g_law10_awake  = some r) : AFun Tryd.prog I 25 [] (.bool r) := by
  refine AFun.enterB hI Tryd.func25 rfl (by decide) (by simp [Tryd.f25]) (by kernel_rfl) ?_
  unfold g_law10_awake at h
  simp only [S0, Tryd.ntmps25, dd_TA]
  refine rb_seq ?_
  refine rb_regionK fun K2 hK2 => ?_
  simp -implicitDefEqProofs only [vt, vm, ↓atI_fold, forall_const, implies_true, sevalprocAttr, dd_TA]
  subst hK2
  refine eb_seq ?_
  refine rb_seq ?_
  refine rb_regionK fun K8 hK8 => ?_
  simp -implicitDefEqProofs only [vt, vm, ↓atI_fold, forall_const, implies_true, sevalprocAttr, dd_TA]
  obtain ⟨r9, h10, h⟩ := bind_some h
  refine cW.intro (a_region_Default I hI h10) (by first | rfl | (simp [List.map_append, dd_TA]; done)) ?_
  simp -implicitDefEqProofs only [vt, vm, ↓atI_fold, forall_const, implies_true, sevalprocAttr, dd_TA]
  obtain ⟨r11, h12, h⟩ := bind_some h
  refine cW.intro (a_region_Place I hI r9 [5, 32] h12) (by first | rfl | (simp [List.map_append, dd_TA]; done)) ?_
  simp -implicitDefEqProofs only [vt, vm, ↓atI_fold, forall_const, implies_true, sevalprocAttr, dd_TA]
  subst hK8
  refine eb_seq ?_
  refine rb_seq ?_
  refine rb_regionK fun K18 hK18 => ?_
  simp -implicitDefEqProofs only [vt, vm, ↓atI_fold, forall_const, implies_true, sevalprocAttr, dd_TA]
  obtain ⟨r19, h20, h⟩ := bind_some h
  refine cW.intro (a_region_Default I hI h20) (by first | rfl | (simp [List.map_append, dd_TA]; done)) ?_
  simp -implicitDefEqProofs only [vt, vm, ↓atI_fold, forall_const, implies_true, sevalprocAttr, dd_TA]
  obtain ⟨r21, h22, h⟩ := bind_some h
  refine cW.intro (a_region_Place I hI r19 [1, 1, 1, 1, 1] h22) (by first | rfl | (simp [List.map_append, dd_TA]; done)) ?_
  simp -implicitDefEqProofs only [vt, vm, ↓atI_fold, forall_const, implies_true, sevalprocAttr, dd_TA]
  subst hK18
  refine eb_seq ?_
  refine rb_seq ?_
  refine rb_regionK fun K28 hK28 => ?_
  simp -implicitDefEqProofs only [vt, vm, ↓atI_fold, forall_const, implies_true, sevalprocAttr, dd_TA]
  obtain ⟨r29, h30, h⟩ := bind_some h
  refine cW.intro (a_region_Default I hI h30) (by first | rfl | (simp [List.map_append, dd_TA]; done)) ?_
  simp -implicitDefEqProofs only [vt, vm, ↓atI_fold, forall_const, implies_true, sevalprocAttr, dd_TA]
  obtain ⟨r31, h32, h⟩ := bind_some h
  refine cW.intro (a_region_Place I hI r29 [33] h32) (by first | rfl | (simp [List.map_append, dd_TA]; done)) ?_
  simp -implicitDefEqProofs only [vt, vm, ↓atI_fold, forall_const, implies_true, sevalprocAttr, dd_TA]
  subst hK28
  refine eb_seq ?_
  refine rb_seq ?_
  refine rb_regionK fun K36 hK36 => ?_
  simp -implicitDefEqProofs only [vt, vm, ↓atI_fold, forall_const, implies_true, sevalprocAttr, dd_TA]
  obtain ⟨r37, h38, h⟩ := bind_some h
  refine cW.intro (a_region_Text I hI hTab (T_api_Region.mk [84, 79, 80] 1 2 4 24 1 false) h38) (by first | rfl | (simp [List.map_append, dd_TA]; done)) ?_
  simp -implicitDefEqProofs only [vt, vm, ↓atI_fold, forall_const, implies_true, sevalprocAttr, dd_TA]
  subst hK36
  refine eb_seq ?_
  refine rb_seq ?_
  refine rb_regionK fun K51 hK51 => ?_
  simp -implicitDefEqProofs only [vt, vm, ↓atI_fold, forall_const, implies_true, sevalprocAttr, dd_TA]
  rcases ite_or h with ⟨k52, h⟩ | ⟨k52, h⟩
  · simp -implicitDefEqProofs only [vt, vm, ↓atI_fold, forall_const, implies_true, sevalprocAttr, dd_TA, k52]
    obtain ⟨y53, h54, h⟩ := bind_some h
    simp -implicitDefEqProofs only [vt, vm, ↓atI_fold, forall_const, implies_true, sevalprocAttr, dd_TA, k52, h54]
    rcases ite_or h with ⟨k55, h⟩ | ⟨k55, h⟩
    · simp -implicitDefEqProofs only [vt, vm, ↓atI_fold, forall_const, implies_true, sevalprocAttr, dd_TA, k52, h54, k55]
      obtain ⟨y56, h57, h⟩ := bind_some h
      simp -implicitDefEqProofs only [vt, vm, ↓atI_fold, forall_const, implies_true, sevalprocAttr, dd_TA, k52, h54, k55, h57]
      rcases ite_or h with ⟨k58, h⟩ | ⟨k58, h⟩
      · simp -implicitDefEqProofs only [vt, vm, ↓atI_fold, forall_const, implies_true, sevalprocAttr, dd_TA, k52, h54, k55, h57, k58]
        rcases ite_or h with ⟨k59, h⟩ | ⟨k59, h⟩
        · simp -implicitDefEqProofs only [vt, vm, ↓atI_fold, forall_const, implies_true, sevalprocAttr, dd_TA, k52, h54, k55, h57, k58, k59]
          rcases ite_or h with ⟨k60, h⟩ | ⟨k60, h⟩
          · simp -implicitDefEqProofs only [vt, vm, ↓atI_fold, forall_const, implies_true, sevalprocAttr, dd_TA, k52, h54, k55, h57, k58, k59, k60]
            rcases ite_or h with ⟨k61, h⟩ | ⟨k61, h⟩
            · simp -implicitDefEqProofs only [vt, vm, ↓atI_fold, forall_const, implies_true, sevalprocAttr, dd_TA, k52, h54, k55, h57, k58, k59, k60, k61]
              rcases ite_or h with ⟨k62, h⟩ | ⟨k62, h⟩
              · simp -implicitDefEqProofs only [vt, vm, ↓atI_fold, forall_const, implies_true, sevalprocAttr, dd_TA, k52, h54, k55, h57, k58, k59, k60, k61, k62]
                subst hK51
                refine eb_seq ?_
                refine rb_ret ?_
                obtain rfl := Option.some.inj h
                refine eb_nil ?_
                simp -implicitDefEqProofs only [vt, vm, ↓atI_fold, forall_const, implies_true, sevalprocAttr, retQ_r, Tryd.results25, dd_TA, k52, h54, k55, h57, k58, k59, k60, k61, k62] <;> first | rfl | (simp [List.map_append, dd_TA]; done)
              · simp -implicitDefEqProofs only [vt, vm, ↓atI_fold, forall_const, implies_true, sevalprocAttr, dd_TA, k52, h54, k55, h57, k58, k59, k60, k61, k62]
                subst hK51
                refine eb_seq ?_
                refine rb_ret ?_
                obtain rfl := Option.some.inj h
                refine eb_nil ?_
                simp -implicitDefEqProofs only [vt, vm, ↓atI_fold, forall_const, implies_true, sevalprocAttr, retQ_r, Tryd.results25, dd_TA, k52, h54, k55, h57, k58, k59, k60, k61, k62] <;> first | rfl | (simp [List.map_append, dd_TA]; done)
            · simp -implicitDefEqProofs only [vt, vm, ↓atI_fold, forall_const, implies_true, sevalprocAttr, dd_TA, k52, h54, k55, h57, k58, k59, k60, k61]
              subst hK51
              refine eb_seq ?_
              refine rb_ret ?_
              obtain rfl := Option.some.inj h
              refine eb_nil ?_
              simp -implicitDefEqProofs only [vt, vm, ↓atI_fold, forall_const, implies_true, sevalprocAttr, retQ_r, Tryd.results25, dd_TA, k52, h54, k55, h57, k58, k59, k60, k61] <;> first | rfl | (simp [List.map_append, dd_TA]; done)
          · simp -implicitDefEqProofs only [vt, vm, ↓atI_fold, forall_const, implies_true, sevalprocAttr, dd_TA, k52, h54, k55, h57, k58, k59, k60]
            subst hK51
            refine eb_seq ?_
            refine rb_ret ?_
            obtain rfl := Option.some.inj h
            refine eb_nil ?_
            simp -implicitDefEqProofs only [vt, vm, ↓atI_fold, forall_const, implies_true, sevalprocAttr, retQ_r, Tryd.results25, dd_TA, k52, h54, k55, h57, k58, k59, k60] <;> first | rfl | (simp [List.map_append, dd_TA]; done)
        · simp -implicitDefEqProofs only [vt, vm, ↓atI_fold, forall_const, implies_true, sevalprocAttr, dd_TA, k52, h54, k55, h57, k58, k59]
          subst hK51
          refine eb_seq ?_
          refine rb_ret ?_
          obtain rfl := Option.some.inj h
          refine eb_nil ?_
          simp -implicitDefEqProofs only [vt, vm, ↓atI_fold, forall_const, implies_true, sevalprocAttr, retQ_r, Tryd.results25, dd_TA, k52, h54, k55, h57, k58, k59] <;> first | rfl | (simp [List.map_append, dd_TA]; done)
      · simp -implicitDefEqProofs only [vt, vm, ↓atI_fold, forall_const, implies_true, sevalprocAttr, dd_TA, k52, h54, k55, h57, k58]
        subst hK51
        refine eb_seq ?_
        refine rb_ret ?_
        obtain rfl := Option.some.inj h
        refine eb_nil ?_
        simp -implicitDefEqProofs only [vt, vm, ↓atI_fold, forall_const, implies_true, sevalprocAttr, retQ_r, Tryd.results25, dd_TA, k52, h54, k55, h57, k58] <;> first | rfl | (simp [List.map_append, dd_TA]; done)
    · simp -implicitDefEqProofs only [vt, vm, ↓atI_fold, forall_const, implies_true, sevalprocAttr, dd_TA, k52, h54, k55]
      subst hK51
      refine eb_seq ?_
      refine rb_ret ?_
      obtain rfl := Option.some.inj h
      refine eb_nil ?_
      simp -implicitDefEqProofs only [vt, vm, ↓atI_fold, forall_const, implies_true, sevalprocAttr, retQ_r, Tryd.results25, dd_TA, k52, h54, k55] <;> first | rfl | (simp [List.map_append, dd_TA]; done)
  · simp -implicitDefEqProofs only [vt, vm, ↓atI_fold, forall_const, implies_true, sevalprocAttr, dd_TA, k52]
    subst hK51
    refine eb_seq ?_
    refine rb_ret ?_
    obtain rfl := Option.some.inj h
    refine eb_nil ?_
    simp -implicitDefEqProofs only [vt, vm, ↓atI_fold, forall_const, implies_true, sevalprocAttr, retQ_r, Tryd.results25, dd_TA, k52] <;> first | rfl | (simp [List.map_append, dd_TA]; done)
-- lines.Number
def g_lines_Number_s1 (r7 : (List UInt8) × Bool) (x28 : Int) : Option (Nx (Int) (Unit ⊕ Unit)) :=
  (if (decide (x28 < (r7.1.length : Int))) then ((atI r7.1 x28).bind fun b91 => (if (decide ((b91.toNat : Int) < 48)) then (some (.out (.inl ()))) else (if (decide (57 < (b91.toNat : Int))) then (some (.out (.inl ()))) else (some (.go (IntKind.i64.wrap (x28 + 1))))))) else (some (.out (.inr ()))))
def g_lines_Number (s_0 : List UInt8) (lo_1 : Int) (hi_2 : Int) : Option (Int × Int) :=
  ((g_strings_CutPrefix s_0 [45]).bind fun r7 => (((if (r7.1 == ([] : List UInt8)) then (some true) else ((atI r7.1 0).bind fun b18 => (if ((b18.toNat : Int) == 48) then (if (decide (1 < (r7.1.length : Int))) then (some true) else (some r7.2)) else (some false)))) : Option (Bool)).bind fun v15 => (if v15 then (some (0, 4)) else ((iter (g_lines_Number_s1 r7) 0).bind fun e29 => (match e29 with | Sum.inl e29 => (some (0, 4)) | Sum.inr (e29) => ((g_strconv_ParseInt s_0 10 64).bind fun r105 => (((if r105.2 then (some true) else (if (decide (r105.1 < lo_1)) then (some true) else (some (decide (hi_2 < r105.1))))) : Option (Bool)).bind fun v110 => (if v110 then (some (0, 2)) else (some (r105.1, 0))))))))))
theorem a_lines_Number (I : World → Prop) (hI : Stab I) (hPIv : ∀ w, I w → PIv w) (s_0 : List UInt8) (lo_1 : Int) (hi_2 : Int) {r : Int × Int} (h : g_lines_Number s_0 lo_1 hi_2 = some r) : AFun Tryd.prog I 60 [.str s_0, .int .i64 lo_1, .int .i64 hi_2] (.tup [.int .i64 r.1, .int .i64 r.2]) := by
  refine AFun.enterB hI Tryd.func60 rfl (by decide) (by simp [Tryd.f60]) (by kernel_rfl) ?_
  unfold g_lines_Number at h
  simp only [S0, Tryd.ntmps60, dd_TA]
  refine rb_seq ?_
  refine rb_regionK fun K2 hK2 => ?_
  simp -implicitDefEqProofs only [vt, vm, ↓atI_fold, forall_const, implies_true, sevalprocAttr, dd_TA]
  subst hK2
  refine eb_seq ?_
  refine rb_seq ?_
  refine rb_regionK fun K6 hK6 => ?_
  simp -implicitDefEqProofs only [vt, vm, ↓atI_fold, forall_const, implies_true, sevalprocAttr, dd_TA]
  obtain ⟨r7, h8, h⟩ := bind_some h
  refine cW.intro (a_strings_CutPrefix I hI s_0 [45] h8) (by first | rfl | (simp [List.map_append, dd_TA]; done)) ?_
  simp -implicitDefEqProofs only [vt, vm, ↓atI_fold, forall_const, implies_true, sevalprocAttr, dd_TA]
  subst hK6
  refine eb_seq ?_
  refine rb_seq ?_
  obtain ⟨v15, h22, h⟩ := bind_some h
  refine rb_cut (fun v15 => ⟨envL [(0, .str s_0), (1, .int .i64 lo_1), (2, .int .i64 hi_2), (8, .str r7.1), (32, .bool v15)], heapL [], 0, 67⟩) h22 ?_ ?_
  · clear h
    intro v15 h
    refine rb_regionK fun K16 hK16 => ?_
    simp -implicitDefEqProofs only [vt, vm, ↓atI_fold, forall_const, implies_true, sevalprocAttr, dd_TA]
    rcases ite_or h with ⟨k17, h⟩ | ⟨k17, h⟩
    · simp -implicitDefEqProofs only [vt, vm, ↓atI_fold, forall_const, implies_true, sevalprocAttr, dd_TA, k17]
      subst hK16
      obtain rfl := Option.some.inj h
      exact eb_nil ⟨rfl, Wk.of (fun i => some i) _ _ _ (by simp -implicitDefEqProofs [kv, km, dd_TA, k17]) (by simp -implicitDefEqProofs [kv, km, dd_TA, k17])⟩
    · simp -implicitDefEqProofs only [vt, vm, ↓atI_fold, forall_const, implies_true, sevalprocAttr, dd_TA, k17]
      obtain ⟨b18, h19, h⟩ := bind_some h
      simp -implicitDefEqProofs only [vt, vm, ↓atI_fold, forall_const, implies_true, sevalprocAttr, dd_TA, k17, h19]
      rcases ite_or h with ⟨k20, h⟩ | ⟨k20, h⟩
      · simp -implicitDefEqProofs only [vt, vm, ↓atI_fold, forall_const, implies_true, sevalprocAttr, dd_TA, k17, h19, k20]
        rcases ite_or h with ⟨k21, h⟩ | ⟨k21, h⟩
        · simp -implicitDefEqProofs only [vt, vm, ↓atI_fold, forall_const, implies_true, sevalprocAttr, dd_TA, k17, h19, k20, k21]
          subst hK16
          obtain rfl := Option.some.inj h
          exact eb_nil ⟨rfl, Wk.of (fun i => some i) _ _ _ (by simp -implicitDefEqProofs [kv, km, dd_TA, k17, k20, k21]) (by simp -implicitDefEqProofs [kv, km, dd_TA, k17, k20, k21])⟩
        · simp -implicitDefEqProofs only [vt, vm, ↓atI_fold, forall_const, implies_true, sevalprocAttr, dd_TA, k17, h19, k20, k21]
          subst hK16
          obtain rfl := Option.some.inj h
          exact eb_nil ⟨rfl, Wk.of (fun i => some i) _ _ _ (by simp -implicitDefEqProofs [kv, km, dd_TA, k17, k20, k21]) (by simp -implicitDefEqProofs [kv, km, dd_TA, k17, k20, k21])⟩
      · simp -implicitDefEqProofs only [vt, vm, ↓atI_fold, forall_const, implies_true, sevalprocAttr, dd_TA, k17, h19, k20]
        subst hK16
        obtain rfl := Option.some.inj h
        exact eb_nil ⟨rfl, Wk.of (fun i => some i) _ _ _ (by simp -implicitDefEqProofs [kv, km, dd_TA, k17, k20]) (by simp -implicitDefEqProofs [kv, km, dd_TA, k17, k20])⟩
  · rcases ite_or h with ⟨k23, h⟩ | ⟨k23, h⟩
    · refine rb_true (by first | exact congrArg D.bool k23 | rfl) ?_
      refine rb_seq ?_
      refine rb_regionK fun K25 hK25 => ?_
      simp -implicitDefEqProofs only [vt, vm, ↓atI_fold, forall_const, implies_true, sevalprocAttr, dd_TA, k23]
      subst hK25
      refine eb_seq ?_
      refine rb_ret ?_
      refine eb_seq_r ?_
      obtain rfl := Option.some.inj h
      refine eb_nil ?_
      simp -implicitDefEqProofs only [vt, vm, ↓atI_fold, forall_const, implies_true, sevalprocAttr, retQ_r, Tryd.results60, dd_TA, k23] <;> first | rfl | (simp [List.map_append, dd_TA]; done)
    · refine rb_false (by first | exact congrArg D.bool k23 | rfl) ?_
      refine rb_skip ?_
      refine eb_seq ?_
      refine rb_seq ?_
      refine rb_seq ?_
      refine rb_regionK fun K27 hK27 => ?_
      simp -implicitDefEqProofs only [vt, vm, ↓atI_fold, forall_const, implies_true, sevalprocAttr, dd_TA, k23]
      subst hK27
      refine eb_seq ?_
      refine rb_block ?_
      obtain ⟨e29, h100, h⟩ := bind_some h
      refine rb_loop (fun x28 => ⟨envL [(0, .str s_0), (1, .int .i64 lo_1), (2, .int .i64 hi_2), (8, .str r7.1), (34, .int .i64 (r7.1.length : Int)), (35, .int .i64 x28)], heapL [], 0, 67⟩) (fun w => match w with | Sum.inl _ => .ret | Sum.inr (_) => .exit 0) (fun w => match w with | Sum.inl e29 => ⟨envL [(6, .int .i64 0), (7, .int .i64 4)], heapL [], 0, 67⟩ | Sum.inr (e29) => ⟨envL [(0, .str s_0), (1, .int .i64 lo_1), (2, .int .i64 hi_2)], heapL [], 0, 67⟩) h100 (Wk.of (fun i => some i) _ _ _ (by simp -implicitDefEqProofs [kv, km, dd_TA, k23]) (by simp -implicitDefEqProofs [kv, km, dd_TA, k23])) (by intro w; rcases w with w | w <;> simp) ?_ ?_
      · clear h
        intro x28 y h
        unfold g_lines_Number_s1 at h
        refine rb_seq ?_
        refine rb_regionK fun K66 hK66 => ?_
        simp -implicitDefEqProofs only [vt, vm, ↓atI_fold, forall_const, implies_true, sevalprocAttr, dd_TA, k23]
        subst hK66
        refine eb_seq ?_
        refine rb_seq ?_
        rcases ite_or h with ⟨k68, h⟩ | ⟨k68, h⟩
        · refine rb_true (by first | exact congrArg D.bool k68 | rfl) ?_
          refine rb_skip ?_
          refine eb_seq ?_
          refine rb_seq ?_
          refine rb_block ?_
          refine rb_seq ?_
          refine rb_regionK fun K85 hK85 => ?_
          simp -implicitDefEqProofs only [vt, vm, ↓atI_fold, forall_const, implies_true, sevalprocAttr, dd_TA, k23, k68]
          subst hK85
          refine eb_seq ?_
          refine rb_seq ?_
          refine rb_regionK fun K90 hK90 => ?_
          simp -implicitDefEqProofs only [vt, vm, ↓atI_fold, forall_const, implies_true, sevalprocAttr, dd_TA, k23, k68]
          obtain ⟨b91, h92, h⟩ := bind_some h
          simp -implicitDefEqProofs only [vt, vm, ↓atI_fold, forall_const, implies_true, sevalprocAttr, dd_TA, k23, k68, h92]
          rcases ite_or h with ⟨k93, h⟩ | ⟨k93, h⟩
          · simp -implicitDefEqProofs only [vt, vm, ↓atI_fold, forall_const, implies_true, sevalprocAttr, dd_TA, k23, k68, h92, k93]
            subst hK90
            refine eb_seq ?_
            refine rb_true (rfl) ?_
            refine rb_seq ?_
            refine rb_regionK fun K95 hK95 => ?_
            simp -implicitDefEqProofs only [vt, vm, ↓atI_fold, forall_const, implies_true, sevalprocAttr, dd_TA, k23, k68, h92, k93]
            subst hK95
            refine eb_seq ?_
            refine rb_ret ?_
            refine eb_blk_r ?_
            refine eb_seq_r ?_
            obtain rfl := Option.some.inj h
            exact eb_nil ⟨rfl, Wk.of (fun i => some i) _ _ _ (by simp -implicitDefEqProofs [kv, km, dd_TA, k23, k68, k93]) (by simp -implicitDefEqProofs [kv, km, dd_TA, k23, k68, k93])⟩
          · simp -implicitDefEqProofs only [vt, vm, ↓atI_fold, forall_const, implies_true, sevalprocAttr, dd_TA, k23, k68, h92, k93]
            subst hK90
            refine eb_seq ?_
            rcases ite_or h with ⟨k96, h⟩ | ⟨k96, h⟩
            · refine rb_true (by first | exact congrArg D.bool k96 | rfl) ?_
              refine rb_seq ?_
              refine rb_regionK fun K98 hK98 => ?_
              simp -implicitDefEqProofs only [vt, vm, ↓atI_fold, forall_const, implies_true, sevalprocAttr, dd_TA, k23, k68, h92, k93, k96]
              subst hK98
              refine eb_seq ?_
              refine rb_ret ?_
              refine eb_blk_r ?_
              refine eb_seq_r ?_
              obtain rfl := Option.some.inj h
              exact eb_nil ⟨rfl, Wk.of (fun i => some i) _ _ _ (by simp -implicitDefEqProofs [kv, km, dd_TA, k23, k68, k93, k96]) (by simp -implicitDefEqProofs [kv, km, dd_TA, k23, k68, k93, k96])⟩
            · refine rb_false (by first | exact congrArg D.bool k96 | rfl) ?_
              refine rb_skip ?_
              refine eb_blk_n ?_
              refine eb_seq ?_
              refine rb_regionK fun K99 hK99 => ?_
              simp -implicitDefEqProofs only [vt, vm, ↓atI_fold, forall_const, implies_true, sevalprocAttr, dd_TA, k23, k68, h92, k93, k96]
              subst hK99
              obtain rfl := Option.some.inj h
              exact eb_nil ⟨rfl, Wk.of (fun i => some i) _ _ _ (by simp -implicitDefEqProofs [kv, km, dd_TA, k23, k68, k93, k96]) (by simp -implicitDefEqProofs [kv, km, dd_TA, k23, k68, k93, k96])⟩
        · refine rb_false (by first | exact congrArg D.bool k68 | rfl) ?_
          refine rb_exit ?_
          refine eb_seq_e ?_
          obtain rfl := Option.some.inj h
          exact eb_nil ⟨rfl, Wk.of (fun i => some i) _ _ _ (by simp -implicitDefEqProofs [kv, km, dd_TA, k23, k68]) (by simp -implicitDefEqProofs [kv, km, dd_TA, k23, k68])⟩
      · rcases e29 with e29 | e29
        · try dsimp only at h ⊢
          refine eb_blk_r ?_
          refine eb_seq_r ?_
          obtain rfl := Option.some.inj h
          refine eb_nil ?_
          simp -implicitDefEqProofs only [vt, vm, ↓atI_fold, forall_const, implies_true, sevalprocAttr, retQ_r, Tryd.results60, dd_TA, k23] <;> first | rfl | (simp [List.map_append, dd_TA]; done)
        · try dsimp only at h ⊢
          refine eb_blk_hit ?_
          refine eb_seq ?_
          refine rb_seq ?_
          refine rb_regionK fun K104 hK104 => ?_
          simp -implicitDefEqProofs only [vt, vm, ↓atI_fold, forall_const, implies_true, sevalprocAttr, dd_TA, k23]
          obtain ⟨r105, h106, h⟩ := bind_some h
          refine cW.intro (a_strconv_ParseInt I hI hPIv s_0 10 64 h106) (by first | rfl | (simp [List.map_append, dd_TA]; done)) ?_
          simp -implicitDefEqProofs only [vt, vm, ↓atI_fold, forall_const, implies_true, sevalprocAttr, dd_TA, k23]
          subst hK104
          refine eb_seq ?_
          refine rb_seq ?_
          obtain ⟨v110, h114, h⟩ := bind_some h
          refine rb_cut (fun v110 => ⟨envL [(11, .int .i64 r105.1), (65, .bool v110)], heapL [], 0, 67⟩) h114 ?_ ?_
          · clear h
            intro v110 h
            refine rb_regionK fun K111 hK111 => ?_
            simp -implicitDefEqProofs only [vt, vm, ↓atI_fold, forall_const, implies_true, sevalprocAttr, dd_TA, k23]
            rcases ite_or h with ⟨k112, h⟩ | ⟨k112, h⟩
            · simp -implicitDefEqProofs only [vt, vm, ↓atI_fold, forall_const, implies_true, sevalprocAttr, dd_TA, k23, k112]
              subst hK111
              obtain rfl := Option.some.inj h
              exact eb_nil ⟨rfl, Wk.of (fun i => some i) _ _ _ (by simp -implicitDefEqProofs [kv, km, dd_TA, k23, k112]) (by simp -implicitDefEqProofs [kv, km, dd_TA, k23, k112])⟩
            · simp -implicitDefEqProofs only [vt, vm, ↓atI_fold, forall_const, implies_true, sevalprocAttr, dd_TA, k23, k112]
              rcases ite_or h with ⟨k113, h⟩ | ⟨k113, h⟩
              · simp -implicitDefEqProofs only [vt, vm, ↓atI_fold, forall_const, implies_true, sevalprocAttr, dd_TA, k23, k112, k113]
                subst hK111
                obtain rfl := Option.some.inj h
                exact eb_nil ⟨rfl, Wk.of (fun i => some i) _ _ _ (by simp -implicitDefEqProofs [kv, km, dd_TA, k23, k112, k113]) (by simp -implicitDefEqProofs [kv, km, dd_TA, k23, k112, k113])⟩
              · simp -implicitDefEqProofs only [vt, vm, ↓atI_fold, forall_const, implies_true, sevalprocAttr, dd_TA, k23, k112, k113]
                subst hK111
                obtain rfl := Option.some.inj h
                exact eb_nil ⟨rfl, Wk.of (fun i => some i) _ _ _ (by simp -implicitDefEqProofs [kv, km, dd_TA, k23, k112, k113]) (by simp -implicitDefEqProofs [kv, km, dd_TA, k23, k112, k113])⟩
          · rcases ite_or h with ⟨k115, h⟩ | ⟨k115, h⟩
            · refine rb_true (by first | exact congrArg D.bool k115 | rfl) ?_
              refine rb_seq ?_
              refine rb_regionK fun K117 hK117 => ?_
              simp -implicitDefEqProofs only [vt, vm, ↓atI_fold, forall_const, implies_true, sevalprocAttr, dd_TA, k23, k115]
              subst hK117
              refine eb_seq ?_
              refine rb_ret ?_
              refine eb_seq_r ?_
              obtain rfl := Option.some.inj h
              refine eb_nil ?_
              simp -implicitDefEqProofs only [vt, vm, ↓atI_fold, forall_const, implies_true, sevalprocAttr, retQ_r, Tryd.results60, dd_TA, k23, k115] <;> first | rfl | (simp [List.map_append, dd_TA]; done)
            · refine rb_false (by first | exact congrArg D.bool k115 | rfl) ?_
              refine rb_skip ?_
              refine eb_seq ?_
              refine rb_seq ?_
              refine rb_regionK fun K119 hK119 => ?_
              simp -implicitDefEqProofs only [vt, vm, ↓atI_fold, forall_const, implies_true, sevalprocAttr, dd_TA, k23, k115]
              subst hK119
              refine eb_seq ?_
              refine rb_ret ?_
              obtain rfl := Option.some.inj h
              refine eb_nil ?_
              simp -implicitDefEqProofs only [vt, vm, ↓atI_fold, forall_const, implies_true, sevalprocAttr, retQ_r, Tryd.results60, dd_TA, k23, k115] <;> first | rfl | (simp [List.map_append, dd_TA]; done)
-- region.Parse
def g_region_Parse_s1 (r7 : (List (List UInt8))) (x18 : Int × Int × Int × Int × Int) : Option (Nx (Int × Int × Int × Int × Int) (Unit ⊕ (Int × Int × Int × Int))) :=
  (if (decide (x18.1 < 4)) then ((atI r7 (IntKind.i64.wrap (x18.1 + 1))).bind fun y158 => ((g_lines_Number y158 0 32).bind fun r160 => (if (r160.2 != 0) then (some (.out (.inl ()))) else (if x18.1 == 0 then (some (.go ((IntKind.i64.wrap (x18.1 + 1)), r160.1, x18.2.2.1, x18.2.2.2.1, x18.2.2.2.2))) else (if x18.1 == 1 then (some (.go ((IntKind.i64.wrap (x18.1 + 1)), x18.2.1, r160.1, x18.2.2.2.1, x18.2.2.2.2))) else (if x18.1 == 2 then (some (.go ((IntKind.i64.wrap (x18.1 + 1)), x18.2.1, x18.2.2.1, r160.1, x18.2.2.2.2))) else (if x18.1 == 3 then (some (.go ((IntKind.i64.wrap (x18.1 + 1)), x18.2.1, x18.2.2.1, x18.2.2.2.1, r160.1))) else none))))))) else (some (.out (.inr (x18.2.1, x18.2.2.1, x18.2.2.2.1, x18.2.2.2.2)))))
def g_region_Parse_s2 (r7 : (List (List UInt8))) (r191 : (List (List UInt8))) (x193 : Int × Int) : Option (Nx (Int × Int) (Int)) :=
  (if (decide (x193.1 < (r191.length : Int))) then ((atI r191 x193.1).bind fun y285 => ((atI r7 5).bind fun y291 => (if (y285 == y291) then (some (.go ((IntKind.i64.wrap (x193.1 + 1)), (IntKind.u8.wrap (IntKind.i64.wrap (x193.1 + 1)))))) else (some (.go ((IntKind.i64.wrap (x193.1 + 1)), x193.2)))))) else (some (.out x193.2)))
def g_region_Parse (s_0 : List UInt8) : Option (T_api_Region × Int) :=
  ((g_strings_Split s_0 [32]).bind fun r7 => (if ((r7.length : Int) != 7) then (some ((T_api_Region.mk [] 0 0 0 0 0 false), 4)) else ((iter (g_region_Parse_s1 r7) (0, 0, 0, 0, 0)).bind fun e19 => (match e19 with | Sum.inl e19 => (some ((T_api_Region.mk [] 0 0 0 0 0 false), 4)) | Sum.inr (e19) => ((atI r7 0).bind fun y183 => ((atI r7 6).bind fun y185 => ((g_region_aligns).bind fun r191 => ((iter (g_region_Parse_s2 r7 r191) (0, 0)).bind fun e194 => ((g_region_Text (T_api_Region.mk y183 e19.1 e19.2.1 e19.2.2.1 e19.2.2.2 e194 (y185 == ([66, 79, 84, 84, 79, 77] : List UInt8)))).bind fun r302 => (if (r302.2 != 0) then (some ((T_api_Region.mk [] 0 0 0 0 0 false), 4)) else (if (r302.1 == s_0) then (some ((T_api_Region.mk y183 e19.1 e19.2.1 e19.2.2.1 e19.2.2.2 e194 (y185 == ([66, 79, 84, 84, 79, 77] : List UInt8))), 0)) else (some ((T_api_Region.mk [] 0 0 0 0 0 false), 4)))))))))))))
theorem a_region_Parse (I : World → Prop) (hI : Stab I) (hPIv : ∀ w, I w → PIv w) (hShp : ∀ w, I w → Shp w) (hTab : ∀ w, I w → Tab w) (s_0 : List UInt8) {r : T_api_Region × Int} (h : g_region_Parse s_0 = some r) : AFun Tryd.prog I 28 [.str s_0] (.tup [T_api_Region.d r.1, .int .i64 r.2]) := by
  refine AFun.enterB hI Tryd.func28 rfl (by decide) (by simp [Tryd.f28]) (by kernel_rfl) ?_
  unfold g_region_Parse at h
  simp only [S0, Tryd.ntmps28, dd_TA]
  refine rb_seq ?_
  refine rb_regionK fun K2 hK2 => ?_
  simp -implicitDefEqProofs only [vt, vm, ↓atI_fold, forall_const, implies_true, sevalprocAttr, dd_TA]
  subst hK2
  refine eb_seq ?_
  refine rb_seq ?_
  refine rb_regionK fun K6 hK6 => ?_
  simp -implicitDefEqProofs only [vt, vm, ↓atI_fold, forall_const, implies_true, sevalprocAttr, dd_TA]
  obtain ⟨r7, h8, h⟩ := bind_some h
  refine cW.intro (a_strings_Split I hI hShp s_0 [32] h8) (by first | rfl | (simp [List.map_append, dd_TA]; done)) ?_
  simp -implicitDefEqProofs only [vt, vm, ↓atI_fold, forall_const, implies_true, sevalprocAttr, dd_TA]
  subst hK6
  refine eb_seq ?_
  refine rb_seq ?_
  refine rb_seq ?_
  refine rb_regionK fun K10 hK10 => ?_
  simp -implicitDefEqProofs only [vt, vm, ↓atI_fold, forall_const, implies_true, sevalprocAttr, dd_TA]
  subst hK10
  refine eb_seq ?_
  rcases ite_or h with ⟨k11, h⟩ | ⟨k11, h⟩
  · refine rb_true (by first | exact congrArg D.bool k11 | rfl) ?_
    refine rb_seq ?_
    refine rb_regionK fun K13 hK13 => ?_
    simp -implicitDefEqProofs only [vt, vm, ↓atI_fold, forall_const, implies_true, sevalprocAttr, dd_TA, k11]
    subst hK13
    refine eb_seq ?_
    refine rb_ret ?_
    refine eb_seq_r ?_
    obtain rfl := Option.some.inj h
    refine eb_nil ?_
    simp -implicitDefEqProofs only [vt, vm, ↓atI_fold, forall_const, implies_true, sevalprocAttr, retQ_r, Tryd.results28, dd_TA, k11] <;> first | rfl | (simp [List.map_append, dd_TA]; done)
  · refine rb_false (by first | exact congrArg D.bool k11 | rfl) ?_
    refine rb_skip ?_
    refine eb_seq ?_
    refine rb_seq ?_
    refine rb_regionK fun K15 hK15 => ?_
    simp -implicitDefEqProofs only [vt, vm, ↓atI_fold, forall_const, implies_true, sevalprocAttr, dd_TA, k11]
    subst hK15
    refine eb_seq ?_
    refine rb_seq ?_
    refine rb_seq ?_
    refine rb_regionK fun K17 hK17 => ?_
    simp -implicitDefEqProofs only [vt, vm, ↓atI_fold, forall_const, implies_true, sevalprocAttr, dd_TA, k11]
    subst hK17
    refine eb_seq ?_
    refine rb_block ?_
    obtain ⟨e19, h176, h⟩ := bind_some h
    refine rb_loop (fun x18 => ⟨envL [(0, .str s_0), (2, .ptr 0 0), (4, .sl (r7.map D.str)), (5, .ptr 1 0), (20, .int .i64 x18.1)], heapL [(0, .box none [.str [], .int .i64 0, .int .i64 0, .int .i64 0, .int .i64 0, .int .u8 0, .bool false]), (1, .box none [.int .i64 x18.2.1, .int .i64 x18.2.2.1, .int .i64 x18.2.2.2.1, .int .i64 x18.2.2.2.2])], 2, 86⟩) (fun w => match w with | Sum.inl _ => .ret | Sum.inr (_) => .exit 0) (fun w => match w with | Sum.inl e19 => ⟨envL [(2, .ptr 0 0), (3, .int .i64 4)], heapL [(0, .box none [.str [], .int .i64 0, .int .i64 0, .int .i64 0, .int .i64 0, .int .u8 0, .bool false])], 1, 86⟩ | Sum.inr (e19) => ⟨envL [(0, .str s_0), (2, .ptr 0 0), (4, .sl (r7.map D.str)), (5, .ptr 1 0)], heapL [(0, .box none [.str [], .int .i64 0, .int .i64 0, .int .i64 0, .int .i64 0, .int .u8 0, .bool false]), (1, .box none [.int .i64 e19.1, .int .i64 e19.2.1, .int .i64 e19.2.2.1, .int .i64 e19.2.2.2])], 2, 86⟩) h176 (Wk.of (fun i => if i = 1 then some 8 else if i = 0 then some 0 else some i) _ _ _ (by simp -implicitDefEqProofs [kv, km, dd_TA, k11]) (by simp -implicitDefEqProofs [kv, km, dd_TA, k11])) (by intro w; rcases w with w | w <;> simp) ?_ ?_
    · clear h
      intro x18 y h
      unfold g_region_Parse_s1 at h
      refine rb_seq ?_
      refine rb_regionK fun K125 hK125 => ?_
      simp -implicitDefEqProofs only [vt, vm, ↓atI_fold, forall_const, implies_true, sevalprocAttr, dd_TA, k11]
      subst hK125
      refine eb_seq ?_
      refine rb_seq ?_
      rcases ite_or h with ⟨k127, h⟩ | ⟨k127, h⟩
      · refine rb_true (by first | exact congrArg D.bool k127 | rfl) ?_
        refine rb_skip ?_
        refine eb_seq ?_
        refine rb_seq ?_
        refine rb_block ?_
        refine rb_seq ?_
        refine rb_regionK fun K151 hK151 => ?_
        simp -implicitDefEqProofs only [vt, vm, ↓atI_fold, forall_const, implies_true, sevalprocAttr, dd_TA, k11, k127]
        subst hK151
        refine eb_seq ?_
        refine rb_seq ?_
        refine rb_regionK fun K157 hK157 => ?_
        simp -implicitDefEqProofs only [vt, vm, ↓atI_fold, forall_const, implies_true, sevalprocAttr, dd_TA, k11, k127]
        obtain ⟨y158, h159, h⟩ := bind_some h
        simp -implicitDefEqProofs only [vt, vm, ↓atI_fold, forall_const, implies_true, sevalprocAttr, dd_TA, k11, k127, h159]
        obtain ⟨r160, h161, h⟩ := bind_some h
        refine cW.intro (a_lines_Number I hI hPIv y158 0 32 h161) (by first | rfl | (simp [List.map_append, dd_TA]; done)) ?_
        simp -implicitDefEqProofs only [vt, vm, ↓atI_fold, forall_const, implies_true, sevalprocAttr, dd_TA, k11, k127, h159]
        subst hK157
        refine eb_seq ?_
        refine rb_seq ?_
        refine rb_seq ?_
        refine rb_regionK fun K163 hK163 => ?_
        simp -implicitDefEqProofs only [vt, vm, ↓atI_fold, forall_const, implies_true, sevalprocAttr, dd_TA, k11, k127, h159]
        subst hK163
        refine eb_seq ?_
        rcases ite_or h with ⟨k164, h⟩ | ⟨k164, h⟩
        · refine rb_true (by first | exact congrArg D.bool k164 | rfl) ?_
          refine rb_seq ?_
          refine rb_regionK fun K166 hK166 => ?_
          simp -implicitDefEqProofs only [vt, vm, ↓atI_fold, forall_const, implies_true, sevalprocAttr, dd_TA, k11, k127, h159, k164]
          subst hK166
          refine eb_seq ?_
          refine rb_ret ?_
          refine eb_seq_r ?_
          refine eb_blk_r ?_
          refine eb_seq_r ?_
          obtain rfl := Option.some.inj h
          exact eb_nil ⟨rfl, Wk.of (fun i => if i = 0 then some 0 else some i) _ _ _ (by simp -implicitDefEqProofs [kv, km, dd_TA, k11, k127, k164]) (by simp -implicitDefEqProofs [kv, km, dd_TA, k11, k127, k164])⟩
        · refine rb_false (by first | exact congrArg D.bool k164 | rfl) ?_
          refine rb_skip ?_
          refine eb_seq ?_
          refine rb_regionK fun K167 hK167 => ?_
          simp -implicitDefEqProofs only [vt, vm, ↓atI_fold, forall_const, implies_true, sevalprocAttr, dd_TA, k11, k127, h159, k164]
          rcases ite_or h with ⟨k168, h⟩ | ⟨_, h⟩
          · simp only [beq_iff_eq] at k168
            simp -implicitDefEqProofs only [vt, vm, ↓atI_fold, forall_const, implies_true, sevalprocAttr, dd_TA, k11, k127, h159, k164, k168]
            subst hK167
            refine eb_blk_n ?_
            refine eb_seq ?_
            refine rb_regionK fun K169 hK169 => ?_
            simp -implicitDefEqProofs only [vt, vm, ↓atI_fold, forall_const, implies_true, sevalprocAttr, dd_TA, k11, k127, h159, k164, k168]
            subst hK169
            obtain rfl := Option.some.inj h
            exact eb_nil ⟨rfl, Wk.of (fun i => if i = 1 then some 1 else if i = 0 then some 0 else some i) _ _ _ (by simp -implicitDefEqProofs [kv, km, dd_TA, k11, k127, k164, k168]) (by simp -implicitDefEqProofs [kv, km, dd_TA, k11, k127, k164, k168])⟩
          · rcases ite_or h with ⟨k170, h⟩ | ⟨_, h⟩
            · simp only [beq_iff_eq] at k170
              simp -implicitDefEqProofs only [vt, vm, ↓atI_fold, forall_const, implies_true, sevalprocAttr, dd_TA, k11, k127, h159, k164, k170]
              subst hK167
              refine eb_blk_n ?_
              refine eb_seq ?_
              refine rb_regionK fun K171 hK171 => ?_
              simp -implicitDefEqProofs only [vt, vm, ↓atI_fold, forall_const, implies_true, sevalprocAttr, dd_TA, k11, k127, h159, k164, k170]
              subst hK171
              obtain rfl := Option.some.inj h
              exact eb_nil ⟨rfl, Wk.of (fun i => if i = 1 then some 1 else if i = 0 then some 0 else some i) _ _ _ (by simp -implicitDefEqProofs [kv, km, dd_TA, k11, k127, k164, k170]) (by simp -implicitDefEqProofs [kv, km, dd_TA, k11, k127, k164, k170])⟩
            · rcases ite_or h with ⟨k172, h⟩ | ⟨_, h⟩
              · simp only [beq_iff_eq] at k172
                simp -implicitDefEqProofs only [vt, vm, ↓atI_fold, forall_const, implies_true, sevalprocAttr, dd_TA, k11, k127, h159, k164, k172]
                subst hK167
                refine eb_blk_n ?_
                refine eb_seq ?_
                refine rb_regionK fun K173 hK173 => ?_
                simp -implicitDefEqProofs only [vt, vm, ↓atI_fold, forall_const, implies_true, sevalprocAttr, dd_TA, k11, k127, h159, k164, k172]
                subst hK173
                obtain rfl := Option.some.inj h
                exact eb_nil ⟨rfl, Wk.of (fun i => if i = 1 then some 1 else if i = 0 then some 0 else some i) _ _ _ (by simp -implicitDefEqProofs [kv, km, dd_TA, k11, k127, k164, k172]) (by simp -implicitDefEqProofs [kv, km, dd_TA, k11, k127, k164, k172])⟩
              · rcases ite_or h with ⟨k174, h⟩ | ⟨_, h⟩
                · simp only [beq_iff_eq] at k174
                  simp -implicitDefEqProofs only [vt, vm, ↓atI_fold, forall_const, implies_true, sevalprocAttr, dd_TA, k11, k127, h159, k164, k174]
                  subst hK167
                  refine eb_blk_n ?_
                  refine eb_seq ?_
                  refine rb_regionK fun K175 hK175 => ?_
                  simp -implicitDefEqProofs only [vt, vm, ↓atI_fold, forall_const, implies_true, sevalprocAttr, dd_TA, k11, k127, h159, k164, k174]
                  subst hK175
                  obtain rfl := Option.some.inj h
                  exact eb_nil ⟨rfl, Wk.of (fun i => if i = 1 then some 1 else if i = 0 then some 0 else some i) _ _ _ (by simp -implicitDefEqProofs [kv, km, dd_TA, k11, k127, k164, k174]) (by simp -implicitDefEqProofs [kv, km, dd_TA, k11, k127, k164, k174])⟩
                · cases h
      · refine rb_false (by first | exact congrArg D.bool k127 | rfl) ?_
        refine rb_exit ?_
        refine eb_seq_e ?_
        obtain rfl := Option.some.inj h
        exact eb_nil ⟨rfl, Wk.of (fun i => if i = 1 then some 1 else if i = 0 then some 0 else some i) _ _ _ (by simp -implicitDefEqProofs [kv, km, dd_TA, k11, k127]) (by simp -implicitDefEqProofs [kv, km, dd_TA, k11, k127])⟩
    · rcases e19 with e19 | e19
      · try dsimp only at h ⊢
        refine eb_blk_r ?_
        refine eb_seq_r ?_
        obtain rfl := Option.some.inj h
        refine eb_nil ?_
        simp -implicitDefEqProofs only [vt, vm, ↓atI_fold, forall_const, implies_true, sevalprocAttr, retQ_r, Tryd.results28, dd_TA, k11] <;> first | rfl | (simp [List.map_append, dd_TA]; done)
      · try dsimp only at h ⊢
        refine eb_blk_hit ?_
        refine eb_seq ?_
        refine rb_seq ?_
        refine rb_drawK hI (by kernel_rfl) (by kernel_rfl) fun K182 hK182 => ?_
        simp -implicitDefEqProofs only [vt, vm, ↓atI_fold, forall_const, implies_true, sevalprocAttr, dd_TA, k11]
        obtain ⟨y183, h184, h⟩ := bind_some h
        simp -implicitDefEqProofs only [vt, vm, ↓atI_fold, forall_const, implies_true, sevalprocAttr, dd_TA, k11, h184]
        obtain ⟨y185, h186, h⟩ := bind_some h
        simp -implicitDefEqProofs only [vt, vm, ↓atI_fold, forall_const, implies_true, sevalprocAttr, dd_TA, k11, h184, h186]
        refine hD.intro (by kernel_rfl) ?_
        simp -implicitDefEqProofs only [vt, vm, ↓atI_fold, forall_const, implies_true, sevalprocAttr, dd_TA, k11, h184, h186]
        subst hK182
        refine eb_seq ?_
        refine rb_seq ?_
        refine rb_seq ?_
        refine rb_regionK fun K190 hK190 => ?_
        simp -implicitDefEqProofs only [vt, vm, ↓atI_fold, forall_const, implies_true, sevalprocAttr, dd_TA, k11, h184, h186]
        obtain ⟨r191, h192, h⟩ := bind_some h
        refine cW.intro (a_region_aligns I hI h192) (by first | rfl | (simp [List.map_append, dd_TA]; done)) ?_
        simp -implicitDefEqProofs only [vt, vm, ↓atI_fold, forall_const, implies_true, sevalprocAttr, dd_TA, k11, h184, h186]
        subst hK190
        refine eb_seq ?_
        refine rb_block ?_
        obtain ⟨e194, h297, h⟩ := bind_some h
        refine rb_loop (fun x193 => ⟨envL [(0, .str s_0), (2, .ptr 0 0), (4, .sl (r7.map D.str)), (9, .ptr 1 0), (55, .sl (r191.map D.str)), (56, .int .i64 (r191.length : Int)), (57, .int .i64 x193.1)], heapL [(0, .box none [.str [], .int .i64 0, .int .i64 0, .int .i64 0, .int .i64 0, .int .u8 0, .bool false]), (1, .box none [.str y183, .int .i64 e19.1, .int .i64 e19.2.1, .int .i64 e19.2.2.1, .int .i64 e19.2.2.2, .int .u8 x193.2, .bool (y185 == ([66, 79, 84, 84, 79, 77] : List UInt8))])], 2, 86⟩) (fun _ => .exit 2) (fun e194 => ⟨envL [(0, .str s_0), (2, .ptr 0 0), (9, .ptr 1 0)], heapL [(0, .box none [.str [], .int .i64 0, .int .i64 0, .int .i64 0, .int .i64 0, .int .u8 0, .bool false]), (1, .box none [.str y183, .int .i64 e19.1, .int .i64 e19.2.1, .int .i64 e19.2.2.1, .int .i64 e19.2.2.2, .int .u8 e194, .bool (y185 == ([66, 79, 84, 84, 79, 77] : List UInt8))])], 2, 86⟩) h297 (Wk.of (fun i => if i = 1 then some 18 else if i = 0 then some 0 else some i) _ _ _ (by simp -implicitDefEqProofs [kv, km, dd_TA, k11]) (by simp -implicitDefEqProofs [kv, km, dd_TA, k11])) (by intro w; simp) ?_ ?_
        · clear h
          intro x193 y h
          unfold g_region_Parse_s2 at h
          refine rb_seq ?_
          refine rb_regionK fun K264 hK264 => ?_
          simp -implicitDefEqProofs only [vt, vm, ↓atI_fold, forall_const, implies_true, sevalprocAttr, dd_TA, k11, h184, h186]
          subst hK264
          refine eb_seq ?_
          refine rb_seq ?_
          rcases ite_or h with ⟨k266, h⟩ | ⟨k266, h⟩
          · refine rb_true (by first | exact congrArg D.bool k266 | rfl) ?_
            refine rb_skip ?_
            refine eb_seq ?_
            refine rb_seq ?_
            refine rb_block ?_
            refine rb_seq ?_
            refine rb_regionK fun K284 hK284 => ?_
            simp -implicitDefEqProofs only [vt, vm, ↓atI_fold, forall_const, implies_true, sevalprocAttr, dd_TA, k11, h184, h186, k266]
            obtain ⟨y285, h286, h⟩ := bind_some h
            simp -implicitDefEqProofs only [vt, vm, ↓atI_fold, forall_const, implies_true, sevalprocAttr, dd_TA, k11, h184, h186, k266, h286]
            subst hK284
            refine eb_seq ?_
            refine rb_seq ?_
            refine rb_regionK fun K290 hK290 => ?_
            simp -implicitDefEqProofs only [vt, vm, ↓atI_fold, forall_const, implies_true, sevalprocAttr, dd_TA, k11, h184, h186, k266, h286]
            obtain ⟨y291, h292, h⟩ := bind_some h
            simp -implicitDefEqProofs only [vt, vm, ↓atI_fold, forall_const, implies_true, sevalprocAttr, dd_TA, k11, h184, h186, k266, h286, h292]
            subst hK290
            refine eb_seq ?_
            rcases ite_or h with ⟨k293, h⟩ | ⟨k293, h⟩
            · refine rb_true (by first | exact congrArg D.bool k293 | rfl) ?_
              refine rb_regionK fun K294 hK294 => ?_
              simp -implicitDefEqProofs only [vt, vm, ↓atI_fold, forall_const, implies_true, sevalprocAttr, dd_TA, k11, h184, h186, k266, h286, h292, k293]
              subst hK294
              refine eb_blk_n ?_
              refine eb_seq ?_
              refine rb_regionK fun K295 hK295 => ?_
              simp -implicitDefEqProofs only [vt, vm, ↓atI_fold, forall_const, implies_true, sevalprocAttr, dd_TA, k11, h184, h186, k266, h286, h292, k293]
              subst hK295
              obtain rfl := Option.some.inj h
              exact eb_nil ⟨rfl, Wk.of (fun i => if i = 1 then some 1 else if i = 0 then some 0 else some i) _ _ _ (by simp -implicitDefEqProofs [kv, km, dd_TA, k11, k266, k293]) (by simp -implicitDefEqProofs [kv, km, dd_TA, k11, k266, k293])⟩
            · refine rb_false (by first | exact congrArg D.bool k293 | rfl) ?_
              refine rb_skip ?_
              refine eb_blk_n ?_
              refine eb_seq ?_
              refine rb_regionK fun K296 hK296 => ?_
              simp -implicitDefEqProofs only [vt, vm, ↓atI_fold, forall_const, implies_true, sevalprocAttr, dd_TA, k11, h184, h186, k266, h286, h292, k293]
              subst hK296
              obtain rfl := Option.some.inj h
              exact eb_nil ⟨rfl, Wk.of (fun i => if i = 1 then some 1 else if i = 0 then some 0 else some i) _ _ _ (by simp -implicitDefEqProofs [kv, km, dd_TA, k11, k266, k293]) (by simp -implicitDefEqProofs [kv, km, dd_TA, k11, k266, k293])⟩
          · refine rb_false (by first | exact congrArg D.bool k266 | rfl) ?_
            refine rb_exit ?_
            refine eb_seq_e ?_
            obtain rfl := Option.some.inj h
            exact eb_nil ⟨rfl, Wk.of (fun i => if i = 1 then some 1 else if i = 0 then some 0 else some i) _ _ _ (by simp -implicitDefEqProofs [kv, km, dd_TA, k11, k266]) (by simp -implicitDefEqProofs [kv, km, dd_TA, k11, k266])⟩
        · refine eb_blk_hit ?_
          refine eb_seq ?_
          refine rb_seq ?_
          refine rb_seq ?_
          refine rb_regionK fun K301 hK301 => ?_
          simp -implicitDefEqProofs only [vt, vm, ↓atI_fold, forall_const, implies_true, sevalprocAttr, dd_TA, k11, h184, h186]
          obtain ⟨r302, h303, h⟩ := bind_some h
          refine cW.intro (a_region_Text I hI hTab (T_api_Region.mk y183 e19.1 e19.2.1 e19.2.2.1 e19.2.2.2 e194 (y185 == ([66, 79, 84, 84, 79, 77] : List UInt8))) h303) (by first | rfl | (simp [List.map_append, dd_TA]; done)) ?_
          simp -implicitDefEqProofs only [vt, vm, ↓atI_fold, forall_const, implies_true, sevalprocAttr, dd_TA, k11, h184, h186]
          subst hK301
          refine eb_seq ?_
          refine rb_seq ?_
          refine rb_regionK fun K306 hK306 => ?_
          simp -implicitDefEqProofs only [vt, vm, ↓atI_fold, forall_const, implies_true, sevalprocAttr, dd_TA, k11, h184, h186]
          rcases ite_or h with ⟨k307, h⟩ | ⟨k307, h⟩
          · simp -implicitDefEqProofs only [vt, vm, ↓atI_fold, forall_const, implies_true, sevalprocAttr, dd_TA, k11, h184, h186, k307]
            subst hK306
            refine eb_seq ?_
            refine rb_true (rfl) ?_
            refine rb_seq ?_
            refine rb_regionK fun K309 hK309 => ?_
            simp -implicitDefEqProofs only [vt, vm, ↓atI_fold, forall_const, implies_true, sevalprocAttr, dd_TA, k11, h184, h186, k307]
            subst hK309
            refine eb_seq ?_
            refine rb_ret ?_
            refine eb_seq_r ?_
            obtain rfl := Option.some.inj h
            refine eb_nil ?_
            simp -implicitDefEqProofs only [vt, vm, ↓atI_fold, forall_const, implies_true, sevalprocAttr, retQ_r, Tryd.results28, dd_TA, k11, h184, h186, k307] <;> first | rfl | (simp [List.map_append, dd_TA]; done)
          · simp -implicitDefEqProofs only [vt, vm, ↓atI_fold, forall_const, implies_true, sevalprocAttr, dd_TA, k11, h184, h186, k307]
            subst hK306
            refine eb_seq ?_
            rcases ite_or h with ⟨k310, h⟩ | ⟨k310, h⟩
            · refine rb_false (by first | exact congrArg D.bool (congrArg Bool.not k310) | rfl) ?_
              refine rb_skip ?_
              refine eb_seq ?_
              refine rb_seq ?_
              refine rb_regionK fun K312 hK312 => ?_
              simp -implicitDefEqProofs only [vt, vm, ↓atI_fold, forall_const, implies_true, sevalprocAttr, dd_TA, k11, h184, h186, k307, k310]
              subst hK312
              refine eb_seq ?_
              refine rb_ret ?_
              obtain rfl := Option.some.inj h
              refine eb_nil ?_
              simp -implicitDefEqProofs only [vt, vm, ↓atI_fold, forall_const, implies_true, sevalprocAttr, retQ_r, Tryd.results28, dd_TA, k11, h184, h186, k307, k310] <;> first | rfl | (simp [List.map_append, dd_TA]; done)
            · refine rb_true (by first | exact congrArg D.bool (congrArg Bool.not k310) | rfl) ?_
              refine rb_seq ?_
              refine rb_regionK fun K314 hK314 => ?_
              simp -implicitDefEqProofs only [vt, vm, ↓atI_fold, forall_const, implies_true, sevalprocAttr, dd_TA, k11, h184, h186, k307, k310]
              subst hK314
              refine eb_seq ?_
              refine rb_ret ?_
              refine eb_seq_r ?_
              obtain rfl := Option.some.inj h
              refine eb_nil ?_
              simp -implicitDefEqProofs only [vt, vm, ↓atI_fold, forall_const, implies_true, sevalprocAttr, retQ_r, Tryd.results28, dd_TA, k11, h184, h186, k307, k310] <;> first | rfl | (simp [List.map_append, dd_TA]; done)
end Go.Proofs.YtipdmcpmedmicaaDoor
