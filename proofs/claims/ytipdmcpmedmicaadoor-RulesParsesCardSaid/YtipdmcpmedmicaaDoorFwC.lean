/- The abstract operations are sound, first part: those that make nothing. -/
import Derived.Test.YtipdmcpmedmicaaDoorFwB
import Derived.Laws.AppendOwnNone
set_option linter.unusedSimpArgs false
set_option linter.unusedVariables false
namespace Go.Proofs.YtipdmcpmedmicaaDoor
open Go.RowKit

/-- The blocks outside M are as they were. -/
structure BelM (M : Nat → Prop) (w w' : World) : Prop where
  os : w'.os = w.os
  tape : w'.tape = w.tape
  output : w'.output = w.output
  size : w.heap.size ≤ w'.heap.size
  block : ∀ k, k < w.heap.size → ¬ M k → w'.heap[k]? = w.heap[k]?
theorem BelM.refl (M : Nat → Prop) (w : World) : BelM M w w := ⟨rfl, rfl, rfl, Nat.le_refl _, fun _ _ _ => rfl⟩
theorem BelM.trans {M : Nat → Prop} {a b c : World} (h : BelM M a b) (k : BelM M b c) : BelM M a c :=
  ⟨k.os.trans h.os, k.tape.trans h.tape, k.output.trans h.output, Nat.le_trans h.size k.size, fun i hi hm => (k.block i (Nat.lt_of_lt_of_le hi h.size) hm).trans (h.block i hi hm)⟩
theorem BelM.alloc {M : Nat → Prop} {a w : World} (h : BelM M a w) (o : Obj) : BelM M a (w.alloc o) :=
  h.trans ⟨rfl, rfl, rfl, by simp, fun k hk _ => Below.heap_alloc w o k hk⟩
theorem BelM.of {M : Nat → Prop} {w w' : World} (h : Below w.heap.size w w') : BelM M w w' := ⟨h.os, h.tape, h.output, h.size, fun k hk _ => h.block k hk⟩
theorem BelM.to {w w' : World} (h : BelM (fun k => w.heap.size ≤ k) w w') : Below w.heap.size w w' := ⟨h.os, h.tape, h.output, h.size, fun k hk => h.block k hk (by omega)⟩
/-- M: the blocks that may be written; p: where pinned boxes stand. -/
structure Bx where
  M : Nat → Prop
  p : Nat → Value
/-- The own blocks are as said, and lie apart. -/
structure HOK (C : Cx) (w : World) (B : Bx) (H : Nat → Option Blk) : Prop where
  rep : ∀ id b, H id = some b → C.live id ∧ BRep C w 0 id b
  own : ∀ id b, H id = some b → ∀ g, blockOf (C.σ id) = some g → B.M g
  pin : ∀ id k cs, H id = some (.box (some k) cs) → C.σ id = B.p k
  apart : ∀ id id' b b', H id = some b → H id' = some b' → id ≠ id' → ∀ g, blockOf (C.σ id) = some g → blockOf (C.σ id') ≠ some g
/-- What is immutable lies in blocks that are there. -/
def FB (C : Cx) (w : World) : Prop := ∀ b o, C.F b o → b < w.heap.size

/-- An operation runs, and leaves what the abstract one says. -/
def OpOK (P : Program) (o : Oper) (a : Act) (w : World) (C : Cx) (B : Bx) (H : Nat → Option Blk) (nid : Nat) (d : D) (eff : Eff) : Prop :=
  ∃ nx v w' C', (execOp a.eval o).run P w = .ok nx w' ∧ (nx = .value v ∨ (nx = .skip ∧ v = Go.undef)) ∧ BelM B.M w w' ∧ Ext C w C' w' ∧ Rep w' C' v d ∧ HOK C' w' B (appEff H eff) ∧ FB C' w' ∧ (∀ id, C'.live id → C.live id ∨ id = nid) ∧ ∀ b o, C'.F b o → C.F b o ∨ B.M b

section
variable {P : Program} {o : Oper} {a : Act} {w : World} {C : Cx} {B : Bx} {H : Nat → Option Blk} {nid : Nat} {d : D} {S : AS}
theorem OpOK.same {v : Value} (hH : HOK C w B H) (hF : FB C w) (hr : (execOp a.eval o).run P w = .ok (.value v) w) (h : Rep w C v d) : OpOK P o a w C B H nid d [] :=
  ⟨_, v, w, C, hr, .inl rfl, BelM.refl _ _, Ext.refl _ _, h, hH, hF, fun _ h => .inl h, fun _ _ h => .inl h⟩

theorem wrap_inR (k : IntKind) (n : Int) : inR k (k.wrap n) := by
  unfold inR
  cases k <;> simp only [kLo, kHi, IntKind.wrap, IntKind.bits, IntKind.signed]
  all_goals
    simp only [Bool.true_and, Bool.false_and, decide_eq_true_eq, Bool.false_eq_true, if_false]
    (try split) <;> (simp at *; omega)
theorem tmod_le_self (x y : Int) (h : 0 ≤ x) : x.tmod y ≤ x := by
  rw [Int.tmod_eq_emod_of_nonneg h]
  rcases Int.lt_trichotomy y 0 with hy | rfl | hy
  · have h1 := Int.emod_lt_of_neg x hy
    have h2 := Int.emod_nonneg x (show y ≠ 0 by omega)
    by_cases hh : x < -y
    · rw [← Int.emod_neg, Int.emod_eq_of_lt h hh]; omega
    · omega
  · simp
  · have h1 := Int.emod_lt_of_pos x hy
    by_cases hh : x < y
    · rw [Int.emod_eq_of_lt h hh]; omega
    · omega
theorem tmod_inR {k : IntKind} {x : Int} (y : Int) (h : inR k x) : inR k (x.tmod y) := by
  have h0 : kLo k ≤ 0 ∧ 0 ≤ kHi k := by cases k <;> decide
  unfold inR at *
  rcases Int.le_total 0 x with hx | hx
  · have h1 := Int.tmod_nonneg y hx
    have h2 := tmod_le_self x y hx
    omega
  · have h1 := Int.tmod_nonneg y (show 0 ≤ -x by omega)
    have h2 := tmod_le_self (-x) y (by omega)
    rw [Int.neg_tmod] at h1 h2
    omega
theorem len_inR {n : Nat} (h : n ≤ maxLen) : inR .i64 n := by
  unfold inR; simp only [kLo, kHi]; unfold maxLen at h; omega
theorem str_of (s : ByteArray) : (⟨s.data.toList.toArray⟩ : ByteArray) = s := by cases s; simp
theorem rep_cD1 (v : Value) : Rep w C v (cD1 v) := by
  unfold cD1
  split <;> try exact .any _
  · split
    · exact .int _ _ (by assumption)
    · exact .any _
  · exact .bool _
  · split
    · rename_i s h; have := Rep.str (C := C) (w := w) s.data.toList h; rwa [str_of] at this
    · exact .any _
  · exact .nilp
  · exact .nils
  · exact .err0
theorem rep_cD (v : Value) : Rep w C v (cD v) := by
  unfold cD
  split
  · rename_i cs
    split
    · rename_i h
      have := Rep.agg (C := C) (w := w) cs.toList (cs.toList.map cD1) (by simp) (fun v hv => by simpa using List.all_eq_true.1 h v hv) (fun i v d hv hd => by
        simp only [List.getElem?_map, hv, Option.map_some, Option.some.injEq] at hd
        subst hd; exact rep_cD1 v)
      simpa using this
    · exact .any _
  · exact rep_cD1 v

/-- The slots stand for the abstract slots. -/
def EnvOK (C : Cx) (w : World) (a : Act) (env : Nat → D) : Prop := ∀ t, Rep w C (a.tmps.getD t Go.undef) (env t)
theorem EnvOK.val (h : EnvOK C w a S.env) (x : Operand) : Rep w C (a.eval x) (S.val x) := by
  cases x with
  | tmp t => exact h t
  | const v => exact rep_cD v
  | global g => exact .any _
  | func f => exact .fn f [] [] rfl (by simp)

/-- What the cells of a value stand for. -/
theorem Rep.cellsS {v : Value} (h : Rep w C v d) (ho : d.okS = true) : RepL C w v.cells.toList d.cells := by
  cases h with
  | agg vs ds hl h1 h => exact ⟨by simpa [Value.cells, D.cells] using hl, by simpa [Value.cells] using h1, by simpa [Value.cells, D.cells] using h⟩
  | any | undef | tup => simp [D.okS, D.ok1] at ho
  | int k n h => exact RepL.one1 rfl (.int k n h)
  | bool b => exact RepL.one1 rfl (.bool b)
  | str l h => exact RepL.one1 rfl (.str l h)
  | ptr id off g hl h => exact RepL.one1 rfl (.ptr id off g hl h)
  | vptr id k i off g n c hl h => exact RepL.one1 rfl (.vptr id k i off g n c hl h)
  | own id n c A hl hm h => exact RepL.one1 rfl (.own id n c A hl hm h)
  | nilp => exact RepL.one1 rfl .nilp
  | err0 => exact RepL.one1 rfl .err0
  | err1 u v => exact RepL.one1 rfl (.err1 u v)
  | nils => exact RepL.one1 rfl .nils
  | sl0 A c h => exact RepL.one1 rfl (.sl0 A c h)
  | sl b off k c xs vals hc hm hk hl h1 hF hcell h => exact RepL.one1 rfl (.sl b off k c xs vals hc hm hk hl h1 hF hcell h)
  | iptr b off ds vals hl h1 hF hcell h => exact RepL.one1 rfl (.iptr b off ds vals hl h1 hF hcell h)
  | fn f vs ds hl h => exact RepL.one1 rfl (.fn f vs ds hl h)
  | sp0 id hl => exact RepL.one1 rfl (.sp0 id hl)
  | sp1 id g hl h => exact RepL.one1 rfl (.sp1 id g hl h)
  | omp id g hl h => exact RepL.one1 rfl (.omp id g hl h)
  | mp g clock k ks es vs hF hh hk hl h => exact RepL.one1 rfl (.mp g clock k ks es vs hF hh hk hl h)

theorem aggT_run {t : TypeId} {b : Bool} (h : aggT P t = some b) : (isAgg t).run P w = .ok b w := by
  unfold aggT at h
  cases hu : P.underlying t with
  | none => rw [hu] at h; simp at h
  | some u =>
    rw [hu] at h
    simp only [Option.map_some, Option.some.injEq] at h
    have hr : (underlying t).run P w = .ok u w := by simp [underlying, hu]
    simp only [isAgg, Sem.run_bind, hr, Result.andThen_ok]
    rw [← h]
    cases u <;> rfl
theorem szT_run {t : TypeId} {n : Nat} (h : szT P t = some n) : (sizeOf t).run P w = .ok n w := by
  unfold szT at h
  cases hu : P.info? t with
  | none => rw [hu] at h; simp at h
  | some u =>
    rw [hu] at h
    simp only [Option.map_some, Option.some.injEq] at h
    simp [sizeOf, typeInfo, hu, h]

theorem addr_add (b off n : Nat) : (⟨b, off, none⟩ : Addr).add n = ⟨b, off + n, none⟩ := by
  unfold Addr.add; split
  · rename_i h; subst h; rfl
  · rfl

/-- A load where cells are known. -/
theorem loadD_run {t : TypeId} {ds : List D} {vals : List Value} {b off : Nat} (hL : RepL C w vals ds) (hcell : ∀ (i : Nat) v, vals[i]? = some v → w.cell? ⟨b, off + i, none⟩ = some v) (h : loadD P t ds = some d) :
    ∃ v, (Instr.loadAt t (.pointer (some ⟨b, off, none⟩))).run P w = .ok v w ∧ Rep w C v d := by
  unfold loadD at h
  cases ha : aggT P t with
  | none => rw [ha] at h; simp at h
  | some x =>
    rw [ha] at h
    cases x with
    | true =>
      simp only at h
      cases hn : szT P t with
      | none => rw [hn] at h; simp at h
      | some n =>
        rw [hn] at h
        simp only at h
        split at h
        · rename_i hle
          simp only [Option.some.injEq] at h
          subst h
          have hlen : (vals.take n).length = n := by rw [List.length_take, hL.len]; omega
          refine ⟨.agg (vals.take n).toArray, ?_, (hL.take n).agg⟩
          have hlc := run_loadCells_list (P := P) (w := w) ⟨b, off, none⟩ (vals.take n) (fun j v hv => by
            rw [addr_add]
            rw [List.getElem?_take] at hv
            split at hv
            · exact hcell j v hv
            · cases hv)
          rw [hlen] at hlc
          simp [Instr.loadAt, Instr.sureAddr, loadVar, aggT_run ha, szT_run hn, hlc]
        · simp at h
    | false =>
      simp only at h
      cases ds with
      | nil => simp at h
      | cons e ds =>
        simp at h
        subst h
        cases hv : vals with
        | nil => have := hL.len; rw [hv] at this; simp at this
        | cons v vs =>
          refine ⟨v, ?_, hL.rep 0 v e (by rw [hv]; rfl) rfl⟩
          have hc := hcell 0 v (by rw [hv]; rfl)
          simp only [Nat.add_zero] at hc
          simp [Instr.loadAt, Instr.sureAddr, loadVar, aggT_run ha, hc]
/-- A part of a struct's or an array's value. -/
theorem part_run {t : TypeId} {ds : List D} {vs : List Value} {off : Nat} (hL : RepL C w vs ds) (h : loadD P t (ds.drop off) = some d) :
    ∃ v, (part t vs.toArray off).run P w = .ok v w ∧ Rep w C v d := by
  unfold loadD at h
  cases ha : aggT P t with
  | none => rw [ha] at h; simp at h
  | some x =>
    rw [ha] at h
    cases x with
    | true =>
      simp only at h
      cases hn : szT P t with
      | none => rw [hn] at h; simp at h
      | some n =>
        rw [hn] at h
        simp only at h
        split at h
        · rename_i hle
          simp only [Option.some.injEq] at h
          subst h
          refine ⟨.agg ((vs.drop off).take n).toArray, ?_, ((hL.drop off).take n).agg⟩
          simp only [part, Sem.run_bind, aggT_run ha, Result.andThen_ok, if_true, szT_run hn, Sem.run_pure, Result.ok.injEq, Value.agg.injEq, and_true]
          apply Array.ext'
          simp
        · simp at h
    | false =>
      simp only at h
      cases hd : ds.drop off with
      | nil => rw [hd] at h; simp at h
      | cons e r =>
        rw [hd] at h
        simp at h
        subst h
        have h0 : ds[off]? = some e := by rw [← List.head?_drop, hd]; rfl
        have hv : off < vs.length := by have := (List.getElem?_eq_some_iff.1 h0).1; have := hL.len; omega
        refine ⟨vs[off], ?_, hL.rep off _ e (List.getElem?_eq_getElem hv) h0⟩
        simp [part, aggT_run ha, hv]
end
end Go.Proofs.YtipdmcpmedmicaaDoor
