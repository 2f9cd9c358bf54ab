/- The abstract operations are sound, seventh part: slices of the call's own. -/
import Derived.Test.YtncmdhkmbmkiiaaDoorFwH
set_option linter.unusedSimpArgs false
set_option linter.unusedVariables false
namespace Go.Proofs.YtncmdhkmbmkiiaaDoor
open Go.RowKit

section
variable {P : Program} {o : Oper} {a : Act} {w w' : World} {C C' : Cx} {B : Nat} {nid : Nat} {d : D} {S : AS} {eff : Eff}

theorem putD_mid (A xs ys : List D) (x : D) (h : xs.length = x.cells.length) : putD (A ++ (xs ++ ys)) A.length x = A ++ (x.cells ++ ys) := by
  unfold putD
  rw [List.take_left, ← h, ← List.drop_drop, List.drop_left, List.drop_left, List.append_assoc]
/-- All elements of a slice literal, one behind the other. -/
theorem fillD_all (k : Nat) : ∀ (xs : List D) (done : List D) (j : Nat), (∀ x ∈ xs, x.okS = true ∧ x.cells.length = k) → done.length = j * k →
    fillD (fun i => some (i * k, k)) (done ++ List.replicate (xs.length * k) .any) ((List.range' j xs.length).zip xs) = some (done ++ xs.flatMap D.cells) := by
  intro xs
  induction xs with
  | nil => intro done j _ _; simp [fillD]
  | cons x xs ih =>
    intro done j h hd
    obtain ⟨h1, h2⟩ := h x (by simp)
    simp only [List.length_cons, List.range'_succ, List.zip_cons_cons, fillD]
    rw [if_pos (by simp [h1, h2, hd, Nat.succ_mul])]
    have e1 : done ++ List.replicate ((xs.length + 1) * k) D.any = done ++ (List.replicate k .any ++ List.replicate (xs.length * k) .any) := by
      rw [List.replicate_append_replicate]; congr 2; rw [Nat.succ_mul]; omega
    rw [e1, ← hd, putD_mid done _ _ x (by simp [h2]), ← List.append_assoc, ih (done ++ x.cells) (j + 1) (fun y hy => h y (by simp [hy])) (by rw [List.length_append, hd, h2, Nat.succ_mul])]
    simp

theorem s_buildSlice (hS : StOK C w a B S) (hn : ¬ C.live nid) (t e : TypeId) (len k : Nat) (parts : Array (Nat × Operand)) (z : D) (xs : List D) (ep : Eff) (ht : sliceT P t = some e) (hk : szT P e = some k) (hpur : purDs S.heap (parts.toList.map fun p => S.val p.2) = some (xs, ep)) (hp : parts.toList.map (·.1) = List.range len)
    (hx : ∀ x ∈ xs, x.cells.length = k) (hm : len * k ≤ 2 ^ 24) (hk0 : 0 < k) (hz : zeroD P e = some z) (hzo : z.okS = true) (hzl : z.cells.length = k) (ho : o.op = .buildSlice t len parts) :
    OpOK P o a w C B S.heap nid (.own nid len) (ep ++ [(nid, some (.vec e k xs false))]) := by
  have hlen : parts.toList.length = len := by have := congrArg List.length hp; simpa using this
  obtain ⟨C1, hP, hvl, hvr⟩ := purDs_sound (w := w) (B := B) _ (parts.toList.map fun p => a.eval p.2) C S.heap xs ep hS.heap hS.fb (by simp) (fun i v d hv hd => by
    simp only [List.getElem?_map] at hv hd
    cases hi : parts.toList[i]? with
    | none => rw [hi] at hv; simp at hv
    | some r => rw [hi] at hv hd; simp at hv hd; subst hv hd; exact hS.env.val _) hpur
  refine OpOK.after hP ?_
  have hn1 : ¬ C1.live nid := by rw [hP.live]; exact hn
  obtain ⟨zv, hzr, hzR⟩ := zeroD_run (C := cF C1.F) (w := w) hz
  have hzc := hzR.cellsS hzo
  have hzs : zv.cells.size = k := by have := hzc.len; simp at this; omega
  have hxl : xs.length = len := by rw [← hvl]; simp [← hlen]
  have hinit : RepL (cF C1.F) w ((Array.range (len * k)).map (zv.cells[· % zv.cells.size]!)).toList (List.replicate (xs.length * k) .any) := by
    refine ⟨by simp [hxl], fun v hv => ?_, fun i v d hv hd => ?_⟩
    · simp at hv
      obtain ⟨i, hi, rfl⟩ := hv
      have hlt : i % zv.cells.size < zv.cells.size := Nat.mod_lt _ (by omega)
      rw [getElem!_pos zv.cells (i % zv.cells.size) hlt]
      exact hzc.one _ (by simp)
    · rw [List.getElem?_replicate] at hd
      split at hd
      · injection hd with hd; subst hd; exact .any _
      · cases hd
  have hrel : ∀ (i : Nat) p q, (parts.map fun p => (p.1, a.eval p.2)).toList[i]? = some p → ((List.range' 0 xs.length).zip xs)[i]? = some q → p.1 = q.1 ∧ Rep w (cF C1.F) p.2 q.2 := by
    intro i p q hp' hq
    rw [List.getElem?_zip_eq_some] at hq
    simp only [Array.toList_map, List.getElem?_map] at hp'
    cases hi : parts.toList[i]? with
    | none => rw [hi] at hp'; simp at hp'
    | some r =>
      rw [hi] at hp'
      simp at hp'
      subst hp'
      have h1 : (parts.toList.map (·.1))[i]? = some r.1 := by simp [hi]
      rw [hp] at h1
      obtain ⟨hq1, hq2⟩ := hq
      have hlt : i < len := by have := (List.getElem?_eq_some_iff.1 h1).1; simpa using this
      rw [List.getElem?_range hlt] at h1
      rw [List.getElem?_range' (by omega)] at hq1
      injection h1 with h1
      injection hq1 with hq1
      exact ⟨by simp; omega, (hvr i _ _ (by simp [hi]) hq2).1⟩
  have hxs : ∀ x ∈ xs, x.okS = true ∧ x.cells.length = k := by
    intro x hx'
    obtain ⟨i, hi⟩ := List.getElem?_of_mem hx'
    have hil : i < (parts.toList.map fun p => a.eval p.2).length := by rw [hvl]; exact (List.getElem?_eq_some_iff.1 hi).1
    exact ⟨(hvr i _ x (List.getElem?_eq_getElem hil) hi).2, hx x hx'⟩
  obtain ⟨cells', h1, h2⟩ := fill_rep (C := cF C1.F) (w := w) (fun i => some (i * k, k)) (parts.map fun p => (p.1, a.eval p.2)).toList ((List.range' 0 xs.length).zip xs) _ _ _ hinit (by simp [hxl, hlen]) hrel
    (by have := fillD_all k xs [] 0 hxs (by simp); simpa using this)
  have hcl : cells'.toList.length = len * k := by rw [h2.len, flat_len2 k xs hx, hxl]
  have hrun : (execOp a.eval o).run P w = .ok (.value (.slice (some ⟨w.heap.size, 0, none⟩) len len)) (w.alloc (.cells cells' e)) := by
    have hnot : ¬ (len * k > 2 ^ 24) := by omega
    simp only [execOp, ho, Instr.buildSlice, Sem.run_bind, underlying_run (sliceT_under ht), Result.andThen_ok, szT_run hk, hnot, if_false, Sem.run_pure]
    by_cases h0 : len * k = 0
    · simp only [h0, if_true, Sem.run_bind, Sem.run_pure, Result.andThen_ok] at h1 ⊢
      have e0 : (Array.range 0).map (fun x => (#[] : Array Value)[x % (#[] : Array Value).size]!) = (Array.range 0).map (zv.cells[· % zv.cells.size]!) := by simp
      rw [e0, h1]
      rfl
    · simp only [h0, if_false, Sem.run_bind, hzr, Result.andThen_ok, Sem.run_pure, h1]
      rfl
  have hml : len ≤ maxLen := by
    have : len ≤ len * k := Nat.le_mul_of_pos_right _ hk0
    unfold maxLen; omega
  have hown := ownsRow_new (w := w) hS.base e k len cells'.toList hcl hml
  rw [Array.toArray_toList] at hown
  have := ok_vec (w' := w.alloc (.cells cells' e)) (xs := xs) (P := P) (o := o) (a := a) hP.ok hP.fb hn1 hx h2 (by rw [hxl]; exact hown) (fun g hg => Below.heap_alloc w _ g hg) ((Below.refl _ _).alloc hS.base _) (fun g hg => by simp [Value.ownBlock] at hg; omega) hrun
  rw [hxl] at this
  exact this
end
end Go.Proofs.YtncmdhkmbmkiiaaDoor
