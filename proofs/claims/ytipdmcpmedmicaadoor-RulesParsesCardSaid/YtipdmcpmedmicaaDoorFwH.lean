/- The abstract operations are sound, sixth part: literals and appends. -/
import Derived.Test.YtipdmcpmedmicaaDoorFwG
set_option linter.unusedSimpArgs false
set_option linter.unusedVariables false
namespace Go.Proofs.YtipdmcpmedmicaaDoor
open Go.RowKit

section
variable {P : Program} {o : Oper} {a : Act} {w w' : World} {C C' : Cx} {B : Bx} {nid : Nat} {d : D} {S : AS} {eff : Eff}

theorem fold_set (off : Nat) : ∀ (vs : List Value) (j : Nat) (arr : Array Value), off + j + vs.length ≤ arr.size →
    (vs.zipIdx j).foldl (fun (cs : Array Value) (p : Value × Nat) => cs.setIfInBounds (off + p.2) p.1) arr = (arr.toList.take (off + j) ++ vs ++ arr.toList.drop (off + j + vs.length)).toArray := by
  intro vs
  induction vs with
  | nil => intro j arr h; simp
  | cons v vs ih =>
    intro j arr h
    simp only [List.length_cons] at h
    rw [List.zipIdx_cons, List.foldl_cons, ih (j + 1) _ (by simp; omega)]
    apply congrArg
    have hlt : off + j < arr.toList.length := by simp; omega
    simp only [Array.toList_setIfInBounds, List.length_cons]
    rw [← Nat.add_assoc off j 1, List.take_set, List.drop_set_of_lt (by omega), show off + j + 1 + vs.length = off + j + (vs.length + 1) by omega]
    rw [List.take_succ_eq_append_getElem hlt, List.set_append_right _ _ (by simp; omega)]
    simp [List.length_take, Nat.min_eq_left (Nat.le_of_lt hlt)]
    rw [show off + j - min (off + j) arr.size = 0 by omega]
    simp
/-- Parts of a literal. -/
theorem fill_rep (place : Nat → Option (Nat × Nat)) : ∀ (parts : List (Nat × Value)) (dp : List (Nat × D)) (cells : Array Value) (ds ds' : List D), RepL C w cells.toList ds →
    parts.length = dp.length → (∀ (i : Nat) p q, parts[i]? = some p → dp[i]? = some q → p.1 = q.1 ∧ Rep w C p.2 q.2) → fillD place ds dp = some ds' →
    ∃ cells', Instr.fill place cells parts = some cells' ∧ RepL C w cells'.toList ds' := by
  intro parts
  induction parts with
  | nil =>
    intro dp cells ds ds' hL hlen _ h
    cases dp with
    | nil => simp [fillD] at h; subst h; exact ⟨cells, rfl, hL⟩
    | cons _ _ => simp at hlen
  | cons p parts ih =>
    intro dp cells ds ds' hL hlen hR h
    cases dp with
    | nil => simp at hlen
    | cons q dp =>
      obtain ⟨i, v⟩ := p
      obtain ⟨i', x⟩ := q
      obtain ⟨h1, h2⟩ := hR 0 _ _ rfl rfl
      simp only at h1 h2
      subst h1
      simp only [fillD] at h
      cases hp : place i with
      | none => rw [hp] at h; simp at h
      | some on =>
        obtain ⟨off, n⟩ := on
        rw [hp] at h
        simp only [Bool.and_eq_true, beq_iff_eq, decide_eq_true_eq] at h
        split at h
        · rename_i hc
          obtain ⟨⟨hok, hn⟩, hle⟩ := hc
          have hx := h2.cellsS hok
          have hsz : v.cells.size = n := by have := hx.len; simp at this; omega
          have hcs : cells.size = ds.length := by simpa using hL.len
          have hfold := fold_set off v.cells.toList 0 cells (by simp; omega)
          obtain ⟨cells', hf, hL'⟩ := ih dp (v.cells.toList.zipIdx.foldl (fun (cs : Array Value) (p : Value × Nat) => cs.setIfInBounds (off + p.2) p.1) cells) (putD ds off x) ds'
            (by rw [hfold]; simp only [Nat.add_zero]; exact putD_rep hL hx) (by simpa using hlen) (fun j p q hp hq => hR (j + 1) p q (by simpa using hp) (by simpa using hq)) h
          refine ⟨cells', ?_, hL'⟩
          simp only [Instr.fill, hp]
          rw [if_neg (by simp; omega)]
          rw [← hf]
          congr 1
          rw [← Array.foldl_toList, Array.toList_zipIdx]
        · simp at h

theorem mapM_sizes : ∀ (fs : List Field), (∀ f ∈ fs, (szT P f.type).isSome = true) → (fs.mapM (m := Sem) fun f => do pure (f.offset, ← sizeOf f.type)).run P w = .ok (fs.map fun f => (f.offset, (szT P f.type).getD 0)) w := by
  intro fs
  induction fs with
  | nil => intro _; rfl
  | cons f fs ih =>
    intro h
    obtain ⟨n, hn⟩ := Option.isSome_iff_exists.1 (h f (by simp))
    simp only [List.mapM_cons, Sem.run_bind, szT_run hn, Result.andThen_ok, Sem.run_pure, ih (fun g hg => h g (by simp [hg])), List.map_cons, hn, Option.getD_some]

theorem s_build (hS : StOK C w a B S) (t : TypeId) (parts : Array (Nat × Operand)) (ds ds' : List D) (hz : zeroD P t = some (.agg ds)) (hb : buildT P t = true) (hf : fillD (placeT P t) ds (parts.toList.map fun p => (p.1, S.val p.2)) = some ds') (ho : o.op = .build t parts) : OpOK P o a w C B S.heap nid (.agg ds') [] := by
  obtain ⟨z, hzr, hzR⟩ := zeroD_run (C := C) (w := w) hz
  have hcells := hzR.cellsS rfl
  have hrel : ∀ (i : Nat) p q, (parts.map fun p => (p.1, a.eval p.2)).toList[i]? = some p → (parts.toList.map fun p => (p.1, S.val p.2))[i]? = some q → p.1 = q.1 ∧ Rep w C p.2 q.2 := by
    intro i p q hp hq
    simp only [Array.toList_map, List.getElem?_map] at hp hq
    cases hi : parts.toList[i]? with
    | none => rw [hi] at hp; simp at hp
    | some r =>
      rw [hi] at hp hq
      simp at hp hq
      subst hp hq
      exact ⟨rfl, hS.env.val _⟩
  unfold buildT at hb
  cases hu : P.underlying t with
  | none => rw [hu] at hb; simp at hb
  | some u =>
    rw [hu] at hb
    cases u <;> simp only [Bool.false_eq_true] at hb
    case struct fs =>
      have hfl : ∀ i off n, placeT P t i = some (off, n) → ((fs.toList.map fun f => (f.offset, (szT P f.type).getD 0)).toArray)[i]? = some (off, n) := by
        intro i off n h
        unfold placeT fldT arrT at h
        rw [hu] at h
        simp only at h
        cases hi : fs[i]? with
        | none => rw [hi] at h; simp at h
        | some f =>
          rw [hi] at h
          simp at h
          obtain ⟨h1, rfl⟩ := h
          simp [hi, h1]
      have hfill : ∀ (dp : List (Nat × D)) (ds ds' : List D), fillD (placeT P t) ds dp = some ds' → fillD (((fs.toList.map fun f => (f.offset, (szT P f.type).getD 0)).toArray)[·]?) ds dp = some ds' := by
        intro dp
        induction dp with
        | nil => intro ds ds' h; exact h
        | cons q dp ih =>
          intro ds ds' h
          obtain ⟨i, x⟩ := q
          simp only [fillD] at h ⊢
          cases hp : placeT P t i with
          | none => rw [hp] at h; simp at h
          | some on =>
            obtain ⟨off, n⟩ := on
            rw [hp] at h
            rw [hfl i off n hp]
            simp only at h ⊢
            split at h
            · rename_i hc; rw [if_pos hc]; exact ih _ _ h
            · simp at h
      obtain ⟨cells', h1, h2⟩ := fill_rep (C := C) (w := w) _ (parts.map fun p => (p.1, a.eval p.2)).toList _ z.cells ds ds' hcells (by simp) hrel (hfill _ _ _ hf)
      refine .same (v := .agg cells') hS.heap hS.fb ?_ (by simpa using h2.agg)
      have hm := mapM_sizes (P := P) (w := w) fs.toList (fun f hf => List.all_eq_true.1 hb f hf)
      simp only [execOp, ho, Instr.build, Sem.run_bind, hzr, Result.andThen_ok, underlying_run hu, Array.mapM_eq_mapM_toList, Sem.run_map, hm, h1, Sem.run_pure]
    case array n e =>
      obtain ⟨k, he⟩ := Option.isSome_iff_exists.1 hb
      have hfl : ∀ i, placeT P t i = some (i * k, k) := by
        intro i
        unfold placeT fldT arrT
        rw [hu]
        simp [he]
      obtain ⟨cells', h1, h2⟩ := fill_rep (C := C) (w := w) (fun i => some (i * k, k)) (parts.map fun p => (p.1, a.eval p.2)).toList _ z.cells ds ds' hcells (by simp) hrel (by rw [show (fun i => some (i * k, k)) = placeT P t from funext fun i => (hfl i).symm]; exact hf)
      refine .same (v := .agg cells') hS.heap hS.fb ?_ (by simpa using h2.agg)
      simp only [execOp, ho, Instr.build, Sem.run_bind, hzr, Result.andThen_ok, underlying_run hu, szT_run he, h1, Sem.run_pure]
end
end Go.Proofs.YtipdmcpmedmicaaDoor
