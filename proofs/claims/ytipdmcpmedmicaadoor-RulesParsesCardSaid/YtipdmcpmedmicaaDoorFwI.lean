/- The abstract operations are sound, seventh part: slices of the call's own. -/
import Derived.Test.YtipdmcpmedmicaaDoorFwH
set_option linter.unusedSimpArgs false
set_option linter.unusedVariables false
namespace Go.Proofs.YtipdmcpmedmicaaDoor
open Go.RowKit

section
variable {P : Program} {o : Oper} {a : Act} {w w' : World} {C C' : Cx} {B : Bx} {nid : Nat} {d : D} {S : AS} {eff : Eff}

theorem putD_mid (A xs ys : List D) (x : D) (h : xs.length = x.cells.length) : putD (A ++ (xs ++ ys)) A.length x = A ++ (x.cells ++ ys) := by
  unfold putD
  rw [List.take_left, ← h, ← List.drop_drop, List.drop_left, List.drop_left, List.append_assoc]
/-- All elements of a slice literal, one behind the other. -/
theorem fillD_all (k : Nat) : ∀ (xs : List D) (done : List D) (j : Nat), (∀ x ∈ xs, x.okS = true ∧ x.cells.length = k) → done.length = j * k →
    fillD (fun i => some (i * k, k)) (done ++ List.replicate (xs.length * k) .any) ((List.range' j xs.length).zip xs) = some (done ++ xs.flatMap D.cells) := by
  intro xs
  induction xs with
  | nil => intro done j _ _; simp [fillD]
  | cons x xs ih =>
    intro done j h hd
    obtain ⟨h1, h2⟩ := h x (by simp)
    simp only [List.length_cons, List.range'_succ, List.zip_cons_cons, fillD]
    rw [if_pos (by simp [h1, h2, hd, Nat.succ_mul])]
    have e1 : done ++ List.replicate ((xs.length + 1) * k) D.any = done ++ (List.replicate k .any ++ List.replicate (xs.length * k) .any) := by
      rw [List.replicate_append_replicate]; congr 2; rw [Nat.succ_mul]; omega
    rw [e1, ← hd, putD_mid done _ _ x (by simp [h2]), ← List.append_assoc, ih (done ++ x.cells) (j + 1) (fun y hy => h y (by simp [hy])) (by rw [List.length_append, hd, h2, Nat.succ_mul])]
    simp

theorem s_buildSlice (hS : StOK C w a B S) (hn : ¬ C.live nid) (t e : TypeId) (len k : Nat) (parts : Array (Nat × Operand)) (z : D) (xs : List D) (ep : Eff) (ht : sliceT P t = some e) (hk : szT P e = some k) (hpur : purDs S.heap (parts.toList.map fun p => S.val p.2) = some (xs, ep)) (hp : parts.toList.map (·.1) = List.range len)
    (hx : ∀ x ∈ xs, x.cells.length = k) (hm : len * k ≤ 2 ^ 24) (hk0 : 0 < k) (hz : zeroD P e = some z) (hzo : z.okS = true) (hzl : z.cells.length = k) (ho : o.op = .buildSlice t len parts) :
    OpOK P o a w C B S.heap nid (.own nid len) (ep ++ [(nid, some (.vec e k xs false))]) := by
  have hlen : parts.toList.length = len := by have := congrArg List.length hp; simpa using this
  obtain ⟨C1, hP, hvl, hvr⟩ := purDs_sound (w := w) (B := B) _ (parts.toList.map fun p => a.eval p.2) C S.heap xs ep hS.heap hS.fb (by simp) (fun i v d hv hd => by
    simp only [List.getElem?_map] at hv hd
    cases hi : parts.toList[i]? with
    | none => rw [hi] at hv; simp at hv
    | some r => rw [hi] at hv hd; simp at hv hd; subst hv hd; exact hS.env.val _) hpur
  refine OpOK.after hP ?_
  have hn1 : ¬ C1.live nid := by rw [hP.live]; exact hn
  obtain ⟨zv, hzr, hzR⟩ := zeroD_run (C := cF C1.F) (w := w) hz
  have hzc := hzR.cellsS hzo
  have hzs : zv.cells.size = k := by have := hzc.len; simp at this; omega
  have hxl : xs.length = len := by rw [← hvl]; simp [← hlen]
  have hinit : RepL (cF C1.F) w ((Array.range (len * k)).map (zv.cells[· % zv.cells.size]!)).toList (List.replicate (xs.length * k) .any) := by
    refine ⟨by simp [hxl], fun v hv => ?_, fun i v d hv hd => ?_⟩
    · simp at hv
      obtain ⟨i, hi, rfl⟩ := hv
      have hlt : i % zv.cells.size < zv.cells.size := Nat.mod_lt _ (by omega)
      rw [getElem!_pos zv.cells (i % zv.cells.size) hlt]
      exact hzc.one _ (by simp)
    · rw [List.getElem?_replicate] at hd
      split at hd
      · injection hd with hd; subst hd; exact .any _
      · cases hd
  have hrel : ∀ (i : Nat) p q, (parts.map fun p => (p.1, a.eval p.2)).toList[i]? = some p → ((List.range' 0 xs.length).zip xs)[i]? = some q → p.1 = q.1 ∧ Rep w (cF C1.F) p.2 q.2 := by
    intro i p q hp' hq
    rw [List.getElem?_zip_eq_some] at hq
    simp only [Array.toList_map, List.getElem?_map] at hp'
    cases hi : parts.toList[i]? with
    | none => rw [hi] at hp'; simp at hp'
    | some r =>
      rw [hi] at hp'
      simp at hp'
      subst hp'
      have h1 : (parts.toList.map (·.1))[i]? = some r.1 := by simp [hi]
      rw [hp] at h1
      obtain ⟨hq1, hq2⟩ := hq
      have hlt : i < len := by have := (List.getElem?_eq_some_iff.1 h1).1; simpa using this
      rw [List.getElem?_range hlt] at h1
      rw [List.getElem?_range' (by omega)] at hq1
      injection h1 with h1
      injection hq1 with hq1
      exact ⟨by simp; omega, (hvr i _ _ (by simp [hi]) hq2).1⟩
  have hxs : ∀ x ∈ xs, x.okS = true ∧ x.cells.length = k := by
    intro x hx'
    obtain ⟨i, hi⟩ := List.getElem?_of_mem hx'
    have hil : i < (parts.toList.map fun p => a.eval p.2).length := by rw [hvl]; exact (List.getElem?_eq_some_iff.1 hi).1
    exact ⟨(hvr i _ x (List.getElem?_eq_getElem hil) hi).2, hx x hx'⟩
  obtain ⟨cells', h1, h2⟩ := fill_rep (C := cF C1.F) (w := w) (fun i => some (i * k, k)) (parts.map fun p => (p.1, a.eval p.2)).toList ((List.range' 0 xs.length).zip xs) _ _ _ hinit (by simp [hxl, hlen]) hrel
    (by have := fillD_all k xs [] 0 hxs (by simp); simpa using this)
  have hcl : cells'.toList.length = len * k := by rw [h2.len, flat_len2 k xs hx, hxl]
  have hrun : (execOp a.eval o).run P w = .ok (.value (.slice (some ⟨w.heap.size, 0, none⟩) len len)) (w.alloc (.cells cells' e)) := by
    have hnot : ¬ (len * k > 2 ^ 24) := by omega
    simp only [execOp, ho, Instr.buildSlice, Sem.run_bind, underlying_run (sliceT_under ht), Result.andThen_ok, szT_run hk, hnot, if_false, Sem.run_pure]
    by_cases h0 : len * k = 0
    · simp only [h0, if_true, Sem.run_bind, Sem.run_pure, Result.andThen_ok] at h1 ⊢
      have e0 : (Array.range 0).map (fun x => (#[] : Array Value)[x % (#[] : Array Value).size]!) = (Array.range 0).map (zv.cells[· % zv.cells.size]!) := by simp
      rw [e0, h1]
      rfl
    · simp only [h0, if_false, Sem.run_bind, hzr, Result.andThen_ok, Sem.run_pure, h1]
      rfl
  have hml : len ≤ maxLen := by
    have : len ≤ len * k := Nat.le_mul_of_pos_right _ hk0
    unfold maxLen; omega
  have hown := ownsRow_new (w := w) e k len cells'.toList hcl hml
  rw [Array.toArray_toList] at hown
  have := ok_vec (w' := w.alloc (.cells cells' e)) (xs := xs) (P := P) (o := o) (a := a) hP.ok hP.fb hn1 hx h2 (by rw [hxl]; exact hown) (fun g hg => Below.heap_alloc w _ g hg) ((BelM.refl _ _).alloc _) hS.base (fun g hg => by simp [Value.ownBlock] at hg; omega) hrun
  rw [hxl] at this
  exact this
theorem rep_int1' {w : World} {C : Cx} {v : Value} {k : IntKind} {n : Int} (h : Rep w C v (.int k n)) : v = .int k n := by cases h; rfl
theorem flat_rep (k : Nat) (z : D) (hz : z.cells.length = k) : ∀ (n i : Nat), i < n * k → ((List.replicate n z).flatMap D.cells)[i]? = z.cells[i % k]?
  | 0, i, h => by simp at h
  | n + 1, i, h => by
    rw [List.replicate_succ, List.flatMap_cons]
    by_cases hi : i < k
    · rw [List.getElem?_append_left (by omega), Nat.mod_eq_of_lt hi]
    · rw [List.getElem?_append_right (by omega), hz, flat_rep k z hz n (i - k) (by rw [Nat.succ_mul] at h; omega), Nat.mod_eq_sub_mod (a := i) (by omega)]
theorem pur1_none {d d' : D} {ep : Eff} {v : Value} (h : pur1 (fun _ => none) d = some (d', ep)) (hv : Rep w C v d) : ep = [] ∧ Rep w (cF C.F) v d' ∧ d'.ok1 = true := by
  have hv0 := hv
  cases hv <;> simp [pur1] at h
  case int hi => obtain ⟨rfl, rfl⟩ := h; exact ⟨rfl, .int _ _ hi, rfl⟩
  case bool => obtain ⟨rfl, rfl⟩ := h; exact ⟨rfl, .bool _, rfl⟩
  case str hl => obtain ⟨rfl, rfl⟩ := h; exact ⟨rfl, .str _ hl, rfl⟩
  case nilp => obtain ⟨rfl, rfl⟩ := h; exact ⟨rfl, .nilp, rfl⟩
  case err0 => obtain ⟨rfl, rfl⟩ := h; exact ⟨rfl, .err0, rfl⟩
  case err1 u v => obtain ⟨rfl, rfl⟩ := h; exact ⟨rfl, .err1 u v, rfl⟩
  case nils => obtain ⟨rfl, rfl⟩ := h; exact ⟨rfl, .sl0 _ _ (Nat.zero_le _), rfl⟩
  case sl0 A c hm => obtain ⟨rfl, rfl⟩ := h; exact ⟨rfl, .sl0 _ _ hm, rfl⟩
  case sl => obtain ⟨rfl, rfl⟩ := h; exact ⟨rfl, hv0.slF, rfl⟩
  case iptr => obtain ⟨rfl, rfl⟩ := h; exact ⟨rfl, hv0.iptrF, rfl⟩
  case mp => obtain ⟨rfl, rfl⟩ := h; exact ⟨rfl, hv0.mpF, rfl⟩
  case fn f vs ds hl hr =>
    cases ds with
    | nil => simp [pur1] at h; obtain ⟨rfl, rfl⟩ := h; exact ⟨rfl, .fn f vs [] hl (by simp), rfl⟩
    | cons d ds => simp [pur1] at h
theorem purL_none : ∀ (ds : List D) (vs : List Value) (ds' : List D) (ep : Eff), RepL C w vs ds → purL (fun _ => none) ds = some (ds', ep) → ep = [] ∧ RepL (cF C.F) w vs ds'
  | [], vs, ds', ep, hL, h => by
    simp [purL] at h; obtain ⟨rfl, rfl⟩ := h
    have : vs = [] := List.eq_nil_of_length_eq_zero hL.len
    subst this; exact ⟨rfl, RepL.nil⟩
  | d :: ds, [], ds', ep, hL, h => by have := hL.len; simp at this
  | d :: ds, v :: vs, ds', ep, hL, h => by
    simp only [purL] at h
    cases h1 : pur1 (fun _ => none) d with
    | none => rw [h1] at h; simp at h
    | some p =>
      obtain ⟨d1, e1⟩ := p
      rw [h1] at h
      obtain ⟨rfl, hr, ho1⟩ := pur1_none h1 (hL.rep 0 v d rfl rfl)
      simp only [appEff] at h
      cases h2 : purL (fun _ => none) ds with
      | none => rw [h2] at h; simp at h
      | some q =>
        obtain ⟨d2, e2⟩ := q
        rw [h2] at h
        obtain ⟨rfl, hr2⟩ := purL_none ds vs d2 e2 ⟨by have := hL.len; simpa using this, fun u hu => hL.one u (by simp [hu]), fun i u e hu he => hL.rep (i + 1) u e (by simpa using hu) (by simpa using he)⟩ h2
        simp at h; obtain ⟨rfl, rfl⟩ := h
        exact ⟨rfl, (RepL.one1 (hL.one v (by simp)) hr).append hr2⟩
theorem purD_none {d d' : D} {v : Value} {ep : Eff} (h : purD (fun _ => none) d = some (d', ep)) (hv : Rep w C v d) : Rep w (cF C.F) v d' ∧ d'.okS = true := by
  unfold purD at h
  split at h
  · rename_i ds
    cases h1 : purL (fun _ => none) ds with
    | none => rw [h1] at h; simp at h
    | some p =>
      rw [h1] at h
      simp at h
      obtain ⟨rfl, rfl⟩ := h
      cases hv with
      | agg vs _ hl ho hr =>
        obtain ⟨_, h3⟩ := purL_none ds vs p.1 p.2 ⟨hl, ho, hr⟩ h1
        exact ⟨h3.agg, rfl⟩
  · obtain ⟨_, h1, h2⟩ := pur1_none h hv
    refine ⟨h1, ?_⟩
    cases d' <;> first | exact h2 | rfl
/-- A slice of zeros. -/
theorem s_makeSlice (hS : StOK C w a B S) (hn : ¬ C.live nid) (t e : TypeId) (k by_ : Nat) (l c : Operand) (k1 k2 : IntKind) (n : Int) (z z' : D) (hl : S.val l = .int k1 n) (hc : S.val c = .int k2 n) (ht : sliceT P t = some e) (hk : szT P e = some k) (hb : bytesT P e = some by_) (hz : zeroD P e = some z)
    (hp : purD (fun _ => none) z = some (z', [])) (h0 : 0 ≤ n) (hm : n ≤ (maxLen : Int)) (hby : n * by_ ≤ 140737488355328) (hzo : z.okS = true) (hzl : z.cells.length = k) (hzl' : z'.cells.length = k) (ho : o.op = .makeSlice t l c) :
    OpOK P o a w C B S.heap nid (.own nid n.toNat) [(nid, some (.vec e k (replL n.toNat z') false))] := by
  unfold replL
  obtain ⟨zv, hzr, hzR⟩ := zeroD_run (C := cF C.F) (w := w) hz
  obtain ⟨hr1, hok1⟩ := purD_none hp hzR
  have hzc := hr1.cellsS hok1
  have hzs : zv.cells.size = k := by have := hzc.len; simp at this; omega
  obtain ⟨m, rfl⟩ : ∃ m : Nat, n = (m : Int) := ⟨n.toNat, by omega⟩
  simp only [Int.toNat_natCast]
  have hxk : ∀ x ∈ List.replicate m z', x.cells.length = k := fun x hx => by rw [List.eq_of_mem_replicate hx]; exact hzl'
  have hfl : ((List.replicate m z').flatMap D.cells).length = m * k := by rw [flat_len2 k _ hxk, List.length_replicate]
  let cells := (Array.range (m * k)).map (zv.cells[· % zv.cells.size]!)
  have hcl : cells.toList.length = m * k := by simp [cells]
  have hat : ∀ i, i < m * k → zv.cells.toList[i % k]? = some (zv.cells[i % zv.cells.size]!) := by
    intro i hi
    have hk0 : 0 < k := by
      rcases Nat.eq_zero_or_pos k with h | h
      · subst h; simp at hi
      · exact h
    have hlt : i % zv.cells.size < zv.cells.size := Nat.mod_lt _ (by omega)
    rw [getElem!_pos zv.cells (i % zv.cells.size) hlt, ← hzs]
    simp [hlt]
  have hL : RepL (cF C.F) w cells.toList ((List.replicate m z').flatMap D.cells) := by
    refine ⟨by rw [hcl, hfl], fun v hv => ?_, fun i v d hv hd => ?_⟩
    · simp [cells] at hv
      obtain ⟨i, hi, rfl⟩ := hv
      exact hzc.one _ (List.mem_of_getElem? (hat i hi))
    · have hi : i < m * k := by have := (List.getElem?_eq_some_iff.1 hd).1; omega
      rw [flat_rep k z' hzl' m i hi] at hd
      have hv' : v = zv.cells[i % zv.cells.size]! := by
        simp [cells, hi] at hv
        exact hv.symm
      exact hzc.rep (i % k) v d (by rw [hat i hi, hv']) hd
  have hle := rep_int1' (by have := hS.env.val l; rw [hl] at this; exact this)
  have hce := rep_int1' (by have := hS.env.val c; rw [hc] at this; exact this)
  have hw : IntKind.i64.wrap (m : Int) = m := IntWalk.i64_in _ (by unfold maxLen at hm; omega)
  have hml : m ≤ maxLen := by omega
  have hrun : (execOp a.eval o).run P w = .ok (.value (.slice (some ⟨w.heap.size, 0, none⟩) m m)) (w.alloc (.cells cells e)) := by
    obtain ⟨i, hi, _⟩ := szT_info hk
    have hbi : i.bytes = by_ := bytesT_info hb hi
    have hti : (typeInfo e).run P w = .ok i w := by simp [typeInfo, hi]
    have h1 : ¬ ((m : Int) < 0) := by omega
    have h2 : ¬ ((by_ : Int) * (m : Int) > 2 ^ 48) := by rw [Int.mul_comm]; omega
    have ha : ∀ k : IntKind, (asInt (.int k (m : Int))).run P w = .ok (m : Int) w := fun k => rfl
    have hcond : (decide ((m : Int) < 0) || decide ((i.bytes : Int) * (m : Int) > 2 ^ 48) || decide ((m : Int) < 0) || decide ((m : Int) > (m : Int))) = false := by
      rw [hbi]; simp only [h1, h2, decide_false, Bool.false_or]; simp
    simp only [execOp, ho, hle, hce, Instr.makeSlice, Sem.run_bind, underlying_run (sliceT_under ht), Result.andThen_ok, Sem.run_pure, ha, hti, hcond, Bool.false_eq_true, if_false, run_askRoom, szT_run hk, hw, Int.toNat_natCast]
    by_cases hz0 : m * k = 0
    · have e0 : cells = #[] := by simp [cells, hz0]
      simp only [hz0, if_true, Sem.run_bind, Sem.run_pure, Result.andThen_ok, e0]
      have e1 : (Array.range 0).map (fun x => (#[] : Array Value)[x % (#[] : Array Value).size]!) = #[] := by simp
      rw [e1]
      rfl
    · simp only [hz0, if_false, Sem.run_bind, hzr, Sem.run_pure, Result.andThen_ok]
      rfl
  have hown := ownsRow_new (w := w) e k m cells.toList hcl hml
  rw [Array.toArray_toList] at hown
  have := ok_vec (w' := w.alloc (.cells cells e)) (xs := List.replicate m z') (P := P) (o := o) (a := a) hS.heap hS.fb hn hxk hL (by rw [List.length_replicate]; exact hown) (fun g hg => Below.heap_alloc w _ g hg) ((BelM.refl _ _).alloc _) hS.base (fun g hg => by simp [Value.ownBlock] at hg; omega) hrun
  rw [List.length_replicate] at this
  exact this
end
end Go.Proofs.YtipdmcpmedmicaaDoor
