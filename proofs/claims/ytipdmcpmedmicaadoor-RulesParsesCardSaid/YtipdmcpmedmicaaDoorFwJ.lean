/- The abstract operations are sound, eighth part: appends, and all of them in one. -/
import Derived.Test.YtipdmcpmedmicaaDoorFwI
set_option linter.unusedSimpArgs false
set_option linter.unusedVariables false
namespace Go.Proofs.YtipdmcpmedmicaaDoor
open Go.RowKit

section
variable {P : Program} {o : Oper} {a : Act} {w w' : World} {C C' : Cx} {B : Bx} {nid : Nat} {d : D} {S : AS} {eff : Eff} {H : Nat → Option Blk}

/-- The elements of a slice, where they lie. -/
theorem srcOf {v : Value} {dx : D} {ys : List D} (hr : Rep w C v dx) (hH : HOK C w B H) (h : elemsD H dx = some ys) :
    ∃ A c news, v = .slice A ys.length c ∧ RepL (cF C.F) w news (ys.flatMap D.cells) ∧ ((∃ b off, A = some ⟨b, off, none⟩ ∧ ∀ (i : Nat) u, news[i]? = some u → w.cell? ((⟨b, off, none⟩ : Addr).add i) = some u) ∨ (ys = [] ∧ news = [])) := by
  cases dx <;> simp [elemsD] at h
  case own id n =>
    cases hr with
    | own _ _ c A hl hmm hs =>
      cases hb : H id with
      | none => rw [hb] at h; simp at h
      | some b =>
        rw [hb] at h
        cases b <;> simp at h
        rename_i e k xs pub
        obtain ⟨h1, rfl⟩ := h
        obtain ⟨_, vals, h2, h3, h4, _⟩ := hH.rep id _ hb
        subst h1
        rw [hs] at h2
        rcases h2.2 with ⟨q1, q2⟩ | ⟨g, cap, cur, q1, _⟩
        · have hx : xs = [] := List.eq_nil_of_length_eq_zero q2
          subst hx
          have hv : vals = [] := List.eq_nil_of_length_eq_zero (by simpa using h4.len)
          subst hv
          exact ⟨A, c, [], rfl, h4, .inr ⟨rfl, rfl⟩⟩
        · injection q1 with q1
          subst q1
          exact ⟨_, c, vals, rfl, h4, .inl ⟨g, 0, rfl, h2.cells (g := g) rfl⟩⟩
  case nils =>
    subst h
    cases hr
    exact ⟨none, 0, [], rfl, RepL.nil, .inr ⟨rfl, rfl⟩⟩
  case sl xs =>
    subst h
    cases hr with
    | sl0 A c hm => exact ⟨A, c, [], rfl, RepL.nil, .inr ⟨rfl, rfl⟩⟩
    | sl b off k c _ vals hc hm hk hl h1 hF hcell hrep =>
      exact ⟨_, _, vals, rfl, ⟨hl, h1, hrep⟩, .inl ⟨b, off, rfl, fun i u hu => by rw [addr_add]; exact hcell i u hu⟩⟩

theorem run_append_none (t e ty : TypeId) (k : Nat) (base : Option Addr) (n cap c : Nat) (ht : P.underlying t = some (.slice e)) (hk : szT P e = some k) (hn : n ≤ cap) :
    (Builtin.append_ #[t, t] ty #[.slice base n cap, .slice none 0 c]).run P w = .ok (.slice base n cap) w := by
  cases base <;> simp [Builtin.append_, underlying_run ht, szT_run hk, Builtin.lenOf, hn, Builtin.firstCells, storeCells]

/-- An append to a row of the call's own: where the new row lies. -/
theorem run_append_own2 (t ty e : TypeId) (i : TypeInfo) (z : Value) (k bytes : Nat) (ht : P.underlying t = some (.slice e)) (hi : P.info? e = some i) (hz : i.zero = some z)
    (hsize : i.size = k) (hby : i.bytes = bytes) (hzs : z.cells.size = k) (v : Value) (n : Nat) (xs : List Value) (hown : w.ownsRow 0 e k v n xs)
    (A : Option Addr) (m c : Nat) (news : List Value) (hl : news.length = m * k) (hA : (∃ ad, A = some ad ∧ ∀ (j : Nat) u, news[j]? = some u → w.cell? (ad.add j) = some u) ∨ (m = 0 ∧ A = none)) (h1 : ∀ u ∈ news, u.oneCell' = true)
    (h63 : n + m ≤ maxLen) (hbytes : (n + m) * bytes ≤ 140737488355328) :
    ∃ v' w', (Builtin.append_ #[t, t] ty #[v, .slice A m c]).run P w = .ok v' w' ∧ w'.ownsRow 0 e k v' (n + m) (xs ++ news) ∧ w.grownBy w' v.ownBlock ∧ ((∀ g, v'.ownBlock = some g → w.heap.size ≤ g) ∨ v'.ownBlock = v.ownBlock) := by
  subst hsize hby
  have hsmall : n + m ≤ 9223372036854775807 := by simp only [maxLen] at h63; omega
  have hlen : (xs ++ news).length = (n + m) * i.size := by rw [List.length_append, hown.1, hl, Nat.add_mul]
  have hnil : m = 0 → news = [] := fun h => List.eq_nil_of_length_eq_zero (by rw [hl, h]; simp)
  have fresh : ∀ (cs : Array Value) (cap : Nat), n + m ≤ cap → cap ≤ maxLen → cs.size = cap * i.size → cs.toList.take ((n + m) * i.size) = xs ++ news →
      (w.drew.alloc (.cells cs e)).ownsRow 0 e i.size (.slice (some ⟨w.heap.size, 0, none⟩) (n + m) cap) (n + m) (xs ++ news) ∧ w.grownBy (w.drew.alloc (.cells cs e)) v.ownBlock := fun cs cap h1 h2 h3 h4 =>
    ⟨⟨hlen, .inr ⟨w.heap.size, cap, cs, rfl, Nat.zero_le _, heap_alloc_new w.drew _, h1, h2, h3, h4⟩⟩, rfl, rfl, rfl, by simp, fun g hg _ => Below.heap_alloc w.drew _ g hg⟩
  rcases hA with ⟨ad, rfl, hnews⟩ | ⟨rfl, rfl⟩
  · rcases hown.2 with ⟨rfl, rfl⟩ | ⟨g, cap, cur, rfl, hbg, hg, hnc, hcm, hcs, htake⟩
    · have hx : xs = [] := List.eq_nil_of_length_eq_zero (by simpa using hown.1)
      subst hx
      by_cases hm : m = 0
      · have hn := hnil hm
        subst hm hn
        refine ⟨.slice none 0 0, w, ?_, World.ownsRow_nil w 0 e i.size, ⟨rfl, rfl, rfl, Nat.le_refl _, fun _ _ _ => rfl⟩, .inr rfl⟩
        simp [Builtin.append_, underlying_run ht, sizeOf, typeInfo, hi, Builtin.lenOf, Builtin.firstCells, loadCells, loadCellsFrom]
      · have hr := run_append_nil (P := P) w t ty e i z ht hi hz ad m c news hl hnews (by omega) (by omega) (by have hb := hbytes; simp only [Nat.zero_add] at hb; omega)
        have hge := grownCap_ge w m 0 e
        have hcm := grownCap_le_maxLen w m 0 e (by simpa using h63)
        have hf := fresh (news.toArray ++ Builtin.zeroCells z.cells (grownCap w m 0 e - m)) (grownCap w m 0 e) (by simpa using hge) hcm
          (by simp only [Array.size_append, List.size_toArray, size_zeroCells, hzs, hl, ← Nat.add_mul]; congr 1; omega) (by
            simp only [Array.toList_append, Nat.zero_add, List.nil_append, ← hl]; exact List.take_left)
        simp only [Nat.zero_add] at hf ⊢
        exact ⟨_, _, hr, hf.1, hf.2, .inl fun g hg => by simp [Value.ownBlock] at hg; omega⟩
    · by_cases hroom : n + m ≤ cap
      · have hfit : n * i.size + news.length ≤ cur.size := by rw [hl, hcs, ← Nat.add_mul]; exact Nat.mul_le_mul_right _ hroom
        have hr := run_append_room (P := P) w t ty e i ht hi g n cap cur hg ad m c news hl hnews h1 hroom hfit
        refine ⟨_, _, hr, ⟨hlen, .inr ⟨g, cap, _, rfl, hbg, setRow_heap w g cur _ e _ hg, hroom, hcm, ?_, ?_⟩⟩, ⟨rfl, rfl, rfl, by simp, fun k _ hk => setRow_other w g k _ (fun e => hk (by simp [Value.ownBlock, e]))⟩, .inr rfl⟩
        · simp only [List.size_toArray, List.length_append, List.length_take, List.length_drop, Array.length_toList]
          omega
        · rw [htake, ← hlen]
          exact List.take_left
      · have hr := run_append_grow (P := P) w t ty e i z ht hi hz ⟨g, 0, none⟩ n cap xs hown.1 (hown.cells (g := g) rfl) ad m c news hl hnews (by omega) (by omega) (growslice_fits (by omega) hbytes)
        have hge := grownCap_ge w (n + m) cap e
        have hcm' := grownCap_le_maxLen w (n + m) cap e h63
        have hf := fresh (xs.toArray ++ news.toArray ++ Builtin.zeroCells z.cells (grownCap w (n + m) cap e - (n + m))) (grownCap w (n + m) cap e) hge hcm'
          (by simp only [Array.size_append, List.size_toArray, size_zeroCells, hzs, hown.1, hl, ← Nat.add_mul]; congr 1; omega) (by
            simp only [Array.toList_append, List.append_assoc]
            rw [← List.append_assoc, ← hlen]
            exact List.take_left)
        exact ⟨_, _, hr, hf.1, hf.2, .inl fun g hg => by simp [Value.ownBlock] at hg; omega⟩
  · have hn := hnil rfl
    subst hn
    have hv : ∃ base cap, v = .slice base n cap ∧ n ≤ cap := by
      rcases hown.2 with ⟨rfl, rfl⟩ | ⟨g, cap, cur, rfl, _, _, hnc, _⟩
      · exact ⟨none, 0, rfl, Nat.le_refl _⟩
      · exact ⟨_, _, rfl, hnc⟩
    obtain ⟨base, cap, rfl, hnc⟩ := hv
    refine ⟨_, w, run_append_none (P := P) t e ty i.size base n cap c ht (by simp [szT, hi]) hnc, ?_, ⟨rfl, rfl, rfl, Nat.le_refl _, fun _ _ _ => rfl⟩, .inr rfl⟩
    simpa using hown

theorem blockOf_own {A : Option Addr} {n c : Nat} : blockOf (.slice A n c) = (Value.slice A n c).ownBlock := by cases A <;> rfl

/-- One own block in the place of another. -/
theorem HOK.swap {id : Nat} {b b' : Blk} {v : Value} (hH : HOK C w B H) (hi : H id = some b) (hn : ¬ C.live nid) (e : Ext C w (C.new nid v) w') (hb : ∀ g, g < w.heap.size → blockOf (C.σ id) ≠ some g → w'.heap[g]? = w.heap[g]?)
    (hnew : BRep (C.new nid v) w' 0 nid b') (hbase : ∀ g, w.heap.size ≤ g → B.M g) (hpin : ∀ k cs, b' ≠ .box (some k) cs) (hlt : (∀ g, blockOf v = some g → w.heap.size ≤ g) ∨ blockOf v = blockOf (C.σ id)) : HOK (C.new nid v) w' B (upd (upd H id none) nid (some b')) := by
  have hs : (C.new nid v).σ nid = v := by simp [Cx.new, upd]
  have old : ∀ j bj, j ≠ nid → upd H id none j = some bj → j ≠ id ∧ H j = some bj ∧ C.live j := by
    intro j bj hj h
    by_cases hji : j = id
    · subst hji; simp [upd] at h
    · simp [upd, hji] at h; exact ⟨hji, h, (hH.rep j bj h).1⟩
  have hup : ∀ j, j ≠ nid → upd (upd H id none) nid (some b') j = upd H id none j := fun j hj => by simp [upd, hj]
  have notv : ∀ j bj, j ≠ id → H j = some bj → ∀ g, blockOf (C.σ j) = some g → blockOf v ≠ some g := by
    intro j bj hj h g hg hv
    rcases hlt with h1 | h1
    · have := h1 g hv; have := ((hH.rep j bj h).2.lt g hg).2; omega
    · rw [h1] at hv; exact hH.apart j id bj b h hi hj g hg hv
  refine ⟨fun j bj h => ?_, fun j bj h g hg => ?_, fun j k cs h => ?_, fun j j' b1 b2 h1 h2 hne g hg hg' => ?_⟩
  rotate_left
  · by_cases hj : j = nid
    · subst hj
      rw [hs] at hg
      rcases hlt with h1 | h1
      · exact hbase g (h1 g hg)
      · rw [h1] at hg; exact hH.own id b hi g hg
    · rw [hup j hj] at h
      obtain ⟨hji, h, hl⟩ := old j bj hj h
      rw [e.σ j hl] at hg
      exact hH.own j bj h g hg
  · by_cases hj : j = nid
    · subst hj
      simp [upd] at h
      exact absurd h (hpin k cs)
    · rw [hup j hj] at h
      obtain ⟨hji, h, hl⟩ := old j _ hj h
      rw [e.σ j hl]
      exact hH.pin j k cs h
  rotate_left
  · by_cases hj : j = nid
    · subst hj
      simp [upd] at h; subst h
      exact ⟨.inr rfl, hnew⟩
    · rw [hup j hj] at h
      obtain ⟨hji, h, hl⟩ := old j bj hj h
      have k2 := (hH.rep j bj h).2
      exact ⟨.inl hl, k2.keep hl e (fun g hg => hb g (k2.lt g hg).2 (fun h' => hH.apart j id bj b h hi hji g hg h')) (fun g o _ h => h)⟩
  · by_cases hj : j = nid
    · subst hj
      have hj' : j' ≠ j := fun e => hne e.symm
      rw [hup j' hj'] at h2
      obtain ⟨hji, h2, hl⟩ := old j' b2 hj' h2
      rw [e.σ j' hl] at hg'
      rw [hs] at hg
      exact notv j' b2 hji h2 g hg' hg
    · rw [hup j hj] at h1
      obtain ⟨hji, h1, hl⟩ := old j b1 hj h1
      rw [e.σ j hl] at hg
      by_cases hj' : j' = nid
      · subst hj'
        rw [hs] at hg'
        exact notv j b1 hji h1 g hg hg'
      · rw [hup j' hj'] at h2
        obtain ⟨hji', h2, hl'⟩ := old j' b2 hj' h2
        rw [e.σ j' hl'] at hg'
        exact hH.apart j j' b1 b2 h1 h2 hne g hg hg'

theorem infoOf {e : TypeId} {k by_ : Nat} {z : D} (hk : szT P e = some k) (hb : bytesT P e = some by_) (hz : zeroD P e = some z) (hzo : z.okS = true) (hzl : z.cells.length = k) :
    ∃ i zv, P.info? e = some i ∧ i.zero = some zv ∧ i.size = k ∧ i.bytes = by_ ∧ zv.cells.size = k := by
  obtain ⟨i, h1, h2⟩ := szT_info hk
  obtain ⟨i', zv, h3, h4, h5⟩ := zeroD_info hz
  rw [h1] at h3
  injection h3 with h3
  subst h3
  refine ⟨i, zv, h1, h4, h2, bytesT_info hb h1, ?_⟩
  have hr : Rep default (cF fun _ _ => False) zv z := h5 ▸ rep_cD zv
  have := (hr.cellsS hzo).len
  simp at this
  omega

/-- An append to nil. -/
theorem s_appendNil (hS : StOK C w a B S) (hn : ¬ C.live nid) (s x : Operand) (t e : TypeId) (k by_ : Nat) (ys : List D) (z : D) (ht : sliceT P t = some e) (hk : szT P e = some k) (hb : bytesT P e = some by_) (hz : zeroD P e = some z) (hzo : z.okS = true) (hzl : z.cells.length = k)
    (hs : S.val s = .nils) (hx : elemsD S.heap (S.val x) = some ys) (hy : ∀ y ∈ ys, y.okS = true ∧ y.cells.length = k) (hm : ys.length ≤ maxLen) (hby : ys.length * by_ ≤ 140737488355328) (ho : o.op = .call { callee := .builtin .append, args := #[s, x], argTypes := #[t, t] }) :
    OpOK P o a w C B S.heap nid (.own nid ys.length) [(nid, some (.vec e k ys false))] := by
  obtain ⟨i, zv, hi, hzv, hsize, hbytes, hzs⟩ := infoOf hk hb hz hzo hzl
  have hs' := hS.env.val s
  rw [hs] at hs'
  generalize hv : a.eval s = v at hs'
  cases hs'
  obtain ⟨A, c, news, hvx, hL, hA⟩ := srcOf (hS.env.val x) hS.heap hx
  have hkk : ∀ y ∈ ys, y.cells.length = k := fun y h => (hy y h).2
  have hnl : news.length = ys.length * k := by rw [hL.len, flat_len2 k ys hkk]
  obtain ⟨v', w', hr, hown, hg, hblk⟩ := run_append_own2 (P := P) (w := w) t o.type e i zv k by_ (sliceT_under ht) hi hzv hsize hbytes hzs (.slice none 0 0) 0 [] (World.ownsRow_nil _ _ _ _) A ys.length c news hnl
    (by
      rcases hA with ⟨b, off, rfl, h⟩ | ⟨rfl, rfl⟩
      · exact .inl ⟨_, rfl, h⟩
      · cases A with
        | none => exact .inr ⟨rfl, rfl⟩
        | some ad => exact .inl ⟨ad, rfl, by simp⟩) hL.one (by simpa using hm) (by simpa using hby)
  simp only [Nat.zero_add, List.nil_append] at hown
  refine ok_vec (w' := w') (v := v') hS.heap hS.fb hn hkk hL hown (fun g hg' => hg.block g hg' (by simp [Value.ownBlock])) ⟨hg.os, hg.tape, hg.output, hg.size, fun g hg' _ => hg.block g hg' (by simp [Value.ownBlock])⟩ hS.base (fun g hg' => ?_) ?_
  · rcases hblk with h | h
    · exact h g hg'
    · rw [h] at hg'; simp [Value.ownBlock] at hg'
  · simp only [execOp, ho, resolve, invoke, builtin, Sem.run_bind, Sem.run_pure, Result.andThen_ok, List.map_toArray, List.map_cons, List.map_nil, hv, hvx, hr]
/-- An append to a row of the call's own. -/
theorem s_appendOwn (hS : StOK C w a B S) (hn : ¬ C.live nid) (s x : Operand) (t e : TypeId) (k by_ id n : Nat) (xs ys : List D) (z : D) (ht : sliceT P t = some e) (hk : szT P e = some k) (hb : bytesT P e = some by_) (hz : zeroD P e = some z) (hzo : z.okS = true) (hzl : z.cells.length = k)
    (hs : S.val s = .own id n) (hid : S.heap id = some (.vec e k xs false)) (hxn : xs.length = n) (hx : elemsD S.heap (S.val x) = some ys) (hy : ∀ y ∈ ys, y.okS = true ∧ y.cells.length = k) (hm : xs.length + ys.length ≤ maxLen) (hby : (xs.length + ys.length) * by_ ≤ 140737488355328) (ho : o.op = .call { callee := .builtin .append, args := #[s, x], argTypes := #[t, t] }) :
    OpOK P o a w C B S.heap nid (.own nid (xs.length + ys.length)) [(id, none), (nid, some (.vec e k (xs ++ ys) false))] := by
  obtain ⟨i, zv, hi, hzv, hsize, hbytes, hzs⟩ := infoOf hk hb hz hzo hzl
  have hs' := hS.env.val s
  rw [hs] at hs'
  generalize hv : a.eval s = v at hs'
  cases hs' with
  | own _ _ c0 A0 hl0 hmm0 hσ =>
    obtain ⟨A, c, news, hvx, hL, hA⟩ := srcOf (hS.env.val x) hS.heap hx
    have hkk : ∀ y ∈ ys, y.cells.length = k := fun y h => (hy y h).2
    have hnl : news.length = ys.length * k := by rw [hL.len, flat_len2 k ys hkk]
    obtain ⟨_, vals, q1, q2, q3, q4⟩ := hS.heap.rep id _ hid
    rw [hσ] at q1
    obtain ⟨v', w', hr, hown, hg, hblk⟩ := run_append_own2 (P := P) (w := w) t o.type e i zv k by_ (sliceT_under ht) hi hzv hsize hbytes hzs (.slice A0 n c0) xs.length vals q1 A ys.length c news hnl
      (by
        rcases hA with ⟨b, off, rfl, h⟩ | ⟨rfl, rfl⟩
        · exact .inl ⟨_, rfl, h⟩
        · cases A with
          | none => exact .inr ⟨rfl, rfl⟩
          | some ad => exact .inl ⟨ad, rfl, by simp⟩) hL.one hm hby
    have hob : ∀ g, (Value.slice A0 n c0).ownBlock = some g → B.M g := fun g hg' => hS.heap.own id _ hid g (by rw [hσ, blockOf_own]; exact hg')
    have hnoF : ∀ g o, (Value.slice A0 n c0).ownBlock = some g → ¬ C.F g o := fun g o hg' hF => by
      have := ((q4 g (by rw [hσ]; exact hg')).1 o hF).1; cases this
    have hcell : ∀ b o, C.F b o → w'.heap[b]? = w.heap[b]? := fun b o hF =>
      hg.block b (hS.fb b o hF) (fun h => hnoF b o h.symm hF)
    have e' := Cx.new_ext (C := C) (w := w) (w' := w') hn v' hcell
    have hs2 : (C.new nid v').σ nid = v' := by simp [Cx.new, upd]
    have hv' : ∃ A' c', v' = .slice A' (xs.length + ys.length) c' := by
      rcases hown.2 with ⟨h1, h2⟩ | ⟨g, cap, cur, h1, _⟩
      · exact ⟨none, 0, by rw [h2, h1]⟩
      · exact ⟨_, _, h1⟩
    obtain ⟨A', c', rfl⟩ := hv'
    have hnew' : ∀ g, (Value.slice A' (xs.length + ys.length) c').ownBlock = some g → ∀ o, ¬ C.F g o := by
      intro g hg' o hF
      rcases hblk with h | h
      · have := h g hg'; have := hS.fb g o hF; omega
      · rw [h] at hg'; exact hnoF g o hg' hF
    refine ⟨_, _, w', C.new nid (.slice A' (xs.length + ys.length) c'), ?_, .inl rfl, ⟨hg.os, hg.tape, hg.output, hg.size, fun g hg' hm' => hg.block g hg' (fun h => hm' (hob g h.symm))⟩, e', .own nid _ c' A' (.inr rfl) hm hs2, ?_, ?_, fun id h => h, fun _ _ h => .inl h⟩
    · simp only [execOp, ho, resolve, invoke, builtin, Sem.run_bind, Sem.run_pure, Result.andThen_ok, List.map_toArray, List.map_cons, List.map_nil, hv, hvx, hr]
    · refine HOK.swap hS.heap hid hn e' (fun g hg1 hg2 => hg.block g hg1 (fun h => hg2 (by rw [hσ, blockOf_own]; exact h.symm))) ⟨vals ++ news, ?_, ?_, ?_, ?_⟩ hS.base (fun k cs h => by cases h) ?_
      · rw [hs2, List.length_append]; exact hown
      · intro y hy'
        rcases List.mem_append.1 hy' with h | h
        · exact q2 y h
        · exact hkk y h
      · rw [List.flatMap_append]
        exact (q3.ext e'.cF).append (hL.ext e'.cF)
      · intro g hg'
        rw [hs2] at hg'
        exact ⟨fun o ho => absurd ho (hnew' g hg' o), fun h => by cases h⟩
      · rw [hσ, blockOf_own, blockOf_own]
        exact hblk
    · intro b o hF; have := hS.fb b o hF; have := hg.size; omega
end
end Go.Proofs.YtipdmcpmedmicaaDoor
