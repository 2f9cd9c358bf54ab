/- The abstract operations are sound, second part: blocks that are made, stored into, appended to. -/
import Derived.Test.YtipdmcpmedmicaaDoorFwC
set_option linter.unusedSimpArgs false
set_option linter.unusedVariables false
namespace Go.Proofs.YtipdmcpmedmicaaDoor
open Go.RowKit

section
variable {P : Program} {o : Oper} {a : Act} {w w' : World} {C C' : Cx} {B : Bx} {H : Nat → Option Blk} {nid : Nat} {d : D} {S : AS}

theorem BRep.keep {B : Nat} {id : Nat} {b : Blk} (h : BRep C w B id b) (hl : C.live id) (e : Ext C w C' w') (hb : ∀ g, blockOf (C.σ id) = some g → w'.heap[g]? = w.heap[g]?) (hF : ∀ g o, blockOf (C.σ id) = some g → C'.F g o → C.F g o) : BRep C' w' B id b := by
  have hs := e.σ id hl
  cases b with
  | box pn ds =>
    obtain ⟨g, t, vs, h1, h2, h3, h4, h5⟩ := h
    have hg : blockOf (C.σ id) = some g := by rw [h1]; rfl
    exact ⟨g, t, vs, hs.trans h1, h2, (hb g hg).trans h3, h4.ext e, fun o ho => h5 o (hF g o hg ho)⟩
  | vec et k xs pub =>
    obtain ⟨vals, h1, h2, h3, h4⟩ := h
    refine ⟨vals, ?_, h2, h3.ext e.cF, ?_⟩
    · rw [hs]
      refine ⟨h1.1, ?_⟩
      rcases h1.2 with h0 | ⟨g, cap, cur, hv, hB, hh, hr⟩
      · exact .inl h0
      · exact .inr ⟨g, cap, cur, hv, hB, (hb g (by rw [hv]; rfl)).trans hh, hr⟩
    · intro g hg
      rw [hs] at hg
      have hbl : blockOf (C.σ id) = some g := by
        cases hv : C.σ id <;> rw [hv] at hg <;> simp [Value.ownBlock] at hg
        rename_i A _ _
        cases A with
        | none => simp at hg
        | some A => simpa [Value.ownBlock, blockOf] using hg
      obtain ⟨k1, k2⟩ := h4 g hg
      exact ⟨fun o ho => k1 o (hF g o hbl ho), fun hp o ho => e.F g o (k2 hp o ho)⟩
  | bbox T ds =>
    obtain ⟨g, vs, h1, h2, h3, h4, h5⟩ := h
    have hg : blockOf (C.σ id) = some g := by rw [h1]; rfl
    exact ⟨g, vs, hs.trans h1, h2, (hb g hg).trans h3, h4.ext e, fun o ho => h5 o (hF g o hg ho)⟩
  | iter s pos =>
    obtain ⟨g, h1, h2, h3, h4, h5⟩ := h
    have hg : blockOf (C.σ id) = some g := by rw [h1]; rfl
    exact ⟨g, hs.trans h1, h2, (hb g hg).trans h3, h4, fun o ho => h5 o (hF g o hg ho)⟩
  | mp k ks vs pub =>
    obtain ⟨g, clock, es, h1, h2, h3, h4, h5, h6, h7, h8⟩ := h
    have hg : blockOf (C.σ id) = some g := by rw [h1]; rfl
    exact ⟨g, clock, es, hs.trans h1, h2, (hb g hg).trans h3, h4, h5, fun i v d hv hd => (h6 i v d hv hd).ext e.cF, fun hp o ho => h7 hp o (hF g o hg ho), fun hp => e.F g 0 (h8 hp)⟩

theorem BRep.lt {B : Nat} {id : Nat} {b : Blk} (h : BRep C w B id b) : ∀ g, blockOf (C.σ id) = some g → B ≤ g ∧ g < w.heap.size := by
  intro g hg
  cases b with
  | box pn ds =>
    obtain ⟨g', t, vs, h1, h2, h3, _⟩ := h
    rw [h1] at hg; simp [blockOf] at hg; subst hg
    exact ⟨h2, (Array.getElem?_eq_some_iff.1 h3).1⟩
  | vec et k xs pub =>
    obtain ⟨vals, h1, _⟩ := h
    rcases h1.2 with ⟨h0, _⟩ | ⟨g', cap, cur, hv, hB, hh, hr⟩
    · rw [h0] at hg; simp [blockOf] at hg
    · rw [hv] at hg; simp [blockOf] at hg; subst hg
      exact ⟨hB, (Array.getElem?_eq_some_iff.1 hh).1⟩
  | bbox T ds =>
    obtain ⟨g', vs, h1, h2, h3, _⟩ := h
    rw [h1] at hg; simp [blockOf] at hg; subst hg
    exact ⟨h2, (Array.getElem?_eq_some_iff.1 h3).1⟩
  | iter s pos =>
    obtain ⟨g', h1, h2, h3, _⟩ := h
    rw [h1] at hg; simp [blockOf] at hg; subst hg
    exact ⟨h2, (Array.getElem?_eq_some_iff.1 h3).1⟩
  | mp k ks vs pub =>
    obtain ⟨g', clock, es, h1, h2, h3, _⟩ := h
    rw [h1] at hg; simp [blockOf] at hg; subst hg
    exact ⟨h2, (Array.getElem?_eq_some_iff.1 h3).1⟩

/-- A new id. -/
def Cx.new (C : Cx) (nid : Nat) (v : Value) : Cx := ⟨C.F, upd C.σ nid v, fun id => C.live id ∨ id = nid⟩
theorem Cx.new_ext (hn : ¬ C.live nid) (v : Value) (hc : ∀ b o, C.F b o → w'.heap[b]? = w.heap[b]?) : Ext C w (C.new nid v) w' :=
  ⟨fun _ _ h => h, hc, fun _ h => .inl h, fun id h => by
    have : id ≠ nid := fun e => hn (e ▸ h)
    simp [Cx.new, upd, this]⟩

/-- One block more; the others as they were. -/
theorem HOK.add {b : Blk} {v : Value} (hH : HOK C w B H) (hn : ¬ C.live nid) (e : Ext C w (C.new nid v) w') (hb : ∀ g, g < w.heap.size → w'.heap[g]? = w.heap[g]?) (hnew : BRep (C.new nid v) w' 0 nid b) (hbase : ∀ g, w.heap.size ≤ g → B.M g) (hpin : ∀ k cs, b ≠ .box (some k) cs) (hlt : ∀ g, blockOf v = some g → w.heap.size ≤ g) :
    HOK (C.new nid v) w' B (upd H nid (some b)) := by
  have hs : (C.new nid v).σ nid = v := by simp [Cx.new, upd]
  refine ⟨fun id b' h => ?_, fun id b' h g hg => by
    by_cases hi : id = nid
    · subst hi
      rw [hs] at hg
      exact hbase g (hlt g hg)
    · simp [upd, hi] at h
      rw [e.σ id (hH.rep id b' h).1] at hg
      exact hH.own id b' h g hg, fun id k cs h => by
    by_cases hi : id = nid
    · subst hi
      simp [upd] at h
      exact absurd h (hpin k cs)
    · simp [upd, hi] at h
      rw [e.σ id (hH.rep id _ h).1]
      exact hH.pin id k cs h, fun id id' b1 b2 h1 h2 hne g hg hg' => ?_⟩
  · by_cases hi : id = nid
    · subst hi
      simp [upd] at h; subst h
      exact ⟨.inr rfl, hnew⟩
    · simp [upd, hi] at h
      obtain ⟨k1, k2⟩ := hH.rep id b' h
      exact ⟨.inl k1, k2.keep k1 e (fun g hg => hb g (k2.lt g hg).2) (fun g o _ h => h)⟩
  · by_cases hi : id = nid
    · subst hi
      have hi' : id' ≠ id := fun e => hne e.symm
      simp [upd, hi'] at h2
      obtain ⟨k1, k2⟩ := hH.rep id' b2 h2
      rw [e.σ id' k1] at hg'
      rw [hs] at hg
      have := hlt g hg
      have := (k2.lt g hg').2
      omega
    · simp [upd, hi] at h1
      obtain ⟨k1, k2⟩ := hH.rep id b1 h1
      rw [e.σ id k1] at hg
      by_cases hi' : id' = nid
      · subst hi'
        rw [hs] at hg'
        have := hlt g hg'
        have := (k2.lt g hg).2
        omega
      · simp [upd, hi'] at h2
        obtain ⟨k3, k4⟩ := hH.rep id' b2 h2
        rw [e.σ id' k3] at hg'
        exact hH.apart id id' b1 b2 h1 h2 hne g hg hg'

/-- An own block changed; the others as they were. -/
theorem HOK.change {id : Nat} {b b' : Blk} (hH : HOK C w B H) (hi : H id = some b) (e : Ext C w C w') (hb : ∀ g, blockOf (C.σ id) ≠ some g → g < w.heap.size → w'.heap[g]? = w.heap[g]?) (hpin : ∀ k cs, b' = .box (some k) cs → C.σ id = B.p k) (hnew : BRep C w' 0 id b') : HOK C w' B (upd H id (some b')) := by
  refine ⟨fun j bj h => ?_, fun j bj h g hg => ?_, fun j k cs h => ?_, fun j j' b1 b2 h1 h2 hne g hg hg' => ?_⟩
  · by_cases hj : j = id
    · subst hj
      simp [upd] at h; subst h
      exact ⟨(hH.rep j b hi).1, hnew⟩
    · simp [upd, hj] at h
      obtain ⟨k1, k2⟩ := hH.rep j bj h
      exact ⟨k1, k2.keep k1 e (fun g hg => hb g (hH.apart j id bj b h hi hj g hg) (k2.lt g hg).2) (fun g o _ h => h)⟩
  · by_cases hj : j = id
    · subst hj; exact hH.own j b hi g hg
    · simp [upd, hj] at h; exact hH.own j bj h g hg
  · by_cases hj : j = id
    · subst hj; simp [upd] at h; exact hpin k cs h
    · simp [upd, hj] at h; exact hH.pin j k cs h
  · by_cases hj : j = id
    · subst hj
      have hj' : j' ≠ j := fun e => hne e.symm
      simp [upd, hj'] at h2
      exact hH.apart j j' b b2 hi h2 hne g hg hg'
    · simp [upd, hj] at h1
      by_cases hj' : j' = id
      · subst hj'
        exact hH.apart j j' b1 b h1 hi hne g hg hg'
      · simp [upd, hj'] at h2
        exact hH.apart j j' b1 b2 h1 h2 hne g hg hg'
theorem HOK.drop (hH : HOK C w B H) (id : Nat) : HOK C w B (upd H id none) := by
  refine ⟨fun j bj h => ?_, fun j bj h => ?_, fun j k cs h => ?_, fun j j' b1 b2 h1 h2 hne => ?_⟩
  · by_cases hj : j = id
    · subst hj; simp [upd] at h
    · simp [upd, hj] at h; exact hH.rep j bj h
  · by_cases hj : j = id
    · subst hj; simp [upd] at h
    · simp [upd, hj] at h; exact hH.own j bj h
  · by_cases hj : j = id
    · subst hj; simp [upd] at h
    · simp [upd, hj] at h; exact hH.pin j k cs h
  · by_cases hj : j = id
    · subst hj; simp [upd] at h1
    · simp [upd, hj] at h1
      by_cases hj' : j' = id
      · subst hj'; simp [upd] at h2
      · simp [upd, hj'] at h2
        exact hH.apart j j' b1 b2 h1 h2 hne

theorem FB.alloc (hF : FB C w) (ob : Obj) : ∀ b o, C.F b o → (w.alloc ob).heap[b]? = w.heap[b]? := fun b o h => Below.heap_alloc w ob b (hF b o h)
theorem nolt (hF : FB C w) (o : Nat) : ¬ C.F w.heap.size o := fun h => by have := hF _ _ h; omega

/-- A new box. -/
theorem ok_box {t : TypeId} {vs : Array Value} {ds : List D} (hH : HOK C w B H) (hF : FB C w) (hB : ∀ g, w.heap.size ≤ g → B.M g) (hn : ¬ C.live nid) (hL : RepL C w vs.toList ds)
    (hr : (execOp a.eval o).run P w = .ok (.value (.pointer (some ⟨w.heap.size, 0, none⟩))) (w.alloc (.cells vs t))) : OpOK P o a w C B H nid (.ptr nid 0) [(nid, some (.box none ds))] := by
  have e := Cx.new_ext (w := w) (w' := w.alloc (.cells vs t)) hn (.pointer (some ⟨w.heap.size, 0, none⟩)) (hF.alloc _)
  have hs : (C.new nid (.pointer (some ⟨w.heap.size, 0, none⟩))).σ nid = .pointer (some ⟨w.heap.size, 0, none⟩) := by simp [Cx.new, upd]
  refine ⟨_, _, _, C.new nid (.pointer (some ⟨w.heap.size, 0, none⟩)), hr, .inl rfl, (BelM.refl _ _).alloc _, e, .ptr nid 0 _ (.inr rfl) hs, ?_, ?_, fun id h => h, fun _ _ h => .inl h⟩
  · refine HOK.add hH hn e (fun g hg => Below.heap_alloc w _ g hg) ⟨w.heap.size, t, vs, hs, Nat.zero_le _, heap_alloc_new w _, hL.ext e, nolt hF⟩ hB (fun k cs h => by cases h) ?_
    intro g hg; simp [blockOf] at hg; omega
  · intro b o h; have := hF b o h; simp; omega

theorem ownsRow_new (e : TypeId) (k n : Nat) (vals : List Value) (hl : vals.length = n * k) (hm : n ≤ maxLen) : (w.alloc (.cells vals.toArray e)).ownsRow 0 e k (.slice (some ⟨w.heap.size, 0, none⟩) n n) n vals :=
  ⟨hl, .inr ⟨w.heap.size, n, vals.toArray, rfl, Nat.zero_le _, heap_alloc_new w _, Nat.le_refl _, hm, by simpa using hl, by rw [← hl]; simp⟩⟩

theorem own_le {B : Nat} {v : Value} {et : TypeId} {k n : Nat} {vals : List Value} (h : w.ownsRow B et k v n vals) : n ≤ maxLen := by
  rcases h.2 with ⟨_, rfl⟩ | ⟨g, cap, cur, _, _, _, h1, h2, _⟩
  · exact Nat.zero_le _
  · omega
/-- A new row. -/
theorem ok_vec {et : TypeId} {k : Nat} {v : Value} {xs : List D} {vals : List Value} (hH : HOK C w B H) (hF : FB C w) (hn : ¬ C.live nid) (hk : ∀ x ∈ xs, x.cells.length = k)
    (hL : RepL (cF C.F) w vals (xs.flatMap D.cells)) (hown : w'.ownsRow 0 et k v xs.length vals) (hg : ∀ g, g < w.heap.size → w'.heap[g]? = w.heap[g]?) (hbel : BelM B.M w w') (hbase : ∀ g, w.heap.size ≤ g → B.M g) (hnew : ∀ g, v.ownBlock = some g → w.heap.size ≤ g)
    (hr : (execOp a.eval o).run P w = .ok (.value v) w') : OpOK P o a w C B H nid (.own nid xs.length) [(nid, some (.vec et k xs false))] := by
  have e := Cx.new_ext (w := w) (w' := w') hn v (fun b o h => hg b (hF b o h))
  have hs : (C.new nid v).σ nid = v := by simp [Cx.new, upd]
  have hv : ∃ A c, v = .slice A xs.length c := by
    rcases hown.2 with ⟨h1, h2⟩ | ⟨g, cap, cur, h1, _⟩
    · exact ⟨none, 0, by rw [h2, h1]⟩
    · exact ⟨_, _, h1⟩
  obtain ⟨A, c, rfl⟩ := hv
  refine ⟨_, _, _, _, hr, .inl rfl, hbel, e, .own nid xs.length c A (.inr rfl) (own_le hown) hs, ?_, ?_, fun id h => h, fun _ _ h => .inl h⟩
  · refine HOK.add hH hn e hg ⟨vals, by rw [hs]; exact hown, hk, hL.ext e.cF, ?_⟩ hbase (fun k cs h => by cases h) ?_
    · intro g hg'
      rw [hs] at hg'
      have := hnew g hg'
      refine ⟨fun o ho => ?_, fun h => by cases h⟩
      have := hF g o ho
      omega
    · intro g hg'
      refine hnew g ?_
      cases A with
      | none => simp [blockOf] at hg'
      | some A => simpa [Value.ownBlock, blockOf] using hg'
  · intro b o h; have := hF b o h; have := hbel.size; omega

theorem appEff_append (H : Nat → Option Blk) : ∀ (e e' : Eff), appEff H (e ++ e') = appEff (appEff H e) e'
  | [], _ => rfl
  | (_, _) :: e, e' => by simp only [List.cons_append, appEff]; exact appEff_append _ e e'

/-- An own slice from now on is written no more. -/
structure Pub (C : Cx) (w : World) (B : Bx) (H : Nat → Option Blk) (C' : Cx) (H' : Nat → Option Blk) : Prop where
  ext : Ext C w C' w
  σ : C'.σ = C.σ
  live : C'.live = C.live
  ok : HOK C' w B H'
  fb : FB C' w
  new : ∀ b o, C'.F b o → C.F b o ∨ B.M b
theorem Pub.refl (hH : HOK C w B H) (hF : FB C w) : Pub C w B H C H := ⟨Ext.refl _ _, rfl, rfl, hH, hF, fun _ _ h => .inl h⟩
theorem Pub.trans {C'' : Cx} {H' H'' : Nat → Option Blk} (h : Pub C w B H C' H') (k : Pub C' w B H' C'' H'') : Pub C w B H C'' H'' :=
  ⟨h.ext.trans k.ext, k.σ.trans h.σ, k.live.trans h.live, k.ok, k.fb, fun b o x => by
    rcases k.new b o x with x | x
    · exact h.new b o x
    · exact .inr x⟩

theorem HOK.own_upd {id : Nat} {b b' : Blk} (hH : HOK C w B H) (hi : H id = some b) : ∀ j bj, upd H id (some b') j = some bj → ∀ g, blockOf (C.σ j) = some g → B.M g := by
  intro j bj h g hg
  by_cases hj : j = id
  · subst hj; exact hH.own j b hi g hg
  · simp [upd, hj] at h; exact hH.own j bj h g hg
theorem HOK.pin_upd {id : Nat} {b' : Blk} (hH : HOK C w B H) (hb : ∀ k cs, b' ≠ .box (some k) cs) : ∀ j k cs, upd H id (some b') j = some (.box (some k) cs) → C.σ j = B.p k := by
  intro j k cs h
  by_cases hj : j = id
  · subst hj; simp [upd] at h; exact absurd h (hb k cs)
  · simp [upd, hj] at h; exact hH.pin j k cs h
theorem pub_vec {id : Nat} {e : TypeId} {k : Nat} {xs : List D} {p : Bool} (hH : HOK C w B H) (hF : FB C w) (hi : H id = some (.vec e k xs p)) :
    ∃ C', Pub C w B H C' (upd H id (some (.vec e k xs true))) ∧ ∀ v, Rep w C v (.own id xs.length) → Rep w (cF C'.F) v (.sl xs) := by
  obtain ⟨hl, vals, q1, q2, q3, q4⟩ := hH.rep id _ hi
  let C' : Cx := ⟨fun b o => C.F b o ∨ ((C.σ id).ownBlock = some b ∧ o < xs.length * k), C.σ, C.live⟩
  have ee : Ext C w C' w := ⟨fun _ _ h => .inl h, fun _ _ _ => rfl, fun _ h => h, fun _ _ => rfl⟩
  have hown : ∀ g, (C.σ id).ownBlock = some g → blockOf (C.σ id) = some g := by
    intro g hg
    cases hv : C.σ id <;> rw [hv] at hg <;> simp [Value.ownBlock] at hg
    rename_i A _ _
    cases A with
    | none => simp at hg
    | some A => simpa [Value.ownBlock, blockOf] using hg
  refine ⟨C', ⟨ee, rfl, rfl, ⟨fun j bj h => ?_, hH.own_upd hi, hH.pin_upd (fun k cs h => by cases h), fun j j' b1 b2 h1 h2 hne g hg hg' => ?_⟩, ?_, ?_⟩, ?_⟩
  · by_cases hj : j = id
    · subst hj
      simp [upd] at h; subst h
      refine ⟨hl, vals, q1, q2, q3.ext ee.cF, fun g hg => ⟨fun o ho => ?_, fun _ o ho => .inr ⟨hg, ho⟩⟩⟩
      rcases ho with ho | ho
      · exact ⟨rfl, ((q4 g hg).1 o ho).2⟩
      · exact ⟨rfl, ho.2⟩
    · simp [upd, hj] at h
      obtain ⟨k1, k2⟩ := hH.rep j bj h
      refine ⟨k1, k2.keep k1 ee (fun g _ => rfl) (fun g o hg ho => ?_)⟩
      rcases ho with ho | ho
      · exact ho
      · exact absurd (hown g ho.1) (hH.apart j id bj _ h hi hj g hg)
  · have get : ∀ j b, upd H id (some (.vec e k xs true)) j = some b → ∃ b', H j = some b' := by
      intro j b h
      by_cases hj : j = id
      · subst hj; exact ⟨_, hi⟩
      · simp [upd, hj] at h; exact ⟨b, h⟩
    obtain ⟨b1', h1'⟩ := get j b1 h1
    obtain ⟨b2', h2'⟩ := get j' b2 h2
    exact hH.apart j j' b1' b2' h1' h2' hne g hg hg'
  · intro b o ho
    rcases ho with ho | ho
    · exact hF b o ho
    · exact (q1.lt b ho.1).2
  · intro b o ho
    rcases ho with ho | ho
    · exact .inl ho
    · exact .inr (hH.own id _ hi b (hown b ho.1))
  · intro v hv
    generalize hn : xs.length = n at hv
    cases hv with
    | own _ _ c A hl' hm' hσ =>
      subst hn
      rw [hσ] at q1 q4
      rcases q1.2 with ⟨r1, r2⟩ | ⟨g, cap, cur, r1, r2, r3, r4, r5, r6, r7⟩
      · have hx : xs = [] := List.eq_nil_of_length_eq_zero r2
        subst hx
        injection r1 with r1 _ r3
        subst r3
        exact .sl0 _ _ (Nat.zero_le _)
      · injection r1 with r1 _ rc
        subst r1 rc
        have hlen := q1.1
        refine .sl g 0 k c xs vals r4 r5 q2 q3.len q3.one (fun i hi => ?_) (fun i v hv => ?_) (fun i v d hv hd => ?_)
        · right
          exact ⟨by rw [hσ]; rfl, by omega⟩
        · have := q1.cells (g := g) rfl i v hv
          unfold Addr.add at this
          split at this
          · rename_i h0; subst h0; exact this
          · exact this
        · exact (q3.rep i v d hv hd).ext ⟨fun _ _ h => .inl h, fun _ _ _ => rfl, fun _ h => h.elim, fun _ h => h.elim⟩

theorem pub_mp {id : Nat} {k : IntKind} {ks : List Int} {vs : List D} {p : Bool} (hH : HOK C w B H) (hF : FB C w) (hi : H id = some (.mp k ks vs p)) :
    ∃ C', Pub C w B H C' (upd H id (some (.mp k ks vs true))) ∧ ∀ v, Rep w C v (.omp id) → Rep w (cF C'.F) v (.mp k ks vs) := by
  obtain ⟨k0, g, clock, es, q1, q2, q3, q4, q5, q6, q7, q8⟩ := hH.rep id _ hi
  have hlt : g < w.heap.size := (Array.getElem?_eq_some_iff.1 q3).1
  let C' : Cx := ⟨fun b o => C.F b o ∨ (b = g ∧ o = 0), C.σ, C.live⟩
  have ee : Ext C w C' w := ⟨fun _ _ h => .inl h, fun _ _ _ => rfl, fun _ h => h, fun _ _ => rfl⟩
  refine ⟨C', ⟨ee, rfl, rfl, ⟨fun j bj h => ?_, hH.own_upd hi, hH.pin_upd (fun k cs h => by cases h), fun j j' b1 b2 h1 h2 hne g' hg hg' => ?_⟩, fun b o h => ?_, fun b o h => ?_⟩, fun v hv => ?_⟩
  · by_cases hj : j = id
    · subst hj
      simp [upd] at h; subst h
      exact ⟨k0, g, clock, es, q1, q2, q3, q4, q5, fun i v d hv hd => (q6 i v d hv hd).ext ee.cF, (fun h => by cases h), fun _ => .inr ⟨rfl, rfl⟩⟩
    · simp [upd, hj] at h
      obtain ⟨k1, k2⟩ := hH.rep j bj h
      refine ⟨k1, k2.keep k1 ee (fun _ _ => rfl) (fun g' o hg' ho => ?_)⟩
      rcases ho with ho | ⟨rfl, rfl⟩
      · exact ho
      · exact absurd hg' (hH.apart id j _ bj hi h (fun e => hj e.symm) _ (by rw [q1]; rfl))
  · by_cases hj : j = id
    · subst hj
      have hj' : j' ≠ j := fun e => hne e.symm
      simp [upd, hj'] at h2
      exact hH.apart j j' _ b2 hi h2 hne g' hg hg'
    · simp [upd, hj] at h1
      by_cases hj' : j' = id
      · subst hj'
        exact hH.apart j j' b1 _ h1 hi hne g' hg hg'
      · simp [upd, hj'] at h2
        exact hH.apart j j' b1 b2 h1 h2 hne g' hg hg'
  · rcases h with h | ⟨rfl, rfl⟩
    · exact hF b o h
    · exact hlt
  · rcases h with h | ⟨rfl, rfl⟩
    · exact .inl h
    · exact .inr (hH.own id _ hi b (by rw [q1]; rfl))
  · cases hv with
    | omp _ g' hl hσ =>
      rw [hσ] at q1
      injection q1 with q1; injection q1 with q1
      subst q1
      exact .mp g' clock k ks es vs (.inr ⟨rfl, rfl⟩) q3 q4 q5 fun i v d hv hd => (q6 i v d hv hd).ext ee.cF
theorem Rep.slF {v : Value} {xs : List D} (h : Rep w C v (.sl xs)) : Rep w (cF C.F) v (.sl xs) := by
  cases h with
  | sl0 A c hm => exact .sl0 A c hm
  | sl b off k c _ vals hc hm hk hl h1 hF hcell h => exact .sl b off k c _ vals hc hm hk hl h1 hF hcell h
theorem Rep.iptrF {v : Value} {ds : List D} (h : Rep w C v (.iptr ds)) : Rep w (cF C.F) v (.iptr ds) := by
  cases h with
  | iptr b off _ vals hl h1 hF hcell h => exact .iptr b off _ vals hl h1 hF hcell h
theorem Rep.mpF {v : Value} {k : IntKind} {ks : List Int} {vs : List D} (h : Rep w C v (.mp k ks vs)) : Rep w (cF C.F) v (.mp k ks vs) := by
  cases h with
  | mp g clock _ _ es _ hF hh hk hl h => exact .mp g clock _ _ es _ hF hh hk hl h
theorem pur1_sound {d' : D} {ep : Eff} {v : Value} (hH : HOK C w B H) (hF : FB C w) (h : pur1 H d = some (d', ep)) (hv : Rep w C v d) : ∃ C', Pub C w B H C' (appEff H ep) ∧ Rep w (cF C'.F) v d' ∧ (d'.ok1 = true) := by
  have hv0 := hv
  cases hv <;> simp [pur1] at h
  case int hi => obtain ⟨rfl, rfl⟩ := h; exact ⟨C, Pub.refl hH hF, .int _ _ hi, rfl⟩
  case bool => obtain ⟨rfl, rfl⟩ := h; exact ⟨C, Pub.refl hH hF, .bool _, rfl⟩
  case str hl => obtain ⟨rfl, rfl⟩ := h; exact ⟨C, Pub.refl hH hF, .str _ hl, rfl⟩
  case own id n c A hm hl hσ =>
    cases hb : H id with
    | none => rw [hb] at h; simp at h
    | some b =>
      rw [hb] at h
      cases b <;> simp at h
      rename_i et k xs p
      obtain ⟨rfl, rfl, rfl⟩ := h
      obtain ⟨C', h1, h2⟩ := pub_vec hH hF hb
      exact ⟨C', h1, h2 _ (.own id _ c A hl hm hσ), rfl⟩
  case omp id g hl hσ =>
    cases hb : H id with
    | none => rw [hb] at h; simp at h
    | some b =>
      rw [hb] at h
      cases b <;> simp at h
      rename_i k ks vs p
      obtain ⟨rfl, rfl⟩ := h
      obtain ⟨C', h1, h2⟩ := pub_mp hH hF hb
      exact ⟨C', h1, h2 _ (.omp id g hl hσ), rfl⟩
  case mp => obtain ⟨rfl, rfl⟩ := h; exact ⟨C, Pub.refl hH hF, hv0.mpF, rfl⟩
  case fn f vs ds hl hr =>
    cases ds with
    | nil => simp [pur1] at h; obtain ⟨rfl, rfl⟩ := h; exact ⟨C, Pub.refl hH hF, .fn f vs [] hl (by simp), rfl⟩
    | cons d ds => simp [pur1] at h
  case nilp => obtain ⟨rfl, rfl⟩ := h; exact ⟨C, Pub.refl hH hF, .nilp, rfl⟩
  case err0 => obtain ⟨rfl, rfl⟩ := h; exact ⟨C, Pub.refl hH hF, .err0, rfl⟩
  case err1 u v => obtain ⟨rfl, rfl⟩ := h; exact ⟨C, Pub.refl hH hF, .err1 u v, rfl⟩
  case nils => obtain ⟨rfl, rfl⟩ := h; exact ⟨C, Pub.refl hH hF, .sl0 _ _ (Nat.zero_le _), rfl⟩
  case sl0 A c hm => obtain ⟨rfl, rfl⟩ := h; exact ⟨C, Pub.refl hH hF, .sl0 _ _ hm, rfl⟩
  case sl => obtain ⟨rfl, rfl⟩ := h; exact ⟨C, Pub.refl hH hF, hv0.slF, rfl⟩
  case iptr => obtain ⟨rfl, rfl⟩ := h; exact ⟨C, Pub.refl hH hF, hv0.iptrF, rfl⟩

theorem purL_sound : ∀ (ds : List D) (vs : List Value) (C : Cx) (H : Nat → Option Blk) (ds' : List D) (ep : Eff), HOK C w B H → FB C w → RepL C w vs ds → purL H ds = some (ds', ep) → ∃ C', Pub C w B H C' (appEff H ep) ∧ RepL (cF C'.F) w vs ds' := by
  intro ds
  induction ds with
  | nil =>
    intro vs C H ds' ep hH hF hL h
    simp [purL] at h
    obtain ⟨rfl, rfl⟩ := h
    have : vs = [] := List.eq_nil_of_length_eq_zero hL.len
    subst this
    exact ⟨C, Pub.refl hH hF, RepL.nil⟩
  | cons d ds ih =>
    intro vs C H ds' ep hH hF hL h
    cases vs with
    | nil => have := hL.len; simp at this
    | cons v vs =>
      simp only [purL] at h
      cases h1 : pur1 H d with
      | none => rw [h1] at h; simp at h
      | some p =>
        obtain ⟨d', e1⟩ := p
        rw [h1] at h
        simp only at h
        cases h2 : purL (appEff H e1) ds with
        | none => rw [h2] at h; simp at h
        | some q =>
          obtain ⟨ds'', e2⟩ := q
          rw [h2] at h
          simp at h
          obtain ⟨rfl, rfl⟩ := h
          obtain ⟨C1, p1, p2, _⟩ := pur1_sound hH hF h1 (hL.rep 0 v d rfl rfl)
          have hL' : RepL C1 w vs ds := by
            have := (hL.drop 1).ext p1.ext
            simpa using this
          obtain ⟨C2, p3, p4⟩ := ih vs C1 _ _ _ p1.ok p1.fb hL' h2
          rw [appEff_append]
          refine ⟨C2, p1.trans p3, ?_⟩
          have h0 : RepL (cF C2.F) w [v] [d'] := RepL.one1 (hL.one v (by simp)) (p2.ext p3.ext.cF)
          exact h0.append p4
theorem purD_sound {d' : D} {ep : Eff} {v : Value} (hH : HOK C w B H) (hF : FB C w) (h : purD H d = some (d', ep)) (hv : Rep w C v d) : ∃ C', Pub C w B H C' (appEff H ep) ∧ Rep w (cF C'.F) v d' ∧ d'.okS = true := by
  unfold purD at h
  split at h
  · rename_i ds
    cases h1 : purL H ds with
    | none => rw [h1] at h; simp at h
    | some p =>
      obtain ⟨ds', e1⟩ := p
      rw [h1] at h
      simp at h
      obtain ⟨rfl, rfl⟩ := h
      cases hv with
      | agg vs _ hl h2 h3 =>
        obtain ⟨C', p1, p2⟩ := purL_sound ds vs C H ds' e1 hH hF ⟨hl, h2, h3⟩ h1
        exact ⟨C', p1, p2.agg, rfl⟩
  · obtain ⟨C', p1, p2, p3⟩ := pur1_sound hH hF h hv
    refine ⟨C', p1, p2, ?_⟩
    cases d' <;> simp_all [D.okS, D.ok1]
theorem purDs_sound : ∀ (ds : List D) (vs : List Value) (C : Cx) (H : Nat → Option Blk) (ds' : List D) (ep : Eff), HOK C w B H → FB C w → vs.length = ds.length → (∀ (i : Nat) v d, vs[i]? = some v → ds[i]? = some d → Rep w C v d) → purDs H ds = some (ds', ep) →
    ∃ C', Pub C w B H C' (appEff H ep) ∧ vs.length = ds'.length ∧ ∀ (i : Nat) v d, vs[i]? = some v → ds'[i]? = some d → Rep w (cF C'.F) v d ∧ d.okS = true := by
  intro ds
  induction ds with
  | nil =>
    intro vs C H ds' ep hH hF hl _ h
    simp [purDs] at h
    obtain ⟨rfl, rfl⟩ := h
    exact ⟨C, Pub.refl hH hF, hl, by simp⟩
  | cons d ds ih =>
    intro vs C H ds' ep hH hF hl hR h
    cases vs with
    | nil => simp at hl
    | cons v vs =>
      simp only [purDs] at h
      cases h1 : purD H d with
      | none => rw [h1] at h; simp at h
      | some p =>
        obtain ⟨d', e1⟩ := p
        rw [h1] at h
        simp only at h
        cases h2 : purDs (appEff H e1) ds with
        | none => rw [h2] at h; simp at h
        | some q =>
          obtain ⟨ds'', e2⟩ := q
          rw [h2] at h
          simp at h
          obtain ⟨rfl, rfl⟩ := h
          obtain ⟨C1, p1, p2, p2'⟩ := purD_sound hH hF h1 (hR 0 v d rfl rfl)
          obtain ⟨C2, p3, p4, p5⟩ := ih vs C1 _ _ _ p1.ok p1.fb (by simpa using hl) (fun i u x hu hx => (hR (i + 1) u x (by simpa using hu) (by simpa using hx)).ext p1.ext) h2
          rw [appEff_append]
          refine ⟨C2, p1.trans p3, by simpa using p4, fun i u x hu hx => ?_⟩
          cases i with
          | zero => simp at hu hx; subst hu hx; exact ⟨p2.ext p3.ext.cF, p2'⟩
          | succ i => exact p5 i u x (by simpa using hu) (by simpa using hx)
theorem purXs_sound : ∀ (ds : List D) (vs : List Value) (C : Cx) (H : Nat → Option Blk) (ds' : List D) (ep : Eff), HOK C w B H → FB C w → vs.length = ds.length → (∀ (i : Nat) v d, vs[i]? = some v → ds[i]? = some d → Rep w C v d) → purXs H ds = some (ds', ep) →
    ∃ C', Pub C w B H C' (appEff H ep) ∧ vs.length = ds'.length ∧ ∀ (i : Nat) v d, vs[i]? = some v → ds'[i]? = some d → Rep w C' v d := by
  intro ds
  induction ds with
  | nil =>
    intro vs C H ds' ep hH hF hl _ h
    simp [purXs] at h
    obtain ⟨rfl, rfl⟩ := h
    exact ⟨C, Pub.refl hH hF, hl, by simp⟩
  | cons d ds ih =>
    intro vs C H ds' ep hH hF hl hR h
    cases vs with
    | nil => simp at hl
    | cons v vs =>
      simp only [purXs] at h
      cases h1 : purX H d with
      | none => rw [h1] at h; simp at h
      | some p =>
        obtain ⟨d', e1⟩ := p
        rw [h1] at h
        simp only at h
        cases h2 : purXs (appEff H e1) ds with
        | none => rw [h2] at h; simp at h
        | some q =>
          obtain ⟨ds'', e2⟩ := q
          rw [h2] at h
          simp at h
          obtain ⟨rfl, rfl⟩ := h
          have hd : ∃ C1, Pub C w B H C1 (appEff H e1) ∧ Rep w C1 v d' := by
            unfold purX at h1
            split at h1
            · simp at h1
              obtain ⟨rfl, rfl⟩ := h1
              exact ⟨C, Pub.refl hH hF, hR 0 v _ rfl rfl⟩
            · obtain ⟨C1, p1, p2, _⟩ := purD_sound hH hF h1 (hR 0 v _ rfl rfl)
              exact ⟨C1, p1, p2.ext ⟨fun _ _ h => h, fun _ _ _ => rfl, fun _ h => h.elim, fun _ h => h.elim⟩⟩
          obtain ⟨C1, p1, p2⟩ := hd
          obtain ⟨C2, p3, p4, p5⟩ := ih vs C1 _ _ _ p1.ok p1.fb (by simpa using hl) (fun i u x hu hx => (hR (i + 1) u x (by simpa using hu) (by simpa using hx)).ext p1.ext) h2
          rw [appEff_append]
          refine ⟨C2, p1.trans p3, by simpa using p4, fun i u x hu hx => ?_⟩
          cases i with
          | zero => simp at hu hx; subst hu hx; exact p2.ext p3.ext
          | succ i => exact p5 i u x (by simpa using hu) (by simpa using hx)
/-- First the publishing, then the operation. -/
theorem OpOK.after {eff ep : Eff} (p : Pub C w B H C' (appEff H ep)) (h : OpOK P o a w C' B (appEff H ep) nid d eff) : OpOK P o a w C B H nid d (ep ++ eff) := by
  obtain ⟨nx, v, w', C2, h1, h2, h3, h4, h5, h6, h7, h8, h9⟩ := h
  refine ⟨nx, v, w', C2, h1, h2, h3, p.ext.trans h4, h5, by rw [appEff_append]; exact h6, h7, fun id hl => ?_, fun b o hF => (h9 b o hF).elim (p.new b o) .inr⟩
  rw [← p.live]; exact h8 id hl
end
end Go.Proofs.YtipdmcpmedmicaaDoor
