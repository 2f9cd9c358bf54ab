/- strings.Builder in the framework: WriteString and String tell what becomes of the builder's block. -/
import Derived.Test.YtipdmcpmedmicaaDoorBld2
set_option linter.unusedSimpArgs false
set_option linter.unusedVariables false
namespace Go.Proofs.YtipdmcpmedmicaaDoor
open Go.RowKit
set_option maxRecDepth 100000

/-- The numbers of bytes. -/
def toI (l : List UInt8) : List Int := l.map fun b => (b.toNat : Int)
theorem toI_length (l : List UInt8) : (toI l).length = l.length := by simp [toI]
theorem bytesOf_toI (l : List UInt8) : bytesOf (toI l) = l := by
  induction l with
  | nil => rfl
  | cons a t ih => simp only [bytesOf, toI, List.map_cons] at ih ⊢; rw [ih]; simp
theorem strCells_rep {w : World} {C : Cx} (s : List UInt8) : RepL C w (Lib.strCells ⟨s.toArray⟩) (((toI s).map (D.int .u8)).flatMap D.cells) := by
  rw [flatU8]
  have e : Lib.strCells ⟨s.toArray⟩ = s.map fun b => Value.int .u8 b.toNat := by simp [Lib.strCells]
  rw [e]
  refine ⟨by simp [toI], fun v hv => ?_, fun i v d hv hd => ?_⟩
  · obtain ⟨b, _, rfl⟩ := List.mem_map.1 hv; rfl
  · simp only [toI, List.getElem?_map] at hv hd
    cases hs : s[i]? with
    | none => rw [hs] at hv; simp at hv
    | some b =>
      rw [hs] at hv hd
      simp at hv hd
      subst hv hd
      exact .int _ _ (by have := b.toNat_lt; unfold inR; simp only [kLo, kHi]; omega)
theorem flatU8_len (l : List Int) : ∀ x ∈ l.map (D.int .u8), x.cells.length = 1 := by
  intro x hx; obtain ⟨n, _, rfl⟩ := List.mem_map.1 hx; rfl

theorem sp_cases {w : World} {C : Cx} {v : Value} {id : Nat} (h : Rep w C v (.sp id)) {g : Nat} (hs : C.σ id = .pointer (some ⟨g, 0, none⟩)) : v = .pointer none ∨ v = .pointer (some ⟨g, 0, none⟩) := by
  cases h with
  | sp0 _ _ => exact .inl rfl
  | sp1 _ g' _ h' => rw [hs] at h'; injection h' with h'; injection h' with h'; injection h' with h'; subst h'; exact .inr rfl

/-- A builder's block. -/
theorem bld_block {w : World} {C : Cx} {id g : Nat} {d : D} (hs : C.σ id = .pointer (some ⟨g, 0, none⟩)) (h : BRep C w 0 id (.bbox 129 [.sp id, d])) : ∃ v, BldAt g v w ∧ Rep w C v d ∧ ∀ o, ¬ C.F g o := by
  obtain ⟨g', vs, q1, q2, q3, q4, q5⟩ := h
  rw [hs] at q1; injection q1 with q1; injection q1 with q1; injection q1 with q1
  subst q1
  have hl := q4.len
  obtain ⟨p, v, hvs⟩ : ∃ p v, vs = #[p, v] := by
    obtain ⟨l⟩ := vs
    match l, hl with
    | [p, v], _ => exact ⟨p, v, rfl⟩
  subst hvs
  exact ⟨v, ⟨p, sp_cases (q4.rep 0 p _ rfl rfl) hs, q3⟩, q4.rep 1 v _ rfl rfl, q5⟩

/-- What the world holds behind a writing: the blocks, as said. -/
theorem wrote (I : World → Prop) (id nid : Nat) (s : List UInt8) (l : List Int) (H : Nat → Option Blk) (d : D) (eff : Eff) (hid : H id = some (.bbox 129 [.sp id, d])) (hlen : l.length + s.length ≤ 140737488355328) (hne : nid ≠ id)
    (hd : (d = .nils ∧ l = [] ∧ eff = [(nid, some (.vec 5 1 ((l ++ toI s).map (D.int .u8)) false)), (id, some (.bbox 129 [.sp id, .own nid (l.length + s.length)]))]) ∨
      ∃ id2, d = .own id2 l.length ∧ H id2 = some (.vec 5 1 (l.map (D.int .u8)) false) ∧ id2 ≠ id ∧ eff = [(id2, none), (nid, some (.vec 5 1 ((l ++ toI s).map (D.int .u8)) false)), (id, some (.bbox 129 [.sp id, .own nid (l.length + s.length)]))]) :
    CallOK Tryd.prog I 69 [.ptr id 0, .str s] H nid (.tup [.int .i64 s.length, .err false]) eff := by
  refine ⟨by kernel_rfl, fun i0 w C B args hI hb0 hM hH hF hbase hn hal hrep => ?_⟩
  obtain ⟨a0, a1, rfl⟩ : ∃ a0 a1, args = [a0, a1] := by
    match args, hal with
    | [a, b], _ => exact ⟨a, b, rfl⟩
  have r0 := hrep 0 a0 _ rfl rfl
  have r1 := hrep 1 a1 _ rfl rfl
  clear hrep
  obtain ⟨rfl, hsl⟩ := rep_str1 r1
  cases r0 with
  | ptr _ _ g hlid hσ =>
  obtain ⟨k0, k1⟩ := hH.rep id _ hid
  obtain ⟨v, hB, hv, hnoF⟩ := bld_block hσ k1
  have hgM : B.M g := hH.own id _ hid g (by rw [hσ]; rfl)
  have hglt : g < w.heap.size := by obtain ⟨p, _, hb⟩ := hB; exact (Array.getElem?_eq_some_iff.1 hb).1
  -- the row
  obtain ⟨vals, hown, hvals, hvne, hvM, hvF⟩ : ∃ vals, w.ownsRow 0 5 1 v vals.length vals ∧ vals.length = l.length ∧ v.ownBlock ≠ some g ∧ (∀ k, v.ownBlock = some k → B.M k) ∧ (∀ k o, v.ownBlock = some k → ¬ C.F k o) := by
    rcases hd with ⟨rfl, rfl, _⟩ | ⟨id2, rfl, h2, h3, _⟩
    · cases hv
      exact ⟨[], World.ownsRow_nil _ _ _ _, rfl, by simp [Value.ownBlock], by simp [Value.ownBlock], by simp [Value.ownBlock]⟩
    · cases hv with
      | own _ _ c A hl2 hm2 hσ2 =>
        obtain ⟨_, vals, q1, q2, q3, q4⟩ := hH.rep id2 _ h2
        rw [hσ2] at q1
        have hvl : vals.length = l.length := by have := q1.1; simpa using this
        refine ⟨vals, by rw [hvl]; simpa using q1, hvl, fun e => ?_, fun k hk => hH.own id2 _ h2 k (by rw [hσ2, blockOf_own]; exact hk), fun k o hk hF' => ?_⟩
        · exact hH.apart id2 id _ _ h2 hid h3 g (by rw [hσ2, blockOf_own]; exact e) (by rw [hσ]; rfl)
        · have := ((q4 k (by rw [hσ2]; exact hk)).1 o hF').1; cases this
  have hssz : (⟨s.toArray⟩ : ByteArray).size = s.length := bsize s
  refine (writeStr g v vals ⟨s.toArray⟩ w hB hown hvne (by rw [hvals, hssz]; exact hlen)).mono ?_
  rintro e w' ⟨rfl, v', e1, e2, e3, e4, e5⟩
  rw [hssz, hvals] at e2
  have hbel : BelM B.M w w' := ⟨e5.os, e5.tape, e5.output, e5.size, fun k hk hm => e5.block k hk (by
    rintro (h | h | h)
    · omega
    · exact hm (h ▸ hgM)
    · exact hm (hvM k h))⟩
  -- outside the two blocks nothing has changed
  have hout : ∀ k, k < w.heap.size → k ≠ g → v.ownBlock ≠ some k → w'.heap[k]? = w.heap[k]? := fun k hk h1 h2 => e5.block k hk (by rintro (h | h | h); omega; exact h1 h; exact h2 h)
  have hFk : ∀ b o, C.F b o → w'.heap[b]? = w.heap[b]? := fun b o hb => hout b (hF b o hb) (fun e => hnoF o (e ▸ hb)) (fun e => hvF b o e hb)
  have ee := Cx.new_ext (C := C) (w := w) (w' := w') hn v' hFk
  have hs2 : (C.new nid v').σ nid = v' := by simp [Cx.new, upd]
  have hσ' : (C.new nid v').σ id = .pointer (some ⟨g, 0, none⟩) := by rw [ee.σ id hlid]; exact hσ
  obtain ⟨A', c', rfl⟩ : ∃ A' c', v' = .slice A' (l.length + s.length) c' := by
    rcases e2.2 with ⟨h1, h2⟩ | ⟨g', cap, cur, h1, _⟩
    · exact ⟨none, 0, by rw [h1, h2]⟩
    · exact ⟨_, _, h1⟩
  have hlm : l.length + s.length ≤ maxLen := by unfold maxLen; omega
  have hnewF : ∀ k, (Value.slice A' (l.length + s.length) c').ownBlock = some k → ∀ o, ¬ C.F k o := by
    intro k hk o hb
    rcases e4 with h | h
    · have := h k hk; have := hF k o hb; omega
    · exact hvF k o (h ▸ hk) hb
  -- the row's new block stands for the new list
  have hvec : ∀ (q3 : RepL (cF C.F) w vals ((l.map (D.int .u8)).flatMap D.cells)), BRep (C.new nid (.slice A' (l.length + s.length) c')) w' 0 nid (.vec 5 1 ((l ++ toI s).map (D.int .u8)) false) := by
    intro q3
    refine ⟨vals ++ Lib.strCells ⟨s.toArray⟩, ?_, flatU8_len _, ?_, ?_⟩
    · rw [hs2]; simpa [toI_length] using e2
    · rw [List.map_append, List.flatMap_append]
      exact (q3.ext ee.cF).append (strCells_rep s)
    · intro k hk
      rw [hs2] at hk
      exact ⟨fun o ho => absurd ho (hnewF k hk o), fun h => by cases h⟩
  have hbox : BRep (C.new nid (.slice A' (l.length + s.length) c')) w' 0 id (.bbox 129 [.sp id, .own nid (l.length + s.length)]) := by
    refine ⟨g, #[.pointer (some ⟨g, 0, none⟩), .slice A' (l.length + s.length) c'], hσ', Nat.zero_le _, e1, ?_, hnoF⟩
    have x1 : Rep w' (C.new nid (.slice A' (l.length + s.length) c')) (.pointer (some ⟨g, 0, none⟩)) (.sp id) := .sp1 id g (Or.inl hlid) hσ'
    have x2 : Rep w' (C.new nid (.slice A' (l.length + s.length) c')) (.slice A' (l.length + s.length) c') (.own nid (l.length + s.length)) := .own nid _ c' A' (Or.inr rfl) hlm hs2
    exact (RepL.one1 rfl x1).append (RepL.one1 rfl x2)
  -- everything else is as it was
  have hrest : ∀ j bj, j ≠ id → (∀ k, blockOf (C.σ j) = some k → v.ownBlock ≠ some k) → H j = some bj → (C.new nid (.slice A' (l.length + s.length) c')).live j ∧ BRep (C.new nid (.slice A' (l.length + s.length) c')) w' 0 j bj := by
    intro j bj hj hv hb
    obtain ⟨h1, h2⟩ := hH.rep j bj hb
    exact ⟨.inl h1, h2.keep h1 ee (fun k hk => hout k (h2.lt k hk).2 (fun e => hH.apart j id _ _ hb hid hj k hk (by rw [hσ, e]; rfl)) (hv k hk)) (fun k o _ h => h)⟩
  have hrepr : Rep w' (C.new nid (.slice A' (l.length + s.length) c')) (.tuple #[.int .i64 ((⟨s.toArray⟩ : ByteArray).size : Int), .nilIface]) (.tup [.int .i64 s.length, .err false]) := by
    rw [hssz]
    refine .tup [.int .i64 s.length, .nilIface] _ rfl ?_
    intro i v d hv hd
    match i with
    | 0 => simp at hv hd; subst hv hd; exact .int _ _ (by unfold inR; simp only [kLo, kHi]; omega)
    | 1 => simp at hv hd; subst hv hd; exact .err0
    | i + 2 => simp at hv
  have hdead : ∀ b, H nid ≠ some b := fun b hb => hn (hH.rep nid b hb).1
  have hfin : ∀ H', (∀ j, j ≠ id → j ≠ nid → ∀ b, H' j = some b → H j = some b ∧ ∀ k, blockOf (C.σ j) = some k → v.ownBlock ≠ some k) → H' nid = some (.vec 5 1 ((l ++ toI s).map (D.int .u8)) false) → H' id = some (.bbox 129 [.sp id, .own nid (l.length + s.length)]) →
      RepL (cF C.F) w vals ((l.map (D.int .u8)).flatMap D.cells) → HOK (C.new nid (.slice A' (l.length + s.length) c')) w' B H' := by
    intro H' hold hnew hnb q3
    have bσ : ∀ j b, j ≠ id → j ≠ nid → H' j = some b → (C.new nid (.slice A' (l.length + s.length) c')).σ j = C.σ j := fun j b h1 h2 h3 => ee.σ j (hH.rep j b (hold j h1 h2 b h3).1).1
    have bnid : ∀ k, blockOf (Value.slice A' (l.length + s.length) c') = some k → w.heap.size ≤ k ∨ v.ownBlock = some k := by
      intro k hk
      rw [blockOf_own] at hk
      rcases e4 with h | h
      · exact .inl (h k hk)
      · exact .inr (h ▸ hk)
    have apn : ∀ j b, j ≠ id → j ≠ nid → H' j = some b → ∀ k, blockOf (C.σ j) = some k → blockOf (Value.slice A' (l.length + s.length) c') ≠ some k := by
      intro j b h1 h2 h3 k hk hk2
      obtain ⟨h4, h5⟩ := hold j h1 h2 b h3
      rcases bnid k hk2 with h | h
      · have := ((hH.rep j b h4).2.lt k hk).2; omega
      · exact h5 k hk h
    have apb : ∀ j b, j ≠ id → j ≠ nid → H' j = some b → ∀ k, blockOf (C.σ j) = some k → k ≠ g := by
      intro j b h1 h2 h3 k hk e
      exact hH.apart j id b _ (hold j h1 h2 b h3).1 hid h1 k hk (by rw [hσ, e]; rfl)
    have apnb : ∀ k, blockOf (Value.slice A' (l.length + s.length) c') = some k → k ≠ g := by
      intro k hk e
      rcases bnid k hk with h | h
      · omega
      · exact hvne (e ▸ h)
    refine ⟨fun j b hj => ?_, fun j b hj k hk => ?_, fun j k cs hj => ?_, fun j j' b b' hj hj' hjj k hk hk' => ?_⟩
    · by_cases h1 : j = id
      · subst h1; rw [hnb] at hj; injection hj with hj; subst hj; exact ⟨.inl hlid, hbox⟩
      · by_cases h2 : j = nid
        · subst h2; rw [hnew] at hj; injection hj with hj; subst hj; exact ⟨.inr rfl, hvec q3⟩
        · obtain ⟨h3, h4⟩ := hold j h1 h2 b hj
          exact hrest j b h1 h4 h3
    · by_cases h1 : j = id
      · subst h1; rw [hσ'] at hk; simp [blockOf] at hk; subst hk; exact hgM
      · by_cases h2 : j = nid
        · subst h2
          rw [hs2] at hk
          rcases bnid k hk with h | h
          · exact hbase k h
          · exact hvM k h
        · rw [bσ j b h1 h2 hj] at hk
          exact hH.own j b (hold j h1 h2 b hj).1 k hk
    · by_cases h1 : j = id
      · subst h1; rw [hnb] at hj; cases hj
      · by_cases h2 : j = nid
        · subst h2; rw [hnew] at hj; cases hj
        · rw [bσ j _ h1 h2 hj]; exact hH.pin j k cs (hold j h1 h2 _ hj).1
    · by_cases h1 : j = id
      · subst h1
        rw [hσ'] at hk; simp [blockOf] at hk; subst hk
        by_cases h2 : j' = nid
        · subst h2; rw [hs2] at hk'; exact apnb _ hk' rfl
        · rw [bσ j' b' (fun e => hjj e.symm) h2 hj'] at hk'
          exact apb j' b' (fun e => hjj e.symm) h2 hj' _ hk' rfl
      · by_cases h2 : j = nid
        · subst h2
          rw [hs2] at hk
          by_cases h3 : j' = id
          · subst h3; rw [hσ'] at hk'; simp [blockOf] at hk'; subst hk'; exact apnb _ hk rfl
          · rw [bσ j' b' h3 (fun e => hjj e.symm) hj'] at hk'
            exact apn j' b' h3 (fun e => hjj e.symm) hj' k hk' hk
        · rw [bσ j b h1 h2 hj] at hk
          by_cases h3 : j' = id
          · subst h3; rw [hσ'] at hk'; simp [blockOf] at hk'; subst hk'; exact apb j b h1 h2 hj _ hk rfl
          · by_cases h4 : j' = nid
            · subst h4; rw [hs2] at hk'; exact apn j b h1 h2 hj k hk hk'
            · rw [bσ j' b' h3 h4 hj'] at hk'
              exact hH.apart j j' b b' (hold j h1 h2 b hj).1 (hold j' h3 h4 b' hj').1 hjj k hk hk'
  refine ⟨_, C.new nid (.slice A' (l.length + s.length) c'), rfl, hbel, ee, hrepr, ?_, fun b o h => Nat.lt_of_lt_of_le (hF b o h) e5.size, fun _ h => h, fun _ _ h => .inl h⟩
  rcases hd with ⟨rfl, rfl, rfl⟩ | ⟨id2, rfl, h2, h3, rfl⟩
  · cases hv
    have hvn : vals = [] := List.eq_nil_of_length_eq_zero hvals
    refine hfin _ (fun j h1 h2 b hb => ?_) (by simp [appEff, upd, hne]) (by simp [appEff, upd]) (by rw [hvn]; exact RepL.nil)
    simp [appEff, upd, h1, h2] at hb
    exact ⟨hb, by simp [Value.ownBlock]⟩
  · cases hv with
    | own _ _ c A hl2 hm2 hσ2 =>
      obtain ⟨_, vals2, q1, q2, q3, q4⟩ := hH.rep id2 _ h2
      rw [hσ2] at q1
      have hn2 : nid ≠ id2 := fun e => hdead _ (e ▸ h2)
      have hvv : vals2 = vals := by
        rcases q1.2 with ⟨r1, r2⟩ | ⟨g1, cap1, cur1, r1, r2, r3, r4, r5, r6, r7⟩
        · have r2' : l.length = 0 := by simpa using r2
          rw [List.eq_nil_of_length_eq_zero (l := vals) (by omega), List.eq_nil_of_length_eq_zero (l := vals2) (by have := q1.1; simp at this; omega)]
        · rcases hown.2 with ⟨t1, t2⟩ | ⟨g2, cap2, cur2, t1, t2, t3, t4, t5, t6, t7⟩
          · rw [t1] at r1; cases r1
          · rw [r1] at t1; injection t1 with t1 _ _; injection t1 with t1; injection t1 with t1
            subst t1
            rw [r3] at t3; injection t3 with t3; injection t3 with t3
            subst t3
            rw [← r7, ← t7]; simp [hvals]
      refine hfin _ (fun j h1 h2' b hb => ?_) (by simp [appEff, upd, hne]) (by simp [appEff, upd]) (by rw [← hvv]; exact q3)
      by_cases hj2 : j = id2
      · subst hj2; simp [appEff, upd, h1, h2'] at hb
      · simp [appEff, upd, h1, h2', hj2] at hb
        exact ⟨hb, fun k hk hk2 => hH.apart j id2 _ _ hb h2 hj2 k hk (by rw [hσ2, blockOf_own]; exact hk2)⟩

/-- WriteString to a builder that holds nothing. -/
theorem c_WriteString0 (I : World → Prop) {id nid : Nat} {s : List UInt8} {H : Nat → Option Blk} (hid : H id = some (.bbox 129 [.sp id, .nils])) (hlen : s.length ≤ 140737488355328) (hne : nid ≠ id) :
    CallOK Tryd.prog I 69 [.ptr id 0, .str s] H nid (.tup [.int .i64 s.length, .err false]) [(nid, some (.vec 5 1 ((toI s).map (D.int .u8)) false)), (id, some (.bbox 129 [.sp id, .own nid (toI s).length]))] :=
  wrote I id nid s [] H .nils _ hid (by simpa using hlen) hne (.inl ⟨rfl, rfl, by simp [toI_length]⟩)
/-- WriteString to one that holds something. -/
theorem c_WriteString1 (I : World → Prop) {id nid id2 n : Nat} {s : List UInt8} {l : List Int} {H : Nat → Option Blk} (hid : H id = some (.bbox 129 [.sp id, .own id2 n])) (h2 : H id2 = some (.vec 5 1 (l.map (D.int .u8)) false)) (hn : n = l.length) (hlen : l.length + s.length ≤ 140737488355328) (hne : nid ≠ id) :
    CallOK Tryd.prog I 69 [.ptr id 0, .str s] H nid (.tup [.int .i64 s.length, .err false]) [(id2, none), (nid, some (.vec 5 1 ((l ++ toI s).map (D.int .u8)) false)), (id, some (.bbox 129 [.sp id, .own nid (l ++ toI s).length]))] := by
  subst hn
  exact wrote I id nid s l H _ _ hid hlen hne (.inr ⟨id2, rfl, h2, fun e => (by rw [e, hid] at h2; cases h2), by simp [toI_length]⟩)

theorem below_all {w w' : World} (h : Below w.heap.size w w') (M : Nat → Prop) : BelM M w w' := BelM.of h
set_option maxHeartbeats 2000000 in
theorem bldString_row (b g cap : Nat) (p : Value) (cur : Array Value) (l : List UInt8) (w : World) (h0 : l ≠ []) (hbk : w.heap[b]? = some (.cells #[p, .slice (some ⟨g, 0, none⟩) l.length cap] 129 (0, 0)))
    (hown : w.ownsRow 0 5 1 (.slice (some ⟨g, 0, none⟩) l.length cap) l.length (Lib.byteCells l)) :
    Calls Tryd.prog 70 #[.pointer (some ⟨b, 0, none⟩)] w fun e w' => e = .returned (.string ⟨l.toArray⟩) ∧ BelM (fun k => w.heap.size ≤ k ∨ k = g) w w' := by
  have hl0 : l.length ≠ 0 := by simpa using h0
  obtain ⟨cur, hg, hnc, hcm, hcs⟩ : ∃ cur, w.heap[g]? = some (.cells cur 5 (0, 0)) ∧ l.length ≤ cap ∧ cap ≤ maxLen ∧ cur.size = cap * 1 := by
    rcases hown.2 with ⟨_, hz⟩ | ⟨g', cap', cur, hv, _, h1, h2, h3, h4, _⟩
    · exact absurd hz hl0
    · injection hv with hv1 _ hv2; injection hv1 with hv1; injection hv1 with hv1
      subst hv1 hv2; exact ⟨cur, h1, h2, h3, h4⟩
  have c1 : w.drew.cell? ⟨b, 1, none⟩ = some (.slice (some ⟨g, 0, none⟩) l.length cap) := by
    have : w.drew.heap[b]? = some (.cells #[p, .slice (some ⟨g, 0, none⟩) l.length cap] 129 (0, 0)) := hbk
    rw [Lib.cell_of_heap this]; rfl
  have hSD : (Builtin.unsafeSliceData_ #[127] 181 #[.slice (some ⟨g, 0, none⟩) l.length cap]).run Tryd.prog w.drew = .ok (.pointer (some ⟨g, 0, none⟩)) w.drew :=
    Lib.run_unsafeSliceData_row _ _ _ _ _ _ (by omega)
  have hUS : (Builtin.unsafeString_ #[181, 3] 9 #[.pointer (some ⟨g, 0, none⟩), .int .i64 l.length]).run Tryd.prog w.drew = .ok (.string ⟨l.toArray⟩) (w.drew.freeze ⟨g, 0, none⟩ l.length) := by
    refine Lib.run_unsafeString_row w.drew 181 3 9 5 Tryd.underlying181 (by kernel_rfl) g cur.size (by have hg' : w.drew.heap[g]? = some (.cells cur 5 (0, 0)) := hg; simp [World.shape?, hg']) l h0 (by omega) (by unfold maxLen at hcm; omega) ?_
    intro j x hx
    exact hown.cells (g := g) rfl j (.int .u8 x.toNat) (by simp [Lib.byteCells, hx])
  have mixed : Tryd.prog.follows .mixedOrders = true := by kernel_rfl
  have hbf := Lib.below_freeze (Below.drew (Below.refl g w)) (p := ⟨g, 0, none⟩) (Nat.le_refl _) l.length
  have hoth : ∀ k, k ≠ g → (w.drew.freeze ⟨g, 0, none⟩ l.length).heap[k]? = w.heap[k]? := by
    intro k hk
    simp only [World.freeze, hl0, if_false]
    rw [Array.getElem?_modify]
    simp only [Ne.symm hk, if_false]
    rfl
  have HB := Lib.hid (And.intro hbf hoth)
  clear hbf hoth
  go_enter Tryd.func70, Tryd.ntmps70
  go_wp2
  go_region_o
  all_goals (go_wp2; go_ret; exact ⟨rfl, HB.out.1.os, HB.out.1.tape, HB.out.1.output, HB.out.1.size, fun k _ hm => HB.out.2 k (fun e => hm (.inr e))⟩)

/-- A call that changes nothing and returns a string. -/
theorem callString {P : Program} {C : Cx} {w w' : World} {B : Bx} {H : Nat → Option Blk} {nid : Nat} {l : List UInt8} (hH : HOK C w B H) (hF : FB C w) (hb : Below w.heap.size w w') (hl : l.length ≤ maxLen) :
    ∃ v C', Ending.returned (.string ⟨l.toArray⟩) = .returned v ∧ BelM B.M w w' ∧ Ext C w C' w' ∧ Rep w' C' v (.str l) ∧ HOK C' w' B (appEff H []) ∧ FB C' w' ∧ (∀ id, C'.live id → C.live id ∨ id = nid) ∧ ∀ b o, C'.F b o → C.F b o ∨ B.M b := by
  have ee : Ext C w C w' := ⟨fun _ _ h => h, fun b o h => hb.block b (hF b o h), fun _ h => h, fun _ _ => rfl⟩
  refine ⟨_, C, rfl, BelM.of hb, ee, .str l hl, ⟨fun id b h => ?_, hH.own, hH.pin, hH.apart⟩, fun b o h => Nat.lt_of_lt_of_le (hF b o h) hb.size, fun _ h => .inl h, fun _ _ h => .inl h⟩
  obtain ⟨k1, k2⟩ := hH.rep id b h
  exact ⟨k1, k2.keep k1 ee (fun g hg => hb.block g (k2.lt g hg).2) (fun _ _ _ h => h)⟩
/-- String: what has been written. -/
theorem c_String0 (I : World → Prop) {id nid : Nat} {H : Nat → Option Blk} (hid : H id = some (.bbox 129 [.sp id, .nils])) : CallOK Tryd.prog I 70 [.ptr id 0] H nid (.str []) [] := by
  refine ⟨by kernel_rfl, fun i0 w C B args hI hb0 hM hH hF hbase hn hal hrep => ?_⟩
  obtain ⟨a0, rfl⟩ : ∃ a0, args = [a0] := by
    match args, hal with
    | [a], _ => exact ⟨a, rfl⟩
  have r0 := hrep 0 a0 _ rfl rfl
  cases r0 with
  | ptr _ _ g hlid hσ =>
  obtain ⟨k0, k1⟩ := hH.rep id _ hid
  obtain ⟨v, ⟨p, hp, hB⟩, hv, hnoF⟩ := bld_block hσ k1
  cases hv
  have hglt : g < w.heap.size := (Array.getElem?_eq_some_iff.1 hB).1
  refine (Any.Builder_String_nil Tryd.lays169 Tryd.Builder_Extra_169 w.heap.size g p w hB).mono ?_
  rintro e w' ⟨rfl, hb⟩
  exact callString (P := Tryd.prog) (l := []) hH hF hb (by simp)
theorem byteCells_toI {w : World} {C : Cx} {vals : List Value} {l : List Int} (h : RepL C w vals ((l.map (D.int .u8)).flatMap D.cells)) : vals = Lib.byteCells (bytesOf l) := by
  rw [flatU8] at h
  have e := repU8 h
  rw [e]
  simp only [Lib.byteCells, bytesOf, List.map_map]
  apply List.map_congr_left
  intro n hn
  obtain ⟨i, hi⟩ := List.getElem?_of_mem hn
  have hv : vals[i]? = some (.int .u8 n) := by rw [e]; simp [hi]
  have := h.rep i _ (.int .u8 n) hv (by simp [hi])
  cases this with
  | int _ _ hr =>
    unfold inR at hr; simp only [kLo, kHi] at hr
    simp only [Function.comp, UInt8.toNat_ofNat']
    congr 1; omega
/-- String of a builder that holds something: its row is done with. -/
theorem c_String1 (I : World → Prop) {id nid id2 n : Nat} {l : List Int} {H : Nat → Option Blk} (hid : H id = some (.bbox 129 [.sp id, .own id2 n])) (h2 : H id2 = some (.vec 5 1 (l.map (D.int .u8)) false)) (hn : n = l.length) :
    CallOK Tryd.prog I 70 [.ptr id 0] H nid (.str (bytesOf l)) [(id2, none), (id, none)] := by
  subst hn
  refine ⟨by kernel_rfl, fun i0 w C B args hI hb0 hM hH hF hbase hn hal hrep => ?_⟩
  obtain ⟨a0, rfl⟩ : ∃ a0, args = [a0] := by
    match args, hal with
    | [a], _ => exact ⟨a, rfl⟩
  have r0 := hrep 0 a0 _ rfl rfl
  cases r0 with
  | ptr _ _ g hlid hσ =>
  obtain ⟨k0, k1⟩ := hH.rep id _ hid
  obtain ⟨v, ⟨p, hp, hB⟩, hv, hnoF⟩ := bld_block hσ k1
  have hdrop : HOK C w B (appEff H [(id2, none), (id, none)]) := (hH.drop id2).drop id
  have plain : ∀ w', Below w.heap.size w w' → bytesOf l = [] → ∃ v C', Ending.returned (.string ⟨#[]⟩) = .returned v ∧ BelM B.M w w' ∧ Ext C w C' w' ∧ Rep w' C' v (.str (bytesOf l)) ∧ HOK C' w' B (appEff H [(id2, none), (id, none)]) ∧ FB C' w' ∧ (∀ id, C'.live id → C.live id ∨ id = nid) ∧ ∀ b o, C'.F b o → C.F b o ∨ B.M b := by
    intro w' hb he
    rw [he]
    obtain ⟨v, C', x⟩ := callString (P := Tryd.prog) (l := []) (nid := nid) hdrop hF hb (by simp)
    exact ⟨v, C', x⟩
  cases hv with
  | own _ _ c A hl2 hm2 hσ2 =>
    obtain ⟨_, vals, q1, q2, q3, q4⟩ := hH.rep id2 _ h2
    rw [hσ2] at q1
    have hvals := byteCells_toI q3
    have hbl : (bytesOf l).length = l.length := by simp [bytesOf]
    rcases q1.2 with ⟨r1, r2⟩ | ⟨g1, cap1, cur1, r1, r2, r3, r4, r5, r6, r7⟩
    · injection r1 with r1 _ r3
      subst r1 r3
      have hl0 : l.length = 0 := by simpa using r2
      rw [hl0] at hB
      refine (Any.Builder_String_nil Tryd.lays169 Tryd.Builder_Extra_169 w.heap.size g p w hB).mono ?_
      rintro e w' ⟨rfl, hb⟩
      exact plain w' hb (List.eq_nil_of_length_eq_zero (by omega))
    · injection r1 with r1 _ r8
      subst r1 r8
      by_cases hl0 : l.length = 0
      · rw [hl0] at hB
        by_cases hc0 : c = 0
        · subst hc0
          refine (Any.Builder_String_noroom Tryd.lays169 Tryd.Builder_Extra_169 w.heap.size g g1 p cur1 w (Nat.le_refl _) hB r3).mono ?_
          rintro e w' ⟨rfl, hb⟩
          exact plain w' hb (List.eq_nil_of_length_eq_zero (by omega))
        · refine (Any.Builder_String_room Tryd.lays169 Tryd.Builder_Extra_169 w.heap.size g g1 c p w hc0 hB).mono ?_
          rintro e w' ⟨rfl, hb⟩
          exact plain w' hb (List.eq_nil_of_length_eq_zero (by omega))
      · have hb1 : w.heap[g]? = some (.cells #[p, .slice (some ⟨g1, 0, none⟩) (bytesOf l).length c] 129 (0, 0)) := by rw [hbl]; exact hB
        have ho1 : w.ownsRow 0 5 1 (.slice (some ⟨g1, 0, none⟩) (bytesOf l).length c) (bytesOf l).length (Lib.byteCells (bytesOf l)) := by rw [hbl, ← hvals]; simpa using q1
        refine (bldString_row g g1 c p cur1 (bytesOf l) w (fun e => hl0 (by rw [← hbl, e]; rfl)) hb1 ho1).mono ?_
        rintro e w' ⟨rfl, hb⟩
        have hg1M : B.M g1 := hH.own id2 _ h2 g1 (by rw [hσ2]; rfl)
        have hnoF1 : ∀ o, ¬ C.F g1 o := fun o ho => by have := ((q4 g1 (by rw [hσ2]; rfl)).1 o ho).1; cases this
        have hsame : ∀ k, k < w.heap.size → k ≠ g1 → w'.heap[k]? = w.heap[k]? := fun k hk h1 => hb.block k hk (by rintro (h | h); omega; exact h1 h)
        have ee : Ext C w C w' := ⟨fun _ _ h => h, fun b o h => hsame b (hF b o h) (fun e => hnoF1 o (e ▸ h)), fun _ h => h, fun _ _ => rfl⟩
        have hbm : BelM B.M w w' := ⟨hb.os, hb.tape, hb.output, hb.size, fun k hk hm => hsame k hk (fun e => hm (e ▸ hg1M))⟩
        refine ⟨_, C, rfl, hbm, ee, .str _ (by rw [hbl]; exact hm2), ⟨fun j b h => ?_, hdrop.own, hdrop.pin, hdrop.apart⟩, fun b o h => Nat.lt_of_lt_of_le (hF b o h) hb.size, fun _ h => .inl h, fun _ _ h => .inl h⟩
        by_cases h3 : j = id
        · subst h3; simp [appEff, upd] at h
        · by_cases h4 : j = id2
          · subst h4; simp [appEff, upd, h3] at h
          · have h5 : H j = some b := by simpa [appEff, upd, h3, h4] using h
            obtain ⟨t1, t2⟩ := hH.rep j b h5
            exact ⟨t1, t2.keep t1 ee (fun k hk => hsame k (t2.lt k hk).2 (fun e => hH.apart j id2 _ _ h5 h2 h4 k hk (by rw [hσ2, e]; rfl))) (fun _ _ _ h => h)⟩
end Go.Proofs.YtipdmcpmedmicaaDoor
