/- Strings cut at a byte, and put together again: plain; no program in sight. -/
import Derived.Test.YtipdmcpmedmicaaDoorR07
set_option linter.unusedSimpArgs false
set_option linter.unusedVariables false
namespace Go.Proofs.YtipdmcpmedmicaaDoor
set_option maxRecDepth 100000

/-- The pieces between a byte. -/
def spB (c : UInt8) : List UInt8 → List (List UInt8)
  | [] => [[]]
  | b :: t => if b = c then [] :: spB c t else match spB c t with
    | [] => [[b]]
    | h :: r => (b :: h) :: r
theorem spB_ne (c : UInt8) (s : List UInt8) : spB c s ≠ [] := by
  cases s with
  | nil => simp [spB]
  | cons b t =>
    simp only [spB]
    split
    · simp
    · split <;> simp
theorem spB_no (c : UInt8) : ∀ (s : List UInt8), c ∉ s → spB c s = [s]
  | [], _ => rfl
  | b :: t, h => by
    have := spB_no c t (fun hx => h (List.mem_cons_of_mem _ hx))
    simp only [spB, this]
    rw [if_neg (fun e => h (by simp [e]))]
theorem spB_app (c : UInt8) : ∀ (x t : List UInt8), c ∉ x → spB c (x ++ c :: t) = x :: spB c t
  | [], t, _ => by simp [spB]
  | b :: x, t, h => by
    have ih := spB_app c x t (fun hx => h (List.mem_cons_of_mem _ hx))
    simp only [List.cons_append, spB, ih]
    rw [if_neg (fun e => h (by simp [e]))]
theorem spB_join (c : UInt8) : ∀ (ws : List (List UInt8)), ws ≠ [] → (∀ w ∈ ws, c ∉ w) → spB c (Lib.join ws [c]) = ws
  | [], h, _ => absurd rfl h
  | [w], _, h => by rw [Lib.join_one]; exact spB_no c w (h w (by simp))
  | w :: v :: ws, _, h => by
    have ih := spB_join c (v :: ws) (by simp) (fun x hx => h x (List.mem_cons_of_mem _ hx))
    rw [Lib.join_cons] at ih ⊢
    have e : Lib.joinTail [c] (v :: ws) = c :: (v ++ Lib.joinTail [c] ws) := by simp [Lib.joinTail]
    rw [e, spB_app c w _ (h w (by simp)), ih]
theorem join_spB (c : UInt8) : ∀ (s : List UInt8), Lib.join (spB c s) [c] = s
  | [] => by simp [spB, Lib.join_one]
  | b :: t => by
    have ih := join_spB c t
    simp only [spB]
    split
    · rename_i he
      subst he
      cases hsp : spB b t with
      | nil => exact absurd hsp (spB_ne b t)
      | cons h r =>
        rw [hsp, Lib.join_cons] at ih
        rw [Lib.join_cons]
        simp only [Lib.joinTail, List.map_cons, List.flatten_cons, List.nil_append, List.singleton_append, List.cons_append] at ih ⊢
        rw [ih]
    · cases hsp : spB c t with
      | nil => exact absurd hsp (spB_ne c t)
      | cons h r =>
        simp only
        rw [hsp, Lib.join_cons] at ih
        rw [Lib.join_cons, List.cons_append, ih]
theorem spB_hit (c : UInt8) : ∀ (i : Nat) (s : List UInt8) (hi : i < s.length), s[i] = c → (∀ (j : Nat) (hj : j < i), s[j] ≠ c) → spB c s = s.take i :: spB c (s.drop (i + 1))
  | 0, b :: t, _, h10, _ => by
    have : b = c := h10
    simp [spB, this]
  | i + 1, b :: t, hi, h10, hn => by
    have h0 : b ≠ c := hn 0 (by omega)
    have := spB_hit c i t (by simpa using hi) (by simpa using h10) (fun j hj => by have := hn (j + 1) (by omega); simpa using this)
    simp only [spB, if_neg h0, this]
    simp
  | 0, [], hi, _, _ => by simp at hi
  | _ + 1, [], hi, _, _ => by simp at hi
theorem split_eqB (c : UInt8) : ∀ (n : Nat) (s : List UInt8), s.length ≤ n → Lib.split s [c] = spB c s := by
  intro n
  induction n with
  | zero => intro s hs; have : s = [] := List.eq_nil_of_length_eq_zero (by omega); subst this; rfl
  | succ n ih =>
    intro s hs
    have hix := Lib.index_one s c
    by_cases hm : Lib.index s [c] = -1
    · have hno : c ∉ s := by
        intro hb
        obtain ⟨k, hk⟩ := List.getElem?_of_mem hb
        exact Lib.indexByte_none (by rw [← hix]; exact hm) k hk
      rw [spB_no c s hno]
      unfold Lib.split
      rw [Lib.count_miss hm]
      rfl
    · have hge := Lib.index_ge s [c]
      obtain ⟨i, hi⟩ : ∃ i : Nat, Lib.index s [c] = i := ⟨(Lib.index s [c]).toNat, by omega⟩
      obtain ⟨h1, h2⟩ := Lib.indexByte_some (by rw [← hix]; exact hi)
      obtain ⟨hlt, hget⟩ := List.getElem?_eq_some_iff.1 h1
      have hspl := spB_hit c i s hlt hget (fun j hj h10 => h2 j hj (by rw [List.getElem?_eq_getElem (by omega), h10]))
      rw [hspl]
      unfold Lib.split
      rw [Lib.count_hit (by simp) hi, Nat.add_comm]
      unfold Lib.splitK
      have hne : ¬ (Lib.index s [c] == -1) = true := by simp; omega
      rw [if_neg hne, hi]
      simp only [Int.toNat_natCast, Nat.add_zero, List.length_cons, List.length_nil, Nat.zero_add]
      congr 1
      exact ih (s.drop (i + 1)) (by simp; omega)
theorem Split_eq (s : List UInt8) (c : UInt8) (hs : s.length < 4294967281) : g_strings_Split s [c] = some (spB c s) := by
  unfold g_strings_Split
  rw [if_pos ⟨hs, by simp⟩, split_eqB c s.length s (Nat.le_refl _)]
/-- strings.Cut at a byte. -/
theorem Cut_eq (s : List UInt8) (c : UInt8) : Lib.cut s [c] = match spB c s with
    | [] => (s, [], false)
    | [w] => (w, [], false)
    | w :: v :: r => (w, Lib.join (v :: r) [c], true) := by
  have hix := Lib.index_one s c
  by_cases hm : Lib.index s [c] = -1
  · have hno : c ∉ s := by
      intro hb
      obtain ⟨k, hk⟩ := List.getElem?_of_mem hb
      exact Lib.indexByte_none (by rw [← hix]; exact hm) k hk
    rw [spB_no c s hno]
    unfold Lib.cut
    rw [if_neg (by omega)]
  · have hge := Lib.index_ge s [c]
    obtain ⟨i, hi⟩ : ∃ i : Nat, Lib.index s [c] = i := ⟨(Lib.index s [c]).toNat, by omega⟩
    obtain ⟨h1, h2⟩ := Lib.indexByte_some (by rw [← hix]; exact hi)
    obtain ⟨hlt, hget⟩ := List.getElem?_eq_some_iff.1 h1
    have hspl := spB_hit c i s hlt hget (fun j hj h10 => h2 j hj (by rw [List.getElem?_eq_getElem (by omega), h10]))
    rw [hspl]
    unfold Lib.cut
    rw [if_pos (by omega), hi]
    have hj := join_spB c (s.drop (i + 1))
    cases hsp : spB c (s.drop (i + 1)) with
    | nil => exact absurd hsp (spB_ne _ _)
    | cons v r =>
      rw [hsp] at hj
      simp only [Int.toNat_natCast, List.length_cons, List.length_nil, Nat.zero_add]
      rw [hj]
/-- A number that may stand there is read from its decimal. -/
theorem numS_in (n lo hi : Int) (h0 : -9223372036854775808 ≤ n) (h1 : n ≤ 9223372036854775807) (hl : lo ≤ n) (hh : n ≤ hi) : numS (Lib.itoa n) lo hi = (n, 0) := by
  have h := numS_itoa n h0 h1
  unfold numS at h ⊢
  by_cases hb : numBad (Lib.itoa n) = true
  · rw [if_pos hb] at h; simp at h
  · rw [if_neg hb] at h ⊢
    split at h
    · simp at h
    · rename_i hc
      have hv : numVal (Lib.itoa n) = n := by injection h
      rw [hv] at hc ⊢
      rw [if_neg (by omega)]
end Go.Proofs.YtipdmcpmedmicaaDoor
