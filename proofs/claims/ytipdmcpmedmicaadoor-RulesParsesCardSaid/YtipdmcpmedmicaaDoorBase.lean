/- Words for what a slice holds, and small lemmas on worlds: own definitions for this seat's walks. No condition. -/
import Derived.WalkKit
import Derived.WalkSpells
import Derived.WalkLawsBesides
import Derived.KernelRfl
import Derived.BigQuiet
import Derived.Deep.QuietTactic
import Derived.Deep.DeepCutAuto
import Derived.Deep.Draws
import Derived.Lib.Hide
set_option linter.unusedSimpArgs false
set_option linter.unusedVariables false
namespace Go.Proofs.YtipdmcpmedmicaaDoor
open Go.RowKit

/-- A slice's address A and its elements L, each written out as k cells, in a block below B; no address is asked of an empty one. -/
def RdL {α : Type} (enc : α → List Value) (k : Nat) (w : World) (B : Nat) (A : Option Addr) (L : List α) : Prop :=
  L = [] ∨ ∃ b off, A = some ⟨b, off, none⟩ ∧ b < B ∧ ∀ i x, L[i]? = some x → ∀ j v, (enc x)[j]? = some v → w.cell? ⟨b, off + i * k + j, none⟩ = some v

section
variable {α : Type} {enc : α → List Value} {k : Nat} {w w' : World} {B B' : Nat} {A : Option Addr} {L : List α}
theorem RdL.nil : RdL enc k w B A [] := .inl rfl
theorem RdL.at_ (h : RdL enc k w B A L) (hn : 0 < L.length) : ∃ b off, A = some ⟨b, off, none⟩ ∧ b < B ∧ ∀ i x, L[i]? = some x → ∀ j v, (enc x)[j]? = some v → w.cell? ⟨b, off + i * k + j, none⟩ = some v := by
  rcases h with rfl | h
  · simp at hn
  · exact h
theorem RdL.keep (h : RdL enc k w B A L) (hk : ∀ p : Addr, p.block < B → w'.cell? p = w.cell? p) : RdL enc k w' B A L := by
  rcases h with h | ⟨b, off, e, hb, hc⟩
  · exact .inl h
  · exact .inr ⟨b, off, e, hb, fun i x hx j v hv => (hk _ hb).trans (hc i x hx j v hv)⟩
theorem RdL.more (h : RdL enc k w B A L) (hB : B ≤ B') : RdL enc k w B' A L := by
  rcases h with h | ⟨b, off, e, hb, hc⟩
  · exact .inl h
  · exact .inr ⟨b, off, e, by omega, hc⟩
theorem RdL.below (h : RdL enc k w B A L) (hb : Below B w w') : RdL enc k w' B A L := h.keep fun _ hp => hb.cell hp
theorem RdL.drewN (h : RdL enc k w B A L) (q : Nat) : RdL enc k (w.drewN q) B A L := h
/-- A row of the call's own reads so. -/
theorem RdL.of_own {base : Nat} {e : TypeId} {n c : Nat} {xs : List Value} (h : w.ownsRow base e k (.slice A n c) n xs) (hx : ∀ i x, L[i]? = some x → ∀ j v, (enc x)[j]? = some v → xs[i * k + j]? = some v) (hn : n = L.length) : RdL enc k w w.heap.size A L := by
  by_cases h0 : L = []
  · exact .inl h0
  · have hp : 0 < n := by rw [hn]; exact List.length_pos_iff.2 h0
    rcases h.2 with ⟨hv, h1⟩ | ⟨g, cap, cur, hv, hg, hh, _, _, _, _⟩
    · omega
    · have hA : A = some ⟨g, 0, none⟩ := by injection hv
      subst hA
      refine .inr ⟨g, 0, rfl, (h.lt g rfl).2, fun i x hi j v hv' => ?_⟩
      have := h.cells (g := g) rfl _ v (hx i x hi j v hv')
      rw [← this]
      congr 1
      unfold Addr.add
      split
      · rename_i e0
        rw [show 0 + i * k + j = 0 by omega]
      · simp
end

/-- Cells of a list of equal-sized elements, one behind the other. -/
theorem flat_at {α : Type} (enc : α → List Value) (k : Nat) (hk : ∀ x, (enc x).length = k) : ∀ (L : List α) (i : Nat) (x : α), L[i]? = some x → ∀ j v, (enc x)[j]? = some v → (L.flatMap enc)[i * k + j]? = some v := by
  intro L
  induction L with
  | nil => intro i x h; simp at h
  | cons a t ih =>
    intro i x h j v hv
    have hj : j < k := by rw [← hk x]; exact (List.getElem?_eq_some_iff.1 hv).1
    rw [List.flatMap_cons]
    cases i with
    | zero =>
      simp at h
      subst h
      rw [Nat.zero_mul, Nat.zero_add, List.getElem?_append_left (by rw [hk]; exact hj)]
      exact hv
    | succ i =>
      simp at h
      have := ih i x h j v hv
      rw [List.getElem?_append_right (by rw [hk, Nat.succ_mul]; omega), hk, show (i + 1) * k + j - k = i * k + j by rw [Nat.succ_mul]; omega]
      exact this

theorem flat_len {α : Type} (enc : α → List Value) (k : Nat) (hk : ∀ x, (enc x).length = k) (L : List α) : (L.flatMap enc).length = L.length * k := by
  induction L with
  | nil => simp
  | cons a t ih => rw [List.flatMap_cons, List.length_append, hk, ih, List.length_cons, Nat.succ_mul]; omega

def encI (x : Int) : List Value := [.int .i64 x]
/-- A slice of int64 (or int) that reads as a list. -/
def RdI (w : World) (B : Nat) (A : Option Addr) (L : List Int) : Prop := RdL encI 1 w B A L

theorem RdI.at_ {w : World} {B : Nat} {A : Option Addr} {L : List Int} (h : RdI w B A L) (hn : 0 < L.length) : ∃ b off, A = some ⟨b, off, none⟩ ∧ b < B ∧ ∀ i (hi : i < L.length), w.cell? ⟨b, off + i, none⟩ = some (.int .i64 L[i]) := by
  obtain ⟨b, off, e, hb, hc⟩ := RdL.at_ h hn
  refine ⟨b, off, e, hb, fun i hi => ?_⟩
  have := hc i _ (List.getElem?_eq_getElem hi) 0 (.int .i64 L[i]) rfl
  simpa using this

theorem RdI.below {w w' : World} {B : Nat} {A : Option Addr} {L : List Int} (h : RdI w B A L) (hb : Below B w w') : RdI w' B A L := RdL.below h hb
theorem RdI.more {w : World} {B B' : Nat} {A : Option Addr} {L : List Int} (h : RdI w B A L) (hB : B ≤ B') : RdI w B' A L := RdL.more h hB
theorem ints_cells (P : List Int) : ∀ i x, P[i]? = some x → ∀ j v, (encI x)[j]? = some v → (P.map (Value.int .i64))[i * 1 + j]? = some v := by
  intro i x h j v hv
  cases j with
  | zero => simp [encI] at hv; subst hv; simp [h]
  | succ j => simp [encI] at hv
theorem RdI.of_own {w : World} {base : Nat} {e : TypeId} {n c : Nat} {A : Option Addr} {P : List Int} (h : w.ownsRow base e 1 (.slice A n c) n (P.map (Value.int .i64))) (hn : n = P.length) : RdI w w.heap.size A P :=
  RdL.of_own h (ints_cells P) hn
/-- An owned value is a slice of that length. -/
theorem own_form {w : World} {base : Nat} {e : TypeId} {size n : Nat} {v : Value} {xs : List Value} (h : w.ownsRow base e size v n xs) : ∃ A c, v = .slice A n c := by
  rcases h.2 with ⟨rfl, rfl⟩ | ⟨g, cap, cur, rfl, _⟩
  · exact ⟨_, _, rfl⟩
  · exact ⟨_, _, rfl⟩
/-- The cells of a block that was just made. -/
theorem new_cells (w : World) (t : TypeId) (xs : List Value) : ∀ j u, xs[j]? = some u → (w.alloc (.cells xs.toArray t)).cell? ((⟨w.heap.size, 0, none⟩ : Addr).add j) = some u := by
  intro j u hu
  have h := fun i => cell_of_row (w.alloc (.cells xs.toArray t)) w.heap.size i xs.toArray t (0, 0) (heap_alloc_new w _)
  unfold Addr.add
  split
  · rename_i e0
    subst e0
    rw [h]; simpa using hu
  · rw [Nat.zero_add, h]; simpa using hu

theorem ret_int {k : IntKind} {a b : Int} (h : a = b) : Ending.returned (.int k a) = .returned (.int k b) := by rw [h]
theorem ret_str {a b : List UInt8} (h : a = b) : Ending.returned (.string ⟨a.toArray⟩) = .returned (.string ⟨b.toArray⟩) := by rw [h]
theorem ret_bool {a b : Bool} (h : a = b) : Ending.returned (.bool a) = .returned (.bool b) := by rw [h]
theorem ret_ib {a b : Int} {c d : Bool} (h : (a, c) = (b, d)) : Ending.returned (.tuple #[.int .i64 a, .bool c]) = .returned (.tuple #[.int .i64 b, .bool d]) := by
  obtain ⟨rfl, rfl⟩ := Prod.mk.injEq .. ▸ h; rfl
/-- An owned row is kept by whatever changes no older block. -/
theorem own_below {w w' : World} {base : Nat} {e : TypeId} {size n : Nat} {v : Value} {xs : List Value} (h : w.ownsRow base e size v n xs) (hb : Below w.heap.size w w') : w'.ownsRow base e size v n xs :=
  h.kept (row := none) ⟨hb.os, hb.tape, hb.output, hb.size, fun n hn _ => hb.block n hn⟩ (by
    cases hv : v.ownBlock with
    | none => exact .inl rfl
    | some g => exact .inr (by simp))
theorem own_wide {w : World} {base base' : Nat} {e : TypeId} {size n : Nat} {v : Value} {xs : List Value} (h : w.ownsRow base e size v n xs) (hb : base' ≤ base) : w.ownsRow base' e size v n xs := by
  refine ⟨h.1, ?_⟩
  rcases h.2 with h0 | ⟨g, cap, cur, h1, h2, h3⟩
  · exact .inl h0
  · exact .inr ⟨g, cap, cur, h1, by omega, h3⟩
theorem heap_at_new (w : World) (o : Obj) (n : Nat) (hn : n = w.heap.size) : (w.alloc o).heap[n]? = some o := by subst hn; exact heap_alloc_new w o
theorem ret_si {a b : List UInt8} {c d : Int} (h : (a, c) = (b, d)) : Ending.returned (.tuple #[.string ⟨a.toArray⟩, .int .i64 c]) = .returned (.tuple #[.string ⟨b.toArray⟩, .int .i64 d]) := by
  obtain ⟨rfl, rfl⟩ := Prod.mk.injEq .. ▸ h; rfl
/-- Older cells read as before. -/
theorem bcellc {W w1 : World} (hb : Below W.heap.size W w1) : ∀ b o, b < W.heap.size → w1.cell? ⟨b, o, none⟩ = W.cell? ⟨b, o, none⟩ := fun b o h => hb.cell (p := ⟨b, o, none⟩) h
theorem rdI_one {W : World} {n : Nat} {x : Int} (hc : W.cell? ⟨n, 0, none⟩ = some (.int .i64 x)) (hn : n < W.heap.size) : RdI W W.heap.size (some ⟨n, 0, none⟩) [x] := by
  refine .inr ⟨n, 0, rfl, hn, fun i y hy j v hv => ?_⟩
  cases i with
  | zero =>
    simp at hy; subst hy
    cases j with
    | zero => simp [encI] at hv; subst hv; simpa using hc
    | succ j => simp [encI] at hv
  | succ i => simp at hy
theorem bsz {n : Nat} {a w : World} (h : Below n a w) (hn : a.heap.size = n) : Below a.heap.size a w := by rw [hn]; exact h
theorem bal {a w : World} (h : Below a.heap.size a w) (o : Obj) : Below a.heap.size a (w.alloc o) := h.alloc h.size o
theorem below_drewN' {B : Nat} {a w : World} (h : Below B a w) (n : Nat) : Below B a (w.drewN n) := ⟨h.os, h.tape, h.output, h.size, h.block⟩
end Go.Proofs.YtipdmcpmedmicaaDoor
