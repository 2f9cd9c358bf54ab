/- Texts of one proof, put together (Uq, GS, GSo, GR, EC, EF, M5, M6, M7, Ma, N1, Opn, Laid8, LN1, M8, M9, M10, M11). No condition but those that each theorem states. -/
import Derived.Test.YtnjjdbljoligdaaGreatDoorZ5
import Derived.Sort.Walk0
import Derived.Lib.SlicesCompact
import Derived.Sort.OwnSorted
import Derived.Lib.OwnBridge
import Derived.Shelf.Slices.In.SortAlone
import Derived.Shelf.Slices.In.SortNone
import Derived.Shelf.Slices.In.CompactS
import Derived.ProofKit
import Derived.OpenShut
import Derived.Deep.DeepHandedRow
import Derived.Lib.SmallJoins
import Derived.Deep.Slices
import Derived.Deep.Fields
import Derived.Test.YtnjjdbljoligdaaGreatDoorCards
import Derived.Test.YtnjjdbljoligdaaGreatDoorTie
import Derived.Lib.LaidTab
import Derived.Stop.LaidErr
import Derived.Lib.LaidIn
import Derived.Lib.LaidU8T
import Derived.Shelf.Vars
set_option linter.unusedSimpArgs false
set_option linter.unusedVariables false
namespace Go.Proofs.YtnjjdbljoligdaaGreatDoor
def insU (c : List UInt8) : List (List UInt8) → List (List UInt8)
  | [] => [c]
  | x :: t => if x < c then x :: insU c t else if x = c then x :: t else c :: x :: t
theorem bs_irr (x : List UInt8) : ¬ x < x := List.lt_irrefl x
theorem bs_tr {x y z : List UInt8} (h : x < y) (k : y < z) : x < z := List.lt_trans h k
theorem bs_tri {x y : List UInt8} (h : ¬ x < y) (k : x ≠ y) : y < x := by
  have h1 : y ≤ x := List.not_lt.1 h
  rcases Decidable.em (y < x) with h2 | h2
  · exact h2
  · exact absurd (List.le_antisymm (List.not_lt.1 h2) h1) k
theorem bs_le {x y : List UInt8} (h : x ≤ y) (k : x ≠ y) : x < y := bs_tri (List.not_lt.2 h) (Ne.symm k)
theorem mem_insU {c z : List UInt8} : ∀ {l : List (List UInt8)}, z ∈ insU c l ↔ z = c ∨ z ∈ l
  | [] => by simp [insU]
  | x :: t => by
    simp only [insU]
    split
    · simp only [List.mem_cons, mem_insU (l := t)]; constructor <;> rintro (h | h | h) <;> simp [h]
    · split
      · rename_i h; subst h; simp only [List.mem_cons]; constructor
        · exact .inr
        · rintro (h | h)
          · exact .inl h
          · exact h
      · simp only [List.mem_cons]
theorem insU_up {c : List UInt8} : ∀ {l : List (List UInt8)}, l.Pairwise (· < ·) → (insU c l).Pairwise (· < ·)
  | [], _ => by simp [insU]
  | x :: t, h => by
    rw [List.pairwise_cons] at h
    simp only [insU]
    split
    · rename_i hx
      refine List.pairwise_cons.2 ⟨fun z hz => ?_, insU_up h.2⟩
      rcases mem_insU.1 hz with rfl | hz
      · exact hx
      · exact h.1 z hz
    · split
      · exact List.pairwise_cons.2 h
      · rename_i h1 h2
        have hc := bs_tri h1 h2
        refine List.pairwise_cons.2 ⟨fun z hz => ?_, List.pairwise_cons.2 h⟩
        rcases List.mem_cons.1 hz with rfl | hz
        · exact hc
        · exact bs_tr hc (h.1 z hz)
theorem up_ext : ∀ (a b : List (List UInt8)), a.Pairwise (· < ·) → b.Pairwise (· < ·) → (∀ x, x ∈ a ↔ x ∈ b) → a = b
  | [], [], _, _, _ => rfl
  | [], y :: b, _, _, h => by have := (h y).2 (by simp); simp at this
  | x :: a, [], _, _, h => by have := (h x).1 (by simp); simp at this
  | x :: a, y :: b, ha, hb, h => by
    rw [List.pairwise_cons] at ha hb
    have hxy : x = y := by
      rcases List.mem_cons.1 ((h x).1 (by simp)) with h1 | h1
      · exact h1
      · rcases List.mem_cons.1 ((h y).2 (by simp)) with h2 | h2
        · exact h2.symm
        · exact absurd (bs_tr (hb.1 x h1) (ha.1 y h2)) (bs_irr y)
    subst hxy
    congr 1
    refine up_ext a b ha.2 hb.2 fun z => ⟨fun hz => ?_, fun hz => ?_⟩
    · rcases List.mem_cons.1 ((h z).1 (by simp [hz])) with h1 | h1
      · subst h1; exact absurd (ha.1 z hz) (bs_irr z)
      · exact h1
    · rcases List.mem_cons.1 ((h z).2 (by simp [hz])) with h1 | h1
      · subst h1; exact absurd (hb.1 z hz) (bs_irr z)
      · exact h1
theorem compact_up (d : Array (List UInt8)) (hd : ∀ i j, i < j → j < d.size → d[i]! ≤ d[j]!) : ∀ m, m ≤ d.size → (Lib.compactUpTo d m).Pairwise (· < ·) ∧ ∀ x, x ∈ Lib.compactUpTo d m ↔ ∃ i, i < m ∧ d[i]! = x
  | 0, _ => by simp [Lib.compactUpTo]
  | m + 1, hm => by
    obtain ⟨h1, h2⟩ := compact_up d hd m (by omega)
    rw [Lib.compactUpTo_succ]
    by_cases hk : Lib.keeps d m = true
    · rw [if_pos hk]
      have hlt : ∀ i, i < m → d[i]! < d[m]! := by
        intro i hi
        have hne : d[m]! ≠ d[m - 1]! := by
          rcases of_decide_eq_true hk with h | h
          · omega
          · exact h
        have hl : d[m - 1]! < d[m]! := bs_le (hd (m - 1) m (by omega) (by omega)) (Ne.symm hne)
        rcases Nat.lt_or_ge i (m - 1) with hi' | hi'
        · rcases Decidable.em (d[i]! = d[m - 1]!) with he | he
          · rw [he]; exact hl
          · exact bs_tr (bs_le (hd i (m - 1) hi' (by omega)) he) hl
        · rw [show i = m - 1 by omega]; exact hl
      refine ⟨List.pairwise_append.2 ⟨h1, by simp, fun x hx y hy => ?_⟩, fun x => ?_⟩
      · simp only [List.mem_singleton] at hy
        subst hy
        obtain ⟨i, hi, rfl⟩ := (h2 x).1 hx
        exact hlt i hi
      · rw [List.mem_append, h2, List.mem_singleton]
        constructor
        · rintro (⟨i, hi, h⟩ | h)
          · exact ⟨i, by omega, h⟩
          · exact ⟨m, by omega, h.symm⟩
        · rintro ⟨i, hi, h⟩
          rcases Nat.lt_or_ge i m with hi' | hi'
          · exact .inl ⟨i, hi', h⟩
          · exact .inr (by rw [← h, show i = m by omega])
    · rw [if_neg hk, List.append_nil]
      refine ⟨h1, fun x => ?_⟩
      rw [h2]
      have hk' : ¬ (m = 0 ∨ d[m]! ≠ d[m - 1]!) := fun h => hk (decide_eq_true h)
      have hm0 : m ≠ 0 := fun h => hk' (.inl h)
      have he : d[m]! = d[m - 1]! := Decidable.byContradiction fun h => hk' (.inr h)
      constructor
      · rintro ⟨i, hi, h⟩; exact ⟨i, by omega, h⟩
      · rintro ⟨i, hi, h⟩
        rcases Nat.lt_or_ge i m with hi' | hi'
        · exact ⟨i, hi', h⟩
        · exact ⟨m - 1, by omega, by rw [← he, ← h, show i = m by omega]⟩
theorem foldl_insU : ∀ (l o : List (List UInt8)), o.Pairwise (· < ·) → (l.foldl (fun o c => insU c o) o).Pairwise (· < ·) ∧ ∀ x, x ∈ l.foldl (fun o c => insU c o) o ↔ x ∈ o ∨ x ∈ l
  | [], o, h => ⟨h, by simp⟩
  | c :: l, o, h => by
    obtain ⟨h1, h2⟩ := foldl_insU l (insU c o) (insU_up h)
    refine ⟨h1, fun x => ?_⟩
    rw [List.foldl_cons, h2, mem_insU, List.mem_cons]
    constructor
    · rintro ((h | h) | h) <;> simp [h]
    · rintro (h | h | h) <;> simp [h]
theorem reels_eq (l : List (List UInt8)) : Lib.compact (l.mergeSort fun x y => decide (x ≤ y)) = l.foldl (fun o c => insU c o) [] := by
  have hs : (l.mergeSort fun x y => decide (x ≤ y)).Pairwise fun x y => decide (x ≤ y) = true :=
    List.pairwise_mergeSort (le := fun x y : List UInt8 => decide (x ≤ y)) (fun a b c h1 h2 => decide_eq_true (List.le_trans (of_decide_eq_true h1) (of_decide_eq_true h2))) (fun a b => by
      rcases List.le_total a b with h | h <;> simp [h]) l
  have hp := List.mergeSort_perm l fun x y => decide (x ≤ y)
  generalize hz : l.mergeSort (fun x y => decide (x ≤ y)) = zs at hs hp
  obtain ⟨h1, h2⟩ := compact_up zs.toArray (fun i j hij hj => by
    have hj' : j < zs.length := by simpa using hj
    have := List.pairwise_iff_getElem.1 hs i j (by omega) hj' hij
    simpa [getElem!_pos, hj', show i < zs.length by omega] using this) zs.length (by simp)
  obtain ⟨h3, h4⟩ := foldl_insU l [] List.Pairwise.nil
  refine up_ext _ _ h1 h3 fun x => ?_
  rw [h4, show Lib.compact zs = Lib.compactUpTo zs.toArray zs.length from rfl, h2]
  constructor
  · rintro ⟨i, hi, rfl⟩
    refine .inr (hp.subset ?_)
    simp [getElem!_pos, hi]
  · rintro (h | h)
    · simp at h
    · obtain ⟨i, hi, he⟩ := List.getElem_of_mem (hp.symm.subset h)
      exact ⟨i, hi, by simp [getElem!_pos, hi, he]⟩
end Go.Proofs.YtnjjdbljoligdaaGreatDoor
namespace Go.Proofs.YtnjjdbljoligdaaGreatDoor
open Go.RowKit Go.Sort
section
variable {P : Program} {I : World → Prop} {f : FuncId}
theorem vals_strs {w : World} {C : Cx} : ∀ {vals : List Value} {zs : List (List UInt8)}, RepL C w vals (zs.map D.str) → vals = zs.map encStr ∧ ∀ z ∈ zs, z.length ≤ maxLen := by
  intro vals zs h
  have hl : vals.length = zs.length := by simpa using h.len
  have key : ∀ (i : Nat) (hi : i < zs.length), vals[i]? = some (encStr zs[i]) ∧ zs[i].length ≤ maxLen := by
    intro i hi
    obtain ⟨hv, hm⟩ := rep_str1 (h.rep i (vals[i]'(by omega)) (.str zs[i]) (List.getElem?_eq_getElem _) (by simp [hi]))
    exact ⟨by rw [List.getElem?_eq_getElem (by omega : i < vals.length), hv], hm⟩
  refine ⟨List.ext_getElem? fun i => ?_, fun z hz => ?_⟩
  · by_cases hi : i < zs.length
    · rw [(key i hi).1]; simp [hi]
    · rw [List.getElem?_eq_none (by omega), List.getElem?_eq_none (by simp; omega)]
  · obtain ⟨i, hi, rfl⟩ := List.getElem_of_mem hz
    exact (key i hi).2
theorem strs_vals {w : World} {C : Cx} {zs : List (List UInt8)} (hz : ∀ z ∈ zs, z.length ≤ maxLen) : RepL C w (zs.map encStr) (zs.map D.str) := by
  refine ⟨by simp, fun v hv => ?_, fun i v d hv hd => ?_⟩
  · obtain ⟨z, _, rfl⟩ := List.mem_map.1 hv; rfl
  · simp only [List.getElem?_map] at hv hd
    cases hi : zs[i]? with
    | none => rw [hi] at hv; simp at hv
    | some s =>
      rw [hi] at hv hd
      simp at hv hd
      subst hv hd
      exact .str s (hz s (List.mem_of_getElem? hi))
theorem put_block (w : World) (n g : Nat) (d : Array (List UInt8)) (os : Array Obj) (k : Nat) (hk : k < w.heap.size) (hne : k ≠ g) : (grow (putRow encStr (Sort.ahead w n) g 0 d) os).heap[k]? = w.heap[k]? := by
  simp only [grow, putRow, mapBlock, Sort.ahead]
  rw [Array.getElem?_append_left (by simpa using hk), Array.getElem?_modify, if_neg (Ne.symm hne)]
theorem put_bel (w : World) (n g : Nat) (d : Array (List UInt8)) (os : Array Obj) {M : Nat → Prop} (hg : M g) : BelM M w (grow (putRow encStr (Sort.ahead w n) g 0 d) os) :=
  ⟨rfl, rfl, rfl, by simp [grow, putRow, mapBlock, Sort.ahead], fun k hk hm => put_block w n g d os k hk fun e => hm (e ▸ hg)⟩
theorem CallOK.put_strs (he : enterable P f = true) {e : TypeId} {id nid : Nat} {zs ts : List (List UInt8)} {H : Nat → Option Blk} (hH : H id = some (.vec e 1 (zs.map D.str) false)) (hlt : ts.length = zs.length) (hts : ∀ t ∈ ts, t ∈ zs)
    (h0 : zs = [] → ∀ (w : World) (A : Option Addr) (cap : Nat), Calls P f #[.slice A 0 cap] w fun e w' => e = .returned (.tuple #[]) ∧ w' = w)
    (h1 : zs ≠ [] → ∀ (w : World) (blk cap : Nat), Holds encStr w blk 0 zs.toArray → blk < w.heap.size → zs.length ≤ cap → cap ≤ maxLen → Calls P f #[.slice (some ⟨blk, 0, none⟩) zs.length cap] w fun e w' => e = .returned (.tuple #[]) ∧ ∃ n os, w' = grow (putRow encStr (Sort.ahead w n) blk 0 ts.toArray) os) :
    CallOK P I f [.own id zs.length] H nid (.tup []) [(id, some (.vec e 1 (ts.map D.str) false))] := by
  refine ⟨he, fun i0 w C B args hI hb0 hM hok hF hbase hnid hal hrep => ?_⟩
  obtain ⟨v, rfl⟩ : ∃ v, args = [v] := by
    match args, hal with
    | [v], _ => exact ⟨v, rfl⟩
  have hv := hrep 0 v _ rfl rfl
  obtain ⟨hlv, hB⟩ := hok.rep id _ hH
  obtain ⟨vals, hown, hcl, hRL, hfz⟩ := hB
  rw [flat_strs] at hRL
  obtain ⟨rfl, hzm⟩ := vals_strs hRL
  have hcase : ∀ id' b, appEff H [(id, some (.vec e 1 (ts.map D.str) false))] id' = some b → (id' = id ∧ b = .vec e 1 (ts.map D.str) false) ∨ (id' ≠ id ∧ H id' = some b) := by
    intro id' b hb
    rcases appEff_cases _ _ _ _ hb with ⟨k1, k2⟩ | k1
    · exact .inr ⟨fun e' => k1 (id, some (.vec e 1 (ts.map D.str) false)) (List.mem_singleton.2 rfl) e'.symm, k2⟩
    · simp only [List.mem_singleton, Prod.mk.injEq, Option.some.injEq] at k1
      exact .inl k1
  cases hv with
  | own _ _ c A _ hm hs =>
  rw [hs, List.length_map] at hown
  by_cases hz : zs = []
  · subst hz
    obtain rfl : ts = [] := List.eq_nil_of_length_eq_zero hlt
    refine (h0 rfl w A c).mono ?_
    rintro e' w' ⟨rfl, rfl⟩
    refine ⟨_, C, rfl, BelM.refl _ _, Ext.refl _ _, .tup [] [] rfl (by simp), ?_, hF, fun _ h => .inl h, fun _ _ h => .inl h⟩
    have : appEff H [(id, some (.vec e 1 (([] : List (List UInt8)).map D.str) false))] = H := by
      funext j
      cases hb : appEff H [(id, some (.vec e 1 (([] : List (List UInt8)).map D.str) false))] j with
      | some b =>
        rcases hcase j b hb with ⟨rfl, rfl⟩ | ⟨_, k⟩
        · exact hH.symm
        · exact k.symm
      | none =>
        by_cases hj : j = id
        · subst hj; simp [appEff, upd] at hb
        · simp [appEff, upd, hj] at hb; exact hb.symm
    rw [this]; exact hok
  · have hnz : zs.length ≠ 0 := fun h => hz (List.eq_nil_of_length_eq_zero h)
    obtain ⟨g, cap, e1, _, hgl, hncap, hcm, _, hHolds⟩ := Lib.holds_of_ownsRow hown (by intro h; injection h with _ h; exact hnz h)
    cases e1
    rcases hown.2 with ⟨h2, _⟩ | ⟨g', cap', cur, h2, _, hb, hn1, hn2, hn3, _⟩
    · cases h2
    cases h2
    refine (h1 hz w g c hHolds hgl hncap hcm).mono ?_
    rintro e' w' ⟨rfl, n, os, rfl⟩
    have hMg : B.M g := hok.own id _ hH g (by rw [hs]; rfl)
    have hnF : ∀ o, ¬ C.F g o := fun o ho => by
      have := ((hfz g (by rw [hs]; rfl)).1 o ho).1
      cases this
    have hbel := put_bel w n g ts.toArray os hMg
    have hext : Ext C w C (grow (putRow encStr (Sort.ahead w n) g 0 ts.toArray) os) := ⟨fun _ _ h => h, fun b o hbo => put_block w n g _ os b (hF b o hbo) fun e => hnF o (e ▸ hbo), fun _ h => h, fun _ _ => rfl⟩
    refine ⟨_, C, rfl, hbel, hext, .tup [] [] rfl (by simp), ?_, fun b o hbo => Nat.lt_of_lt_of_le (hF b o hbo) hbel.size, fun _ h => .inl h, fun _ _ h => .inl h⟩
    refine ⟨fun id' b hb' => ?_, fun id' b hb' g' hg => ?_, fun id' kk cs hb' => ?_, fun id1 id2 b1 b2 hb1 hb2 hne2 g' hg hg' => ?_⟩
    · rcases hcase id' b hb' with ⟨rfl, rfl⟩ | ⟨hne, k⟩
      · refine ⟨hlv, ts.map encStr, ?_, fun x hx => ?_, ?_, fun g' hg' => ⟨fun o ho => ?_, fun h => by cases h⟩⟩
        · rw [hs, List.length_map, hlt]
          exact ownsRow_sorted (w := w) (n := n) (os := os) (ts := ts) (ss := zs) hlt (Nat.zero_le _) hb hn1 hn2 hn3
        · obtain ⟨t, _, rfl⟩ := List.mem_map.1 hx; rfl
        · rw [flat_strs]; exact strs_vals fun t ht => hzm t (hts t ht)
        · rw [hs] at hg'; cases hg'; exact absurd ho (hnF o)
      · obtain ⟨k1, k2⟩ := hok.rep id' b k
        refine ⟨k1, k2.keep k1 hext (fun g' hg' => put_block w n g _ os g' (k2.lt g' hg').2 fun e => ?_) fun _ _ _ h => h⟩
        exact hok.apart _ _ _ _ hH k (Ne.symm hne) g (by rw [hs]; rfl) (e ▸ hg')
    · rcases hcase id' b hb' with ⟨rfl, rfl⟩ | ⟨hne, k⟩
      · exact hok.own _ _ hH g' hg
      · exact hok.own _ _ k g' hg
    · rcases hcase id' _ hb' with ⟨rfl, h⟩ | ⟨hne, k⟩
      · cases h
      · exact hok.pin _ _ _ k
    · rcases hcase id1 b1 hb1 with ⟨rfl, rfl⟩ | ⟨hne, k⟩
      · rcases hcase id2 b2 hb2 with ⟨rfl, rfl⟩ | ⟨hne', k'⟩
        · exact hne2 rfl
        · exact hok.apart _ _ _ _ hH k' hne2 g' hg hg'
      · rcases hcase id2 b2 hb2 with ⟨rfl, rfl⟩ | ⟨hne', k'⟩
        · exact hok.apart _ _ _ _ k hH hne2 g' hg hg'
        · exact hok.apart _ _ _ _ k k' hne2 g' hg hg'
theorem CallOK.cut_strs (he : enterable P f = true) {e : TypeId} {id nid : Nat} {zs ys ps : List (List UInt8)} {H : Nat → Option Blk} (hH : H id = some (.vec e 1 (zs.map D.str) false)) (hlt : (ys ++ ps).length = zs.length) (hts : ∀ t ∈ ys, t ∈ zs)
    (h0 : zs = [] → ∀ (w : World) (A : Option Addr) (cap : Nat), Calls P f #[.slice A 0 cap] w fun e w' => e = .returned (.slice A 0 cap) ∧ w' = w)
    (h1 : zs ≠ [] → ∀ (w : World) (blk cap : Nat), Holds encStr w blk 0 zs.toArray → blk < w.heap.size → zs.length ≤ cap → cap ≤ maxLen → Calls P f #[.slice (some ⟨blk, 0, none⟩) zs.length cap] w fun e w' => e = .returned (.slice (some ⟨blk, 0, none⟩) ys.length cap) ∧ ∃ q, w' = putRow encStr (Sort.ahead w q) blk 0 (ys ++ ps).toArray) :
    CallOK P I f [.own id zs.length] H nid (.own nid ys.length) [(id, none), (nid, some (.vec e 1 (ys.map D.str) false))] := by
  refine ⟨he, fun i0 w C B args hI hb0 hM hok hF hbase hnid hal hrep => ?_⟩
  obtain ⟨v, rfl⟩ : ∃ v, args = [v] := by
    match args, hal with
    | [v], _ => exact ⟨v, rfl⟩
  have hv := hrep 0 v _ rfl rfl
  obtain ⟨hlv, hB⟩ := hok.rep id _ hH
  obtain ⟨vals, hown, hcl, hRL, hfz⟩ := hB
  rw [flat_strs] at hRL
  obtain ⟨rfl, hzm⟩ := vals_strs hRL
  have hnoid : H nid = none := by
    cases hn2 : H nid with
    | none => rfl
    | some b => exact absurd (hok.rep _ _ hn2).1 hnid
  have hcase : ∀ id' b, appEff H [(id, none), (nid, some (.vec e 1 (ys.map D.str) false))] id' = some b → (id' = nid ∧ b = .vec e 1 (ys.map D.str) false) ∨ (id' ≠ nid ∧ id' ≠ id ∧ H id' = some b) := by
    intro id' b hb
    rcases appEff_cases _ _ _ _ hb with ⟨k1, k2⟩ | k1
    · exact .inr ⟨fun e' => k1 (nid, some (.vec e 1 (ys.map D.str) false)) (by simp) e'.symm, fun e' => k1 (id, none) (by simp) e'.symm, k2⟩
    · simp only [List.mem_cons, Prod.mk.injEq, reduceCtorEq, and_false, false_or, Option.some.injEq, List.not_mem_nil, or_false] at k1
      exact .inl k1
  have hlen : ys.length ≤ zs.length := by rw [List.length_append] at hlt; omega
  cases hv with
  | own _ _ c A _ hm hs =>
  rw [hs, List.length_map] at hown
  -- what follows, whatever the world behind the call is
  have fin : ∀ w' : World, BelM B.M w w' → (∀ k, k < w.heap.size → blockOf (C.σ id) ≠ some k → w'.heap[k]? = w.heap[k]?) → w'.ownsRow 0 e 1 (.slice A ys.length c) ys.length (ys.map encStr) →
      ∃ v' C', Ending.returned (.slice A ys.length c) = .returned v' ∧ BelM B.M w w' ∧ Ext C w C' w' ∧ Rep w' C' v' (.own nid ys.length) ∧ HOK C' w' B (appEff H [(id, none), (nid, some (.vec e 1 (ys.map D.str) false))]) ∧ FB C' w' ∧ (∀ id, C'.live id → C.live id ∨ id = nid) ∧ ∀ b o, C'.F b o → C.F b o ∨ B.M b := by
    intro w' hbel hblk hown'
    let C2 : Cx := ⟨C.F, fun i => if i = nid then .slice A ys.length c else C.σ i, fun i => C.live i ∨ i = nid⟩
    have hσ2 : ∀ i, C.live i → C2.σ i = C.σ i := fun i hid => by
      have : i ≠ nid := fun e => hnid (e ▸ hid)
      simp only [C2, if_neg this]
    have hσn : C2.σ nid = .slice A ys.length c := by simp only [C2, if_true]
    have hbo : blockOf (C2.σ nid) = blockOf (C.σ id) := by rw [hσn, hs]; cases A <;> rfl
    have hnF : ∀ b o, C.F b o → blockOf (C.σ id) ≠ some b := fun b o ho hb => by
      have := ((hfz b (by rw [hs] at hb ⊢; cases A <;> simp_all [blockOf, Value.ownBlock])).1 o ho).1
      cases this
    have hext : Ext C w C2 w' := ⟨fun _ _ h => h, fun b o hbo' => hblk b (hF b o hbo') (hnF b o hbo'), fun _ h => .inl h, hσ2⟩
    refine ⟨_, C2, rfl, hbel, hext, .own nid ys.length c A (.inr rfl) (Nat.le_trans hlen hm) hσn, ?_, fun b o hbo' => Nat.lt_of_lt_of_le (hF b o hbo') hbel.size, fun _ h => h, fun _ _ h => .inl h⟩
    refine ⟨fun id' b hb' => ?_, fun id' b hb' g' hg => ?_, fun id' kk cs hb' => ?_, fun id1 id2 b1 b2 hb1 hb2 hne2 g' hg hg' => ?_⟩
    · rcases hcase id' b hb' with ⟨rfl, rfl⟩ | ⟨hne, hne', k⟩
      · refine ⟨.inr rfl, ys.map encStr, ?_, fun x hx => ?_, ?_, fun g' hg' => ⟨fun o ho => ?_, fun h => by cases h⟩⟩
        · rw [hσn, List.length_map]; exact hown'
        · obtain ⟨t, _, rfl⟩ := List.mem_map.1 hx; rfl
        · rw [flat_strs]; exact strs_vals fun t ht => hzm t (hts t ht)
        · refine absurd ?_ (hnF g' o ho)
          rw [hσn] at hg'
          rw [hs]
          cases A <;> simp_all [blockOf, Value.ownBlock]
      · obtain ⟨k1, k2⟩ := hok.rep id' b k
        refine ⟨.inl k1, k2.keep k1 hext (fun g' hg' => hblk g' (k2.lt g' hg').2 fun e' => ?_) fun _ _ _ h => h⟩
        exact hok.apart _ _ _ _ hH k (Ne.symm hne') g' e' hg'
    · rcases hcase id' b hb' with ⟨rfl, rfl⟩ | ⟨hne, hne', k⟩
      · rw [hbo] at hg; exact hok.own _ _ hH g' hg
      · rw [hσ2 id' (hok.rep _ _ k).1] at hg; exact hok.own _ _ k g' hg
    · rcases hcase id' _ hb' with ⟨rfl, h⟩ | ⟨hne, hne', k⟩
      · cases h
      · rw [hσ2 id' (hok.rep _ _ k).1]; exact hok.pin _ _ _ k
    · rcases hcase id1 b1 hb1 with ⟨rfl, rfl⟩ | ⟨hne, hne', k⟩
      · rcases hcase id2 b2 hb2 with ⟨rfl, rfl⟩ | ⟨hne3, hne4, k'⟩
        · exact hne2 rfl
        · rw [hbo] at hg
          rw [hσ2 id2 (hok.rep _ _ k').1] at hg'
          exact hok.apart _ _ _ _ hH k' (Ne.symm hne4) g' hg hg'
      · rw [hσ2 id1 (hok.rep _ _ k).1] at hg
        rcases hcase id2 b2 hb2 with ⟨rfl, rfl⟩ | ⟨hne3, hne4, k'⟩
        · rw [hbo] at hg'
          exact hok.apart _ _ _ _ k hH hne' g' hg hg'
        · rw [hσ2 id2 (hok.rep _ _ k').1] at hg'
          exact hok.apart _ _ _ _ k k' hne2 g' hg hg'
  by_cases hz : zs = []
  · subst hz
    obtain rfl : ys = [] := List.eq_nil_of_length_eq_zero (by simpa using hlen)
    refine (h0 rfl w A c).mono ?_
    rintro e' w' ⟨rfl, rfl⟩
    exact fin w' (BelM.refl _ _) (fun _ _ _ => rfl) hown
  · have hnz : zs.length ≠ 0 := fun h => hz (List.eq_nil_of_length_eq_zero h)
    obtain ⟨g, cap, e1, _, hgl, hncap, hcm, _, hHolds⟩ := Lib.holds_of_ownsRow hown (by intro h; injection h with _ h; exact hnz h)
    cases e1
    refine (h1 hz w g c hHolds hgl hncap hcm).mono ?_
    rintro e' w' ⟨rfl, q, rfl⟩
    have hMg : B.M g := hok.own id _ hH g (by rw [hs]; rfl)
    have hput := put_bel w q g (ys ++ ps).toArray #[] hMg
    rw [grow_empty] at hput
    have hrow := Lib.ownsRow_putRow (q := q) (k := ys.length) (ys := ys ++ ps) hown hlt hlen
    rw [List.take_left] at hrow
    refine fin _ hput (fun k hk hne => ?_) hrow
    have := put_block w q g (ys ++ ps).toArray #[] k hk fun e' => hne (by rw [hs, e']; rfl)
    rwa [grow_empty] at this
end
end Go.Proofs.YtnjjdbljoligdaaGreatDoor
namespace Go.Proofs.YtnjjdbljoligdaaGreatDoor
open Go.RowKit Go.Shelf Go.Sort
theorem calls_of_all {L : List FuncId} {n : Nat} {P : Program} {f : FuncId} {args : Array Value} {w : World} {R : Ending → World → Prop} (h : ∀ D, CallsIn (Fence.list L (some D)) n P f args w R) : Calls P f args w R := fun cs => by
  obtain ⟨e, w', fr, r, s, x⟩ := (h (cs.length + 1 + n)).2 cs (by simp [Fence.room, Fence.list])
  exact ⟨e, w', fr, r, s.comes, x⟩
section
variable {P : Program} {I : World → Prop} {ρ : Ren}
theorem c_Sort (L : Lays.n190 P ρ) (he : enterable P (ρ.f 190) = true) {e : TypeId} {id nid : Nat} {zs : List (List UInt8)} {H : Nat → Option Blk} (hH : H id = some (.vec e 1 (zs.map D.str) false)) (hz : zs.length < 4611686018427387904) :
    CallOK P I (ρ.f 190) [.own id zs.length] H nid (.tup []) [(id, some (.vec e 1 ((zs.mergeSort fun x y => decide (x ≤ y)).map D.str) false))] := by
  refine CallOK.put_strs he hH (List.length_mergeSort zs) (fun t ht => (List.mergeSort_perm zs _).subset ht) (fun _ w A cap => calls_of_all fun D => AnyS.slices_Sort_string_none_alone L D A cap w) fun _ w blk cap hh hb _ _ => ?_
  exact calls_of_all fun D => AnyS.slices_Sort_string_alone L D blk 0 cap zs w hh hb hz
theorem c_mem_compact {zs : List (List UInt8)} {x : List UInt8} (h : x ∈ Lib.compact zs) : x ∈ zs := by
  unfold Lib.compact Lib.compactUpTo at h
  obtain ⟨i, hi, rfl⟩ := List.mem_map.1 h
  have hi' : i < zs.length := List.mem_range.1 (List.mem_filter.1 hi).1
  simp [getElem!_pos, hi']
theorem c_Compact (L : Lays.n194 P ρ) (he : enterable P (ρ.f 194) = true) {e : TypeId} {id nid : Nat} {zs : List (List UInt8)} {H : Nat → Option Blk} (hH : H id = some (.vec e 1 (zs.map D.str) false)) (hz : zs.length ≤ 9223372036854775807) :
    CallOK P I (ρ.f 194) [.own id zs.length] H nid (.own nid (Lib.compact zs).length) [(id, none), (nid, some (.vec e 1 ((Lib.compact zs).map D.str) false))] := by
  refine CallOK.cut_strs (ps := List.replicate (zs.length - (Lib.compact zs).length) []) he hH (by have := Lib.compact_length_le zs; simp; omega) (fun t ht => c_mem_compact ht) (fun _ w A cap => calls_of_all fun D => AnyS.slices_Compact_string_empty_in L D A cap w) fun _ w blk cap hh hb hc _ => ?_
  exact calls_of_all fun D => AnyS.slices_Compact_string_in L D blk 0 cap zs w hh hz hc
end
end Go.Proofs.YtnjjdbljoligdaaGreatDoor
namespace Go.Proofs.YtnjjdbljoligdaaGreatDoor
open Go.RowKit Go.Shelf
set_option maxRecDepth 100000
def sortS (l : List (List UInt8)) : List (List UInt8) := l.mergeSort fun x y => decide (x ≤ y)
@[simp] theorem sortS_length (l : List (List UInt8)) : (sortS l).length = l.length := List.length_mergeSort l
theorem c_SortS {I : World → Prop} {e : TypeId} {id nid : Nat} {l : List (List UInt8)} {H : Nat → Option Blk} (hH : H id = some (.vec e 1 (l.map D.str) false)) (hz : l.length < 4611686018427387904) :
    CallOK Tryz.prog I 34 [.own id l.length] H nid (.tup []) [(id, some (.vec e 1 ((sortS l).map D.str) false))] := c_Sort Tryz.lays190 (by kernel_rfl) hH hz
theorem c_CompactS {I : World → Prop} {e : TypeId} {id nid : Nat} {l : List (List UInt8)} {H : Nat → Option Blk} (hH : H id = some (.vec e 1 (l.map D.str) false)) (hz : l.length < 4611686018427387904) :
    CallOK Tryz.prog I 35 [.own id l.length] H nid (.own nid (Lib.compact l).length) [(id, none), (nid, some (.vec e 1 ((Lib.compact l).map D.str) false))] := c_Compact Tryz.lays194 (by kernel_rfl) hH (by omega)
end Go.Proofs.YtnjjdbljoligdaaGreatDoor
namespace Go.Proofs.YtnjjdbljoligdaaGreatDoor
open Go.RowKit
set_option maxRecDepth 100000
set_option maxHeartbeats 10000000
structure T_api_Span where
  In : Int
  Out : Int
  deriving DecidableEq
def T_api_Span.d (x : T_api_Span) : D := .agg [.int .i64 x.In, .int .i64 x.Out]
structure T_api_Cut where
  Number : Int
  Reel : List UInt8
  Source : Int
  Record : T_api_Span
  Speed : T_api_Ratio
  deriving DecidableEq
def T_api_Cut.d (x : T_api_Cut) : D := .agg [.int .i64 x.Number, .str x.Reel, .int .i64 x.Source, .int .i64 x.Record.In, .int .i64 x.Record.Out, .int .i64 x.Speed.Num, .int .i64 x.Speed.Den]
structure T_edl_List where
  Title : List UInt8
  Rate : Int
  Drop : Bool
  Cuts : List T_api_Cut
  deriving DecidableEq
def T_edl_List.d (x : T_edl_List) : D := .agg [.str x.Title, .int .u8 x.Rate, .bool x.Drop, .sl (x.Cuts.map T_api_Cut.d)]
structure TRL where
  Title : List UInt8
  Rate : Int
  Drop : Bool
  Cuts : List T_api_Cut
  deriving DecidableEq
def TRL.d (x : TRL) : D := .agg [.str x.Title, .int .u8 x.Rate, .bool x.Drop, .sl (x.Cuts.map T_api_Cut.d)]
theorem dd_EC : (∀ x, T_api_Field.d x = .agg [.str x.Text, .int .i64 x.Column, .bool x.Quoted]) ∧ (∀ x, T_api_Line.d x = .agg [.int .i64 x.Number, .sl (x.Fields.map T_api_Field.d)]) ∧ (∀ x, T_api_Diag.d x = .agg [.int .i64 x.Line, .int .i64 x.Column, .int .i64 x.Code]) ∧ (∀ x, T_api_Span.d x = .agg [.int .i64 x.In, .int .i64 x.Out]) ∧ (∀ x, T_api_Ratio.d x = .agg [.int .i64 x.Num, .int .i64 x.Den]) ∧ (∀ x, T_api_Cut.d x = .agg [.int .i64 x.Number, .str x.Reel, .int .i64 x.Source, .int .i64 x.Record.In, .int .i64 x.Record.Out, .int .i64 x.Speed.Num, .int .i64 x.Speed.Den]) ∧ (∀ x, T_edl_List.d x = .agg [.str x.Title, .int .u8 x.Rate, .bool x.Drop, .sl (x.Cuts.map T_api_Cut.d)]) ∧ (∀ x, TLS.d x = .agg [.int .i64 x.line_.Number, .sl (x.line_.Fields.map T_api_Field.d), .int .i64 x.next_, .int .i64 x.last_, .int .i64 x.bad_.Line, .int .i64 x.bad_.Column, .int .i64 x.bad_.Code]) ∧ (∀ x, T_api_Label.d x = .agg [.int .i64 x.H, .int .i64 x.M, .int .i64 x.S, .int .i64 x.F, .bool x.Drop]) ∧ (∀ x, TRL.d x = .agg [.str x.Title, .int .u8 x.Rate, .bool x.Drop, .sl (x.Cuts.map T_api_Cut.d)]) := ⟨fun _ => rfl, fun _ => rfl, fun _ => rfl, fun _ => rfl, fun _ => rfl, fun _ => rfl, fun _ => rfl, fun _ => rfl, fun _ => rfl, fun _ => rfl⟩
def g_edl_head (x_0 : T_api_Line) : Option (T_edl_List × (List T_api_Diag)) :=
  ((atI x_0.Fields 0).bind fun y7 => (((if y7.Quoted then (some true) else (some (!(y7.Text == ([69, 68, 76] : List UInt8))))) : Option (Bool)).bind fun v11 => (if v11 then (some ((T_edl_List.mk [] 0 false []), [(T_api_Diag.mk x_0.Number y7.Column 8)])) else ((g_lines_Scan x_0).bind fun r22 => ((gLS_Choice r22 [[69, 68, 76]]).bind fun r28 => ((gLS_Quoted r28.2).bind fun r34 => ((gLS_Word r34.2).bind fun r42 => ((g_timebase_Parse r42.1).bind fun r44 => (if (r44.2 != 0) then ((gLS_Fail r42.2 4).bind fun r50 => ((gLS_Choice r50 [[68, 82, 79, 80], [78, 68, 70]]).bind fun r56 => (((if (r56.1 == 0) then ((g_timebase_CanDrop r44.1).bind fun r65 => (some (!r65))) else (some false)) : Option (Bool)).bind fun v62 => (if v62 then ((gLS_Fail r56.2 13).bind fun r70 => ((gLS_End r70).bind fun r76 => (if r76.2.1 then (some ((T_edl_List.mk [] 0 false []), [r76.1])) else (some ((T_edl_List.mk r34.1 r44.1 (r56.1 == 0) []), []))))) else ((gLS_End r56.2).bind fun r89 => (if r89.2.1 then (some ((T_edl_List.mk [] 0 false []), [r89.1])) else (some ((T_edl_List.mk r34.1 r44.1 (r56.1 == 0) []), [])))))))) else ((gLS_Choice r42.2 [[68, 82, 79, 80], [78, 68, 70]]).bind fun r102 => (((if (r102.1 == 0) then ((g_timebase_CanDrop r44.1).bind fun r111 => (some (!r111))) else (some false)) : Option (Bool)).bind fun v108 => (if v108 then ((gLS_Fail r102.2 13).bind fun r116 => ((gLS_End r116).bind fun r122 => (if r122.2.1 then (some ((T_edl_List.mk [] 0 false []), [r122.1])) else (some ((T_edl_List.mk r34.1 r44.1 (r102.1 == 0) []), []))))) else ((gLS_End r102.2).bind fun r135 => (if r135.2.1 then (some ((T_edl_List.mk [] 0 false []), [r135.1])) else (some ((T_edl_List.mk r34.1 r44.1 (r102.1 == 0) []), []))))))))))))))))
theorem a_edl_head {I : World → Prop} (hI : Stab I) {x_0 : T_api_Line} {r : T_edl_List × (List T_api_Diag)} (h : g_edl_head x_0 = some r) : AFun Tryz.prog I 50 [T_api_Line.d x_0] (.tup [.agg [.str r.1.Title, .int .u8 r.1.Rate, .bool r.1.Drop, .nils], nslD (r.2.map T_api_Diag.d)]) := by
  have dd := dd_EC; have k := True.intro; have q := k; have rs := Tryz.results50
  unfold g_edl_head at h
  refine .enN hI Tryz.func50 Tryz.ntmps50 ?_
  refine xs <| rz ?_
  refine es <| xs <| xs <| rK fun K6 RK6 hK6 gK6 => zz ?_
  obtain ⟨y7, q, h⟩ := bK q h
  refine zz ?_
  subst hK6 gK6
  refine es ?_
  obtain ⟨v11, h14, h⟩ := bs h
  refine rb_cut (fun v11 => ⟨envL [(1, .ptr 0 0), (2, .ptr 1 0), (4, .ptr 2 0), (21, .bool v11)], heapL [(0, .box none [.int .i64 x_0.Number, .sl (x_0.Fields.map T_api_Field.d)]), (1, .box none [.str [], .int .u8 0, .bool false, .nils]), (2, .box none [.str y7.Text, .int .i64 y7.Column, .bool y7.Quoted])], 3, 74⟩) h14 ?_ ?_
  · clear h
    intro v11 h
    refine rK fun K12 RK12 hK12 gK12 => zz ?_
    rcases iK k h with ⟨k, h⟩ | ⟨k, h⟩
    · refine zz ?_
      subst hK12 gK12
      cases h
      exact en ⟨rfl, wk [(2, some 7)]⟩
    · refine zz ?_
      subst hK12 gK12
      cases h
      exact en ⟨rfl, wk [(2, some 7)]⟩
  · rcases iK k h with ⟨k, h⟩ | ⟨k, h⟩
    · refine xt <| xs <| rP hI fun K17 hK17 => rgP_cons <| zq ?_
      refine sP.light rfl fd <| rgP_cons <| zq ?_
      refine sP.light rfl fd <| rgP_cons <| zq ?_
      refine sP.foot (.cell 0 0 1) (fun _ => FootOK.ld rfl rfl rfl (by kernel_rfl) (by decide)) fd (by first | exact .inl (by first | rfl | decide) | exact .inr (by kernel_rfl)) <| rgP_cons <| zq ?_
      refine sP.light rfl fd <| rgP_cons <| zq ?_
      refine sP.foot (.cell 2 1 1) (fun _ => FootOK.ld rfl rfl rfl (by kernel_rfl) (by decide)) fd (by first | exact .inl (by first | rfl | decide) | exact .inr (by kernel_rfl)) <| rgP_cons <| zq ?_
      refine sP.light rfl fd <| rgP_cons <| zq ?_
      refine sP.foot (.ids []) (fun hN => FootOK.idsB [] (by rfl) rfl hN) fd (by first | exact .inl (by first | rfl | decide) | exact .inr (by kernel_rfl)) <| rgP_cons <| zq ?_
      refine sP.pat 1 0 4 rfl rfl rfl <| rgP_cons <| zq ?_
      refine sP.light rfl fd <| zq ?_
      refine rgP_nil fk ?_
      subst hK17
      refine es <| xr <| er ?_
      cases h
      exact en fn
    · refine xf <| xk <| es <| xs <| rK fun K21 RK21 hK21 gK21 => zz ?_
      obtain ⟨r22, h23, h⟩ := bs h
      refine cW.introE (a_lines_Scan hI (nid := 4) h23) fz rfl <| zz ?_
      subst hK21 gK21
      refine es <| xs <| rK fun K27 RK27 hK27 gK27 => zz ?_
      obtain ⟨r28, h29, h⟩ := bs h
      refine eW.intro (aLS_Choice hI (nid := 8) (i0 := 4) (p0 := none) h29 fz) fi rfl <| zz ?_
      subst hK27 gK27
      refine es <| xs <| rK fun K33 RK33 hK33 gK33 => zz ?_
      obtain ⟨r34, h35, h⟩ := bs h
      refine eW.intro (aLS_Quoted hI (nid := 10) (i0 := 4) (p0 := none) h35 fz) fi rfl <| zz ?_
      subst hK33 gK33
      refine es <| xs <| rK fun K41 RK41 hK41 gK41 => zz ?_
      obtain ⟨r42, h43, h⟩ := bs h
      refine eW.intro (aLS_Word hI (nid := 15) (i0 := 4) (p0 := none) h43 fz) fi rfl <| zz ?_
      obtain ⟨r44, h45, h⟩ := bs h
      refine cw (a_timebase_Parse hI h45) <| zz ?_
      subst hK41 gK41
      refine es <| xs <| xs <| rz ?_
      refine es ?_
      rcases iK k h with ⟨k, h⟩ | ⟨k, h⟩
      · refine xt <| rK fun K49 RK49 hK49 gK49 => zz ?_
        obtain ⟨r50, h51, h⟩ := bs h
        refine eW.intro (aLS_Fail hI (nid := 25) (i0 := 4) (p0 := none) h51 fz) fi rfl <| zz ?_
        subst hK49 gK49
        refine es <| xs <| rK fun K55 RK55 hK55 gK55 => zz ?_
        obtain ⟨r56, h57, h⟩ := bs h
        refine eW.intro (aLS_Choice hI (nid := 29) (i0 := 4) (p0 := none) h57 fz) fi rfl <| zz ?_
        subst hK55 gK55
        refine es <| xs ?_
        obtain ⟨v62, h67, h⟩ := bs h
        refine rb_cut (fun v62 => ⟨envL [(2, .ptr 0 0), (5, .ptr 1 0), (6, .ptr 2 0), (61, .bool v62)], heapL [(0, .box none [.str [], .int .u8 0, .bool false, .nils]), (1, .box none [.int .i64 r56.2.line_.Number, .sl (r56.2.line_.Fields.map T_api_Field.d), .int .i64 r56.2.next_, .int .i64 r56.2.last_, .int .i64 r56.2.bad_.Line, .int .i64 r56.2.bad_.Column, .int .i64 r56.2.bad_.Code]), (2, .box none [.str r34.1, .int .u8 r44.1, .bool (r56.1 == 0), .nils])], 3, 74⟩) h67 ?_ ?_
        · clear h
          intro v62 h
          refine rK fun K63 RK63 hK63 gK63 => zz ?_
          rcases iK k h with ⟨k, h⟩ | ⟨k, h⟩
          · refine zz ?_
            obtain ⟨r65, h66, h⟩ := bs h
            refine cw (a_timebase_CanDrop hI h66) <| zz ?_
            subst hK63 gK63
            cases h
            exact en ⟨rfl, wk [(0, some 1), (1, some 4), (2, some 12)]⟩
          · refine zz ?_
            subst hK63 gK63
            cases h
            exact en ⟨rfl, wk [(0, some 1), (1, some 4), (2, some 12)]⟩
        · rcases iK k h with ⟨k, h⟩ | ⟨k, h⟩
          · refine xt <| rK fun K69 RK69 hK69 gK69 => zz ?_
            obtain ⟨r70, h71, h⟩ := bs h
            refine eW.intro (aLS_Fail hI (nid := 4) (i0 := 1) (p0 := none) h71 fz) fi rfl <| zz ?_
            subst hK69 gK69
            refine es <| xs <| xs <| rK fun K75 RK75 hK75 gK75 => zz ?_
            obtain ⟨r76, h77, h⟩ := bs h
            refine eW.intro (aLS_End hI (nid := 6) (i0 := 1) (p0 := none) h77 fz) fi rfl <| zz ?_
            subst hK75 gK75
            refine es <| xs <| rz ?_
            refine es ?_
            rcases iK k h with ⟨k, h⟩ | ⟨k, h⟩
            · refine xt <| xs <| rP hI fun K82 hK82 => rgP_cons <| zq ?_
              refine sP.light rfl fd <| rgP_cons <| zq ?_
              refine sP.foot (.cell 10 0 3) (fun _ => FootOK.ld rfl rfl rfl (by kernel_rfl) (by decide)) fd (by first | exact .inl (by first | rfl | decide) | exact .inr (by kernel_rfl)) <| rgP_cons <| zq ?_
              refine sP.foot (.ids []) (fun hN => FootOK.idsB [] (by rfl) rfl hN) fd (by first | exact .inl (by first | rfl | decide) | exact .inr (by kernel_rfl)) <| rgP_cons <| zq ?_
              refine sP.pat 0 0 4 rfl rfl rfl <| rgP_cons <| zq ?_
              refine sP.light rfl fd <| zq ?_
              refine rgP_nil fk ?_
              subst hK82
              refine es <| xr <| er ?_
              cases h
              exact en fn
            · refine xf <| xk <| es <| xs <| rz ?_
              refine es <| xr ?_
              cases h
              exact en fn
          · refine xf <| xk <| es <| xs <| xs <| rK fun K88 RK88 hK88 gK88 => zz ?_
            obtain ⟨r89, h90, h⟩ := bs h
            refine eW.intro (aLS_End hI (nid := 4) (i0 := 1) (p0 := none) h90 fz) fi rfl <| zz ?_
            subst hK88 gK88
            refine es <| xs <| rz ?_
            refine es ?_
            rcases iK k h with ⟨k, h⟩ | ⟨k, h⟩
            · refine xt <| xs <| rP hI fun K95 hK95 => rgP_cons <| zq ?_
              refine sP.light rfl fd <| rgP_cons <| zq ?_
              refine sP.foot (.cell 8 0 3) (fun _ => FootOK.ld rfl rfl rfl (by kernel_rfl) (by decide)) fd (by first | exact .inl (by first | rfl | decide) | exact .inr (by kernel_rfl)) <| rgP_cons <| zq ?_
              refine sP.foot (.ids []) (fun hN => FootOK.idsB [] (by rfl) rfl hN) fd (by first | exact .inl (by first | rfl | decide) | exact .inr (by kernel_rfl)) <| rgP_cons <| zq ?_
              refine sP.pat 0 0 4 rfl rfl rfl <| rgP_cons <| zq ?_
              refine sP.light rfl fd <| zq ?_
              refine rgP_nil fk ?_
              subst hK95
              refine es <| xr <| er ?_
              cases h
              exact en fn
            · refine xf <| xk <| es <| xs <| rz ?_
              refine es <| xr ?_
              cases h
              exact en fn
      · refine xf <| xk <| es <| xs <| rK fun K101 RK101 hK101 gK101 => zz ?_
        obtain ⟨r102, h103, h⟩ := bs h
        refine eW.intro (aLS_Choice hI (nid := 27) (i0 := 4) (p0 := none) h103 fz) fi rfl <| zz ?_
        subst hK101 gK101
        refine es <| xs ?_
        obtain ⟨v108, h113, h⟩ := bs h
        refine rb_cut (fun v108 => ⟨envL [(2, .ptr 0 0), (5, .ptr 1 0), (6, .ptr 2 0), (61, .bool v108)], heapL [(0, .box none [.str [], .int .u8 0, .bool false, .nils]), (1, .box none [.int .i64 r102.2.line_.Number, .sl (r102.2.line_.Fields.map T_api_Field.d), .int .i64 r102.2.next_, .int .i64 r102.2.last_, .int .i64 r102.2.bad_.Line, .int .i64 r102.2.bad_.Column, .int .i64 r102.2.bad_.Code]), (2, .box none [.str r34.1, .int .u8 r44.1, .bool (r102.1 == 0), .nils])], 3, 74⟩) h113 ?_ ?_
        · clear h
          intro v108 h
          refine rK fun K109 RK109 hK109 gK109 => zz ?_
          rcases iK k h with ⟨k, h⟩ | ⟨k, h⟩
          · refine zz ?_
            obtain ⟨r111, h112, h⟩ := bs h
            refine cw (a_timebase_CanDrop hI h112) <| zz ?_
            subst hK109 gK109
            cases h
            exact en ⟨rfl, wk [(0, some 1), (1, some 4), (2, some 12)]⟩
          · refine zz ?_
            subst hK109 gK109
            cases h
            exact en ⟨rfl, wk [(0, some 1), (1, some 4), (2, some 12)]⟩
        · rcases iK k h with ⟨k, h⟩ | ⟨k, h⟩
          · refine xt <| rK fun K115 RK115 hK115 gK115 => zz ?_
            obtain ⟨r116, h117, h⟩ := bs h
            refine eW.intro (aLS_Fail hI (nid := 4) (i0 := 1) (p0 := none) h117 fz) fi rfl <| zz ?_
            subst hK115 gK115
            refine es <| xs <| xs <| rK fun K121 RK121 hK121 gK121 => zz ?_
            obtain ⟨r122, h123, h⟩ := bs h
            refine eW.intro (aLS_End hI (nid := 6) (i0 := 1) (p0 := none) h123 fz) fi rfl <| zz ?_
            subst hK121 gK121
            refine es <| xs <| rz ?_
            refine es ?_
            rcases iK k h with ⟨k, h⟩ | ⟨k, h⟩
            · refine xt <| xs <| rP hI fun K128 hK128 => rgP_cons <| zq ?_
              refine sP.light rfl fd <| rgP_cons <| zq ?_
              refine sP.foot (.cell 10 0 3) (fun _ => FootOK.ld rfl rfl rfl (by kernel_rfl) (by decide)) fd (by first | exact .inl (by first | rfl | decide) | exact .inr (by kernel_rfl)) <| rgP_cons <| zq ?_
              refine sP.foot (.ids []) (fun hN => FootOK.idsB [] (by rfl) rfl hN) fd (by first | exact .inl (by first | rfl | decide) | exact .inr (by kernel_rfl)) <| rgP_cons <| zq ?_
              refine sP.pat 0 0 4 rfl rfl rfl <| rgP_cons <| zq ?_
              refine sP.light rfl fd <| zq ?_
              refine rgP_nil fk ?_
              subst hK128
              refine es <| xr <| er ?_
              cases h
              exact en fn
            · refine xf <| xk <| es <| xs <| rz ?_
              refine es <| xr ?_
              cases h
              exact en fn
          · refine xf <| xk <| es <| xs <| xs <| rK fun K134 RK134 hK134 gK134 => zz ?_
            obtain ⟨r135, h136, h⟩ := bs h
            refine eW.intro (aLS_End hI (nid := 4) (i0 := 1) (p0 := none) h136 fz) fi rfl <| zz ?_
            subst hK134 gK134
            refine es <| xs <| rz ?_
            refine es ?_
            rcases iK k h with ⟨k, h⟩ | ⟨k, h⟩
            · refine xt <| xs <| rP hI fun K141 hK141 => rgP_cons <| zq ?_
              refine sP.light rfl fd <| rgP_cons <| zq ?_
              refine sP.foot (.cell 8 0 3) (fun _ => FootOK.ld rfl rfl rfl (by kernel_rfl) (by decide)) fd (by first | exact .inl (by first | rfl | decide) | exact .inr (by kernel_rfl)) <| rgP_cons <| zq ?_
              refine sP.foot (.ids []) (fun hN => FootOK.idsB [] (by rfl) rfl hN) fd (by first | exact .inl (by first | rfl | decide) | exact .inr (by kernel_rfl)) <| rgP_cons <| zq ?_
              refine sP.pat 0 0 4 rfl rfl rfl <| rgP_cons <| zq ?_
              refine sP.light rfl fd <| zq ?_
              refine rgP_nil fk ?_
              subst hK141
              refine es <| xr <| er ?_
              cases h
              exact en fn
            · refine xf <| xk <| es <| xs <| rz ?_
              refine es <| xr ?_
              cases h
              exact en fn
def g_edl_frame (s_0 : TLS) (l_1 : T_edl_List) : Option (Int × TLS) :=
  ((gLS_Word s_0).bind fun r9 => ((g_timecode_Parse l_1.Rate r9.1).bind fun r11 => (((if (r11.2 == 0) then (some (!(r11.1.Drop == l_1.Drop))) else (some false)) : Option (Bool)).bind fun v15 => (if v15 then ((gLS_Fail r9.2 4).bind fun r25 => ((g_timecode_Frame l_1.Rate r11.1).bind fun r31 => (some (r31.1, r25)))) else ((gLS_Fail r9.2 r11.2).bind fun r39 => ((g_timecode_Frame l_1.Rate r11.1).bind fun r45 => (some (r45.1, r39))))))))
theorem a_edl_frame {I : World → Prop} (hI : Stab I) {H : Nat → Option Blk} {nid : Nat} {i0 : Nat} {p0 : Option Nat} {s_0 : TLS} {l_1 : T_edl_List} {r : Int × TLS} (h : g_edl_frame s_0 l_1 = some r) (b0 : H i0 = some (.box p0 [.int .i64 s_0.line_.Number, .sl (s_0.line_.Fields.map T_api_Field.d), .int .i64 s_0.next_, .int .i64 s_0.last_, .int .i64 s_0.bad_.Line, .int .i64 s_0.bad_.Column, .int .i64 s_0.bad_.Code])) : CallOK Tryz.prog I 92 [.ptr i0 0, .agg [.str l_1.Title, .int .u8 l_1.Rate, .bool l_1.Drop, .any]] H nid (.int .i64 r.1) [(i0, some (.box p0 [.int .i64 r.2.line_.Number, .sl (r.2.line_.Fields.map T_api_Field.d), .int .i64 r.2.next_, .int .i64 r.2.last_, .int .i64 r.2.bad_.Line, .int .i64 r.2.bad_.Column, .int .i64 r.2.bad_.Code]))] := by
  refine CallOK.intro (is := [(i0, p0)]) (css := [[.int .i64 s_0.line_.Number, .sl (s_0.line_.Fields.map T_api_Field.d), .int .i64 s_0.next_, .int .i64 s_0.last_, .int .i64 s_0.bad_.Line, .int .i64 s_0.bad_.Column, .int .i64 s_0.bad_.Code]]) (ds0 := [.ptr 0 0, .agg [.str l_1.Title, .int .u8 l_1.Rate, .bool l_1.Drop, .any]]) (pl := [(0, none)]) hI Tryz.func92 rfl (by decide) (by simp [Tryz.f92]) (by kernel_rfl) rfl rfl rfl rfl (lentAll_of ⟨⟨b0, rfl⟩, trivial⟩) (by simp) ?_
  have dd := dd_EC; have k := True.intro; have q := k; have rs := Tryz.results92
  unfold g_edl_frame at h
  simp only [lentH, List.length_cons, List.length_nil, Nat.zero_add, Nat.reduceAdd, Tryz.ntmps92, dd_EC]
  refine xs <| rz ?_
  refine es <| xs <| rP hI fun K8 hK8 => rgP_cons <| zq ?_
  refine sP.light rfl fd <| rgP_cons <| zq ?_
  refine sP.foot (.cell 1 1 1) (fun _ => FootOK.ld rfl rfl rfl (by kernel_rfl) (by decide)) fd (by first | exact .inl (by first | rfl | decide) | exact .inr (by kernel_rfl)) <| rgP_cons <| zq ?_
  refine sP.light rfl fd <| rgP_cons <| zq ?_
  obtain ⟨r9, h10, h⟩ := bs h
  refine eP.intro (ep := []) (fun H' hs => aLS_Word hI (nid := 6) (i0 := 0) (p0 := (some 0)) h10 (hs 0 (by simp [D.ids, D.ids1]) _ fz)) fz rfl (.ids [0]) (fun hN => FootOK.idsB [0] (by rfl) rfl hN) fd (by first | exact .inl (by first | rfl | decide) | exact .inr (by kernel_rfl)) <| rgP_cons <| zq ?_
  obtain ⟨r11, h12, h⟩ := bs h
  refine cP.intro (a_timecode_Parse hI h12) fi (.ids []) (fun hN => FootOK.idsB [] (by rfl) rfl hN) fd (by first | exact .inl (by first | rfl | decide) | exact .inr (by kernel_rfl)) <| rgP_cons <| zq ?_
  refine sP.light rfl fd <| rgP_cons <| zq ?_
  refine sP.light rfl fd <| rgP_cons <| zq ?_
  refine sP.light rfl fd <| rgP_cons <| zq ?_
  refine sP.light rfl fd <| rgP_cons <| zq ?_
  refine sP.pat 11 0 5 rfl rfl rfl <| rgP_cons <| zq ?_
  refine sP.light rfl fd <| zq ?_
  refine rgP_nil fk ?_
  subst hK8
  refine es <| xs ?_
  obtain ⟨v15, h18, h⟩ := bs h
  refine rb_cut (fun v15 => ⟨envL [(0, .ptr 0 0), (3, .ptr 1 0), (5, .ptr 2 0), (6, .int .i64 r11.2), (25, .bool v15)], heapL [(0, .box (some 0) [.int .i64 r9.2.line_.Number, .sl (r9.2.line_.Fields.map T_api_Field.d), .int .i64 r9.2.next_, .int .i64 r9.2.last_, .int .i64 r9.2.bad_.Line, .int .i64 r9.2.bad_.Column, .int .i64 r9.2.bad_.Code]), (1, .box none [.str l_1.Title, .int .u8 l_1.Rate, .bool l_1.Drop, .any]), (2, .box none [.int .i64 r11.1.H, .int .i64 r11.1.M, .int .i64 r11.1.S, .int .i64 r11.1.F, .bool r11.1.Drop])], 3, 37⟩) h18 ?_ ?_
  · clear h
    intro v15 h
    refine rK fun K16 RK16 hK16 gK16 => zz ?_
    rcases iK k h with ⟨k, h⟩ | ⟨k, h⟩
    · refine zz ?_
      subst hK16 gK16
      cases h
      exact en ⟨rfl, wk [(2, some 11)]⟩
    · refine zz ?_
      subst hK16 gK16
      cases h
      exact en ⟨rfl, wk [(2, some 11)]⟩
  · rcases iK k h with ⟨k, h⟩ | ⟨k, h⟩
    · refine xt <| rz ?_
      refine es <| xs <| rK fun K24 RK24 hK24 gK24 => zz ?_
      obtain ⟨r25, h26, h⟩ := bs h
      refine eW.intro (aLS_Fail hI (nid := 6) (i0 := 0) (p0 := (some 0)) h26 fz) fi rfl <| zz ?_
      subst hK24 gK24
      refine es <| xs <| rK fun K30 RK30 hK30 gK30 => zz ?_
      obtain ⟨r31, h32, h⟩ := bs h
      refine cw (a_timecode_Frame hI h32) <| zz ?_
      subst hK30 gK30
      refine es <| xs <| rz ?_
      refine es <| xr ?_
      cases h
      exact en fp
    · refine xf <| xk <| es <| xs <| rK fun K38 RK38 hK38 gK38 => zz ?_
      obtain ⟨r39, h40, h⟩ := bs h
      refine eW.intro (aLS_Fail hI (nid := 5) (i0 := 0) (p0 := (some 0)) h40 fz) fi rfl <| zz ?_
      subst hK38 gK38
      refine es <| xs <| rK fun K44 RK44 hK44 gK44 => zz ?_
      obtain ⟨r45, h46, h⟩ := bs h
      refine cw (a_timecode_Frame hI h46) <| zz ?_
      subst hK44 gK44
      refine es <| xs <| rz ?_
      refine es <| xr ?_
      cases h
      exact en fp
def g_edl_cut (x_0 : T_api_Line) (l_1 : T_edl_List) : Option (T_api_Cut × T_api_Diag × Bool) :=
  ((g_lines_Scan x_0).bind fun r7 => ((gLS_Choice r7 [[67, 85, 84]]).bind fun r13 => ((gLS_Number r13.2 1 999).bind fun r21 => ((gLS_Name r21.2 false).bind fun r23 => ((g_edl_frame r23.2 (T_edl_List.mk l_1.Title l_1.Rate l_1.Drop [])).bind fun r29 => ((g_edl_frame r29.2 (T_edl_List.mk l_1.Title l_1.Rate l_1.Drop [])).bind fun r35 => ((g_edl_frame r35.2 (T_edl_List.mk l_1.Title l_1.Rate l_1.Drop [])).bind fun r41 => ((gLS_Left r41.2).bind fun r47 => (if (decide (0 < r47.1)) then ((gLS_Choice r47.2 [[83, 80, 69, 69, 68]]).bind fun r54 => ((gLS_Word r54.2).bind fun r62 => ((g_ratio_Parse r62.1).bind fun r64 => ((gLS_Fail r62.2 r64.2).bind fun r70 => ((gLS_End r70).bind fun r77 => (some ((T_api_Cut.mk r21.1 r23.1 r29.1 (T_api_Span.mk r35.1 r41.1) r64.1), r77.1, r77.2.1))))))) else ((gLS_End r47.2).bind fun r85 => (some ((T_api_Cut.mk r21.1 r23.1 r29.1 (T_api_Span.mk r35.1 r41.1) (T_api_Ratio.mk 1 1)), r85.1, r85.2.1))))))))))))
theorem a_edl_cut {I : World → Prop} (hI : Stab I) (hPIv : ∀ w, I w → PIv w) (hShp : ∀ w, I w → Shp w) (hTab : ∀ w, I w → Tab w) {x_0 : T_api_Line} {l_1 : T_edl_List} {r : T_api_Cut × T_api_Diag × Bool} (h : g_edl_cut x_0 l_1 = some r) : AFun Tryz.prog I 51 [T_api_Line.d x_0, .agg [.str l_1.Title, .int .u8 l_1.Rate, .bool l_1.Drop, .any]] (.tup [T_api_Cut.d r.1, T_api_Diag.d r.2.1, .bool r.2.2]) := by
  have dd := dd_EC; have k := True.intro; have q := k; have rs := Tryz.results51
  unfold g_edl_cut at h
  refine .en hI Tryz.func51 Tryz.ntmps51 ?_
  refine xs <| rz ?_
  refine es <| xs <| rK fun K6 RK6 hK6 gK6 => zz ?_
  obtain ⟨r7, h8, h⟩ := bs h
  refine cW.introE (a_lines_Scan hI (nid := 6) h8) fz rfl <| zz ?_
  subst hK6 gK6
  refine es <| xs <| rK fun K12 RK12 hK12 gK12 => zz ?_
  obtain ⟨r13, h14, h⟩ := bs h
  refine eW.intro (aLS_Choice hI (nid := 10) (i0 := 6) (p0 := none) h14 fz) fi rfl <| zz ?_
  subst hK12 gK12
  refine es <| xs <| rK fun K20 RK20 hK20 gK20 => zz ?_
  obtain ⟨r21, h22, h⟩ := bs h
  refine eW.intro (aLS_Number hI hPIv (nid := 12) (i0 := 6) (p0 := none) h22 fz) fi rfl <| zz ?_
  obtain ⟨r23, h24, h⟩ := bs h
  refine eW.intro (aLS_Name hI (nid := 14) (i0 := 6) (p0 := none) h24 fz) fi rfl <| zz ?_
  subst hK20 gK20
  refine es <| xs <| rK fun K28 RK28 hK28 gK28 => zz ?_
  obtain ⟨r29, h30, h⟩ := bs h
  refine rW.intro (a_edl_frame hI (nid := 21) (i0 := 6) (p0 := none) h30 fz) fi rfl <| zz ?_
  subst hK28 gK28
  refine es <| xs <| rK fun K34 RK34 hK34 gK34 => zz ?_
  obtain ⟨r35, h36, h⟩ := bs h
  refine rW.intro (a_edl_frame hI (nid := 26) (i0 := 6) (p0 := none) h36 fz) fi rfl <| zz ?_
  subst hK34 gK34
  refine es <| xs <| rK fun K40 RK40 hK40 gK40 => zz ?_
  obtain ⟨r41, h42, h⟩ := bs h
  refine rW.intro (a_edl_frame hI (nid := 32) (i0 := 6) (p0 := none) h42 fz) fi rfl <| zz ?_
  subst hK40 gK40
  refine es <| xs <| xs <| rK fun K46 RK46 hK46 gK46 => zz ?_
  obtain ⟨r47, h48, h⟩ := bs h
  refine eW.intro (aLS_Left hI (nid := 37) (i0 := 6) (p0 := none) h48 fz) fi rfl <| zz ?_
  subst hK46 gK46
  refine es ?_
  rcases iK k h with ⟨k, h⟩ | ⟨k, h⟩
  · refine xt <| xs <| rK fun K53 RK53 hK53 gK53 => zz ?_
    obtain ⟨r54, h55, h⟩ := bs h
    refine eW.intro (aLS_Choice hI (nid := 41) (i0 := 6) (p0 := none) h55 fz) fi rfl <| zz ?_
    subst hK53 gK53
    refine es <| xs <| rK fun K61 RK61 hK61 gK61 => zz ?_
    obtain ⟨r62, h63, h⟩ := bs h
    refine eW.intro (aLS_Word hI (nid := 43) (i0 := 6) (p0 := none) h63 fz) fi rfl <| zz ?_
    obtain ⟨r64, h65, h⟩ := bs h
    refine cw (a_ratio_Parse hI hPIv hShp hTab h65) <| zz ?_
    subst hK61 gK61
    refine es <| xs <| rK fun K69 RK69 hK69 gK69 => zz ?_
    obtain ⟨r70, h71, h⟩ := bs h
    refine eW.intro (aLS_Fail hI (nid := 53) (i0 := 6) (p0 := none) h71 fz) fi rfl <| zz ?_
    subst hK69 gK69
    refine es <| rz ?_
    refine es <| xs <| rK fun K76 RK76 hK76 gK76 => zz ?_
    obtain ⟨r77, h78, h⟩ := bs h
    refine eW.intro (aLS_End hI (nid := 58) (i0 := 6) (p0 := none) h78 fz) fi rfl <| zz ?_
    subst hK76 gK76
    refine es <| xs <| rP hI fun K80 hK80 => rgP_cons <| zq ?_
    refine sP.foot (.cell 17 0 7) (fun _ => FootOK.ld rfl rfl rfl (by kernel_rfl) (by decide)) fd (by first | exact .inl (by first | rfl | decide) | exact .inr (by kernel_rfl)) <| rgP_cons <| zq ?_
    refine sP.foot (.cell 62 0 3) (fun _ => FootOK.ld rfl rfl rfl (by kernel_rfl) (by decide)) fd (by first | exact .inl (by first | rfl | decide) | exact .inr (by kernel_rfl)) <| rgP_cons <| zq ?_
    refine sP.light rfl fd <| rgP_cons <| zq ?_
    refine sP.pat 2 0 7 rfl rfl rfl <| rgP_cons <| zq ?_
    refine sP.pat 3 0 3 rfl rfl rfl <| rgP_cons <| zq ?_
    refine sP.light rfl fd <| zq ?_
    refine rgP_nil fk ?_
    subst hK80
    refine es <| xr ?_
    cases h
    exact en fr
  · refine xf <| xk <| es <| xs <| rK fun K84 RK84 hK84 gK84 => zz ?_
    obtain ⟨r85, h86, h⟩ := bs h
    refine eW.intro (aLS_End hI (nid := 40) (i0 := 6) (p0 := none) h86 fz) fi rfl <| zz ?_
    subst hK84 gK84
    refine es <| xs <| rP hI fun K88 hK88 => rgP_cons <| zq ?_
    refine sP.foot (.cell 17 0 7) (fun _ => FootOK.ld rfl rfl rfl (by kernel_rfl) (by decide)) fd (by first | exact .inl (by first | rfl | decide) | exact .inr (by kernel_rfl)) <| rgP_cons <| zq ?_
    refine sP.foot (.cell 44 0 3) (fun _ => FootOK.ld rfl rfl rfl (by kernel_rfl) (by decide)) fd (by first | exact .inl (by first | rfl | decide) | exact .inr (by kernel_rfl)) <| rgP_cons <| zq ?_
    refine sP.light rfl fd <| rgP_cons <| zq ?_
    refine sP.pat 2 0 7 rfl rfl rfl <| rgP_cons <| zq ?_
    refine sP.pat 3 0 3 rfl rfl rfl <| rgP_cons <| zq ?_
    refine sP.light rfl fd <| zq ?_
    refine rgP_nil fk ?_
    subst hK88
    refine es <| xr ?_
    cases h
    exact en fr
def g_edl_last (c_0 : T_api_Cut) : Option (Int) :=
  ((g_ratio_Quotient (IntKind.i64.wrap ((IntKind.i64.wrap ((IntKind.i64.wrap (c_0.Record.Out - 1)) - c_0.Record.In)) * c_0.Speed.Num)) c_0.Speed.Den 1).bind fun r7 => (some (IntKind.i64.wrap (c_0.Source + r7.1))))
theorem a_edl_last {I : World → Prop} (hI : Stab I) {c_0 : T_api_Cut} {r : Int} (h : g_edl_last c_0 = some r) : AFun Tryz.prog I 63 [T_api_Cut.d c_0] (.int .i64 r) := by
  have dd := dd_EC; have k := True.intro; have q := k; have rs := Tryz.results63
  unfold g_edl_last at h
  refine .en hI Tryz.func63 Tryz.ntmps63 ?_
  refine xs <| rz ?_
  refine es <| xs <| rK fun K6 RK6 hK6 gK6 => zz ?_
  obtain ⟨r7, h8, h⟩ := bs h
  refine cw (a_ratio_Quotient hI h8) <| zz ?_
  subst hK6 gK6
  refine es <| xs <| rz ?_
  refine es <| xr ?_
  cases h
  exact en fr
def g_edl_checkCut (c_0 : T_api_Cut) (day_1 : Int) : Option (Int) :=
  ((g_lines_Name c_0.Reel).bind fun r64 => (if r64 then (if (decide (c_0.Record.Out ≤ c_0.Record.In)) then (some 1) else (((if (decide (c_0.Record.In < 0)) then (some true) else (some (decide (day_1 ≤ c_0.Record.Out)))) : Option (Bool)).bind fun v74 => (if v74 then (some 2) else ((((g_ratio_Valid c_0.Speed).bind fun r89 => (if r89 then (if (decide (c_0.Speed.Num < 0)) then (some true) else (if (decide (8 < c_0.Speed.Num)) then (some true) else (some (decide (8 < c_0.Speed.Den))))) else (some true))) : Option (Bool)).bind fun v87 => (if v87 then (some 3) else (if (decide (c_0.Source < 0)) then (some 2) else (if (decide (day_1 ≤ c_0.Source)) then (some 2) else ((g_edl_last c_0).bind fun r110 => (if (decide (day_1 ≤ r110)) then (some 2) else (some 0)))))))))) else (some 5)))
theorem a_edl_checkCut {I : World → Prop} (hI : Stab I) {c_0 : T_api_Cut} {day_1 : Int} {r : Int} (h : g_edl_checkCut c_0 day_1 = some r) : AFun Tryz.prog I 30 [T_api_Cut.d c_0, .int .i64 day_1] (.int .i64 r) := by
  have dd := dd_EC; have k := True.intro; have q := k; have rs := Tryz.results30
  unfold g_edl_checkCut at h
  refine .en hI Tryz.func30 Tryz.ntmps30 ?_
  refine xs <| rz ?_
  refine es <| xs <| xb <| xs <| rK fun K63 RK63 hK63 gK63 => zz ?_
  obtain ⟨r64, h65, h⟩ := bs h
  refine cw (a_lines_Name hI h65) <| zz ?_
  subst hK63 gK63
  refine es ?_
  rcases iK k h with ⟨k, h⟩ | ⟨k, h⟩
  · refine xf <| xs <| rz ?_
    refine es ?_
    rcases iK k h with ⟨k, h⟩ | ⟨k, h⟩
    · refine xt <| xs <| rz ?_
      refine es <| xr <| br <| er ?_
      cases h
      exact en fr
    · refine xf ?_
      obtain ⟨v74, h77, h⟩ := bs h
      refine rb_cut (fun v74 => ⟨envL [(1, .int .i64 day_1), (2, .ptr 0 0), (18, .bool v74)], heapL [(0, .box none [.int .i64 c_0.Number, .str c_0.Reel, .int .i64 c_0.Source, .int .i64 c_0.Record.In, .int .i64 c_0.Record.Out, .int .i64 c_0.Speed.Num, .int .i64 c_0.Speed.Den])], 1, 69⟩) h77 ?_ ?_
      · clear h
        intro v74 h
        refine rK fun K75 RK75 hK75 gK75 => zz ?_
        rcases iK k h with ⟨k, h⟩ | ⟨k, h⟩
        · refine zz ?_
          subst hK75 gK75
          cases h
          exact en ⟨rfl, wk []⟩
        · refine zz ?_
          subst hK75 gK75
          cases h
          exact en ⟨rfl, wk []⟩
      · rcases iK k h with ⟨k, h⟩ | ⟨k, h⟩
        · refine xt <| xs <| rz ?_
          refine es <| xr <| br <| er ?_
          cases h
          exact en fr
        · refine xf ?_
          obtain ⟨v87, h94, h⟩ := bs h
          refine rb_cut (fun v87 => ⟨envL [(1, .int .i64 day_1), (2, .ptr 0 0), (30, .bool v87)], heapL [(0, .box none [.int .i64 c_0.Number, .str c_0.Reel, .int .i64 c_0.Source, .int .i64 c_0.Record.In, .int .i64 c_0.Record.Out, .int .i64 c_0.Speed.Num, .int .i64 c_0.Speed.Den])], 1, 69⟩) h94 ?_ ?_
          · clear h
            intro v87 h
            refine rK fun K88 RK88 hK88 gK88 => zz ?_
            obtain ⟨r89, h90, h⟩ := bs h
            refine cw (a_ratio_Valid hI h90) <| zz ?_
            rcases iK k h with ⟨k, h⟩ | ⟨k, h⟩
            · refine zz ?_
              rcases iK k h with ⟨k, h⟩ | ⟨k, h⟩
              · refine zz ?_
                subst hK88 gK88
                cases h
                exact en ⟨rfl, wk []⟩
              · refine zz ?_
                rcases iK k h with ⟨k, h⟩ | ⟨k, h⟩
                · refine zz ?_
                  subst hK88 gK88
                  cases h
                  exact en ⟨rfl, wk []⟩
                · refine zz ?_
                  subst hK88 gK88
                  cases h
                  exact en ⟨rfl, wk []⟩
            · refine zz ?_
              subst hK88 gK88
              cases h
              exact en ⟨rfl, wk []⟩
          · rcases iK k h with ⟨k, h⟩ | ⟨k, h⟩
            · refine xt <| xs <| rz ?_
              refine es <| xr <| br <| er ?_
              cases h
              exact en fr
            · refine xf <| xs <| rK fun K103 RK103 hK103 gK103 => zz ?_
              rcases iK k h with ⟨k, h⟩ | ⟨k, h⟩
              · refine zz ?_
                subst hK103 gK103
                refine es <| xt <| xs <| rz ?_
                refine es <| xr <| br <| er ?_
                cases h
                exact en fr
              · refine zz ?_
                rcases iK k h with ⟨k, h⟩ | ⟨k, h⟩
                · refine zz ?_
                  subst hK103 gK103
                  refine es <| xt <| xs <| rz ?_
                  refine es <| xr <| br <| er ?_
                  cases h
                  exact en fr
                · refine zz ?_
                  obtain ⟨r110, h111, h⟩ := bs h
                  refine cw (a_edl_last hI h111) <| zz ?_
                  subst hK103 gK103
                  refine es ?_
                  rcases iK k h with ⟨k, h⟩ | ⟨k, h⟩
                  · refine xt <| xs <| rz ?_
                    refine es <| xr <| br <| er ?_
                    cases h
                    exact en fr
                  · refine xf <| xk <| bn <| es <| xs <| rz ?_
                    refine es <| xr ?_
                    cases h
                    exact en fr
  · refine xt <| xs <| rz ?_
    refine es <| xr <| br <| er ?_
    cases h
    exact en fr
def g_edl_Reels_s1 (l_0 : T_edl_List) (x7 : (List (List UInt8)) × Int) : Option (Nx ((List (List UInt8)) × Int) ((List (List UInt8)))) :=
  (if (decide (x7.2 < (l_0.Cuts.length : Int))) then ((atI l_0.Cuts x7.2).bind fun y68 => (if (x7.1.length + 1) * 16 ≤ 140737488355328 then (some (.go ((x7.1 ++ [y68.Reel]), (IntKind.i64.wrap (x7.2 + 1))))) else none)) else (some (.out x7.1)))
def g_edl_Reels (l_0 : T_edl_List) : Option ((List (List UInt8))) :=
  ((iter (g_edl_Reels_s1 l_0) ([], 0)).bind fun e8 => (if e8.length < 4611686018427387904 then (if (sortS e8).length < 4611686018427387904 then (some (Lib.compact (sortS e8))) else none) else none))
theorem a_edl_Reels {I : World → Prop} (hI : Stab I) {l_0 : T_edl_List} {r : (List (List UInt8))} (h : g_edl_Reels l_0 = some r) : AFun Tryz.prog I 15 [T_edl_List.d l_0] (.sl (r.map D.str)) := by
  have dd := dd_EC; have k := True.intro; have q := k; have rs := Tryz.results15
  unfold g_edl_Reels at h
  refine .en hI Tryz.func15 Tryz.ntmps15 ?_
  refine xs <| rz ?_
  refine es <| xs <| rz ?_
  refine es <| xs <| xs <| rz ?_
  refine es <| xb ?_
  obtain ⟨e8, h74, h⟩ := bs h
  refine rb_loop (fun x7 => ⟨envL [(3, .own 0 x7.1.length), (7, .sl (l_0.Cuts.map T_api_Cut.d)), (8, .int .i64 (l_0.Cuts.length : Int)), (9, .int .i64 x7.2)], heapL [(0, .vec 9 1 (x7.1.map D.str) false)], 1, 23⟩) (fun _ => .exit 0) (fun e8 => ⟨envL [(3, .own 0 e8.length)], heapL [(0, .vec 9 1 (e8.map D.str) false)], 1, 23⟩) h74 (wk [(0, none)]) (by intro w; simp) ?_ ?_
  · clear h
    intro x7 y h
    unfold g_edl_Reels_s1 at h
    refine xs <| rz ?_
    refine es <| xs ?_
    rcases iK k h with ⟨k, h⟩ | ⟨k, h⟩
    · refine xt <| xk <| es <| xs <| xb <| xs <| rK fun K67 RK67 hK67 gK67 => zz ?_
      obtain ⟨y68, q, h⟩ := bK q h
      refine zz ?_
      subst hK67 gK67
      refine es <| rK fun K70 RK70 hK70 gK70 => zz ?_
      obtain ⟨h71, h⟩ := ite_on h
      have h72 : x7.1.length + 1 ≤ 9223372036854775807 := by omega
      try simp only [Nat.reduceLeDiff] at h72
      have q := And.intro @h72 <| And.intro @h71 <| q
      refine zz ?_
      subst hK70 gK70
      refine bn <| es <| rz ?_
      cases h
      exact en ⟨rfl, wk [(0, some 10)]⟩
    · refine xf <| xx <| ee ?_
      cases h
      exact en ⟨rfl, wk []⟩
  · refine bh <| es <| xs <| rK fun K77 RK77 hK77 gK77 => zz ?_
    obtain ⟨h78, h⟩ := ite_on h
    have q := And.intro (sortS_length e8) q
    refine cW.introR (c_SortS (nid := 2) (id := 0) (l := e8) fz h78) fs rfl <| zz ?_
    subst hK77 gK77
    refine es <| xs <| rK fun K81 RK81 hK81 gK81 => zz ?_
    obtain ⟨h82, h⟩ := ite_on h
    refine cW.introR (c_CompactS (nid := 4) (id := 0) (l := (sortS e8)) fz h82) fs rfl <| zz ?_
    subst hK81 gK81
    refine es <| xr ?_
    cases h
    exact en fr
def g_edl_Check_s1 (l_0 : T_edl_List) (r81 : Int) (x85 : Int) : Option (Nx (Int) (Int ⊕ Unit)) :=
  (if (decide (x85 < (l_0.Cuts.length : Int))) then ((atI l_0.Cuts x85).bind fun y357 => (((if (decide (y357.Number < 1)) then (some true) else (some (decide (999 < y357.Number)))) : Option (Bool)).bind fun v361 => (if v361 then (some (.out (.inl 2))) else (((if (decide (0 < x85)) then ((atI l_0.Cuts (IntKind.i64.wrap (x85 - 1))).bind fun y375 => (some (decide (y357.Number ≤ y375.Number)))) else (some false)) : Option (Bool)).bind fun v372 => (if v372 then (some (.out (.inl 8))) else ((g_edl_checkCut y357 r81).bind fun r385 => (if (r385 != 0) then (some (.out (.inl r385))) else (if (decide (0 < x85)) then ((atI l_0.Cuts (IntKind.i64.wrap (x85 - 1))).bind fun y398 => (if (decide (y357.Record.In < y398.Record.Out)) then (some (.out (.inl 14))) else (some (.go (IntKind.i64.wrap (x85 + 1)))))) else (some (.go (IntKind.i64.wrap (x85 + 1)))))))))))) else (some (.out (.inr ()))))
def g_edl_Check (l_0 : T_edl_List) : Option (Int) :=
  ((g_charset_Valid l_0.Title).bind fun r45 => (if r45 then (if (decide (400 < (l_0.Title.length : Int))) then (some 9) else ((((g_timebase_Valid l_0.Rate).bind fun r62 => (if r62 then (if l_0.Drop then ((g_timebase_CanDrop l_0.Rate).bind fun r66 => (some (!r66))) else (some false)) else (some true))) : Option (Bool)).bind fun v60 => (if v60 then (some 13) else (if (decide (64 < (l_0.Cuts.length : Int))) then (some 9) else ((g_timecode_Day l_0.Rate l_0.Drop).bind fun r81 => ((iter (g_edl_Check_s1 l_0 r81) 0).bind fun e86 => (match e86 with | Sum.inl e86 => (some e86) | Sum.inr (e86) => ((g_edl_Reels l_0).bind fun r410 => (if (decide (16 < (r410.length : Int))) then (some 9) else (some 0)))))))))) else (some 10)))
theorem a_edl_Check {I : World → Prop} (hI : Stab I) (hU8T : ∀ w, I w → U8T w) {l_0 : T_edl_List} {r : Int} (h : g_edl_Check l_0 = some r) : AFun Tryz.prog I 12 [T_edl_List.d l_0] (.int .i64 r) := by
  have dd := dd_EC; have k := True.intro; have q := k; have rs := Tryz.results12
  unfold g_edl_Check at h
  refine .en hI Tryz.func12 Tryz.ntmps12 ?_
  refine xs <| rz ?_
  refine es <| xs <| xb <| xs <| rK fun K44 RK44 hK44 gK44 => zz ?_
  obtain ⟨r45, h46, h⟩ := bs h
  refine cw (a_charset_Valid hI hU8T h46) <| zz ?_
  subst hK44 gK44
  refine es ?_
  rcases iK k h with ⟨k, h⟩ | ⟨k, h⟩
  · refine xf <| xs <| rz ?_
    refine es ?_
    rcases iK k h with ⟨k, h⟩ | ⟨k, h⟩
    · refine xt <| xs <| rz ?_
      refine es <| xr <| br <| er ?_
      cases h
      exact en fr
    · refine xf ?_
      obtain ⟨v60, h68, h⟩ := bs h
      refine rb_cut (fun v60 => ⟨envL [(1, .ptr 0 0), (17, .bool v60)], heapL [(0, .box none [.str l_0.Title, .int .u8 l_0.Rate, .bool l_0.Drop, .sl (l_0.Cuts.map T_api_Cut.d)])], 1, 99⟩) h68 ?_ ?_
      · clear h
        intro v60 h
        refine rK fun K61 RK61 hK61 gK61 => zz ?_
        obtain ⟨r62, h63, h⟩ := bs h
        refine cw (a_timebase_Valid hI h63) <| zz ?_
        rcases iK k h with ⟨k, h⟩ | ⟨k, h⟩
        · refine zz ?_
          rcases iK k h with ⟨k, h⟩ | ⟨k, h⟩
          · refine zz ?_
            obtain ⟨r66, h67, h⟩ := bs h
            refine cw (a_timebase_CanDrop hI h67) <| zz ?_
            subst hK61 gK61
            cases h
            exact en ⟨rfl, wk []⟩
          · refine zz ?_
            subst hK61 gK61
            cases h
            exact en ⟨rfl, wk []⟩
        · refine zz ?_
          subst hK61 gK61
          cases h
          exact en ⟨rfl, wk []⟩
      · rcases iK k h with ⟨k, h⟩ | ⟨k, h⟩
        · refine xt <| xs <| rz ?_
          refine es <| xr <| br <| er ?_
          cases h
          exact en fr
        · refine xf <| xs <| rz ?_
          refine es ?_
          rcases iK k h with ⟨k, h⟩ | ⟨k, h⟩
          · refine xt <| xs <| rz ?_
            refine es <| xr <| br <| er ?_
            cases h
            exact en fr
          · refine xf <| xk <| bn <| es <| xs <| rK fun K80 RK80 hK80 gK80 => zz ?_
            obtain ⟨r81, h82, h⟩ := bs h
            refine cw (a_timecode_Day hI h82) <| zz ?_
            subst hK80 gK80
            refine es <| xs <| xs <| rz ?_
            refine es <| xb ?_
            obtain ⟨e86, h405, h⟩ := bs h
            refine rb_loop (fun x85 => ⟨envL [(1, .ptr 0 0), (3, .int .i64 r81), (43, .sl (l_0.Cuts.map T_api_Cut.d)), (44, .int .i64 (l_0.Cuts.length : Int)), (45, .int .i64 x85)], heapL [(0, .box none [.str l_0.Title, .int .u8 l_0.Rate, .bool l_0.Drop, .sl (l_0.Cuts.map T_api_Cut.d)])], 1, 99⟩) (fun w => match w with | Sum.inl _ => .ret | Sum.inr (_) => .exit 1) (fun w => match w with | Sum.inl e86 => ⟨envL [(2, .int .i64 e86)], heapL [], 0, 99⟩ | Sum.inr (e86) => ⟨envL [(1, .ptr 0 0)], heapL [(0, .box none [.str l_0.Title, .int .u8 l_0.Rate, .bool l_0.Drop, .sl (l_0.Cuts.map T_api_Cut.d)])], 1, 99⟩) h405 (wk []) (by intro w; rcases w with w | w <;> simp) ?_ ?_
            · clear h
              intro x85 y h
              unfold g_edl_Check_s1 at h
              refine xs <| rz ?_
              refine es <| xs ?_
              rcases iK k h with ⟨k, h⟩ | ⟨k, h⟩
              · refine xt <| xk <| es <| xs <| xb <| xs <| rK fun K356 RK356 hK356 gK356 => zz ?_
                obtain ⟨y357, q, h⟩ := bK q h
                refine zz ?_
                subst hK356 gK356
                refine es <| xs ?_
                obtain ⟨v361, h364, h⟩ := bs h
                refine rb_cut (fun v361 => ⟨envL [(1, .ptr 0 0), (3, .int .i64 r81), (4, .int .i64 x85), (5, .ptr 1 0), (43, .sl (l_0.Cuts.map T_api_Cut.d)), (44, .int .i64 (l_0.Cuts.length : Int)), (45, .int .i64 x85), (57, .bool v361)], heapL [(0, .box none [.str l_0.Title, .int .u8 l_0.Rate, .bool l_0.Drop, .sl (l_0.Cuts.map T_api_Cut.d)]), (1, .box none [.int .i64 y357.Number, .str y357.Reel, .int .i64 y357.Source, .int .i64 y357.Record.In, .int .i64 y357.Record.Out, .int .i64 y357.Speed.Num, .int .i64 y357.Speed.Den])], 2, 99⟩) h364 ?_ ?_
                · clear h
                  intro v361 h
                  refine rK fun K362 RK362 hK362 gK362 => zz ?_
                  rcases iK k h with ⟨k, h⟩ | ⟨k, h⟩
                  · refine zz ?_
                    subst hK362 gK362
                    cases h
                    exact en ⟨rfl, wk [(1, some 5)]⟩
                  · refine zz ?_
                    subst hK362 gK362
                    cases h
                    exact en ⟨rfl, wk [(1, some 5)]⟩
                · rcases iK k h with ⟨k, h⟩ | ⟨k, h⟩
                  · refine xt <| xs <| rz ?_
                    refine es <| xr <| er <| br <| er ?_
                    cases h
                    exact en ⟨rfl, wk []⟩
                  · refine xf <| xk <| es <| xs ?_
                    obtain ⟨v372, h377, h⟩ := bs h
                    refine rb_cut (fun v372 => ⟨envL [(1, .ptr 0 0), (3, .int .i64 r81), (4, .int .i64 x85), (5, .ptr 1 0), (43, .sl (l_0.Cuts.map T_api_Cut.d)), (44, .int .i64 (l_0.Cuts.length : Int)), (45, .int .i64 x85), (71, .bool v372)], heapL [(0, .box none [.str l_0.Title, .int .u8 l_0.Rate, .bool l_0.Drop, .sl (l_0.Cuts.map T_api_Cut.d)]), (1, .box none [.int .i64 y357.Number, .str y357.Reel, .int .i64 y357.Source, .int .i64 y357.Record.In, .int .i64 y357.Record.Out, .int .i64 y357.Speed.Num, .int .i64 y357.Speed.Den])], 2, 99⟩) h377 ?_ ?_
                    · clear h
                      intro v372 h
                      refine rD hI fun K373 RK373 hK373 gK373 => zz ?_
                      rcases iK k h with ⟨k, h⟩ | ⟨k, h⟩
                      · refine zz ?_
                        obtain ⟨y375, q, h⟩ := bK q h
                        refine zz ?_
                        subst hK373 gK373
                        cases h
                        exact en ⟨rfl, wk []⟩
                      · refine zz ?_
                        subst hK373 gK373
                        cases h
                        exact en ⟨rfl, wk []⟩
                    · rcases iK k h with ⟨k, h⟩ | ⟨k, h⟩
                      · refine xt <| xs <| rz ?_
                        refine es <| xr <| er <| br <| er ?_
                        cases h
                        exact en ⟨rfl, wk []⟩
                      · refine xf <| xk <| es <| xs <| xs <| rK fun K384 RK384 hK384 gK384 => zz ?_
                        obtain ⟨r385, h386, h⟩ := bs h
                        refine cw (a_edl_checkCut hI h386) <| zz ?_
                        subst hK384 gK384
                        refine es <| xs <| rz ?_
                        refine es ?_
                        rcases iK k h with ⟨k, h⟩ | ⟨k, h⟩
                        · refine xt <| xs <| rz ?_
                          refine es <| xr <| er <| br <| er ?_
                          cases h
                          exact en ⟨rfl, wk []⟩
                        · refine xf <| xk <| es <| xs <| rD hI fun K396 RK396 hK396 gK396 => zz ?_
                          rcases iK k h with ⟨k, h⟩ | ⟨k, h⟩
                          · refine zz ?_
                            obtain ⟨y398, q, h⟩ := bK q h
                            refine zz ?_
                            subst hK396 gK396
                            refine es ?_
                            rcases iK k h with ⟨k, h⟩ | ⟨k, h⟩
                            · refine xt <| xs <| rz ?_
                              refine es <| xr <| br <| er ?_
                              cases h
                              exact en ⟨rfl, wk []⟩
                            · refine xf <| xk <| bn <| es <| rz ?_
                              cases h
                              exact en ⟨rfl, wk []⟩
                          · refine zz ?_
                            subst hK396 gK396
                            refine es <| xf <| xk <| bn <| es <| rz ?_
                            cases h
                            exact en ⟨rfl, wk []⟩
              · refine xf <| xx <| ee ?_
                cases h
                exact en ⟨rfl, wk []⟩
            · rcases e86 with e86 | e86
              · try dsimp only at h ⊢
                refine br <| er ?_
                cases h
                exact en fr
              · try dsimp only at h ⊢
                refine bh <| es <| xs <| xs <| rK fun K409 RK409 hK409 gK409 => zz ?_
                obtain ⟨r410, h411, h⟩ := bs h
                refine cw (a_edl_Reels hI h411) <| zz ?_
                subst hK409 gK409
                refine es ?_
                rcases iK k h with ⟨k, h⟩ | ⟨k, h⟩
                · refine xt <| xs <| rz ?_
                  refine es <| xr <| er ?_
                  cases h
                  exact en fr
                · refine xf <| xk <| es <| xs <| rz ?_
                  refine es <| xr ?_
                  cases h
                  exact en fr
  · refine xt <| xs <| rz ?_
    refine es <| xr <| br <| er ?_
    cases h
    exact en fr
def g_edl_Parse_s1 (r37 : T_edl_List × (List T_api_Diag)) (z48 : List T_api_Line) (x53 : (List T_api_Diag) × Int × (List T_api_Cut)) : Option (Nx ((List T_api_Diag) × Int × (List T_api_Cut)) ((List T_api_Diag) × (List T_api_Cut))) :=
  (if (decide (x53.2.1 < (z48.length : Int))) then ((atI z48 x53.2.1).bind fun y290 => ((g_edl_cut y290 (T_edl_List.mk r37.1.Title r37.1.Rate r37.1.Drop x53.2.2)).bind fun r296 => (if r296.2.2 then (if (decide (((x53.1.length : Nat) : Int) < 50)) then (if (x53.1.length + 1) * 24 ≤ 140737488355328 then (some (.go ((x53.1 ++ [r296.2.1]), (IntKind.i64.wrap (x53.2.1 + 1)), x53.2.2))) else none) else (some (.go (x53.1, (IntKind.i64.wrap (x53.2.1 + 1)), x53.2.2)))) else (if (x53.2.2.length + 1) * 64 ≤ 140737488355328 then (some (.go (x53.1, (IntKind.i64.wrap (x53.2.1 + 1)), (x53.2.2 ++ [r296.1])))) else none)))) else (some (.out (x53.1, x53.2.2))))
def g_edl_Parse (src_0 : List UInt8) : Option (T_edl_List × (List T_api_Diag)) :=
  ((g_lines_Split src_0).bind fun r7 => (if (decide (0 < (r7.2.length : Int))) then (some ((T_edl_List.mk [] 0 false []), r7.2)) else (if ((r7.1.length : Int) == 0) then (some ((T_edl_List.mk [] 0 false []), [(T_api_Diag.mk 1 1 8)])) else ((atI r7.1 0).bind fun y35 => ((g_edl_head y35).bind fun r37 => (if r37.2.isEmpty then ((subL r7.1 1).bind fun z48 => ((iter (g_edl_Parse_s1 r37 z48) ([], 0, [])).bind fun e54 => (if (decide (0 < ((e54.1.length : Nat) : Int))) then (some ((T_edl_List.mk [] 0 false []), e54.1)) else ((g_edl_Check (T_edl_List.mk r37.1.Title r37.1.Rate r37.1.Drop e54.2)).bind fun r323 => (if (r323 != 0) then (some ((T_edl_List.mk [] 0 false []), [(T_api_Diag.mk 1 1 r323)])) else (some ((T_edl_List.mk r37.1.Title r37.1.Rate r37.1.Drop e54.2), []))))))) else (some ((T_edl_List.mk [] 0 false []), r37.2))))))))
theorem a_edl_Parse {I : World → Prop} (hI : Stab I) (hPIv : ∀ w, I w → PIv w) (hShp : ∀ w, I w → Shp w) (hTab : ∀ w, I w → Tab w) (hU8T : ∀ w, I w → U8T w) {src_0 : List UInt8} {r : T_edl_List × (List T_api_Diag)} (h : g_edl_Parse src_0 = some r) : AFun Tryz.prog I 21 [.str src_0] (.tup [T_edl_List.d r.1, .sl (r.2.map T_api_Diag.d)]) := by
  have dd := dd_EC; have k := True.intro; have q := k; have rs := Tryz.results21
  unfold g_edl_Parse at h
  refine .en hI Tryz.func21 Tryz.ntmps21 ?_
  refine xs <| rz ?_
  refine es <| xs <| rK fun K6 RK6 hK6 gK6 => zz ?_
  obtain ⟨r7, h8, h⟩ := bs h
  refine cw (a_lines_Split hI hShp h8) <| zz ?_
  subst hK6 gK6
  refine es <| xs <| xb <| xs <| rz ?_
  refine es ?_
  rcases iK k h with ⟨k, h⟩ | ⟨k, h⟩
  · refine xt <| xs <| rz ?_
    refine es <| xr <| br <| er ?_
    cases h
    exact en fr
  · refine xf <| xs <| rz ?_
    refine es ?_
    rcases iK k h with ⟨k, h⟩ | ⟨k, h⟩
    · refine xt <| xs <| rz ?_
      refine es <| xr <| br <| er ?_
      cases h
      exact en fr
    · refine xf <| xk <| bn <| es <| xs <| rK fun K34 RK34 hK34 gK34 => zz ?_
      obtain ⟨y35, q, h⟩ := bK q h
      refine zz ?_
      obtain ⟨r37, h38, h⟩ := bs h
      refine cw (a_edl_head hI h38) ?_
      rcases iK k h with ⟨k, h⟩ | ⟨k, h⟩
      · have q := And.intro (nslD_t (f := T_api_Diag.d) k.1) q
        refine zz ?_
        subst hK34 gK34
        refine es <| xs <| xs <| rz ?_
        refine es <| xf <| xk <| es <| xs <| xs <| rK fun K47 RK47 hK47 gK47 => zz ?_
        obtain ⟨z48, h49, h⟩ := bind_some h
        obtain ⟨⟨h50, h51⟩, h52⟩ := subL_some h49
        try simp only [List.length_cons, List.length_nil, Nat.zero_add, Nat.reduceAdd, Int.reduceToNat] at h51
        have q := And.intro @h51 <| q
        try simp -implicitDefEqProofs only [vt, vm, sevalprocAttr, dd, k, q] at h52
        have q := And.intro @h52 <| q
        refine zz ?_
        subst hK47 gK47
        refine es <| xb ?_
        obtain ⟨e54, h313, h⟩ := bs h
        refine rb_loop (fun x53 => ⟨envL [(2, .ptr 0 0), (5, .own 2 x53.1.length), (6, .ptr 1 0), (44, .sl (z48.map T_api_Line.d)), (45, .int .i64 (z48.length : Int)), (46, .int .i64 x53.2.1)], heapL [(0, .box none [.str [], .int .u8 0, .bool false, .nils]), (1, .box none [.str r37.1.Title, .int .u8 r37.1.Rate, .bool r37.1.Drop, .own 3 x53.2.2.length]), (2, .vec 57 3 (x53.1.map T_api_Diag.d) false), (3, .vec 43 7 (x53.2.2.map T_api_Cut.d) false)], 4, 87⟩) (fun _ => .exit 1) (fun e54 => ⟨envL [(2, .ptr 0 0), (5, .own 1 e54.1.length), (6, .ptr 2 0)], heapL [(0, .box none [.str [], .int .u8 0, .bool false, .nils]), (1, .vec 57 3 (e54.1.map T_api_Diag.d) false), (2, .box none [.str r37.1.Title, .int .u8 r37.1.Rate, .bool r37.1.Drop, .own 3 e54.2.length]), (3, .vec 43 7 (e54.2.map T_api_Cut.d) false)], 4, 87⟩) h313 (wk [(1, some 24), (2, none), (3, none)]) (by intro w; simp) ?_ ?_
        · clear h
          intro x53 y h
          unfold g_edl_Parse_s1 at h
          refine xs <| rz ?_
          refine es <| xs ?_
          rcases iK k h with ⟨k, h⟩ | ⟨k, h⟩
          · refine xt <| xk <| es <| xs <| xb <| xs <| rK fun K289 RK289 hK289 gK289 => zz ?_
            obtain ⟨y290, q, h⟩ := bK q h
            refine zz ?_
            subst hK289 gK289
            refine es <| xs <| rK fun K295 RK295 hK295 gK295 => zz ?_
            obtain ⟨r296, h297, h⟩ := bs h
            refine cW.introR (.of_any hI (a_edl_cut hI hPIv hShp hTab h297) (by simp [leDs, leD, leL, pur1, dd])) rfl rfl <| zz ?_
            subst hK295 gK295
            refine es <| xs <| rz ?_
            refine es ?_
            rcases iK k h with ⟨k, h⟩ | ⟨k, h⟩
            · refine xf <| xs <| rz ?_
              refine es ?_
              rcases iK k h with ⟨k, h⟩ | ⟨k, h⟩
              · refine xt <| rK fun K304 RK304 hK304 gK304 => zz ?_
                obtain ⟨h305, h⟩ := ite_on h
                have h306 : x53.1.length + 1 ≤ 9223372036854775807 := by omega
                try simp only [Nat.reduceLeDiff] at h306
                have q := And.intro @h306 <| And.intro @h305 <| q
                refine zz ?_
                subst hK304 gK304
                refine bn <| es <| rz ?_
                cases h
                exact en ⟨rfl, wk [(2, some 29)]⟩
              · refine xf <| xk <| bn <| es <| rz ?_
                cases h
                exact en ⟨rfl, wk []⟩
            · refine xt <| rK fun K309 RK309 hK309 gK309 => zz ?_
              obtain ⟨h310, h⟩ := ite_on h
              have h311 : x53.2.2.length + 1 ≤ 9223372036854775807 := by omega
              try simp only [Nat.reduceLeDiff] at h311
              have q := And.intro @h311 <| And.intro @h310 <| q
              refine zz ?_
              subst hK309 gK309
              refine bn <| es <| rz ?_
              cases h
              exact en ⟨rfl, wk [(3, some 27)]⟩
          · refine xf <| xx <| ee ?_
            cases h
            exact en ⟨rfl, wk [(1, some 2), (2, some 1)]⟩
        · refine bh <| es <| xs <| xs <| rz ?_
          refine es ?_
          rcases iK k h with ⟨k, h⟩ | ⟨k, h⟩
          · refine xt <| xs <| rz ?_
            refine es <| xr <| er ?_
            cases h
            exact en fr
          · refine xf <| xk <| es <| xs <| xs <| rK fun K322 RK322 hK322 gK322 => zz ?_
            obtain ⟨r323, h324, h⟩ := bs h
            refine cw (a_edl_Check hI hU8T h324) <| zz ?_
            subst hK322 gK322
            refine es <| xs <| rz ?_
            refine es ?_
            rcases iK k h with ⟨k, h⟩ | ⟨k, h⟩
            · refine xt <| xs <| rz ?_
              refine es <| xr <| er ?_
              cases h
              exact en fr
            · refine xf <| xk <| es <| xs <| rz ?_
              refine es <| xr ?_
              cases h
              exact en fr
      · have q := And.intro (nslD_f (f := T_api_Diag.d) k.1) q
        have k := And.intro (nsl_len k.1) k
        refine zz ?_
        subst hK34 gK34
        refine es <| xs <| xs <| rz ?_
        refine es <| xt <| xs <| rz ?_
        refine es <| xr <| er ?_
        cases h
        exact en fr
def g_edl_label (l_0 : T_edl_List) (frame_1 : Int) : Option ((List UInt8)) :=
  ((g_timecode_Label l_0.Rate l_0.Drop frame_1).bind fun r7 => ((g_timecode_Text l_0.Rate r7.1).bind fun r13 => (some r13.1)))
theorem a_edl_label {I : World → Prop} (hI : Stab I) {l_0 : T_edl_List} {frame_1 : Int} {r : (List UInt8)} (h : g_edl_label l_0 frame_1 = some r) : AFun Tryz.prog I 41 [T_edl_List.d l_0, .int .i64 frame_1] (.str r) := by
  have dd := dd_EC; have k := True.intro; have q := k; have rs := Tryz.results41
  unfold g_edl_label at h
  refine .en hI Tryz.func41 Tryz.ntmps41 ?_
  refine xs <| rz ?_
  refine es <| xs <| rK fun K6 RK6 hK6 gK6 => zz ?_
  obtain ⟨r7, h8, h⟩ := bs h
  refine cw (a_timecode_Label hI h8) <| zz ?_
  subst hK6 gK6
  refine es <| xs <| rK fun K12 RK12 hK12 gK12 => zz ?_
  obtain ⟨r13, h14, h⟩ := bs h
  refine cw (a_timecode_Text hI h14) <| zz ?_
  subst hK12 gK12
  refine es <| xs <| rz ?_
  refine es <| xr ?_
  cases h
  exact en fr
def g_edl_Text_s1 (l_0 : T_edl_List) (x60 : Int × (List Int)) : Option (Nx (Int × (List Int)) ((List Int))) :=
  (if (decide (x60.1 < (l_0.Cuts.length : Int))) then ((atI l_0.Cuts x60.1).bind fun y297 => ((g_lines_Decimal y297.Number).bind fun r312 => ((g_edl_label l_0 y297.Source).bind fun r314 => ((g_edl_label l_0 y297.Record.In).bind fun r316 => ((g_edl_label l_0 y297.Record.Out).bind fun r318 => ((g_strings_Join [[67, 85, 84], r312, y297.Reel, r314, r316, r318] [32]).bind fun r320 => (if x60.2.length + r320.length ≤ 140737488355328 then (if ((y297.Speed.Num == 1) && (y297.Speed.Den == 1)) then (if (x60.2 ++ toI r320).length + ([10] : List UInt8).length ≤ 140737488355328 then (some (.go ((IntKind.i64.wrap (x60.1 + 1)), ((x60.2 ++ toI r320) ++ toI ([10] : List UInt8))))) else none) else ((g_ratio_Text y297.Speed).bind fun r330 => (if 7 + r330.length ≤ 9223372036854775807 then (if (x60.2 ++ toI r320).length + ([32, 83, 80, 69, 69, 68, 32] ++ r330).length ≤ 140737488355328 then (if ((x60.2 ++ toI r320) ++ toI ([32, 83, 80, 69, 69, 68, 32] ++ r330)).length + ([10] : List UInt8).length ≤ 140737488355328 then (some (.go ((IntKind.i64.wrap (x60.1 + 1)), (((x60.2 ++ toI r320) ++ toI ([32, 83, 80, 69, 69, 68, 32] ++ r330)) ++ toI ([10] : List UInt8))))) else none) else none) else none))) else none))))))) else (some (.out x60.2)))
def g_edl_Text_s2 (l_0 : T_edl_List) (x379 : Int × (List Int)) : Option (Nx (Int × (List Int)) ((List Int))) :=
  (if (decide (x379.1 < (l_0.Cuts.length : Int))) then ((atI l_0.Cuts x379.1).bind fun y616 => ((g_lines_Decimal y616.Number).bind fun r631 => ((g_edl_label l_0 y616.Source).bind fun r633 => ((g_edl_label l_0 y616.Record.In).bind fun r635 => ((g_edl_label l_0 y616.Record.Out).bind fun r637 => ((g_strings_Join [[67, 85, 84], r631, y616.Reel, r633, r635, r637] [32]).bind fun r639 => (if x379.2.length + r639.length ≤ 140737488355328 then (if ((y616.Speed.Num == 1) && (y616.Speed.Den == 1)) then (if (x379.2 ++ toI r639).length + ([10] : List UInt8).length ≤ 140737488355328 then (some (.go ((IntKind.i64.wrap (x379.1 + 1)), ((x379.2 ++ toI r639) ++ toI ([10] : List UInt8))))) else none) else ((g_ratio_Text y616.Speed).bind fun r649 => (if 7 + r649.length ≤ 9223372036854775807 then (if (x379.2 ++ toI r639).length + ([32, 83, 80, 69, 69, 68, 32] ++ r649).length ≤ 140737488355328 then (if ((x379.2 ++ toI r639) ++ toI ([32, 83, 80, 69, 69, 68, 32] ++ r649)).length + ([10] : List UInt8).length ≤ 140737488355328 then (some (.go ((IntKind.i64.wrap (x379.1 + 1)), (((x379.2 ++ toI r639) ++ toI ([32, 83, 80, 69, 69, 68, 32] ++ r649)) ++ toI ([10] : List UInt8))))) else none) else none) else none))) else none))))))) else (some (.out x379.2)))
def g_edl_Text (l_0 : T_edl_List) : Option ((List UInt8) × Int) :=
  ((g_edl_Check l_0).bind fun r7 => (if (r7 != 0) then (some ([], r7)) else (if l_0.Drop then ((g_lines_Quote l_0.Title).bind fun r41 => (if 4 + r41.length ≤ 9223372036854775807 then (if (4 + r41.length) + 1 ≤ 9223372036854775807 then ((g_timebase_Name l_0.Rate).bind fun r47 => (if ((4 + r41.length) + 1) + r47.length ≤ 9223372036854775807 then (if (((4 + r41.length) + 1) + r47.length) + 1 ≤ 9223372036854775807 then (if ((((4 + r41.length) + 1) + r47.length) + 1) + 4 ≤ 9223372036854775807 then (if (((((4 + r41.length) + 1) + r47.length) + 1) + 4) + 1 ≤ 9223372036854775807 then (if (((((([69, 68, 76, 32] ++ r41) ++ [32]) ++ r47) ++ [32]) ++ [68, 82, 79, 80]) ++ [10]).length ≤ 140737488355328 then ((iter (g_edl_Text_s1 l_0) (0, (toI (((((([69, 68, 76, 32] ++ r41) ++ [32]) ++ r47) ++ [32]) ++ [68, 82, 79, 80]) ++ [10])))).bind fun e61 => (some ((bytesOf e61), 0))) else none) else none) else none) else none) else none)) else none) else none)) else ((g_lines_Quote l_0.Title).bind fun r360 => (if 4 + r360.length ≤ 9223372036854775807 then (if (4 + r360.length) + 1 ≤ 9223372036854775807 then ((g_timebase_Name l_0.Rate).bind fun r366 => (if ((4 + r360.length) + 1) + r366.length ≤ 9223372036854775807 then (if (((4 + r360.length) + 1) + r366.length) + 1 ≤ 9223372036854775807 then (if ((((4 + r360.length) + 1) + r366.length) + 1) + 3 ≤ 9223372036854775807 then (if (((((4 + r360.length) + 1) + r366.length) + 1) + 3) + 1 ≤ 9223372036854775807 then (if (((((([69, 68, 76, 32] ++ r360) ++ [32]) ++ r366) ++ [32]) ++ [78, 68, 70]) ++ [10]).length ≤ 140737488355328 then ((iter (g_edl_Text_s2 l_0) (0, (toI (((((([69, 68, 76, 32] ++ r360) ++ [32]) ++ r366) ++ [32]) ++ [78, 68, 70]) ++ [10])))).bind fun e380 => (some ((bytesOf e380), 0))) else none) else none) else none) else none) else none)) else none) else none)))))
theorem a_edl_Text {I : World → Prop} (hI : Stab I) (hTab : ∀ w, I w → Tab w) (hU8T : ∀ w, I w → U8T w) {l_0 : T_edl_List} {r : (List UInt8) × Int} (h : g_edl_Text l_0 = some r) : AFun Tryz.prog I 19 [T_edl_List.d l_0] (.tup [.str r.1, .int .i64 r.2]) := by
  have dd := dd_EC; have k := True.intro; have q := k; have rs := Tryz.results19
  unfold g_edl_Text at h
  refine .en hI Tryz.func19 Tryz.ntmps19 ?_
  refine xs <| rz ?_
  refine es <| xs <| xs <| rK fun K6 RK6 hK6 gK6 => zz ?_
  obtain ⟨r7, h8, h⟩ := bs h
  refine cw (a_edl_Check hI hU8T h8) <| zz ?_
  subst hK6 gK6
  refine es <| xs <| rz ?_
  refine es ?_
  rcases iK k h with ⟨k, h⟩ | ⟨k, h⟩
  · refine xt <| xs <| rz ?_
    refine es <| xr <| er ?_
    cases h
    exact en fr
  · refine xf <| xk <| es <| xs <| rz ?_
    refine es <| xs <| rz ?_
    refine es <| xs <| xs <| rz ?_
    refine es ?_
    rcases iK k h with ⟨k, h⟩ | ⟨k, h⟩
    · refine xt <| rz ?_
      refine es <| xs <| rD hI fun K40 RK40 hK40 gK40 => zz ?_
      obtain ⟨r41, h42, h⟩ := bs h
      refine cd (a_lines_Quote hI h42) <| zz ?_
      obtain ⟨h43, h⟩ := ite_on h
      have h44 : ([69, 68, 76, 32] : List UInt8).length + r41.length ≤ 9223372036854775807 := by (try simp only [List.length_append, List.length_cons, List.length_nil]); omega
      try simp -implicitDefEqProofs only [vt, vm, sevalprocAttr, dd, k, q] at h44
      have q := And.intro @h44 <| And.intro @h43 <| q
      refine zz ?_
      obtain ⟨h45, h⟩ := ite_on h
      have h46 : ([69, 68, 76, 32] ++ r41).length + ([32] : List UInt8).length ≤ 9223372036854775807 := by (try simp only [List.length_append, List.length_cons, List.length_nil]); omega
      try simp -implicitDefEqProofs only [vt, vm, sevalprocAttr, dd, k, q] at h46
      have q := And.intro @h46 <| And.intro @h45 <| q
      refine zz ?_
      obtain ⟨r47, h48, h⟩ := bs h
      refine cd (a_timebase_Name hI h48) <| zz ?_
      obtain ⟨h49, h⟩ := ite_on h
      have h50 : (([69, 68, 76, 32] ++ r41) ++ [32]).length + r47.length ≤ 9223372036854775807 := by (try simp only [List.length_append, List.length_cons, List.length_nil]); omega
      try simp -implicitDefEqProofs only [vt, vm, sevalprocAttr, dd, k, q] at h50
      have q := And.intro @h50 <| And.intro @h49 <| q
      refine zz ?_
      obtain ⟨h51, h⟩ := ite_on h
      have h52 : ((([69, 68, 76, 32] ++ r41) ++ [32]) ++ r47).length + ([32] : List UInt8).length ≤ 9223372036854775807 := by (try simp only [List.length_append, List.length_cons, List.length_nil]); omega
      try simp -implicitDefEqProofs only [vt, vm, sevalprocAttr, dd, k, q] at h52
      have q := And.intro @h52 <| And.intro @h51 <| q
      refine zz ?_
      obtain ⟨h53, h⟩ := ite_on h
      have h54 : (((([69, 68, 76, 32] ++ r41) ++ [32]) ++ r47) ++ [32]).length + ([68, 82, 79, 80] : List UInt8).length ≤ 9223372036854775807 := by (try simp only [List.length_append, List.length_cons, List.length_nil]); omega
      try simp -implicitDefEqProofs only [vt, vm, sevalprocAttr, dd, k, q] at h54
      have q := And.intro @h54 <| And.intro @h53 <| q
      refine zz ?_
      obtain ⟨h55, h⟩ := ite_on h
      have h56 : ((((([69, 68, 76, 32] ++ r41) ++ [32]) ++ r47) ++ [32]) ++ [68, 82, 79, 80]).length + ([10] : List UInt8).length ≤ 9223372036854775807 := by (try simp only [List.length_append, List.length_cons, List.length_nil]); omega
      try simp -implicitDefEqProofs only [vt, vm, sevalprocAttr, dd, k, q] at h56
      have q := And.intro @h56 <| And.intro @h55 <| q
      refine zz ?_
      obtain ⟨h57, h⟩ := ite_on h
      refine eD.intro (fun H' ho hs => (c_WriteString0 I (H := H') (id := 8) (nid := 26) (s := (((((([69, 68, 76, 32] ++ r41) ++ [32]) ++ r47) ++ [32]) ++ [68, 82, 79, 80]) ++ [10])) (ho 8 _ (by dsimp only; decide) fz) h57 (by decide))) fi rfl fk <| zz ?_
      subst hK40 gK40
      refine es <| xs <| xs <| rz ?_
      refine es <| xb ?_
      obtain ⟨e61, h338, h⟩ := bs h
      refine rb_loop (fun x60 => ⟨envL [(1, .ptr 0 0), (5, .ptr 1 0), (31, .sl (l_0.Cuts.map T_api_Cut.d)), (32, .int .i64 (l_0.Cuts.length : Int)), (33, .int .i64 x60.1)], heapL [(0, .box none [.str l_0.Title, .int .u8 l_0.Rate, .bool l_0.Drop, .sl (l_0.Cuts.map T_api_Cut.d)]), (1, .bbox 67 [.sp 1, .own 2 x60.2.length]), (2, .vec 5 1 (x60.2.map (D.int .u8)) false)], 3, 71⟩) (fun _ => .exit 0) (fun e61 => ⟨envL [(5, .ptr 0 0)], heapL [(0, .bbox 67 [.sp 0, .own 1 e61.length]), (1, .vec 5 1 (e61.map (D.int .u8)) false)], 2, 71⟩) h338 (wk [(1, some 8), (2, some 26)]) (by intro w; simp) ?_ ?_
      · clear h
        intro x60 y h
        unfold g_edl_Text_s1 at h
        refine xs <| rz ?_
        refine es <| xs ?_
        rcases iK k h with ⟨k, h⟩ | ⟨k, h⟩
        · refine xt <| xk <| es <| xs <| xb <| xs <| rK fun K296 RK296 hK296 gK296 => zz ?_
          obtain ⟨y297, q, h⟩ := bK q h
          refine zz ?_
          subst hK296 gK296
          refine es <| xs <| rD hI fun K311 RK311 hK311 gK311 => zz ?_
          obtain ⟨r312, h313, h⟩ := bs h
          refine cd (a_lines_Decimal hI hTab h313) <| zz ?_
          obtain ⟨r314, h315, h⟩ := bs h
          refine cd (a_edl_label hI h315) <| zz ?_
          obtain ⟨r316, h317, h⟩ := bs h
          refine cd (a_edl_label hI h317) <| zz ?_
          obtain ⟨r318, h319, h⟩ := bs h
          refine cd (a_edl_label hI h319) <| zz ?_
          obtain ⟨r320, h321, h⟩ := bs h
          refine cd (a_strings_Join I hI [[67, 85, 84], r312, y297.Reel, r314, r316, r318] [32] h321) <| zz ?_
          obtain ⟨h322, h⟩ := ite_on h
          refine eD.intro (fun H' ho hs => (c_WriteString1 I (H := H') (id := 1) (nid := 29) (id2 := 2) (n := x60.2.length) (s := r320) (l := x60.2) (ho 1 _ (by dsimp only; decide) fz) (ho 2 _ (by dsimp only; decide) fz) fs h322 (by decide))) fi rfl fk <| zz ?_
          subst hK311 gK311
          refine es <| xs <| xs <| rz ?_
          refine es ?_
          rcases iK k h with ⟨k, h⟩ | ⟨k, h⟩
          · refine xf <| xk <| es <| rK fun K326 RK326 hK326 gK326 => zz ?_
            obtain ⟨h327, h⟩ := ite_on h
            refine eW.intro (c_WriteString1 I (id := 1) (nid := 34) (id2 := 29) (n := ((x60.2 ++ toI r320).length)) (s := ([10] : List UInt8)) (l := (x60.2 ++ toI r320)) fz fz fs h327 (by decide)) fi rfl <| zz ?_
            subst hK326 gK326
            refine bn <| es <| rz ?_
            cases h
            exact en ⟨rfl, wk [(2, some 34)]⟩
          · refine xt <| rK fun K329 RK329 hK329 gK329 => zz ?_
            obtain ⟨r330, h331, h⟩ := bs h
            refine cw (a_ratio_Text hI hTab h331) <| zz ?_
            obtain ⟨h332, h⟩ := ite_on h
            have h333 : ([32, 83, 80, 69, 69, 68, 32] : List UInt8).length + r330.length ≤ 9223372036854775807 := by (try simp only [List.length_append, List.length_cons, List.length_nil]); omega
            try simp -implicitDefEqProofs only [vt, vm, sevalprocAttr, dd, k, q] at h333
            have q := And.intro @h333 <| And.intro @h332 <| q
            refine zz ?_
            obtain ⟨h334, h⟩ := ite_on h
            refine eW.intro (c_WriteString1 I (id := 1) (nid := 38) (id2 := 29) (n := ((x60.2 ++ toI r320).length)) (s := ([32, 83, 80, 69, 69, 68, 32] ++ r330)) (l := (x60.2 ++ toI r320)) fz fz fs h334 (by decide)) fi rfl <| zz ?_
            subst hK329 gK329
            refine es <| rK fun K335 RK335 hK335 gK335 => zz ?_
            obtain ⟨h336, h⟩ := ite_on h
            refine eW.intro (c_WriteString1 I (id := 1) (nid := 39) (id2 := 38) (n := (((x60.2 ++ toI r320) ++ toI ([32, 83, 80, 69, 69, 68, 32] ++ r330)).length)) (s := ([10] : List UInt8)) (l := ((x60.2 ++ toI r320) ++ toI ([32, 83, 80, 69, 69, 68, 32] ++ r330))) fz fz fs h336 (by decide)) fi rfl <| zz ?_
            subst hK335 gK335
            refine bn <| es <| rz ?_
            cases h
            exact en ⟨rfl, wk [(2, some 39)]⟩
        · refine xf <| xx <| ee ?_
          cases h
          exact en ⟨rfl, wk [(0, some 1), (1, some 2)]⟩
      · refine bh <| es <| xs <| rK fun K340 RK340 hK340 gK340 => zz ?_
        refine eW.intro (c_String1 I (id := 0) (nid := 2) (id2 := 1) (n := e61.length) (l := e61) fz fz fs) fi rfl <| zz ?_
        subst hK340 gK340
        refine es <| xr ?_
        cases h
        exact en fr
    · refine xf <| xk <| es <| xs <| rD hI fun K359 RK359 hK359 gK359 => zz ?_
      obtain ⟨r360, h361, h⟩ := bs h
      refine cd (a_lines_Quote hI h361) <| zz ?_
      obtain ⟨h362, h⟩ := ite_on h
      have h363 : ([69, 68, 76, 32] : List UInt8).length + r360.length ≤ 9223372036854775807 := by (try simp only [List.length_append, List.length_cons, List.length_nil]); omega
      try simp -implicitDefEqProofs only [vt, vm, sevalprocAttr, dd, k, q] at h363
      have q := And.intro @h363 <| And.intro @h362 <| q
      refine zz ?_
      obtain ⟨h364, h⟩ := ite_on h
      have h365 : ([69, 68, 76, 32] ++ r360).length + ([32] : List UInt8).length ≤ 9223372036854775807 := by (try simp only [List.length_append, List.length_cons, List.length_nil]); omega
      try simp -implicitDefEqProofs only [vt, vm, sevalprocAttr, dd, k, q] at h365
      have q := And.intro @h365 <| And.intro @h364 <| q
      refine zz ?_
      obtain ⟨r366, h367, h⟩ := bs h
      refine cd (a_timebase_Name hI h367) <| zz ?_
      obtain ⟨h368, h⟩ := ite_on h
      have h369 : (([69, 68, 76, 32] ++ r360) ++ [32]).length + r366.length ≤ 9223372036854775807 := by (try simp only [List.length_append, List.length_cons, List.length_nil]); omega
      try simp -implicitDefEqProofs only [vt, vm, sevalprocAttr, dd, k, q] at h369
      have q := And.intro @h369 <| And.intro @h368 <| q
      refine zz ?_
      obtain ⟨h370, h⟩ := ite_on h
      have h371 : ((([69, 68, 76, 32] ++ r360) ++ [32]) ++ r366).length + ([32] : List UInt8).length ≤ 9223372036854775807 := by (try simp only [List.length_append, List.length_cons, List.length_nil]); omega
      try simp -implicitDefEqProofs only [vt, vm, sevalprocAttr, dd, k, q] at h371
      have q := And.intro @h371 <| And.intro @h370 <| q
      refine zz ?_
      obtain ⟨h372, h⟩ := ite_on h
      have h373 : (((([69, 68, 76, 32] ++ r360) ++ [32]) ++ r366) ++ [32]).length + ([78, 68, 70] : List UInt8).length ≤ 9223372036854775807 := by (try simp only [List.length_append, List.length_cons, List.length_nil]); omega
      try simp -implicitDefEqProofs only [vt, vm, sevalprocAttr, dd, k, q] at h373
      have q := And.intro @h373 <| And.intro @h372 <| q
      refine zz ?_
      obtain ⟨h374, h⟩ := ite_on h
      have h375 : ((((([69, 68, 76, 32] ++ r360) ++ [32]) ++ r366) ++ [32]) ++ [78, 68, 70]).length + ([10] : List UInt8).length ≤ 9223372036854775807 := by (try simp only [List.length_append, List.length_cons, List.length_nil]); omega
      try simp -implicitDefEqProofs only [vt, vm, sevalprocAttr, dd, k, q] at h375
      have q := And.intro @h375 <| And.intro @h374 <| q
      refine zz ?_
      obtain ⟨h376, h⟩ := ite_on h
      refine eD.intro (fun H' ho hs => (c_WriteString0 I (H := H') (id := 8) (nid := 25) (s := (((((([69, 68, 76, 32] ++ r360) ++ [32]) ++ r366) ++ [32]) ++ [78, 68, 70]) ++ [10])) (ho 8 _ (by dsimp only; decide) fz) h376 (by decide))) fi rfl fk <| zz ?_
      subst hK359 gK359
      refine es <| xs <| xs <| rz ?_
      refine es <| xb ?_
      obtain ⟨e380, h657, h⟩ := bs h
      refine rb_loop (fun x379 => ⟨envL [(1, .ptr 0 0), (5, .ptr 1 0), (31, .sl (l_0.Cuts.map T_api_Cut.d)), (32, .int .i64 (l_0.Cuts.length : Int)), (33, .int .i64 x379.1)], heapL [(0, .box none [.str l_0.Title, .int .u8 l_0.Rate, .bool l_0.Drop, .sl (l_0.Cuts.map T_api_Cut.d)]), (1, .bbox 67 [.sp 1, .own 2 x379.2.length]), (2, .vec 5 1 (x379.2.map (D.int .u8)) false)], 3, 71⟩) (fun _ => .exit 0) (fun e380 => ⟨envL [(5, .ptr 0 0)], heapL [(0, .bbox 67 [.sp 0, .own 1 e380.length]), (1, .vec 5 1 (e380.map (D.int .u8)) false)], 2, 71⟩) h657 (wk [(1, some 8), (2, some 25)]) (by intro w; simp) ?_ ?_
      · clear h
        intro x379 y h
        unfold g_edl_Text_s2 at h
        refine xs <| rz ?_
        refine es <| xs ?_
        rcases iK k h with ⟨k, h⟩ | ⟨k, h⟩
        · refine xt <| xk <| es <| xs <| xb <| xs <| rK fun K615 RK615 hK615 gK615 => zz ?_
          obtain ⟨y616, q, h⟩ := bK q h
          refine zz ?_
          subst hK615 gK615
          refine es <| xs <| rD hI fun K630 RK630 hK630 gK630 => zz ?_
          obtain ⟨r631, h632, h⟩ := bs h
          refine cd (a_lines_Decimal hI hTab h632) <| zz ?_
          obtain ⟨r633, h634, h⟩ := bs h
          refine cd (a_edl_label hI h634) <| zz ?_
          obtain ⟨r635, h636, h⟩ := bs h
          refine cd (a_edl_label hI h636) <| zz ?_
          obtain ⟨r637, h638, h⟩ := bs h
          refine cd (a_edl_label hI h638) <| zz ?_
          obtain ⟨r639, h640, h⟩ := bs h
          refine cd (a_strings_Join I hI [[67, 85, 84], r631, y616.Reel, r633, r635, r637] [32] h640) <| zz ?_
          obtain ⟨h641, h⟩ := ite_on h
          refine eD.intro (fun H' ho hs => (c_WriteString1 I (H := H') (id := 1) (nid := 29) (id2 := 2) (n := x379.2.length) (s := r639) (l := x379.2) (ho 1 _ (by dsimp only; decide) fz) (ho 2 _ (by dsimp only; decide) fz) fs h641 (by decide))) fi rfl fk <| zz ?_
          subst hK630 gK630
          refine es <| xs <| xs <| rz ?_
          refine es ?_
          rcases iK k h with ⟨k, h⟩ | ⟨k, h⟩
          · refine xf <| xk <| es <| rK fun K645 RK645 hK645 gK645 => zz ?_
            obtain ⟨h646, h⟩ := ite_on h
            refine eW.intro (c_WriteString1 I (id := 1) (nid := 34) (id2 := 29) (n := ((x379.2 ++ toI r639).length)) (s := ([10] : List UInt8)) (l := (x379.2 ++ toI r639)) fz fz fs h646 (by decide)) fi rfl <| zz ?_
            subst hK645 gK645
            refine bn <| es <| rz ?_
            cases h
            exact en ⟨rfl, wk [(2, some 34)]⟩
          · refine xt <| rK fun K648 RK648 hK648 gK648 => zz ?_
            obtain ⟨r649, h650, h⟩ := bs h
            refine cw (a_ratio_Text hI hTab h650) <| zz ?_
            obtain ⟨h651, h⟩ := ite_on h
            have h652 : ([32, 83, 80, 69, 69, 68, 32] : List UInt8).length + r649.length ≤ 9223372036854775807 := by (try simp only [List.length_append, List.length_cons, List.length_nil]); omega
            try simp -implicitDefEqProofs only [vt, vm, sevalprocAttr, dd, k, q] at h652
            have q := And.intro @h652 <| And.intro @h651 <| q
            refine zz ?_
            obtain ⟨h653, h⟩ := ite_on h
            refine eW.intro (c_WriteString1 I (id := 1) (nid := 38) (id2 := 29) (n := ((x379.2 ++ toI r639).length)) (s := ([32, 83, 80, 69, 69, 68, 32] ++ r649)) (l := (x379.2 ++ toI r639)) fz fz fs h653 (by decide)) fi rfl <| zz ?_
            subst hK648 gK648
            refine es <| rK fun K654 RK654 hK654 gK654 => zz ?_
            obtain ⟨h655, h⟩ := ite_on h
            refine eW.intro (c_WriteString1 I (id := 1) (nid := 39) (id2 := 38) (n := (((x379.2 ++ toI r639) ++ toI ([32, 83, 80, 69, 69, 68, 32] ++ r649)).length)) (s := ([10] : List UInt8)) (l := ((x379.2 ++ toI r639) ++ toI ([32, 83, 80, 69, 69, 68, 32] ++ r649))) fz fz fs h655 (by decide)) fi rfl <| zz ?_
            subst hK654 gK654
            refine bn <| es <| rz ?_
            cases h
            exact en ⟨rfl, wk [(2, some 39)]⟩
        · refine xf <| xx <| ee ?_
          cases h
          exact en ⟨rfl, wk [(0, some 1), (1, some 2)]⟩
      · refine bh <| es <| xs <| rK fun K659 RK659 hK659 gK659 => zz ?_
        refine eW.intro (c_String1 I (id := 0) (nid := 2) (id2 := 1) (n := e380.length) (l := e380) fz fz fs) fi rfl <| zz ?_
        subst hK659 gK659
        refine es <| xr ?_
        cases h
        exact en fr
def g_edl_Length_s1 (l_0 : T_edl_List) (x7 : Int × Int) : Option (Nx (Int × Int) (Int)) :=
  (if (decide (x7.2 < (l_0.Cuts.length : Int))) then ((atI l_0.Cuts x7.2).bind fun y43 => (some (.go ((if y43.Record.Out > x7.1 then y43.Record.Out else x7.1), (IntKind.i64.wrap (x7.2 + 1)))))) else (some (.out x7.1)))
def g_edl_Length (l_0 : T_edl_List) : Option (Int) :=
  ((iter (g_edl_Length_s1 l_0) (0, 0)).bind fun e8 => (some e8))
theorem a_edl_Length {I : World → Prop} (hI : Stab I) {l_0 : T_edl_List} {r : Int} (h : g_edl_Length l_0 = some r) : AFun Tryz.prog I 17 [T_edl_List.d l_0] (.int .i64 r) := by
  have dd := dd_EC; have k := True.intro; have q := k; have rs := Tryz.results17
  unfold g_edl_Length at h
  refine .en hI Tryz.func17 Tryz.ntmps17 ?_
  refine xs <| rz ?_
  refine es <| xs <| rz ?_
  refine es <| xs <| xs <| rz ?_
  refine es <| xb ?_
  obtain ⟨e8, h47, h⟩ := bs h
  refine rb_loop (fun x7 => ⟨envL [(3, .int .i64 x7.1), (7, .sl (l_0.Cuts.map T_api_Cut.d)), (8, .int .i64 (l_0.Cuts.length : Int)), (9, .int .i64 x7.2)], heapL [], 0, 20⟩) (fun _ => .exit 0) (fun e8 => ⟨envL [(3, .int .i64 e8)], heapL [], 0, 20⟩) h47 (wk []) (by intro w; simp) ?_ ?_
  · clear h
    intro x7 y h
    unfold g_edl_Length_s1 at h
    refine xs <| rz ?_
    refine es <| xs ?_
    rcases iK k h with ⟨k, h⟩ | ⟨k, h⟩
    · refine xt <| xk <| es <| xs <| xb <| xs <| rK fun K42 RK42 hK42 gK42 => zz ?_
      obtain ⟨y43, q, h⟩ := bK q h
      refine zz ?_
      subst hK42 gK42
      refine es <| rz ?_
      refine bn <| es <| rz ?_
      cases h
      exact en ⟨rfl, wk []⟩
    · refine xf <| xx <| ee ?_
      cases h
      exact en ⟨rfl, wk []⟩
  · refine bh <| es <| xs <| rz ?_
    refine es <| xr ?_
    cases h
    exact en fr
def g_law44_awake  : Option (Bool) :=
  ((g_edl_Parse [69, 68, 76, 32, 34, 82, 101, 101, 108, 32, 116, 101, 115, 116, 34, 32, 50, 53, 32, 78, 68, 70, 10, 67, 85, 84, 32, 49, 32, 65, 32, 48, 48, 58, 48, 48, 58, 49, 48, 58, 48, 48, 32, 48, 48, 58, 48, 48, 58, 48, 48, 58, 48, 48, 32, 48, 48, 58, 48, 48, 58, 48, 52, 58, 48, 48, 10]).bind fun r7 => (((if ((r7.2.length : Int) != 0) then (some true) else (if ((r7.1.Cuts.length : Int) != 1) then (some true) else ((atI r7.1.Cuts 0).bind fun y18 => (some (!((y18.Number == 1) && ((y18.Reel == ([65] : List UInt8)) && ((y18.Source == 250) && ((y18.Record.In == 0) && ((y18.Record.Out == 100) && ((y18.Speed.Num == 1) && (y18.Speed.Den == 1)))))))))))) : Option (Bool)).bind fun v14 => (if v14 then (some false) else ((g_edl_Text r7.1).bind fun r28 => (if (r28.2 == 0) then (if (r28.1 == ([69, 68, 76, 32, 34, 82, 101, 101, 108, 32, 116, 101, 115, 116, 34, 32, 50, 53, 32, 78, 68, 70, 10, 67, 85, 84, 32, 49, 32, 65, 32, 48, 48, 58, 48, 48, 58, 49, 48, 58, 48, 48, 32, 48, 48, 58, 48, 48, 58, 48, 48, 58, 48, 48, 32, 48, 48, 58, 48, 48, 58, 48, 52, 58, 48, 48, 10] : List UInt8)) then ((g_edl_Length r7.1).bind fun r38 => (some (r38 == 100))) else (some false)) else (some false))))))
theorem a_law44_awake {I : World → Prop} (hI : Stab I) (hPIv : ∀ w, I w → PIv w) (hShp : ∀ w, I w → Shp w) (hTab : ∀ w, I w → Tab w) (hU8T : ∀ w, I w → U8T w)  {r : Bool} (h : g_law44_awake  = some r) : AFun Tryz.prog I 10 [] (.bool r) := by
  have dd := dd_EC; have k := True.intro; have q := k; have rs := Tryz.results10
  unfold g_law44_awake at h
  refine .en hI Tryz.func10 Tryz.ntmps10 ?_
  refine xs <| rz ?_
  refine es <| xs <| rK fun K6 RK6 hK6 gK6 => zz ?_
  obtain ⟨r7, h8, h⟩ := bs h
  refine cw (a_edl_Parse hI hPIv hShp hTab hU8T h8) <| zz ?_
  subst hK6 gK6
  refine es <| xs ?_
  obtain ⟨v14, h20, h⟩ := bs h
  refine rb_cut (fun v14 => ⟨envL [(1, .ptr 0 0), (27, .bool v14)], heapL [(0, .box none [.str r7.1.Title, .int .u8 r7.1.Rate, .bool r7.1.Drop, .sl (r7.1.Cuts.map T_api_Cut.d)])], 1, 44⟩) h20 ?_ ?_
  · clear h
    intro v14 h
    refine rK fun K15 RK15 hK15 gK15 => zz ?_
    rcases iK k h with ⟨k, h⟩ | ⟨k, h⟩
    · refine zz ?_
      subst hK15 gK15
      cases h
      exact en ⟨rfl, wk [(0, some 5)]⟩
    · refine zz ?_
      rcases iK k h with ⟨k, h⟩ | ⟨k, h⟩
      · refine zz ?_
        subst hK15 gK15
        cases h
        exact en ⟨rfl, wk [(0, some 5)]⟩
      · refine zz ?_
        obtain ⟨y18, q, h⟩ := bK q h
        refine zz ?_
        subst hK15 gK15
        cases h
        exact en ⟨rfl, wk [(0, some 5)]⟩
  · rcases iK k h with ⟨k, h⟩ | ⟨k, h⟩
    · refine xt <| xs <| rz ?_
      refine es <| xr <| er ?_
      cases h
      exact en fr
    · refine xf <| xk <| es <| xs <| rK fun K27 RK27 hK27 gK27 => zz ?_
      obtain ⟨r28, h29, h⟩ := bs h
      refine cw (a_edl_Text hI hTab hU8T h29) <| zz ?_
      subst hK27 gK27
      refine es <| xs <| rK fun K35 RK35 hK35 gK35 => zz ?_
      rcases iK k h with ⟨k, h⟩ | ⟨k, h⟩
      · refine zz ?_
        rcases iK k h with ⟨k, h⟩ | ⟨k, h⟩
        · refine zz ?_
          obtain ⟨r38, h39, h⟩ := bs h
          refine cw (a_edl_Length hI h39) <| zz ?_
          subst hK35 gK35
          refine es <| xr ?_
          cases h
          exact en fr
        · refine zz ?_
          subst hK35 gK35
          refine es <| xr ?_
          cases h
          exact en fr
      · refine zz ?_
        subst hK35 gK35
        refine es <| xr ?_
        cases h
        exact en fr
end Go.Proofs.YtnjjdbljoligdaaGreatDoor
namespace Go.Proofs.YtnjjdbljoligdaaGreatDoor
open Go.RowKit
set_option maxRecDepth 100000
set_option maxHeartbeats 10000000
theorem dd_EF : (∀ x, T_api_Span.d x = .agg [.int .i64 x.In, .int .i64 x.Out]) ∧ (∀ x, T_api_Ratio.d x = .agg [.int .i64 x.Num, .int .i64 x.Den]) ∧ (∀ x, T_api_Cut.d x = .agg [.int .i64 x.Number, .str x.Reel, .int .i64 x.Source, .int .i64 x.Record.In, .int .i64 x.Record.Out, .int .i64 x.Speed.Num, .int .i64 x.Speed.Den]) ∧ (∀ x, TRL.d x = .agg [.str x.Title, .int .u8 x.Rate, .bool x.Drop, .sl (x.Cuts.map T_api_Cut.d)]) ∧ (∀ x, T_api_Label.d x = .agg [.int .i64 x.H, .int .i64 x.M, .int .i64 x.S, .int .i64 x.F, .bool x.Drop]) ∧ (∀ x, T_edl_List.d x = .agg [.str x.Title, .int .u8 x.Rate, .bool x.Drop, .sl (x.Cuts.map T_api_Cut.d)]) ∧ (∀ x, T_api_Field.d x = .agg [.str x.Text, .int .i64 x.Column, .bool x.Quoted]) ∧ (∀ x, T_api_Line.d x = .agg [.int .i64 x.Number, .sl (x.Fields.map T_api_Field.d)]) ∧ (∀ x, T_api_Diag.d x = .agg [.int .i64 x.Line, .int .i64 x.Column, .int .i64 x.Code]) ∧ (∀ x, TRS.d x = .agg [.int .i64 x.Line.Number, .sl (x.Line.Fields.map T_api_Field.d), .int .i64 x.At, .int .i64 x.Code, .int .i64 x.Col]) := ⟨fun _ => rfl, fun _ => rfl, fun _ => rfl, fun _ => rfl, fun _ => rfl, fun _ => rfl, fun _ => rfl, fun _ => rfl, fun _ => rfl, fun _ => rfl⟩
def g_ref44_Played (c_0 : T_api_Cut) (t_1 : Int) : Option (Int) :=
  (if ¬ c_0.Speed.Den = 0 then (some (IntKind.i64.wrap (c_0.Source + (IntKind.i64.wrap (Int.tdiv (IntKind.i64.wrap ((IntKind.i64.wrap (t_1 - c_0.Record.In)) * c_0.Speed.Num)) c_0.Speed.Den))))) else none)
theorem a_ref44_Played {I : World → Prop} (hI : Stab I) {c_0 : T_api_Cut} {t_1 : Int} {r : Int} (h : g_ref44_Played c_0 t_1 = some r) : AFun Tryz.prog I 71 [T_api_Cut.d c_0, .int .i64 t_1] (.int .i64 r) := by
  have dd := dd_EF; have k := True.intro; have q := k; have rs := Tryz.results71
  unfold g_ref44_Played at h
  refine .en hI Tryz.func71 Tryz.ntmps71 ?_
  refine xs <| rz ?_
  refine es <| xs <| rD hI fun K4 RK4 hK4 gK4 => zz ?_
  obtain ⟨q, h⟩ := oK q h
  refine zz ?_
  subst hK4 gK4
  refine es <| xr ?_
  cases h
  exact en fr
def g_ref44_single (c_0 : T_api_Cut) (last_1 : Int) (day_2 : Int) : Option (Int) :=
  (((if (decide (c_0.Number < 1)) then (some true) else (some (decide (999 < c_0.Number)))) : Option (Bool)).bind fun v5 => (if v5 then (some 2) else (if (decide (c_0.Number ≤ last_1)) then (some 8) else ((g_ref07_Name c_0.Reel).bind fun r21 => (if r21 then (if (decide (c_0.Record.Out ≤ c_0.Record.In)) then (some 1) else (((if (decide (c_0.Record.In < 0)) then (some true) else (some (decide (day_2 ≤ c_0.Record.Out)))) : Option (Bool)).bind fun v31 => (if v31 then (some 2) else ((((g_ref01_Valid c_0.Speed).bind fun r46 => (if r46 then (if (decide (c_0.Speed.Num < 0)) then (some true) else (if (decide (8 < c_0.Speed.Num)) then (some true) else (some (decide (8 < c_0.Speed.Den))))) else (some true))) : Option (Bool)).bind fun v44 => (if v44 then (some 3) else (if (decide (c_0.Source < 0)) then (some 2) else (if (decide (day_2 ≤ c_0.Source)) then (some 2) else ((g_ref44_Played c_0 (IntKind.i64.wrap (c_0.Record.Out - 1))).bind fun r67 => (if (decide (day_2 ≤ r67)) then (some 2) else (some 0)))))))))) else (some 5))))))
theorem a_ref44_single {I : World → Prop} (hI : Stab I) {c_0 : T_api_Cut} {last_1 : Int} {day_2 : Int} {r : Int} (h : g_ref44_single c_0 last_1 day_2 = some r) : AFun Tryz.prog I 33 [T_api_Cut.d c_0, .int .i64 last_1, .int .i64 day_2] (.int .i64 r) := by
  have dd := dd_EF; have k := True.intro; have q := k; have rs := Tryz.results33
  unfold g_ref44_single at h
  refine .en hI Tryz.func33 Tryz.ntmps33 ?_
  refine xs <| rz ?_
  refine es <| xs ?_
  obtain ⟨v5, h8, h⟩ := bs h
  refine rb_cut (fun v5 => ⟨envL [(1, .int .i64 last_1), (2, .int .i64 day_2), (3, .ptr 0 0), (14, .bool v5)], heapL [(0, .box none [.int .i64 c_0.Number, .str c_0.Reel, .int .i64 c_0.Source, .int .i64 c_0.Record.In, .int .i64 c_0.Record.Out, .int .i64 c_0.Speed.Num, .int .i64 c_0.Speed.Den])], 1, 82⟩) h8 ?_ ?_
  · clear h
    intro v5 h
    refine rK fun K6 RK6 hK6 gK6 => zz ?_
    rcases iK k h with ⟨k, h⟩ | ⟨k, h⟩
    · refine zz ?_
      subst hK6 gK6
      cases h
      exact en ⟨rfl, wk []⟩
    · refine zz ?_
      subst hK6 gK6
      cases h
      exact en ⟨rfl, wk []⟩
  · rcases iK k h with ⟨k, h⟩ | ⟨k, h⟩
    · refine xt <| xs <| rz ?_
      refine es <| xr <| er ?_
      cases h
      exact en fr
    · refine xf <| xk <| es <| xs <| xs <| rz ?_
      refine es ?_
      rcases iK k h with ⟨k, h⟩ | ⟨k, h⟩
      · refine xt <| xs <| rz ?_
        refine es <| xr <| er ?_
        cases h
        exact en fr
      · refine xf <| xk <| es <| xs <| xs <| rK fun K20 RK20 hK20 gK20 => zz ?_
        obtain ⟨r21, h22, h⟩ := bs h
        refine cw (a_ref07_Name hI h22) <| zz ?_
        subst hK20 gK20
        refine es ?_
        rcases iK k h with ⟨k, h⟩ | ⟨k, h⟩
        · refine xf <| xk <| es <| xs <| xs <| rz ?_
          refine es ?_
          rcases iK k h with ⟨k, h⟩ | ⟨k, h⟩
          · refine xt <| xs <| rz ?_
            refine es <| xr <| er ?_
            cases h
            exact en fr
          · refine xf <| xk <| es <| xs ?_
            obtain ⟨v31, h34, h⟩ := bs h
            refine rb_cut (fun v31 => ⟨envL [(2, .int .i64 day_2), (3, .ptr 0 0), (40, .bool v31)], heapL [(0, .box none [.int .i64 c_0.Number, .str c_0.Reel, .int .i64 c_0.Source, .int .i64 c_0.Record.In, .int .i64 c_0.Record.Out, .int .i64 c_0.Speed.Num, .int .i64 c_0.Speed.Den])], 1, 82⟩) h34 ?_ ?_
            · clear h
              intro v31 h
              refine rK fun K32 RK32 hK32 gK32 => zz ?_
              rcases iK k h with ⟨k, h⟩ | ⟨k, h⟩
              · refine zz ?_
                subst hK32 gK32
                cases h
                exact en ⟨rfl, wk []⟩
              · refine zz ?_
                subst hK32 gK32
                cases h
                exact en ⟨rfl, wk []⟩
            · rcases iK k h with ⟨k, h⟩ | ⟨k, h⟩
              · refine xt <| xs <| rz ?_
                refine es <| xr <| er ?_
                cases h
                exact en fr
              · refine xf <| xk <| es <| xs ?_
                obtain ⟨v44, h51, h⟩ := bs h
                refine rb_cut (fun v44 => ⟨envL [(2, .int .i64 day_2), (3, .ptr 0 0), (62, .bool v44)], heapL [(0, .box none [.int .i64 c_0.Number, .str c_0.Reel, .int .i64 c_0.Source, .int .i64 c_0.Record.In, .int .i64 c_0.Record.Out, .int .i64 c_0.Speed.Num, .int .i64 c_0.Speed.Den])], 1, 82⟩) h51 ?_ ?_
                · clear h
                  intro v44 h
                  refine rK fun K45 RK45 hK45 gK45 => zz ?_
                  obtain ⟨r46, h47, h⟩ := bs h
                  refine cw (a_ref01_Valid hI h47) <| zz ?_
                  rcases iK k h with ⟨k, h⟩ | ⟨k, h⟩
                  · refine zz ?_
                    rcases iK k h with ⟨k, h⟩ | ⟨k, h⟩
                    · refine zz ?_
                      subst hK45 gK45
                      cases h
                      exact en ⟨rfl, wk []⟩
                    · refine zz ?_
                      rcases iK k h with ⟨k, h⟩ | ⟨k, h⟩
                      · refine zz ?_
                        subst hK45 gK45
                        cases h
                        exact en ⟨rfl, wk []⟩
                      · refine zz ?_
                        subst hK45 gK45
                        cases h
                        exact en ⟨rfl, wk []⟩
                  · refine zz ?_
                    subst hK45 gK45
                    cases h
                    exact en ⟨rfl, wk []⟩
                · rcases iK k h with ⟨k, h⟩ | ⟨k, h⟩
                  · refine xt <| xs <| rz ?_
                    refine es <| xr <| er ?_
                    cases h
                    exact en fr
                  · refine xf <| xk <| es <| xs <| xs <| rK fun K60 RK60 hK60 gK60 => zz ?_
                    rcases iK k h with ⟨k, h⟩ | ⟨k, h⟩
                    · refine zz ?_
                      subst hK60 gK60
                      refine es <| xt <| xs <| rz ?_
                      refine es <| xr <| er ?_
                      cases h
                      exact en fr
                    · refine zz ?_
                      rcases iK k h with ⟨k, h⟩ | ⟨k, h⟩
                      · refine zz ?_
                        subst hK60 gK60
                        refine es <| xt <| xs <| rz ?_
                        refine es <| xr <| er ?_
                        cases h
                        exact en fr
                      · refine zz ?_
                        obtain ⟨r67, h68, h⟩ := bs h
                        refine cw (a_ref44_Played hI h68) <| zz ?_
                        subst hK60 gK60
                        refine es ?_
                        rcases iK k h with ⟨k, h⟩ | ⟨k, h⟩
                        · refine xt <| xs <| rz ?_
                          refine es <| xr <| er ?_
                          cases h
                          exact en fr
                        · refine xf <| xk <| es <| xs <| rz ?_
                          refine es <| xr ?_
                          cases h
                          exact en fr
        · refine xt <| xs <| rz ?_
          refine es <| xr <| er ?_
          cases h
          exact en fr
def g_ref44_Reels_s2 (x7 : (List (List UInt8)) × Int) (y562 : T_api_Cut) (x593 : Int) : Option (Nx (Int) (Int)) :=
  (if (decide (x593 < ((x7.1.length : Nat) : Int))) then ((atI x7.1 x593).bind fun y616 => (if (Op.bytesLess y616 y562.Reel) then (some (.go (IntKind.i64.wrap (x593 + 1)))) else (some (.out x593)))) else (some (.out x593)))
def g_ref44_Reels_s1 (l_0 : TRL) (x7 : (List (List UInt8)) × Int) : Option (Nx ((List (List UInt8)) × Int) ((List (List UInt8)))) :=
  (if (decide (x7.2 < (l_0.Cuts.length : Int))) then ((atI l_0.Cuts x7.2).bind fun y562 => ((iter (g_ref44_Reels_s2 x7 y562) 0).bind fun e594 => (((if (decide (e594 < ((x7.1.length : Nat) : Int))) then ((atI x7.1 e594).bind fun y626 => (some (y626 == y562.Reel))) else (some false)) : Option (Bool)).bind fun v623 => (if v623 then (some (.go (x7.1, (IntKind.i64.wrap (x7.2 + 1))))) else ((subH x7.1 e594).bind fun z639 => (if z639.length * 16 ≤ 140737488355328 then (if (z639.length + 1) * 16 ≤ 140737488355328 then ((subL x7.1 e594).bind fun z653 => (if ((z639.length + 1) + z653.length) * 16 ≤ 140737488355328 then (some (.go (((z639 ++ [y562.Reel]) ++ z653), (IntKind.i64.wrap (x7.2 + 1))))) else none)) else none) else none)))))) else (some (.out x7.1)))
def g_ref44_Reels (l_0 : TRL) : Option ((List (List UInt8))) :=
  ((iter (g_ref44_Reels_s1 l_0) ([], 0)).bind fun e8 => (some e8))
theorem a_ref44_Reels {I : World → Prop} (hI : Stab I) {l_0 : TRL} {r : (List (List UInt8))} (h : g_ref44_Reels l_0 = some r) : AFun Tryz.prog I 16 [TRL.d l_0] (.sl (r.map D.str)) := by
  have dd := dd_EF; have k := True.intro; have q := k; have rs := Tryz.results16
  unfold g_ref44_Reels at h
  refine .en hI Tryz.func16 Tryz.ntmps16 ?_
  refine xs <| rz ?_
  refine es <| xs <| rz ?_
  refine es <| xs <| xs <| rz ?_
  refine es <| xb ?_
  obtain ⟨e8, h661, h⟩ := bs h
  refine rb_loop (fun x7 => ⟨envL [(3, .own 0 x7.1.length), (9, .sl (l_0.Cuts.map T_api_Cut.d)), (10, .int .i64 (l_0.Cuts.length : Int)), (11, .int .i64 x7.2)], heapL [(0, .vec 9 1 (x7.1.map D.str) false)], 1, 60⟩) (fun _ => .exit 0) (fun e8 => ⟨envL [(3, .own 0 e8.length)], heapL [(0, .vec 9 1 (e8.map D.str) false)], 1, 60⟩) h661 (wk [(0, none)]) (by intro w; simp) ?_ ?_
  · clear h
    intro x7 y h
    unfold g_ref44_Reels_s1 at h
    refine xs <| rz ?_
    refine es <| xs ?_
    rcases iK k h with ⟨k, h⟩ | ⟨k, h⟩
    · refine xt <| xk <| es <| xs <| xb <| xs <| rK fun K561 RK561 hK561 gK561 => zz ?_
      obtain ⟨y562, q, h⟩ := bK q h
      refine zz ?_
      subst hK561 gK561
      refine es <| xs <| rz ?_
      refine es <| xs <| xb ?_
      obtain ⟨e594, h619, h⟩ := bs h
      refine rb_loop (fun x593 => ⟨envL [(3, .own 0 x7.1.length), (5, .ptr 1 0), (6, .int .i64 x593), (9, .sl (l_0.Cuts.map T_api_Cut.d)), (10, .int .i64 (l_0.Cuts.length : Int)), (11, .int .i64 x7.2)], heapL [(0, .vec 9 1 (x7.1.map D.str) false), (1, .box none [.int .i64 y562.Number, .str y562.Reel, .int .i64 y562.Source, .int .i64 y562.Record.In, .int .i64 y562.Record.Out, .int .i64 y562.Speed.Num, .int .i64 y562.Speed.Den])], 2, 60⟩) (fun _ => .exit 2) (fun e594 => ⟨envL [(3, .own 0 x7.1.length), (5, .ptr 1 0), (6, .int .i64 e594), (9, .sl (l_0.Cuts.map T_api_Cut.d)), (10, .int .i64 (l_0.Cuts.length : Int)), (11, .int .i64 x7.2)], heapL [(0, .vec 9 1 (x7.1.map D.str) false), (1, .box none [.int .i64 y562.Number, .str y562.Reel, .int .i64 y562.Source, .int .i64 y562.Record.In, .int .i64 y562.Record.Out, .int .i64 y562.Speed.Num, .int .i64 y562.Speed.Den])], 2, 60⟩) h619 (wk [(1, some 4)]) (by intro w; simp) ?_ ?_
      · clear h
        intro x593 y h
        unfold g_ref44_Reels_s2 at h
        refine xs <| xs <| rD hI fun K614 RK614 hK614 gK614 => zz ?_
        rcases iK k h with ⟨k, h⟩ | ⟨k, h⟩
        · refine zz ?_
          obtain ⟨y616, q, h⟩ := oN q h
          refine zz ?_
          subst hK614 gK614
          refine es ?_
          rcases iK k h with ⟨k, h⟩ | ⟨k, h⟩
          · refine xt <| xk <| es <| xb <| rz ?_
            refine bn ?_
            cases h
            exact en ⟨rfl, wk []⟩
          · refine xf <| xx <| ee ?_
            cases h
            exact en ⟨rfl, wk []⟩
        · refine zz ?_
          subst hK614 gK614
          refine es <| xf <| xx <| ee ?_
          cases h
          exact en ⟨rfl, wk []⟩
      · refine bh <| es <| xs ?_
        obtain ⟨v623, h627, h⟩ := bs h
        refine rb_cut (fun v623 => ⟨envL [(3, .own 0 x7.1.length), (5, .ptr 1 0), (6, .int .i64 e594), (9, .sl (l_0.Cuts.map T_api_Cut.d)), (10, .int .i64 (l_0.Cuts.length : Int)), (11, .int .i64 x7.2), (42, .bool v623)], heapL [(0, .vec 9 1 (x7.1.map D.str) false), (1, .box none [.int .i64 y562.Number, .str y562.Reel, .int .i64 y562.Source, .int .i64 y562.Record.In, .int .i64 y562.Record.Out, .int .i64 y562.Speed.Num, .int .i64 y562.Speed.Den])], 2, 60⟩) h627 ?_ ?_
        · clear h
          intro v623 h
          refine rD hI fun K624 RK624 hK624 gK624 => zz ?_
          rcases iK k h with ⟨k, h⟩ | ⟨k, h⟩
          · refine zz ?_
            obtain ⟨y626, q, h⟩ := oN q h
            refine zz ?_
            subst hK624 gK624
            cases h
            exact en ⟨rfl, wk []⟩
          · refine zz ?_
            subst hK624 gK624
            cases h
            exact en ⟨rfl, wk []⟩
        · rcases iK k h with ⟨k, h⟩ | ⟨k, h⟩
          · refine xt <| xx <| ee <| bh <| es <| rz ?_
            cases h
            exact en ⟨rfl, wk []⟩
          · refine xf <| xk <| es <| xs <| rK fun K638 RK638 hK638 gK638 => zz ?_
            obtain ⟨z639, h640, h⟩ := bind_some h
            obtain ⟨⟨h641, h642⟩, h643⟩ := subH_some h640
            have q := And.intro @h641 <| And.intro @h642 <| q
            try simp -implicitDefEqProofs only [vt, vm, sevalprocAttr, dd, k, q] at h643
            have q := And.intro @h643 <| q
            refine zz ?_
            obtain ⟨h644, h⟩ := ite_on h
            have h645 : z639.length ≤ 9223372036854775807 := by omega
            try simp only [Nat.reduceLeDiff] at h645
            have q := And.intro @h645 <| And.intro @h644 <| q
            refine zz ?_
            subst hK638 gK638
            refine es <| xs <| rK fun K649 RK649 hK649 gK649 => zz ?_
            obtain ⟨h650, h⟩ := ite_on h
            have h651 : z639.length + 1 ≤ 9223372036854775807 := by omega
            try simp only [Nat.reduceLeDiff] at h651
            have q := And.intro @h651 <| And.intro @h650 <| q
            refine zz ?_
            subst hK649 gK649
            refine es <| rK fun K652 RK652 hK652 gK652 => zz ?_
            obtain ⟨z653, h654, h⟩ := bind_some h
            obtain ⟨⟨h655, h656⟩, h657⟩ := subL_some h654
            have q := And.intro @h655 <| And.intro @h656 <| q
            try simp -implicitDefEqProofs only [vt, vm, sevalprocAttr, dd, k, q] at h657
            have q := And.intro @h657 <| q
            refine zz ?_
            obtain ⟨h658, h⟩ := ite_on h
            have h659 : (z639.length + 1) + z653.length ≤ 9223372036854775807 := by omega
            try simp only [Nat.reduceLeDiff] at h659
            have q := And.intro @h659 <| And.intro @h658 <| q
            refine zz ?_
            subst hK652 gK652
            refine bn <| es <| rz ?_
            cases h
            exact en ⟨rfl, wk [(0, some 18)]⟩
    · refine xf <| xx <| ee ?_
      cases h
      exact en ⟨rfl, wk []⟩
  · refine bh <| es <| xs <| rz ?_
    refine es <| xr ?_
    cases h
    exact en fr
def g_ref44_Check_s1 (l_0 : TRL) (r19 : Int) (x35 : Int × Int × Int) : Option (Nx (Int × Int × Int) (Int ⊕ Unit)) :=
  (if (decide (x35.2.2 < (l_0.Cuts.length : Int))) then ((atI l_0.Cuts x35.2.2).bind fun y170 => ((g_ref44_single y170 x35.1 r19).bind fun r176 => (if (r176 != 0) then (some (.out (.inl r176))) else (if (decide (y170.Record.In < x35.2.1)) then (some (.out (.inl 14))) else (some (.go (y170.Number, y170.Record.Out, (IntKind.i64.wrap (x35.2.2 + 1))))))))) else (some (.out (.inr ()))))
def g_ref44_Check (l_0 : TRL) : Option (Int) :=
  ((g_ref08_Valid l_0.Title).bind fun r7 => (if r7 then (if (decide (400 < (l_0.Title.length : Int))) then (some 9) else ((g_ref03_Day l_0.Rate l_0.Drop).bind fun r19 => (if (r19 == 0) then (some 13) else (if (decide (64 < (l_0.Cuts.length : Int))) then (some 9) else ((iter (g_ref44_Check_s1 l_0 r19) (0, 0, 0)).bind fun e36 => (match e36 with | Sum.inl e36 => (some e36) | Sum.inr (e36) => ((g_ref44_Reels l_0).bind fun r195 => (if (decide (16 < (r195.length : Int))) then (some 9) else (some 0))))))))) else (some 10)))
theorem a_ref44_Check {I : World → Prop} (hI : Stab I) {l_0 : TRL} {r : Int} (h : g_ref44_Check l_0 = some r) : AFun Tryz.prog I 14 [TRL.d l_0] (.int .i64 r) := by
  have dd := dd_EF; have k := True.intro; have q := k; have rs := Tryz.results14
  unfold g_ref44_Check at h
  refine .en hI Tryz.func14 Tryz.ntmps14 ?_
  refine xs <| rz ?_
  refine es <| xs <| xs <| rK fun K6 RK6 hK6 gK6 => zz ?_
  obtain ⟨r7, h8, h⟩ := bs h
  refine cw (a_ref08_Valid hI h8) <| zz ?_
  subst hK6 gK6
  refine es ?_
  rcases iK k h with ⟨k, h⟩ | ⟨k, h⟩
  · refine xf <| xk <| es <| xs <| xs <| rz ?_
    refine es ?_
    rcases iK k h with ⟨k, h⟩ | ⟨k, h⟩
    · refine xt <| xs <| rz ?_
      refine es <| xr <| er ?_
      cases h
      exact en fr
    · refine xf <| xk <| es <| xs <| rK fun K18 RK18 hK18 gK18 => zz ?_
      obtain ⟨r19, h20, h⟩ := bs h
      refine cw (a_ref03_Day hI h20) <| zz ?_
      subst hK18 gK18
      refine es <| xs <| xs <| rz ?_
      refine es ?_
      rcases iK k h with ⟨k, h⟩ | ⟨k, h⟩
      · refine xt <| xs <| rz ?_
        refine es <| xr <| er ?_
        cases h
        exact en fr
      · refine xf <| xk <| es <| xs <| xs <| rz ?_
        refine es ?_
        rcases iK k h with ⟨k, h⟩ | ⟨k, h⟩
        · refine xt <| xs <| rz ?_
          refine es <| xr <| er ?_
          cases h
          exact en fr
        · refine xf <| xk <| es <| xs <| rz ?_
          refine es <| xs <| xs <| rz ?_
          refine es <| xb ?_
          obtain ⟨e36, h190, h⟩ := bs h
          refine rb_loop (fun x35 => ⟨envL [(1, .ptr 0 0), (3, .int .i64 r19), (4, .int .i64 x35.1), (5, .int .i64 x35.2.1), (29, .sl (l_0.Cuts.map T_api_Cut.d)), (30, .int .i64 (l_0.Cuts.length : Int)), (31, .int .i64 x35.2.2)], heapL [(0, .box none [.str l_0.Title, .int .u8 l_0.Rate, .bool l_0.Drop, .sl (l_0.Cuts.map T_api_Cut.d)])], 1, 57⟩) (fun w => match w with | Sum.inl _ => .ret | Sum.inr (_) => .exit 0) (fun w => match w with | Sum.inl e36 => ⟨envL [(2, .int .i64 e36)], heapL [], 0, 57⟩ | Sum.inr (e36) => ⟨envL [(1, .ptr 0 0)], heapL [(0, .box none [.str l_0.Title, .int .u8 l_0.Rate, .bool l_0.Drop, .sl (l_0.Cuts.map T_api_Cut.d)])], 1, 57⟩) h190 (wk []) (by intro w; rcases w with w | w <;> simp) ?_ ?_
          · clear h
            intro x35 y h
            unfold g_ref44_Check_s1 at h
            refine xs <| rz ?_
            refine es <| xs ?_
            rcases iK k h with ⟨k, h⟩ | ⟨k, h⟩
            · refine xt <| xk <| es <| xs <| xb <| xs <| rK fun K169 RK169 hK169 gK169 => zz ?_
              obtain ⟨y170, q, h⟩ := bK q h
              refine zz ?_
              subst hK169 gK169
              refine es <| xs <| xs <| rK fun K175 RK175 hK175 gK175 => zz ?_
              obtain ⟨r176, h177, h⟩ := bs h
              refine cw (a_ref44_single hI h177) <| zz ?_
              subst hK175 gK175
              refine es <| xs <| rz ?_
              refine es ?_
              rcases iK k h with ⟨k, h⟩ | ⟨k, h⟩
              · refine xt <| xs <| rz ?_
                refine es <| xr <| er <| br <| er ?_
                cases h
                exact en ⟨rfl, wk []⟩
              · refine xf <| xk <| es <| xs <| xs <| rz ?_
                refine es ?_
                rcases iK k h with ⟨k, h⟩ | ⟨k, h⟩
                · refine xt <| xs <| rz ?_
                  refine es <| xr <| er <| br <| er ?_
                  cases h
                  exact en ⟨rfl, wk []⟩
                · refine xf <| xk <| es <| rd hI ?_
                  refine bn <| es <| rz ?_
                  cases h
                  exact en ⟨rfl, wk []⟩
            · refine xf <| xx <| ee ?_
              cases h
              exact en ⟨rfl, wk []⟩
          · rcases e36 with e36 | e36
            · try dsimp only at h ⊢
              refine br <| er ?_
              cases h
              exact en fr
            · try dsimp only at h ⊢
              refine bh <| es <| xs <| xs <| rK fun K194 RK194 hK194 gK194 => zz ?_
              obtain ⟨r195, h196, h⟩ := bs h
              refine cw (a_ref44_Reels hI h196) <| zz ?_
              subst hK194 gK194
              refine es ?_
              rcases iK k h with ⟨k, h⟩ | ⟨k, h⟩
              · refine xt <| xs <| rz ?_
                refine es <| xr <| er ?_
                cases h
                exact en fr
              · refine xf <| xk <| es <| xs <| rz ?_
                refine es <| xr ?_
                cases h
                exact en fr
  · refine xt <| xs <| rz ?_
    refine es <| xr <| er ?_
    cases h
    exact en fr
def g_law44_Ref (l_0 : T_edl_List) : Option (TRL) :=
  (some (TRL.mk l_0.Title l_0.Rate l_0.Drop l_0.Cuts))
theorem a_law44_Ref {I : World → Prop} (hI : Stab I) {l_0 : T_edl_List} {r : TRL} (h : g_law44_Ref l_0 = some r) : AFun Tryz.prog I 23 [T_edl_List.d l_0] (TRL.d r) := by
  have dd := dd_EF; have k := True.intro; have q := k; have rs := Tryz.results23
  unfold g_law44_Ref at h
  refine .en hI Tryz.func23 Tryz.ntmps23 ?_
  refine xs <| rz ?_
  refine es <| xs <| rz ?_
  refine es <| xr ?_
  cases h
  exact en fr
def g_ref44_Same_s1 (a_0 : TRL) (b_1 : TRL) (x18 : Int) : Option (Nx (Int) (Unit ⊕ Unit)) :=
  (if (decide (x18 < (a_0.Cuts.length : Int))) then ((atI a_0.Cuts x18).bind fun y117 => ((atI b_1.Cuts x18).bind fun y119 => (if ((y117.Number == y119.Number) && ((y117.Reel == y119.Reel) && ((y117.Source == y119.Source) && ((y117.Record.In == y119.Record.In) && ((y117.Record.Out == y119.Record.Out) && ((y117.Speed.Num == y119.Speed.Num) && (y117.Speed.Den == y119.Speed.Den))))))) then (some (.go (IntKind.i64.wrap (x18 + 1)))) else (some (.out (.inl ())))))) else (some (.out (.inr ()))))
def g_ref44_Same (a_0 : TRL) (b_1 : TRL) : Option (Bool) :=
  (((if (a_0.Title == b_1.Title) then (if (a_0.Rate != b_1.Rate) then (some true) else (if (a_0.Drop == b_1.Drop) then (some ((a_0.Cuts.length : Int) != (b_1.Cuts.length : Int))) else (some true))) else (some true)) : Option (Bool)).bind fun v7 => (if v7 then (some false) else ((iter (g_ref44_Same_s1 a_0 b_1) 0).bind fun e19 => (match e19 with | Sum.inl e19 => (some false) | Sum.inr (e19) => (some true)))))
theorem a_ref44_Same {I : World → Prop} (hI : Stab I) {a_0 : TRL} {b_1 : TRL} {r : Bool} (h : g_ref44_Same a_0 b_1 = some r) : AFun Tryz.prog I 22 [TRL.d a_0, TRL.d b_1] (.bool r) := by
  have dd := dd_EF; have k := True.intro; have q := k; have rs := Tryz.results22
  unfold g_ref44_Same at h
  refine .en hI Tryz.func22 Tryz.ntmps22 ?_
  refine xs <| rz ?_
  refine es <| xs ?_
  obtain ⟨v7, h12, h⟩ := bs h
  refine rb_cut (fun v7 => ⟨envL [(2, .ptr 0 0), (3, .ptr 1 0), (33, .bool v7)], heapL [(0, .box none [.str a_0.Title, .int .u8 a_0.Rate, .bool a_0.Drop, .sl (a_0.Cuts.map T_api_Cut.d)]), (1, .box none [.str b_1.Title, .int .u8 b_1.Rate, .bool b_1.Drop, .sl (b_1.Cuts.map T_api_Cut.d)])], 2, 52⟩) h12 ?_ ?_
  · clear h
    intro v7 h
    refine rK fun K8 RK8 hK8 gK8 => zz ?_
    rcases iK k h with ⟨k, h⟩ | ⟨k, h⟩
    · refine zz ?_
      rcases iK k h with ⟨k, h⟩ | ⟨k, h⟩
      · refine zz ?_
        subst hK8 gK8
        cases h
        exact en ⟨rfl, wk []⟩
      · refine zz ?_
        rcases iK k h with ⟨k, h⟩ | ⟨k, h⟩
        · refine zz ?_
          subst hK8 gK8
          cases h
          exact en ⟨rfl, wk []⟩
        · refine zz ?_
          subst hK8 gK8
          cases h
          exact en ⟨rfl, wk []⟩
    · refine zz ?_
      subst hK8 gK8
      cases h
      exact en ⟨rfl, wk []⟩
  · rcases iK k h with ⟨k, h⟩ | ⟨k, h⟩
    · refine xt <| xs <| rz ?_
      refine es <| xr <| er ?_
      cases h
      exact en fr
    · refine xf <| xk <| es <| xs <| xs <| rz ?_
      refine es <| xb ?_
      obtain ⟨e19, h125, h⟩ := bs h
      refine rb_loop (fun x18 => ⟨envL [(2, .ptr 0 0), (3, .ptr 1 0), (36, .int .i64 (a_0.Cuts.length : Int)), (37, .int .i64 x18)], heapL [(0, .box none [.str a_0.Title, .int .u8 a_0.Rate, .bool a_0.Drop, .sl (a_0.Cuts.map T_api_Cut.d)]), (1, .box none [.str b_1.Title, .int .u8 b_1.Rate, .bool b_1.Drop, .sl (b_1.Cuts.map T_api_Cut.d)])], 2, 52⟩) (fun w => match w with | Sum.inl _ => .ret | Sum.inr (_) => .exit 0) (fun w => match w with | Sum.inl e19 => ⟨envL [(4, .bool false)], heapL [], 0, 52⟩ | Sum.inr (e19) => ⟨envL [], heapL [], 0, 52⟩) h125 (wk []) (by intro w; rcases w with w | w <;> simp) ?_ ?_
      · clear h
        intro x18 y h
        unfold g_ref44_Same_s1 at h
        refine xs <| rz ?_
        refine es <| xs ?_
        rcases iK k h with ⟨k, h⟩ | ⟨k, h⟩
        · refine xt <| xk <| es <| xs <| xb <| xs <| rz ?_
          refine es <| xs <| rD hI fun K116 RK116 hK116 gK116 => zz ?_
          obtain ⟨y117, q, h⟩ := bK q h
          refine zz ?_
          obtain ⟨y119, q, h⟩ := bK q h
          refine zz ?_
          subst hK116 gK116
          refine es ?_
          rcases iK k h with ⟨k, h⟩ | ⟨k, h⟩
          · refine xf <| xk <| bn <| es <| rz ?_
            cases h
            exact en ⟨rfl, wk []⟩
          · refine xt <| xs <| rz ?_
            refine es <| xr <| br <| er ?_
            cases h
            exact en ⟨rfl, wk []⟩
        · refine xf <| xx <| ee ?_
          cases h
          exact en ⟨rfl, wk []⟩
      · rcases e19 with e19 | e19
        · try dsimp only at h ⊢
          refine br <| er ?_
          cases h
          exact en fr
        · try dsimp only at h ⊢
          refine bh <| es <| xs <| rz ?_
          refine es <| xr ?_
          cases h
          exact en fr
def g_ref44_head (x_0 : T_api_Line) : Option (TRL × T_api_Diag × Bool) :=
  ((atI x_0.Fields 0).bind fun y7 => (((if y7.Quoted then (some true) else (some (!(y7.Text == ([69, 68, 76] : List UInt8))))) : Option (Bool)).bind fun v11 => (if v11 then (some ((TRL.mk [] 0 false []), (T_api_Diag.mk x_0.Number y7.Column 8), true)) else ((g_ref07_Scan x_0).bind fun r22 => ((gRS_Word r22).bind fun r28 => ((gRS_Quoted r28.2).bind fun r34 => ((gRS_Word r34.2).bind fun r42 => ((g_ref02_Parse r42.1).bind fun r44 => ((gRS_Fail r42.2 r44.2).bind fun r50 => ((gRS_Choice r50 [[68, 82, 79, 80], [78, 68, 70]]).bind fun r58 => (((if (r58.1 == 0) then ((g_ref02_CanDrop r44.1).bind fun r67 => (some (!r67))) else (some false)) : Option (Bool)).bind fun v64 => (if v64 then ((gRS_Fail r58.2 13).bind fun r72 => ((gRS_End r72).bind fun r78 => (if r78.2.1 then (some ((TRL.mk [] 0 false []), r78.1, true)) else (some ((TRL.mk r34.1 r44.1 (r58.1 == 0) []), (T_api_Diag.mk 0 0 0), false))))) else ((gRS_End r58.2).bind fun r91 => (if r91.2.1 then (some ((TRL.mk [] 0 false []), r91.1, true)) else (some ((TRL.mk r34.1 r44.1 (r58.1 == 0) []), (T_api_Diag.mk 0 0 0), false))))))))))))))))
theorem a_ref44_head {I : World → Prop} (hI : Stab I) {x_0 : T_api_Line} {r : TRL × T_api_Diag × Bool} (h : g_ref44_head x_0 = some r) : AFun Tryz.prog I 53 [T_api_Line.d x_0] (.tup [.agg [.str r.1.Title, .int .u8 r.1.Rate, .bool r.1.Drop, .nils], T_api_Diag.d r.2.1, .bool r.2.2]) := by
  have dd := dd_EF; have k := True.intro; have q := k; have rs := Tryz.results53
  unfold g_ref44_head at h
  refine .enN hI Tryz.func53 Tryz.ntmps53 ?_
  refine xs <| rz ?_
  refine es <| xs <| rK fun K6 RK6 hK6 gK6 => zz ?_
  obtain ⟨y7, q, h⟩ := bK q h
  refine zz ?_
  subst hK6 gK6
  refine es <| xs ?_
  obtain ⟨v11, h14, h⟩ := bs h
  refine rb_cut (fun v11 => ⟨envL [(1, .ptr 0 0), (2, .ptr 1 0), (3, .ptr 2 0), (5, .ptr 3 0), (22, .bool v11)], heapL [(0, .box none [.int .i64 x_0.Number, .sl (x_0.Fields.map T_api_Field.d)]), (1, .box none [.str [], .int .u8 0, .bool false, .nils]), (2, .box none [.int .i64 0, .int .i64 0, .int .i64 0]), (3, .box none [.str y7.Text, .int .i64 y7.Column, .bool y7.Quoted])], 4, 71⟩) h14 ?_ ?_
  · clear h
    intro v11 h
    refine rK fun K12 RK12 hK12 gK12 => zz ?_
    rcases iK k h with ⟨k, h⟩ | ⟨k, h⟩
    · refine zz ?_
      subst hK12 gK12
      cases h
      exact en ⟨rfl, wk [(3, some 8)]⟩
    · refine zz ?_
      subst hK12 gK12
      cases h
      exact en ⟨rfl, wk [(3, some 8)]⟩
  · rcases iK k h with ⟨k, h⟩ | ⟨k, h⟩
    · refine xt <| xs <| rP hI fun K17 hK17 => rgP_cons <| zq ?_
      refine sP.light rfl fd <| rgP_cons <| zq ?_
      refine sP.light rfl fd <| rgP_cons <| zq ?_
      refine sP.foot (.cell 0 0 1) (fun _ => FootOK.ld rfl rfl rfl (by kernel_rfl) (by decide)) fd (by first | exact .inl (by first | rfl | decide) | exact .inr (by kernel_rfl)) <| rgP_cons <| zq ?_
      refine sP.light rfl fd <| rgP_cons <| zq ?_
      refine sP.foot (.cell 3 1 1) (fun _ => FootOK.ld rfl rfl rfl (by kernel_rfl) (by decide)) fd (by first | exact .inl (by first | rfl | decide) | exact .inr (by kernel_rfl)) <| rgP_cons <| zq ?_
      refine sP.light rfl fd <| rgP_cons <| zq ?_
      refine sP.pat 1 0 4 rfl rfl rfl <| rgP_cons <| zq ?_
      refine sP.pat 2 0 3 rfl rfl rfl <| rgP_cons <| zq ?_
      refine sP.light rfl fd <| zq ?_
      refine rgP_nil fk ?_
      subst hK17
      refine es <| xr <| er ?_
      cases h
      exact en fn
    · refine xf <| xk <| es <| xs <| rK fun K21 RK21 hK21 gK21 => zz ?_
      obtain ⟨r22, h23, h⟩ := bs h
      refine cW.introE (a_ref07_Scan hI (nid := 5) h23) fz rfl <| zz ?_
      subst hK21 gK21
      refine es <| xs <| rK fun K27 RK27 hK27 gK27 => zz ?_
      obtain ⟨r28, h29, h⟩ := bs h
      refine eW.intro (aRS_Word hI (nid := 8) (i0 := 5) (p0 := none) h29 fz) fi rfl <| zz ?_
      subst hK27 gK27
      refine es <| xs <| rK fun K33 RK33 hK33 gK33 => zz ?_
      obtain ⟨r34, h35, h⟩ := bs h
      refine eW.intro (aRS_Quoted hI (nid := 10) (i0 := 5) (p0 := none) h35 fz) fi rfl <| zz ?_
      subst hK33 gK33
      refine es <| xs <| rK fun K41 RK41 hK41 gK41 => zz ?_
      obtain ⟨r42, h43, h⟩ := bs h
      refine eW.intro (aRS_Word hI (nid := 15) (i0 := 5) (p0 := none) h43 fz) fi rfl <| zz ?_
      obtain ⟨r44, h45, h⟩ := bs h
      refine cw (a_ref02_Parse hI h45) <| zz ?_
      subst hK41 gK41
      refine es <| xs <| rK fun K49 RK49 hK49 gK49 => zz ?_
      obtain ⟨r50, h51, h⟩ := bs h
      refine eW.intro (aRS_Fail hI (nid := 24) (i0 := 5) (p0 := none) h51 fz) fi rfl <| zz ?_
      subst hK49 gK49
      refine es <| xs <| rz ?_
      refine es <| xs <| rK fun K57 RK57 hK57 gK57 => zz ?_
      obtain ⟨r58, h59, h⟩ := bs h
      refine eW.intro (aRS_Choice hI (nid := 30) (i0 := 5) (p0 := none) h59 fz) fi rfl <| zz ?_
      subst hK57 gK57
      refine es <| xs ?_
      obtain ⟨v64, h69, h⟩ := bs h
      refine rb_cut (fun v64 => ⟨envL [(2, .ptr 0 0), (3, .ptr 1 0), (6, .ptr 2 0), (7, .ptr 3 0), (58, .bool v64)], heapL [(0, .box none [.str [], .int .u8 0, .bool false, .nils]), (1, .box none [.int .i64 0, .int .i64 0, .int .i64 0]), (2, .box none [.int .i64 r58.2.Line.Number, .sl (r58.2.Line.Fields.map T_api_Field.d), .int .i64 r58.2.At, .int .i64 r58.2.Code, .int .i64 r58.2.Col]), (3, .box none [.str r34.1, .int .u8 r44.1, .bool (r58.1 == 0), .nils])], 4, 71⟩) h69 ?_ ?_
      · clear h
        intro v64 h
        refine rK fun K65 RK65 hK65 gK65 => zz ?_
        rcases iK k h with ⟨k, h⟩ | ⟨k, h⟩
        · refine zz ?_
          obtain ⟨r67, h68, h⟩ := bs h
          refine cw (a_ref02_CanDrop hI h68) <| zz ?_
          subst hK65 gK65
          cases h
          exact en ⟨rfl, wk [(0, some 1), (1, some 2), (2, some 5), (3, some 12)]⟩
        · refine zz ?_
          subst hK65 gK65
          cases h
          exact en ⟨rfl, wk [(0, some 1), (1, some 2), (2, some 5), (3, some 12)]⟩
      · rcases iK k h with ⟨k, h⟩ | ⟨k, h⟩
        · refine xt <| rK fun K71 RK71 hK71 gK71 => zz ?_
          obtain ⟨r72, h73, h⟩ := bs h
          refine eW.intro (aRS_Fail hI (nid := 5) (i0 := 2) (p0 := none) h73 fz) fi rfl <| zz ?_
          subst hK71 gK71
          refine es <| xs <| rK fun K77 RK77 hK77 gK77 => zz ?_
          obtain ⟨r78, h79, h⟩ := bs h
          refine eW.intro (aRS_End hI (nid := 7) (i0 := 2) (p0 := none) h79 fz) fi rfl <| zz ?_
          subst hK77 gK77
          refine es <| xs <| xs <| rz ?_
          refine es ?_
          rcases iK k h with ⟨k, h⟩ | ⟨k, h⟩
          · refine xt <| xs <| rP hI fun K84 hK84 => rgP_cons <| zq ?_
            refine sP.light rfl fd <| rgP_cons <| zq ?_
            refine sP.foot (.cell 11 0 3) (fun _ => FootOK.ld rfl rfl rfl (by kernel_rfl) (by decide)) fd (by first | exact .inl (by first | rfl | decide) | exact .inr (by kernel_rfl)) <| rgP_cons <| zq ?_
            refine sP.pat 0 0 4 rfl rfl rfl <| rgP_cons <| zq ?_
            refine sP.pat 1 0 3 rfl rfl rfl <| rgP_cons <| zq ?_
            refine sP.light rfl fd <| zq ?_
            refine rgP_nil fk ?_
            subst hK84
            refine es <| xr <| er ?_
            cases h
            exact en fn
          · refine xf <| xk <| es <| xs <| rz ?_
            refine es <| xr ?_
            cases h
            exact en fn
        · refine xf <| xk <| es <| xs <| rK fun K90 RK90 hK90 gK90 => zz ?_
          obtain ⟨r91, h92, h⟩ := bs h
          refine eW.intro (aRS_End hI (nid := 5) (i0 := 2) (p0 := none) h92 fz) fi rfl <| zz ?_
          subst hK90 gK90
          refine es <| xs <| xs <| rz ?_
          refine es ?_
          rcases iK k h with ⟨k, h⟩ | ⟨k, h⟩
          · refine xt <| xs <| rP hI fun K97 hK97 => rgP_cons <| zq ?_
            refine sP.light rfl fd <| rgP_cons <| zq ?_
            refine sP.foot (.cell 9 0 3) (fun _ => FootOK.ld rfl rfl rfl (by kernel_rfl) (by decide)) fd (by first | exact .inl (by first | rfl | decide) | exact .inr (by kernel_rfl)) <| rgP_cons <| zq ?_
            refine sP.pat 0 0 4 rfl rfl rfl <| rgP_cons <| zq ?_
            refine sP.pat 1 0 3 rfl rfl rfl <| rgP_cons <| zq ?_
            refine sP.light rfl fd <| zq ?_
            refine rgP_nil fk ?_
            subst hK97
            refine es <| xr <| er ?_
            cases h
            exact en fn
          · refine xf <| xk <| es <| xs <| rz ?_
            refine es <| xr ?_
            cases h
            exact en fn
def g_ref44_take (s_0 : TRS) (l_1 : TRL) : Option (Int × TRS) :=
  ((gRS_Word s_0).bind fun r9 => ((g_ref03_Parse l_1.Rate r9.1).bind fun r11 => ((gRS_Fail r9.2 r11.2).bind fun r17 => (if (r11.1.Drop == l_1.Drop) then ((g_ref03_Frame l_1.Rate r11.1).bind fun r26 => (some (r26.1, r17))) else ((gRS_Fail r17 4).bind fun r31 => ((g_ref03_Frame l_1.Rate r11.1).bind fun r37 => (some (r37.1, r31))))))))
theorem a_ref44_take {I : World → Prop} (hI : Stab I) {H : Nat → Option Blk} {nid : Nat} {i0 : Nat} {p0 : Option Nat} {s_0 : TRS} {l_1 : TRL} {r : Int × TRS} (h : g_ref44_take s_0 l_1 = some r) (b0 : H i0 = some (.box p0 [.int .i64 s_0.Line.Number, .sl (s_0.Line.Fields.map T_api_Field.d), .int .i64 s_0.At, .int .i64 s_0.Code, .int .i64 s_0.Col])) : CallOK Tryz.prog I 105 [.ptr i0 0, .agg [.str l_1.Title, .int .u8 l_1.Rate, .bool l_1.Drop, .any]] H nid (.int .i64 r.1) [(i0, some (.box p0 [.int .i64 r.2.Line.Number, .sl (r.2.Line.Fields.map T_api_Field.d), .int .i64 r.2.At, .int .i64 r.2.Code, .int .i64 r.2.Col]))] := by
  refine CallOK.intro (is := [(i0, p0)]) (css := [[.int .i64 s_0.Line.Number, .sl (s_0.Line.Fields.map T_api_Field.d), .int .i64 s_0.At, .int .i64 s_0.Code, .int .i64 s_0.Col]]) (ds0 := [.ptr 0 0, .agg [.str l_1.Title, .int .u8 l_1.Rate, .bool l_1.Drop, .any]]) (pl := [(0, none)]) hI Tryz.func105 rfl (by decide) (by simp [Tryz.f105]) (by kernel_rfl) rfl rfl rfl rfl (lentAll_of ⟨⟨b0, rfl⟩, trivial⟩) (by simp) ?_
  have dd := dd_EF; have k := True.intro; have q := k; have rs := Tryz.results105
  unfold g_ref44_take at h
  simp only [lentH, List.length_cons, List.length_nil, Nat.zero_add, Nat.reduceAdd, Tryz.ntmps105, dd_EF]
  refine xs <| rz ?_
  refine es <| xs <| rP hI fun K8 hK8 => rgP_cons <| zq ?_
  refine sP.light rfl fd <| rgP_cons <| zq ?_
  refine sP.foot (.cell 1 1 1) (fun _ => FootOK.ld rfl rfl rfl (by kernel_rfl) (by decide)) fd (by first | exact .inl (by first | rfl | decide) | exact .inr (by kernel_rfl)) <| rgP_cons <| zq ?_
  refine sP.light rfl fd <| rgP_cons <| zq ?_
  obtain ⟨r9, h10, h⟩ := bs h
  refine eP.intro (ep := []) (fun H' hs => aRS_Word hI (nid := 6) (i0 := 0) (p0 := (some 0)) h10 (hs 0 (by simp [D.ids, D.ids1]) _ fz)) fz rfl (.ids [0]) (fun hN => FootOK.idsB [0] (by rfl) rfl hN) fd (by first | exact .inl (by first | rfl | decide) | exact .inr (by kernel_rfl)) <| rgP_cons <| zq ?_
  obtain ⟨r11, h12, h⟩ := bs h
  refine cP.intro (a_ref03_Parse hI h12) fi (.ids []) (fun hN => FootOK.idsB [] (by rfl) rfl hN) fd (by first | exact .inl (by first | rfl | decide) | exact .inr (by kernel_rfl)) <| rgP_cons <| zq ?_
  refine sP.light rfl fd <| rgP_cons <| zq ?_
  refine sP.light rfl fd <| rgP_cons <| zq ?_
  refine sP.light rfl fd <| rgP_cons <| zq ?_
  refine sP.light rfl fd <| rgP_cons <| zq ?_
  refine sP.pat 11 0 5 rfl rfl rfl <| rgP_cons <| zq ?_
  refine sP.light rfl fd <| zq ?_
  refine rgP_nil fk ?_
  subst hK8
  refine es <| xs <| rK fun K16 RK16 hK16 gK16 => zz ?_
  obtain ⟨r17, h18, h⟩ := bs h
  refine eW.intro (aRS_Fail hI (nid := 16) (i0 := 0) (p0 := (some 0)) h18 fz) fi rfl <| zz ?_
  subst hK16 gK16
  refine es <| xs <| xs <| rz ?_
  refine es ?_
  rcases iK k h with ⟨k, h⟩ | ⟨k, h⟩
  · refine xf <| xk <| es <| xs <| rK fun K25 RK25 hK25 gK25 => zz ?_
    obtain ⟨r26, h27, h⟩ := bs h
    refine cw (a_ref03_Frame hI h27) <| zz ?_
    subst hK25 gK25
    refine es <| xs <| rz ?_
    refine es <| xr ?_
    cases h
    exact en fp
  · refine xt <| rK fun K30 RK30 hK30 gK30 => zz ?_
    obtain ⟨r31, h32, h⟩ := bs h
    refine eW.intro (aRS_Fail hI (nid := 23) (i0 := 0) (p0 := (some 0)) h32 fz) fi rfl <| zz ?_
    subst hK30 gK30
    refine es <| xs <| rK fun K36 RK36 hK36 gK36 => zz ?_
    obtain ⟨r37, h38, h⟩ := bs h
    refine cw (a_ref03_Frame hI h38) <| zz ?_
    subst hK36 gK36
    refine es <| xs <| rz ?_
    refine es <| xr ?_
    cases h
    exact en fp
def g_ref44_cut (x_0 : T_api_Line) (l_1 : TRL) : Option (T_api_Cut × T_api_Diag × Bool) :=
  ((g_ref07_Scan x_0).bind fun r7 => ((gRS_Choice r7 [[67, 85, 84]]).bind fun r13 => ((gRS_Number r13.2 1 999).bind fun r19 => ((gRS_Name r19.2 false).bind fun r25 => ((g_ref44_take r25.2 (TRL.mk l_1.Title l_1.Rate l_1.Drop [])).bind fun r31 => ((g_ref44_take r31.2 (TRL.mk l_1.Title l_1.Rate l_1.Drop [])).bind fun r37 => ((g_ref44_take r37.2 (TRL.mk l_1.Title l_1.Rate l_1.Drop [])).bind fun r43 => ((gRS_Left r43.2).bind fun r49 => (if (decide (0 < r49.1)) then ((gRS_Choice r49.2 [[83, 80, 69, 69, 68]]).bind fun r56 => ((gRS_Word r56.2).bind fun r64 => ((g_ref01_Parse r64.1).bind fun r66 => ((gRS_Fail r64.2 r66.2).bind fun r72 => ((gRS_End r72).bind fun r79 => (some ((T_api_Cut.mk r19.1 r25.1 r31.1 (T_api_Span.mk r37.1 r43.1) r66.1), r79.1, r79.2.1))))))) else ((gRS_End r49.2).bind fun r87 => (some ((T_api_Cut.mk r19.1 r25.1 r31.1 (T_api_Span.mk r37.1 r43.1) (T_api_Ratio.mk 1 1)), r87.1, r87.2.1))))))))))))
theorem a_ref44_cut {I : World → Prop} (hI : Stab I) {x_0 : T_api_Line} {l_1 : TRL} {r : T_api_Cut × T_api_Diag × Bool} (h : g_ref44_cut x_0 l_1 = some r) : AFun Tryz.prog I 54 [T_api_Line.d x_0, .agg [.str l_1.Title, .int .u8 l_1.Rate, .bool l_1.Drop, .any]] (.tup [T_api_Cut.d r.1, T_api_Diag.d r.2.1, .bool r.2.2]) := by
  have dd := dd_EF; have k := True.intro; have q := k; have rs := Tryz.results54
  unfold g_ref44_cut at h
  refine .en hI Tryz.func54 Tryz.ntmps54 ?_
  refine xs <| rz ?_
  refine es <| xs <| rK fun K6 RK6 hK6 gK6 => zz ?_
  obtain ⟨r7, h8, h⟩ := bs h
  refine cW.introE (a_ref07_Scan hI (nid := 6) h8) fz rfl <| zz ?_
  subst hK6 gK6
  refine es <| xs <| rK fun K12 RK12 hK12 gK12 => zz ?_
  obtain ⟨r13, h14, h⟩ := bs h
  refine eW.intro (aRS_Choice hI (nid := 10) (i0 := 6) (p0 := none) h14 fz) fi rfl <| zz ?_
  subst hK12 gK12
  refine es <| xs <| rK fun K18 RK18 hK18 gK18 => zz ?_
  obtain ⟨r19, h20, h⟩ := bs h
  refine eW.intro (aRS_Number hI (nid := 12) (i0 := 6) (p0 := none) h20 fz) fi rfl <| zz ?_
  subst hK18 gK18
  refine es <| xs <| rK fun K24 RK24 hK24 gK24 => zz ?_
  obtain ⟨r25, h26, h⟩ := bs h
  refine eW.intro (aRS_Name hI (nid := 18) (i0 := 6) (p0 := none) h26 fz) fi rfl <| zz ?_
  subst hK24 gK24
  refine es <| xs <| rK fun K30 RK30 hK30 gK30 => zz ?_
  obtain ⟨r31, h32, h⟩ := bs h
  refine rW.intro (a_ref44_take hI (nid := 23) (i0 := 6) (p0 := none) h32 fz) fi rfl <| zz ?_
  subst hK30 gK30
  refine es <| xs <| rK fun K36 RK36 hK36 gK36 => zz ?_
  obtain ⟨r37, h38, h⟩ := bs h
  refine rW.intro (a_ref44_take hI (nid := 28) (i0 := 6) (p0 := none) h38 fz) fi rfl <| zz ?_
  subst hK36 gK36
  refine es <| xs <| rK fun K42 RK42 hK42 gK42 => zz ?_
  obtain ⟨r43, h44, h⟩ := bs h
  refine rW.intro (a_ref44_take hI (nid := 34) (i0 := 6) (p0 := none) h44 fz) fi rfl <| zz ?_
  subst hK42 gK42
  refine es <| xs <| xs <| rK fun K48 RK48 hK48 gK48 => zz ?_
  obtain ⟨r49, h50, h⟩ := bs h
  refine eW.intro (aRS_Left hI (nid := 39) (i0 := 6) (p0 := none) h50 fz) fi rfl <| zz ?_
  subst hK48 gK48
  refine es ?_
  rcases iK k h with ⟨k, h⟩ | ⟨k, h⟩
  · refine xt <| xs <| rK fun K55 RK55 hK55 gK55 => zz ?_
    obtain ⟨r56, h57, h⟩ := bs h
    refine eW.intro (aRS_Choice hI (nid := 43) (i0 := 6) (p0 := none) h57 fz) fi rfl <| zz ?_
    subst hK55 gK55
    refine es <| xs <| rK fun K63 RK63 hK63 gK63 => zz ?_
    obtain ⟨r64, h65, h⟩ := bs h
    refine eW.intro (aRS_Word hI (nid := 45) (i0 := 6) (p0 := none) h65 fz) fi rfl <| zz ?_
    obtain ⟨r66, h67, h⟩ := bs h
    refine cw (a_ref01_Parse hI h67) <| zz ?_
    subst hK63 gK63
    refine es <| xs <| rK fun K71 RK71 hK71 gK71 => zz ?_
    obtain ⟨r72, h73, h⟩ := bs h
    refine eW.intro (aRS_Fail hI (nid := 55) (i0 := 6) (p0 := none) h73 fz) fi rfl <| zz ?_
    subst hK71 gK71
    refine es <| rz ?_
    refine es <| xs <| rK fun K78 RK78 hK78 gK78 => zz ?_
    obtain ⟨r79, h80, h⟩ := bs h
    refine eW.intro (aRS_End hI (nid := 60) (i0 := 6) (p0 := none) h80 fz) fi rfl <| zz ?_
    subst hK78 gK78
    refine es <| xs <| rP hI fun K82 hK82 => rgP_cons <| zq ?_
    refine sP.foot (.cell 15 0 7) (fun _ => FootOK.ld rfl rfl rfl (by kernel_rfl) (by decide)) fd (by first | exact .inl (by first | rfl | decide) | exact .inr (by kernel_rfl)) <| rgP_cons <| zq ?_
    refine sP.foot (.cell 64 0 3) (fun _ => FootOK.ld rfl rfl rfl (by kernel_rfl) (by decide)) fd (by first | exact .inl (by first | rfl | decide) | exact .inr (by kernel_rfl)) <| rgP_cons <| zq ?_
    refine sP.light rfl fd <| rgP_cons <| zq ?_
    refine sP.pat 2 0 7 rfl rfl rfl <| rgP_cons <| zq ?_
    refine sP.pat 3 0 3 rfl rfl rfl <| rgP_cons <| zq ?_
    refine sP.light rfl fd <| zq ?_
    refine rgP_nil fk ?_
    subst hK82
    refine es <| xr ?_
    cases h
    exact en fr
  · refine xf <| xk <| es <| xs <| rK fun K86 RK86 hK86 gK86 => zz ?_
    obtain ⟨r87, h88, h⟩ := bs h
    refine eW.intro (aRS_End hI (nid := 42) (i0 := 6) (p0 := none) h88 fz) fi rfl <| zz ?_
    subst hK86 gK86
    refine es <| xs <| rP hI fun K90 hK90 => rgP_cons <| zq ?_
    refine sP.foot (.cell 15 0 7) (fun _ => FootOK.ld rfl rfl rfl (by kernel_rfl) (by decide)) fd (by first | exact .inl (by first | rfl | decide) | exact .inr (by kernel_rfl)) <| rgP_cons <| zq ?_
    refine sP.foot (.cell 46 0 3) (fun _ => FootOK.ld rfl rfl rfl (by kernel_rfl) (by decide)) fd (by first | exact .inl (by first | rfl | decide) | exact .inr (by kernel_rfl)) <| rgP_cons <| zq ?_
    refine sP.light rfl fd <| rgP_cons <| zq ?_
    refine sP.pat 2 0 7 rfl rfl rfl <| rgP_cons <| zq ?_
    refine sP.pat 3 0 3 rfl rfl rfl <| rgP_cons <| zq ?_
    refine sP.light rfl fd <| zq ?_
    refine rgP_nil fk ?_
    subst hK90
    refine es <| xr ?_
    cases h
    exact en fr
def g_ref44_Parse_s1 (r24 : TRL × T_api_Diag × Bool) (z38 : List T_api_Line) (x43 : (List T_api_Diag) × Int × (List T_api_Cut)) : Option (Nx ((List T_api_Diag) × Int × (List T_api_Cut)) ((List T_api_Diag) × (List T_api_Cut))) :=
  (if (decide (x43.2.1 < (z38.length : Int))) then ((atI z38 x43.2.1).bind fun y305 => ((g_ref44_cut y305 (TRL.mk r24.1.Title r24.1.Rate r24.1.Drop x43.2.2)).bind fun r311 => (((if r311.2.2 then (some (decide (((x43.1.length : Nat) : Int) < 50))) else (some false)) : Option (Bool)).bind fun v315 => (if v315 then (if (x43.1.length + 1) * 24 ≤ 140737488355328 then (if (x43.2.2.length + 1) * 64 ≤ 140737488355328 then (some (.go ((x43.1 ++ [r311.2.1]), (IntKind.i64.wrap (x43.2.1 + 1)), (x43.2.2 ++ [r311.1])))) else none) else none) else (if (x43.2.2.length + 1) * 64 ≤ 140737488355328 then (some (.go (x43.1, (IntKind.i64.wrap (x43.2.1 + 1)), (x43.2.2 ++ [r311.1])))) else none))))) else (some (.out (x43.1, x43.2.2))))
def g_ref44_Parse (src_0 : List UInt8) : Option (TRL × (List T_api_Diag)) :=
  ((g_ref07_Split_n src_0).bind fun r7 => (if r7.2.isEmpty then (if ((r7.1.length : Int) == 0) then (some ((TRL.mk [] 0 false []), [(T_api_Diag.mk 1 1 8)])) else ((atI r7.1 0).bind fun y22 => ((g_ref44_head y22).bind fun r24 => (if r24.2.2 then (some ((TRL.mk [] 0 false []), [r24.2.1])) else ((subL r7.1 1).bind fun z38 => ((iter (g_ref44_Parse_s1 r24 z38) ([], 0, [])).bind fun e44 => (if (decide (0 < ((e44.1.length : Nat) : Int))) then (some ((TRL.mk [] 0 false []), e44.1)) else ((g_ref44_Check (TRL.mk r24.1.Title r24.1.Rate r24.1.Drop e44.2)).bind fun r341 => (if (r341 != 0) then (some ((TRL.mk [] 0 false []), [(T_api_Diag.mk 1 1 r341)])) else (some ((TRL.mk r24.1.Title r24.1.Rate r24.1.Drop e44.2), []))))))))))) else (some ((TRL.mk [] 0 false []), r7.2))))
theorem a_ref44_Parse {I : World → Prop} (hI : Stab I) {src_0 : List UInt8} {r : TRL × (List T_api_Diag)} (h : g_ref44_Parse src_0 = some r) : AFun Tryz.prog I 24 [.str src_0] (.tup [TRL.d r.1, .sl (r.2.map T_api_Diag.d)]) := by
  have dd := dd_EF; have k := True.intro; have q := k; have rs := Tryz.results24
  unfold g_ref44_Parse at h
  refine .en hI Tryz.func24 Tryz.ntmps24 ?_
  refine xs <| rz ?_
  refine es <| xs <| rK fun K6 RK6 hK6 gK6 => zz ?_
  obtain ⟨r7, h8, h⟩ := bs h
  refine cw (a_ref07_Split_n hI h8) ?_
  rcases iK k h with ⟨k, h⟩ | ⟨k, h⟩
  · have q := And.intro (nslD_t (f := T_api_Diag.d) k.1) q
    refine zz ?_
    subst hK6 gK6
    refine es <| xs <| xs <| rz ?_
    refine es <| xf <| xk <| es <| xs <| xs <| rz ?_
    refine es ?_
    rcases iK k h with ⟨k, h⟩ | ⟨k, h⟩
    · refine xt <| xs <| rz ?_
      refine es <| xr <| er ?_
      cases h
      exact en fr
    · refine xf <| xk <| es <| xs <| rK fun K21 RK21 hK21 gK21 => zz ?_
      obtain ⟨y22, q, h⟩ := bK q h
      refine zz ?_
      obtain ⟨r24, h25, h⟩ := bs h
      refine cw (a_ref44_head hI h25) <| zz ?_
      subst hK21 gK21
      refine es <| xs <| xs <| rz ?_
      refine es ?_
      rcases iK k h with ⟨k, h⟩ | ⟨k, h⟩
      · refine xt <| xs <| rP hI fun K30 hK30 => rgP_cons <| zq ?_
        refine sP.light rfl fd <| rgP_cons <| zq ?_
        refine sP.foot (.cell 24 0 3) (fun _ => FootOK.ld rfl rfl rfl (by kernel_rfl) (by decide)) fd (by first | exact .inl (by first | rfl | decide) | exact .inr (by kernel_rfl)) <| rgP_cons <| zq ?_
        refine sP.foot (.ids []) (fun hN => FootOK.idsB [] (by rfl) rfl hN) fd (by first | exact .inl (by first | rfl | decide) | exact .inr (by kernel_rfl)) <| rgP_cons <| zq ?_
        refine sP.pat 0 0 4 rfl rfl rfl <| rgP_cons <| zq ?_
        refine sP.light rfl fd <| zq ?_
        refine rgP_nil fk ?_
        subst hK30
        refine es <| xr <| er ?_
        cases h
        exact en fr
      · refine xf <| xk <| es <| xs <| xs <| rK fun K37 RK37 hK37 gK37 => zz ?_
        obtain ⟨z38, h39, h⟩ := bind_some h
        obtain ⟨⟨h40, h41⟩, h42⟩ := subL_some h39
        try simp only [List.length_cons, List.length_nil, Nat.zero_add, Nat.reduceAdd, Int.reduceToNat] at h41
        have q := And.intro @h41 <| q
        try simp -implicitDefEqProofs only [vt, vm, sevalprocAttr, dd, k, q] at h42
        have q := And.intro @h42 <| q
        refine zz ?_
        subst hK37 gK37
        refine es <| xb ?_
        obtain ⟨e44, h331, h⟩ := bs h
        refine rb_loop (fun x43 => ⟨envL [(2, .ptr 0 0), (5, .own 2 x43.1.length), (6, .ptr 1 0), (44, .sl (z38.map T_api_Line.d)), (45, .int .i64 (z38.length : Int)), (46, .int .i64 x43.2.1)], heapL [(0, .box none [.str [], .int .u8 0, .bool false, .nils]), (1, .box none [.str r24.1.Title, .int .u8 r24.1.Rate, .bool r24.1.Drop, .own 3 x43.2.2.length]), (2, .vec 57 3 (x43.1.map T_api_Diag.d) false), (3, .vec 43 7 (x43.2.2.map T_api_Cut.d) false)], 4, 88⟩) (fun _ => .exit 0) (fun e44 => ⟨envL [(2, .ptr 0 0), (5, .own 1 e44.1.length), (6, .ptr 2 0)], heapL [(0, .box none [.str [], .int .u8 0, .bool false, .nils]), (1, .vec 57 3 (e44.1.map T_api_Diag.d) false), (2, .box none [.str r24.1.Title, .int .u8 r24.1.Rate, .bool r24.1.Drop, .own 3 e44.2.length]), (3, .vec 43 7 (e44.2.map T_api_Cut.d) false)], 4, 88⟩) h331 (wk [(1, some 23), (2, none), (3, none)]) (by intro w; simp) ?_ ?_
        · clear h
          intro x43 y h
          unfold g_ref44_Parse_s1 at h
          refine xs <| rz ?_
          refine es <| xs ?_
          rcases iK k h with ⟨k, h⟩ | ⟨k, h⟩
          · refine xt <| xk <| es <| xs <| xb <| xs <| rK fun K304 RK304 hK304 gK304 => zz ?_
            obtain ⟨y305, q, h⟩ := bK q h
            refine zz ?_
            subst hK304 gK304
            refine es <| xs <| rK fun K310 RK310 hK310 gK310 => zz ?_
            obtain ⟨r311, h312, h⟩ := bs h
            refine cW.introR (.of_any hI (a_ref44_cut hI h312) (by simp [leDs, leD, leL, pur1, dd])) rfl rfl <| zz ?_
            subst hK310 gK310
            refine es <| xs ?_
            obtain ⟨v315, h318, h⟩ := bs h
            refine rb_cut (fun v315 => ⟨envL [(2, .ptr 0 0), (5, .own 1 x43.1.length), (6, .ptr 2 0), (11, .ptr 4 0), (12, .ptr 5 0), (44, .sl (z38.map T_api_Line.d)), (45, .int .i64 (z38.length : Int)), (46, .int .i64 x43.2.1), (62, .bool v315)], heapL [(0, .box none [.str [], .int .u8 0, .bool false, .nils]), (1, .vec 57 3 (x43.1.map T_api_Diag.d) false), (2, .box none [.str r24.1.Title, .int .u8 r24.1.Rate, .bool r24.1.Drop, .own 3 x43.2.2.length]), (3, .vec 43 7 (x43.2.2.map T_api_Cut.d) false), (4, .box none [.int .i64 r311.1.Number, .str r311.1.Reel, .int .i64 r311.1.Source, .int .i64 r311.1.Record.In, .int .i64 r311.1.Record.Out, .int .i64 r311.1.Speed.Num, .int .i64 r311.1.Speed.Den]), (5, .box none [.int .i64 r311.2.1.Line, .int .i64 r311.2.1.Column, .int .i64 r311.2.1.Code])], 6, 88⟩) h318 ?_ ?_
            · clear h
              intro v315 h
              refine rK fun K316 RK316 hK316 gK316 => zz ?_
              rcases iK k h with ⟨k, h⟩ | ⟨k, h⟩
              · refine zz ?_
                subst hK316 gK316
                cases h
                exact en ⟨rfl, wk [(1, some 2), (2, some 1), (4, some 16), (5, some 17)]⟩
              · refine zz ?_
                subst hK316 gK316
                cases h
                exact en ⟨rfl, wk [(1, some 2), (2, some 1), (4, some 16), (5, some 17)]⟩
            · rcases iK k h with ⟨k, h⟩ | ⟨k, h⟩
              · refine xt <| rK fun K320 RK320 hK320 gK320 => zz ?_
                obtain ⟨h321, h⟩ := ite_on h
                have h322 : x43.1.length + 1 ≤ 9223372036854775807 := by omega
                try simp only [Nat.reduceLeDiff] at h322
                have q := And.intro @h322 <| And.intro @h321 <| q
                refine zz ?_
                subst hK320 gK320
                refine es <| rK fun K323 RK323 hK323 gK323 => zz ?_
                obtain ⟨h324, h⟩ := ite_on h
                have h325 : x43.2.2.length + 1 ≤ 9223372036854775807 := by omega
                try simp only [Nat.reduceLeDiff] at h325
                have q := And.intro @h325 <| And.intro @h324 <| q
                refine zz ?_
                subst hK323 gK323
                refine bn <| es <| rz ?_
                cases h
                exact en ⟨rfl, wk [(1, some 2), (2, some 9), (3, some 15)]⟩
              · refine xf <| xk <| es <| rK fun K327 RK327 hK327 gK327 => zz ?_
                obtain ⟨h328, h⟩ := ite_on h
                have h329 : x43.2.2.length + 1 ≤ 9223372036854775807 := by omega
                try simp only [Nat.reduceLeDiff] at h329
                have q := And.intro @h329 <| And.intro @h328 <| q
                refine zz ?_
                subst hK327 gK327
                refine bn <| es <| rz ?_
                cases h
                exact en ⟨rfl, wk [(1, some 2), (2, some 1), (3, some 10)]⟩
          · refine xf <| xx <| ee ?_
            cases h
            exact en ⟨rfl, wk [(1, some 2), (2, some 1)]⟩
        · refine bh <| es <| xs <| xs <| rz ?_
          refine es ?_
          rcases iK k h with ⟨k, h⟩ | ⟨k, h⟩
          · refine xt <| xs <| rz ?_
            refine es <| xr <| er ?_
            cases h
            exact en fr
          · refine xf <| xk <| es <| xs <| xs <| rK fun K340 RK340 hK340 gK340 => zz ?_
            obtain ⟨r341, h342, h⟩ := bs h
            refine cw (a_ref44_Check hI h342) <| zz ?_
            subst hK340 gK340
            refine es <| xs <| rz ?_
            refine es ?_
            rcases iK k h with ⟨k, h⟩ | ⟨k, h⟩
            · refine xt <| xs <| rz ?_
              refine es <| xr <| er ?_
              cases h
              exact en fr
            · refine xf <| xk <| es <| xs <| rz ?_
              refine es <| xr ?_
              cases h
              exact en fr
  · have q := And.intro (nslD_f (f := T_api_Diag.d) k.1) q
    have k := And.intro (nsl_len k.1) k
    refine zz ?_
    subst hK6 gK6
    refine es <| xs <| xs <| rz ?_
    refine es <| xt <| xs <| rz ?_
    refine es <| xr <| er ?_
    cases h
    exact en fr
def g_law44_diags_s1 (a_0 : List T_api_Diag) (b_1 : List T_api_Diag) (x10 : Int) : Option (Nx (Int) (Unit ⊕ Unit)) :=
  (if (decide (x10 < (a_0.length : Int))) then ((atI a_0 x10).bind fun y74 => ((atI b_1 x10).bind fun y76 => (if ((y74.Line == y76.Line) && ((y74.Column == y76.Column) && (y74.Code == y76.Code))) then (some (.go (IntKind.i64.wrap (x10 + 1)))) else (some (.out (.inl ())))))) else (some (.out (.inr ()))))
def g_law44_diags (a_0 : List T_api_Diag) (b_1 : List T_api_Diag) : Option (Bool) :=
  (if ((a_0.length : Int) != (b_1.length : Int)) then (some false) else ((iter (g_law44_diags_s1 a_0 b_1) 0).bind fun e11 => (match e11 with | Sum.inl e11 => (some false) | Sum.inr (e11) => (some true))))
theorem a_law44_diags {I : World → Prop} (hI : Stab I) {a_0 : List T_api_Diag} {b_1 : List T_api_Diag} {r : Bool} (h : g_law44_diags a_0 b_1 = some r) : AFun Tryz.prog I 25 [.sl (a_0.map T_api_Diag.d), .sl (b_1.map T_api_Diag.d)] (.bool r) := by
  have dd := dd_EF; have k := True.intro; have q := k; have rs := Tryz.results25
  unfold g_law44_diags at h
  refine .en hI Tryz.func25 Tryz.ntmps25 ?_
  refine xs <| rz ?_
  refine es <| xs <| xs <| rz ?_
  refine es ?_
  rcases iK k h with ⟨k, h⟩ | ⟨k, h⟩
  · refine xt <| xs <| rz ?_
    refine es <| xr <| er ?_
    cases h
    exact en fr
  · refine xf <| xk <| es <| xs <| xs <| rz ?_
    refine es <| xb ?_
    obtain ⟨e11, h82, h⟩ := bs h
    refine rb_loop (fun x10 => ⟨envL [(0, .sl (a_0.map T_api_Diag.d)), (1, .sl (b_1.map T_api_Diag.d)), (12, .int .i64 (a_0.length : Int)), (13, .int .i64 x10)], heapL [], 0, 26⟩) (fun w => match w with | Sum.inl _ => .ret | Sum.inr (_) => .exit 0) (fun w => match w with | Sum.inl e11 => ⟨envL [(4, .bool false)], heapL [], 0, 26⟩ | Sum.inr (e11) => ⟨envL [], heapL [], 0, 26⟩) h82 (wk []) (by intro w; rcases w with w | w <;> simp) ?_ ?_
    · clear h
      intro x10 y h
      unfold g_law44_diags_s1 at h
      refine xs <| rz ?_
      refine es <| xs ?_
      rcases iK k h with ⟨k, h⟩ | ⟨k, h⟩
      · refine xt <| xk <| es <| xs <| xb <| xs <| rz ?_
        refine es <| xs <| rD hI fun K73 RK73 hK73 gK73 => zz ?_
        obtain ⟨y74, q, h⟩ := bK q h
        refine zz ?_
        obtain ⟨y76, q, h⟩ := bK q h
        refine zz ?_
        subst hK73 gK73
        refine es ?_
        rcases iK k h with ⟨k, h⟩ | ⟨k, h⟩
        · refine xf <| xk <| bn <| es <| rz ?_
          cases h
          exact en ⟨rfl, wk []⟩
        · refine xt <| xs <| rz ?_
          refine es <| xr <| br <| er ?_
          cases h
          exact en ⟨rfl, wk []⟩
      · refine xf <| xx <| ee ?_
        cases h
        exact en ⟨rfl, wk []⟩
    · rcases e11 with e11 | e11
      · try dsimp only at h ⊢
        refine br <| er ?_
        cases h
        exact en fr
      · try dsimp only at h ⊢
        refine bh <| es <| xs <| rz ?_
        refine es <| xr ?_
        cases h
        exact en fr
def g_law44_EdlParses (src_0 : List UInt8) : Option (Bool) :=
  ((g_law44_awake).bind fun r7 => (if r7 then (if (decide (6000 < (src_0.length : Int))) then (some true) else ((g_edl_Parse src_0).bind fun r19 => ((g_ref44_Parse src_0).bind fun r25 => ((g_law44_Ref r19.1).bind fun r36 => ((g_ref44_Same r36 r25.1).bind fun r38 => (if r38 then ((g_law44_diags r19.2 r25.2).bind fun r41 => (some r41)) else (some false))))))) else (some false)))
theorem a_law44_EdlParses {I : World → Prop} (hI : Stab I) (hPIv : ∀ w, I w → PIv w) (hShp : ∀ w, I w → Shp w) (hTab : ∀ w, I w → Tab w) (hU8T : ∀ w, I w → U8T w) {src_0 : List UInt8} {r : Bool} (h : g_law44_EdlParses src_0 = some r) : AFun Tryz.prog I 8 [.str src_0] (.bool r) := by
  have dd := dd_EF; have k := True.intro; have q := k; have rs := Tryz.results8
  unfold g_law44_EdlParses at h
  refine .en hI Tryz.func8 Tryz.ntmps8 ?_
  refine xs <| rz ?_
  refine es <| xs <| xs <| rK fun K6 RK6 hK6 gK6 => zz ?_
  obtain ⟨r7, h8, h⟩ := bs h
  refine cw (a_law44_awake hI hPIv hShp hTab hU8T h8) <| zz ?_
  subst hK6 gK6
  refine es ?_
  rcases iK k h with ⟨k, h⟩ | ⟨k, h⟩
  · refine xf <| xk <| es <| xs <| xs <| rz ?_
    refine es ?_
    rcases iK k h with ⟨k, h⟩ | ⟨k, h⟩
    · refine xt <| xs <| rz ?_
      refine es <| xr <| er ?_
      cases h
      exact en fr
    · refine xf <| xk <| es <| xs <| rK fun K18 RK18 hK18 gK18 => zz ?_
      obtain ⟨r19, h20, h⟩ := bs h
      refine cw (a_edl_Parse hI hPIv hShp hTab hU8T h20) <| zz ?_
      subst hK18 gK18
      refine es <| xs <| rK fun K24 RK24 hK24 gK24 => zz ?_
      obtain ⟨r25, h26, h⟩ := bs h
      refine cw (a_ref44_Parse hI h26) <| zz ?_
      subst hK24 gK24
      refine es <| xs <| rD hI fun K35 RK35 hK35 gK35 => zz ?_
      obtain ⟨r36, h37, h⟩ := bs h
      refine cd (a_law44_Ref hI h37) <| zz ?_
      obtain ⟨r38, h39, h⟩ := bs h
      refine cd (a_ref44_Same hI h39) <| zz ?_
      rcases iK k h with ⟨k, h⟩ | ⟨k, h⟩
      · refine zz ?_
        obtain ⟨r41, h42, h⟩ := bs h
        refine cd (a_law44_diags hI h42) <| zz ?_
        subst hK35 gK35
        refine es <| xr ?_
        cases h
        exact en fr
      · refine zz ?_
        subst hK35 gK35
        refine es <| xr ?_
        cases h
        exact en fr
  · refine xt <| xs <| rz ?_
    refine es <| xr <| er ?_
    cases h
    exact en fr
end Go.Proofs.YtnjjdbljoligdaaGreatDoor
namespace Go.Proofs.YtnjjdbljoligdaaGreatDoor
open Go.Sort
set_option maxRecDepth 100000
theorem bl_eq (x y : List UInt8) : Op.bytesLess x y = decide (x < y) := bytesLess_eq x y
theorem iter_fold {A : Type} {step : A × Int → Option (Nx (A × Int) A)} (cs : List T_api_Cut) (hn : cs.length ≤ 1000000) (F : A → T_api_Cut → A) (Inv : Nat → A → Prop) (a0 : A) (h0 : Inv 0 a0)
    (hgo : ∀ (i : Nat) (h : i < cs.length) (a : A), Inv i a → step (a, (i : Int)) = some (.go (F a cs[i], (i : Int) + 1)) ∧ Inv (i + 1) (F a cs[i])) (hend : ∀ a, Inv cs.length a → step (a, (cs.length : Int)) = some (.out a)) : iter step (a0, 0) = some (cs.foldl F a0) ∧ Inv cs.length (cs.foldl F a0) := by
  have key : iter step (a0, 0) = some (cs.foldl F a0) := by
    refine iter_of (fun x e => ∃ i : Nat, x.2 = (i : Int) ∧ i ≤ cs.length ∧ Inv i x.1 ∧ e = (cs.drop i).foldl F x.1) (fun x => cs.length - x.2.toNat) ?_ (x := (a0, 0)) ⟨0, rfl, Nat.zero_le _, h0, by simp⟩ (by show cs.length - _ < _; omega)
    rintro ⟨a, z⟩ e ⟨i, hz, hi, hI, rfl⟩
    dsimp only at hz hI ⊢
    subst hz
    by_cases h : i < cs.length
    · left
      obtain ⟨h1, h2⟩ := hgo i h a hI
      refine ⟨_, h1, ⟨i + 1, by simp, by omega, h2, ?_⟩, by simp; omega⟩
      rw [List.drop_eq_getElem_cons h, List.foldl_cons]
    · right
      obtain rfl : i = cs.length := by omega
      rw [hend a hI]; simp
  refine ⟨key, ?_⟩
  have : ∀ (i : Nat) (a : A), i ≤ cs.length → Inv i a → Inv cs.length ((cs.drop i).foldl F a) := by
    intro i
    induction hk : cs.length - i generalizing i with
    | zero => intro a hi hI; obtain rfl : i = cs.length := by omega
              simpa using hI
    | succ k ih =>
      intro a hi hI
      have h : i < cs.length := by omega
      rw [List.drop_eq_getElem_cons h, List.foldl_cons]
      exact ih (i + 1) (by omega) _ (by omega) (hgo i h a hI).2
  simpa using this 0 a0 (Nat.zero_le _) h0
theorem cut_at {cs : List T_api_Cut} {i : Nat} (h : i < cs.length) : decide ((i : Int) < (cs.length : Int)) = true ∧ atI cs (i : Int) = some cs[i] := ⟨by simpa using h, atI_nat h⟩
theorem cut_end (cs : List T_api_Cut) : decide ((cs.length : Int) < (cs.length : Int)) = false := by simp
def reelS (cs : List T_api_Cut) : List (List UInt8) := cs.foldl (fun o c => insU c.Reel o) []
theorem insU_len (c : List UInt8) : ∀ (o : List (List UInt8)), (insU c o).length ≤ o.length + 1
  | [] => by simp [insU]
  | x :: t => by
    simp only [insU]
    split
    · have := insU_len c t; simp; omega
    · split <;> simp
theorem prog_Reels (l : T_edl_List) (hn : l.Cuts.length ≤ 1000) : g_edl_Reels l = some (reelS l.Cuts) := by
  have h := iter_fold (step := g_edl_Reels_s1 l) l.Cuts (by omega) (fun o c => o ++ [c.Reel]) (fun i o => o.length = i) [] rfl (fun i h a ha => ⟨?_, by simp [ha]⟩) (fun a _ => ?_)
  · have hm : ∀ (cs : List T_api_Cut) (o : List (List UInt8)), cs.foldl (fun o c => o ++ [c.Reel]) o = o ++ cs.map T_api_Cut.Reel := by
      intro cs
      induction cs with
      | nil => simp
      | cons c cs ih => intro o; simp [ih]
    have h1 := h.1
    rw [hm] at h1
    unfold g_edl_Reels
    rw [h1]
    simp only [Option.bind_some, List.nil_append]
    rw [if_pos (by simp; omega), if_pos (by simp; omega)]
    unfold sortS reelS
    rw [reels_eq, List.foldl_map]
  · unfold g_edl_Reels_s1
    dsimp only
    rw [if_pos (cut_at h).1, (cut_at h).2, wr64 (by omega)]
    simp only [Option.bind_some]
    rw [if_pos (by omega)]
  · unfold g_edl_Reels_s1
    dsimp only
    rw [cut_end]; rfl
def headL (c : List UInt8) : List (List UInt8) → Nat
  | [] => 0
  | x :: t => if x < c then headL c t + 1 else 0
theorem headL_le (c : List UInt8) : ∀ o, headL c o ≤ o.length
  | [] => Nat.le_refl _
  | x :: t => by simp only [headL]; split
                 · have := headL_le c t; simp; omega
                 · simp
theorem headL_lt (c : List UInt8) : ∀ (o : List (List UInt8)) (i : Nat) (h : i < o.length), (i < headL c o → o[i] < c) ∧ (i = headL c o → ¬ o[i] < c)
  | x :: t, 0, h => by simp only [headL]; split
                       · rename_i hx; exact ⟨fun _ => hx, fun h => by omega⟩
                       · rename_i hx; exact ⟨fun h => by omega, fun _ => hx⟩
  | x :: t, i + 1, h => by
    simp only [headL, List.getElem_cons_succ]
    have := headL_lt c t i (by simpa using h)
    split
    · exact ⟨fun h => this.1 (by omega), fun h => this.2 (by omega)⟩
    · exact ⟨fun h => by omega, fun h => by omega⟩
theorem insU_eq (c : List UInt8) : ∀ (o : List (List UInt8)), insU c o = if o[headL c o]? = some c then o else o.take (headL c o) ++ [c] ++ o.drop (headL c o)
  | [] => by simp [insU, headL]
  | x :: t => by
    by_cases h : x < c
    · have e1 : headL c (x :: t) = headL c t + 1 := by simp [headL, h]
      have e2 : insU c (x :: t) = x :: insU c t := by simp [insU, h]
      rw [e1, e2, insU_eq c t]
      simp only [List.getElem?_cons_succ, List.take_succ_cons, List.drop_succ_cons, List.cons_append]
      split <;> rfl
    · have e1 : headL c (x :: t) = 0 := by simp [headL, h]
      rw [e1]
      by_cases h2 : x = c
      · subst h2; simp [insU, h]
      · have e2 : insU c (x :: t) = c :: x :: t := by simp [insU, h, h2]
        rw [e2]; simp [h2]
theorem ref_Reels (l : TRL) (hn : l.Cuts.length ≤ 1000) : g_ref44_Reels l = some (reelS l.Cuts) := by
  unfold g_ref44_Reels reelS
  rw [(iter_fold (step := g_ref44_Reels_s1 l) l.Cuts (by omega) (fun o c => insU c.Reel o) (fun i o => o.length ≤ i) [] (by simp) (fun i h a ha => ⟨?_, by have := insU_len l.Cuts[i].Reel a; omega⟩) (fun a _ => ?_)).1]
  · rfl
  · generalize hc : l.Cuts[i].Reel = c
    have hle := headL_le c a
    have hin : iter (g_ref44_Reels_s2 (a, (i : Int)) l.Cuts[i]) 0 = some ((headL c a : Nat) : Int) := by
      refine iter_of (fun (x : Int) e => ∃ j : Nat, x = (j : Int) ∧ j ≤ headL c a ∧ e = ((headL c a : Nat) : Int)) (fun (x : Int) => a.length - x.toNat) ?_ (x := 0) ⟨0, rfl, Nat.zero_le _, rfl⟩ (by show a.length - _ < _; omega)
      rintro x e ⟨j, rfl, hj, rfl⟩
      unfold g_ref44_Reels_s2
      dsimp only
      by_cases h2 : j < a.length
      · rw [if_pos (by simpa using h2), atI_nat h2]
        simp only [Option.bind_some, bl_eq, hc, decide_eq_true_eq]
        have := headL_lt c a j h2
        by_cases h3 : a[j] < c
        · left
          rw [if_pos h3, wr64 (by omega)]
          refine ⟨_, rfl, ⟨j + 1, by simp, ?_, (by first | rfl | trivial)⟩, by simp; omega⟩
          rcases Nat.lt_or_ge j (headL c a) with h4 | h4
          · omega
          · exact absurd h3 (this.2 (by omega))
        · right
          rw [if_neg h3]
          have : j = headL c a := by
            rcases Nat.lt_or_ge j (headL c a) with h4 | h4
            · exact absurd (this.1 h4) h3
            · omega
          rw [this]
      · right
        rw [if_neg (by simpa using h2)]
        have : j = headL c a := by omega
        rw [this]
    have hv : (if decide (((headL c a : Nat) : Int) < ((a.length : Nat) : Int)) = true then (atI a ((headL c a : Nat) : Int)).bind fun y626 => some (y626 == c) else some false : Option Bool) = some (decide (a[headL c a]? = some c)) := by
      by_cases h2 : headL c a < a.length
      · rw [if_pos (by simpa using h2), atI_nat h2, List.getElem?_eq_getElem h2]
        simp only [Option.bind_some, Option.some.injEq]
        by_cases h3 : a[headL c a] = c <;> simp [h3]
      · rw [if_neg (by simpa using h2), List.getElem?_eq_none (by omega)]
        simp
    unfold g_ref44_Reels_s1
    dsimp only
    rw [if_pos (cut_at h).1, (cut_at h).2, wr64 (by omega)]
    simp only [Option.bind_some, hin]
    rw [hc, hv, insU_eq]
    simp only [Option.bind_some, decide_eq_true_eq]
    by_cases h3 : a[headL c a]? = some c
    · rw [if_pos h3, if_pos h3]
    · have e1 : subH a ((headL c a : Nat) : Int) = some (a.take (headL c a)) := by
        unfold subH
        rw [if_pos ⟨by omega, by simpa using hle⟩]; simp
      have e2 : subL a ((headL c a : Nat) : Int) = some (a.drop (headL c a)) := by
        unfold subL
        rw [if_pos ⟨by omega, by simpa using hle⟩]
        congr 1
        exact List.take_of_length_le (by simp)
      rw [if_neg h3, if_neg h3, e1]
      simp only [Option.bind_some, e2]
      simp only [List.length_take, List.length_drop]
      rw [if_pos (by omega), if_pos (by omega), if_pos (by omega)]
  · unfold g_ref44_Reels_s1
    dsimp only
    rw [cut_end]; rfl
end Go.Proofs.YtnjjdbljoligdaaGreatDoor
namespace Go.Proofs.YtnjjdbljoligdaaGreatDoor
set_option maxRecDepth 100000
def lastS (c : T_api_Cut) : Int := c.Source + (c.Record.Out - 1 - c.Record.In) * c.Speed.Num / c.Speed.Den
def spOK (x : T_api_Ratio) : Prop := vR x = true ∧ 0 ≤ x.Num ∧ x.Num ≤ 8 ∧ x.Den ≤ 8
instance (x : T_api_Ratio) : Decidable (spOK x) := by unfold spOK; infer_instance
def cutE (day : Int) (c : T_api_Cut) : Int :=
  if isNm c.Reel = false then 5 else if c.Record.Out ≤ c.Record.In then 1 else if c.Record.In < 0 ∨ day ≤ c.Record.Out then 2
  else if ¬ spOK c.Speed then 3 else if c.Source < 0 ∨ day ≤ c.Source ∨ day ≤ lastS c then 2 else 0
theorem mul8 {x n : Int} (hx : 0 ≤ x ∧ x ≤ 5184000) (hn : 0 ≤ n ∧ n ≤ 8) : 0 ≤ x * n ∧ x * n ≤ 41472000 := by
  refine ⟨Int.mul_nonneg hx.1 hn.1, ?_⟩
  have := Int.mul_le_mul hx.2 hn.2 hn.1 (by omega)
  omega
theorem last_facts {day : Int} (hd : day ≤ 5184000) {c : T_api_Cut} (h2 : ¬ c.Record.Out ≤ c.Record.In) (h3 : ¬ (c.Record.In < 0 ∨ day ≤ c.Record.Out)) (h4 : spOK c.Speed) : (0 ≤ c.Record.Out - 1 - c.Record.In ∧ c.Record.Out - 1 - c.Record.In ≤ 5184000) ∧ (0 ≤ (c.Record.Out - 1 - c.Record.In) * c.Speed.Num ∧ (c.Record.Out - 1 - c.Record.In) * c.Speed.Num ≤ 41472000) ∧ 1 ≤ c.Speed.Den ∧ (0 ≤ (c.Record.Out - 1 - c.Record.In) * c.Speed.Num / c.Speed.Den ∧ (c.Record.Out - 1 - c.Record.In) * c.Speed.Num / c.Speed.Den ≤ 41472000) := by
  obtain ⟨a1, a2, a3, a4⟩ := h4
  have hin := vR_in a1
  unfold inP at hin
  have hx : 0 ≤ c.Record.Out - 1 - c.Record.In ∧ c.Record.Out - 1 - c.Record.In ≤ 5184000 := by omega
  have hm := mul8 hx ⟨a2, a3⟩
  refine ⟨hx, hm, by omega, Int.ediv_nonneg hm.1 (by omega), ?_⟩
  have := Int.ediv_le_self c.Speed.Den hm.1
  omega
theorem prog_last {day : Int} (hd : day ≤ 5184000) {c : T_api_Cut} (h2 : ¬ c.Record.Out ≤ c.Record.In) (h3 : ¬ (c.Record.In < 0 ∨ day ≤ c.Record.Out)) (h4 : spOK c.Speed) (h5 : 0 ≤ c.Source ∧ c.Source ≤ 5184000) : g_edl_last c = some (lastS c) := by
  obtain ⟨hx, hm, hden, hq⟩ := last_facts hd h2 h3 h4
  have h4' := h4
  obtain ⟨a1, a2, a3, a4⟩ := h4'
  unfold g_edl_last lastS
  rw [wr64 (x := c.Record.Out - 1) (by omega), wr64 (x := c.Record.Out - 1 - c.Record.In) (by omega), wr64 (x := (c.Record.Out - 1 - c.Record.In) * c.Speed.Num) (by omega), Quot_floor (by omega) (by omega)]
  simp only [Option.bind_some]
  rw [wr64 (by omega)]
theorem ref_last {day : Int} (hd : day ≤ 5184000) {c : T_api_Cut} (h2 : ¬ c.Record.Out ≤ c.Record.In) (h3 : ¬ (c.Record.In < 0 ∨ day ≤ c.Record.Out)) (h4 : spOK c.Speed) (h5 : 0 ≤ c.Source ∧ c.Source ≤ 5184000) : g_ref44_Played c (IntKind.i64.wrap (c.Record.Out - 1)) = some (lastS c) := by
  obtain ⟨hx, hm, hden, hq⟩ := last_facts hd h2 h3 h4
  unfold g_ref44_Played lastS
  rw [wr64 (x := c.Record.Out - 1) (by omega), wr64 (x := c.Record.Out - 1 - c.Record.In) (by omega), wr64 (x := (c.Record.Out - 1 - c.Record.In) * c.Speed.Num) (by omega), if_pos (by omega), Int.tdiv_eq_ediv_of_nonneg hm.1, wr64 (x := (c.Record.Out - 1 - c.Record.In) * c.Speed.Num / c.Speed.Den) (by omega), wr64 (by omega)]
theorem cut_tail {day : Int} (hd : day ≤ 5184000) (c : T_api_Cut) {lastF : Option Int} (hl : ¬ c.Record.Out ≤ c.Record.In → ¬ (c.Record.In < 0 ∨ day ≤ c.Record.Out) → spOK c.Speed → 0 ≤ c.Source ∧ c.Source ≤ 5184000 → lastF = some (lastS c)) :
    (if isNm c.Reel then (if (decide (c.Record.Out ≤ c.Record.In)) then (some 1) else (((if (decide (c.Record.In < 0)) then (some true) else (some (decide (day ≤ c.Record.Out)))) : Option (Bool)).bind fun v31 => (if v31 then (some 2) else ((((some (vR c.Speed)).bind fun r46 => (if r46 then (if (decide (c.Speed.Num < 0)) then (some true) else (if (decide (8 < c.Speed.Num)) then (some true) else (some (decide (8 < c.Speed.Den))))) else (some true))) : Option (Bool)).bind fun v44 => (if v44 then (some 3) else (if (decide (c.Source < 0)) then (some 2) else (if (decide (day ≤ c.Source)) then (some 2) else (lastF.bind fun r67 => (if (decide (day ≤ r67)) then (some 2) else (some 0)))))))))) else (some 5)) = some (cutE day c) := by
  unfold cutE
  cases h1 : isNm c.Reel
  · rfl
  · simp only [if_true, Bool.true_eq_false, if_false]
    by_cases h2 : c.Record.Out ≤ c.Record.In
    · rw [if_pos (by simpa using h2), if_pos h2]
    · rw [if_neg (by simpa using h2), if_neg h2]
      by_cases h3 : c.Record.In < 0 ∨ day ≤ c.Record.Out
      · rw [if_pos h3]
        by_cases h3a : c.Record.In < 0
        · simp [h3a]
        · have : day ≤ c.Record.Out := by omega
          simp [h3a, this]
      · rw [if_neg h3]
        have h3a : ¬ c.Record.In < 0 := by omega
        have h3b : ¬ day ≤ c.Record.Out := by omega
        simp only [h3a, h3b, decide_false, Bool.false_eq_true, if_false, Option.bind_some]
        by_cases h4 : spOK c.Speed
        · rw [if_neg (c := ¬ spOK c.Speed) (fun h => h h4)]
          have h4' := h4
          obtain ⟨a1, a2, a3, a4⟩ := h4'
          have b1 : ¬ c.Speed.Num < 0 := by omega
          have b2 : ¬ 8 < c.Speed.Num := by omega
          have b3 : ¬ 8 < c.Speed.Den := by omega
          simp only [a1, b1, b2, b3, decide_false, Bool.false_eq_true, if_false, if_true, Option.bind_some]
          by_cases h5 : c.Source < 0
          · simp [h5]
          · by_cases h6 : day ≤ c.Source
            · simp [h5, h6]
            · rw [hl h2 h3 h4 ⟨by omega, by omega⟩]
              by_cases h7 : day ≤ lastS c
              · simp [h5, h6, h7]
              · simp [h5, h6, h7]
        · rw [if_pos h4]
          unfold spOK at h4
          cases hv : vR c.Speed
          · rfl
          · by_cases b1 : c.Speed.Num < 0
            · simp [b1]
            · by_cases b2 : 8 < c.Speed.Num
              · simp [b1, b2]
              · have b3 : 8 < c.Speed.Den := by
                  rcases Int.lt_or_le 8 c.Speed.Den with h | h
                  · exact h
                  · exact absurd ⟨hv, by omega, by omega, h⟩ h4
                simp [b1, b2, b3]
theorem prog_checkCut {day : Int} (hd : day ≤ 5184000) (c : T_api_Cut) : g_edl_checkCut c day = some (cutE day c) := by
  unfold g_edl_checkCut
  rw [lines_Name_eq, ratio_Valid]
  exact cut_tail hd c (prog_last hd)
def chkC (day : Int) : Int → Int → List T_api_Cut → Int
  | _, _, [] => 0
  | n, o, c :: cs => if c.Number < 1 ∨ 999 < c.Number then 2 else if c.Number ≤ n then 8 else if cutE day c ≠ 0 then cutE day c else if c.Record.In < o then 14 else chkC day c.Number c.Record.Out cs
theorem ref_single {day : Int} (hd : day ≤ 5184000) (c : T_api_Cut) (n : Int) : g_ref44_single c n day = some (if c.Number < 1 ∨ 999 < c.Number then 2 else if c.Number ≤ n then 8 else cutE day c) := by
  unfold g_ref44_single
  by_cases h1 : c.Number < 1
  · simp [h1]
  · by_cases h2 : 999 < c.Number
    · simp [h2]
    · by_cases h3 : c.Number ≤ n
      · simp [h1, h2, h3]
      · simp only [h1, h2, h3, decide_false, Bool.false_eq_true, if_false, Option.bind_some, or_self]
        rw [ref07_Name_eq, ref_ratio_Valid]
        exact cut_tail hd c (ref_last hd)
def pvN (cs : List T_api_Cut) : Nat → Int
  | 0 => 0
  | k + 1 => match cs[k]? with
    | some c => c.Number
    | none => 0
def pvO (cs : List T_api_Cut) : Nat → Int
  | 0 => 0
  | k + 1 => match cs[k]? with
    | some c => c.Record.Out
    | none => 0
theorem pv_at {cs : List T_api_Cut} {i : Nat} (h : i < cs.length) : pvN cs (i + 1) = cs[i].Number ∧ pvO cs (i + 1) = cs[i].Record.Out := by
  simp [pvN, pvO, List.getElem?_eq_getElem h]
def eres (e : Int) : Int ⊕ Unit := if e = 0 then .inr () else .inl e
theorem cutE_in {day : Int} {c : T_api_Cut} (h : cutE day c = 0) : ¬ c.Record.In < 0 := by
  unfold cutE at h
  split at h
  · omega
  · split at h
    · omega
    · split at h
      · omega
      · omega
theorem prog_loop {day : Int} (hd : day ≤ 5184000) (l : T_edl_List) (hn : l.Cuts.length ≤ 1000) : iter (g_edl_Check_s1 l day) 0 = some (eres (chkC day 0 0 l.Cuts)) := by
  have key := iter_idx (step := g_edl_Check_s1 l day) l.Cuts.length (by omega) (fun i => eres (chkC day (pvN l.Cuts i) (pvO l.Cuts i) (l.Cuts.drop i))) (fun i hi => ?_) ?_
  · simpa [pvN, pvO] using key
  · unfold g_edl_Check_s1
    rw [if_pos (cut_at hi).1, (cut_at hi).2, wr64 (x := (i : Int) + 1) (by omega), wr64 (x := (i : Int) - 1) (by omega), List.drop_eq_getElem_cons hi]
    simp only [Option.bind_some, chkC, prog_checkCut hd]
    by_cases h1 : l.Cuts[i].Number < 1 ∨ 999 < l.Cuts[i].Number
    · right
      rw [if_pos h1]
      by_cases h1a : l.Cuts[i].Number < 1
      · simp [h1a, eres]
      · have : 999 < l.Cuts[i].Number := by omega
        simp [h1a, this, eres]
    · rw [if_neg h1]
      have h1a : ¬ l.Cuts[i].Number < 1 := by omega
      have h1b : ¬ 999 < l.Cuts[i].Number := by omega
      simp only [h1a, h1b, decide_false, Bool.false_eq_true, if_false, Option.bind_some]
      cases i with
      | zero =>
        rw [if_neg (c := decide ((0 : Int) < ((0 : Nat) : Int)) = true) (by simp), if_neg (c := decide ((0 : Int) < ((0 : Nat) : Int)) = true) (by simp)]
        have p1 : pvN l.Cuts 0 = 0 := rfl
        have p2 : pvO l.Cuts 0 = 0 := rfl
        have hN : ¬ l.Cuts[0].Number ≤ 0 := by omega
        simp only [Option.bind_some, Bool.false_eq_true, if_false, p1, p2, hN]
        by_cases h3 : cutE day l.Cuts[0] = 0
        · left
          rw [if_neg (c := (cutE day l.Cuts[0] != 0) = true) (by simpa using h3), if_neg (c := cutE day l.Cuts[0] ≠ 0) (by simpa using h3), if_neg (cutE_in h3), (pv_at hi).1, (pv_at hi).2]
          exact ⟨rfl, rfl⟩
        · right
          rw [if_pos (c := (cutE day l.Cuts[0] != 0) = true) (by simpa using h3), if_pos (c := cutE day l.Cuts[0] ≠ 0) (by simpa using h3)]
          simp [eres, h3]
      | succ k =>
        have hk : k < l.Cuts.length := by omega
        have e : (((k + 1 : Nat) : Int) - 1) = (k : Int) := by omega
        rw [if_pos (c := decide ((0 : Int) < ((k + 1 : Nat) : Int)) = true) (by first | (simp; done) | (simp; omega)), if_pos (c := decide ((0 : Int) < ((k + 1 : Nat) : Int)) = true) (by first | (simp; done) | (simp; omega)), e, atI_nat hk]
        simp only [Option.bind_some, (pv_at hk).1, (pv_at hk).2, decide_eq_true_eq]
        by_cases h2 : l.Cuts[k + 1].Number ≤ l.Cuts[k].Number
        · right; rw [if_pos h2, if_pos h2]; simp [eres]
        · rw [if_neg h2, if_neg h2]
          by_cases h3 : cutE day l.Cuts[k + 1] = 0
          · rw [if_neg (c := (cutE day l.Cuts[k + 1] != 0) = true) (by simpa using h3), if_neg (c := cutE day l.Cuts[k + 1] ≠ 0) (by simpa using h3)]
            by_cases h4 : l.Cuts[k + 1].Record.In < l.Cuts[k].Record.Out
            · right; rw [if_pos h4, if_pos h4]; simp [eres]
            · left; rw [if_neg h4, if_neg h4, (pv_at hi).1, (pv_at hi).2]; exact ⟨rfl, rfl⟩
          · right
            rw [if_pos (c := (cutE day l.Cuts[k + 1] != 0) = true) (by simpa using h3), if_pos (c := cutE day l.Cuts[k + 1] ≠ 0) (by simpa using h3)]
            simp [eres, h3]
  · unfold g_edl_Check_s1
    rw [cut_end]
    simp [chkC, eres]
theorem ref_loop {day : Int} (hd : day ≤ 5184000) (l : TRL) (hn : l.Cuts.length ≤ 1000) : iter (g_ref44_Check_s1 l day) (0, 0, 0) = some (eres (chkC day 0 0 l.Cuts)) := by
  refine iter_of (fun x e => ∃ i : Nat, x = (pvN l.Cuts i, pvO l.Cuts i, (i : Int)) ∧ i ≤ l.Cuts.length ∧ e = eres (chkC day (pvN l.Cuts i) (pvO l.Cuts i) (l.Cuts.drop i))) (fun x => l.Cuts.length - x.2.2.toNat) ?_ (x := (0, 0, 0)) ⟨0, rfl, Nat.zero_le _, by simp [pvN, pvO]⟩ (by show l.Cuts.length - _ < _; omega)
  rintro x e ⟨i, rfl, hi, rfl⟩
  unfold g_ref44_Check_s1
  dsimp only
  by_cases h : i < l.Cuts.length
  · rw [if_pos (cut_at h).1, (cut_at h).2, wr64 (x := (i : Int) + 1) (by omega), List.drop_eq_getElem_cons h]
    simp only [Option.bind_some, chkC, ref_single hd]
    by_cases h1 : l.Cuts[i].Number < 1 ∨ 999 < l.Cuts[i].Number
    · right; simp only [if_pos h1]; rfl
    · simp only [if_neg h1]
      by_cases h2 : l.Cuts[i].Number ≤ pvN l.Cuts i
      · right; simp only [if_pos h2]; rfl
      · simp only [if_neg h2]
        by_cases h3 : cutE day l.Cuts[i] = 0
        · rw [if_neg (c := (cutE day l.Cuts[i] != 0) = true) (by simpa using h3), if_neg (c := cutE day l.Cuts[i] ≠ 0) (by simpa using h3)]
          by_cases h4 : l.Cuts[i].Record.In < pvO l.Cuts i
          · right; simp only [h4, decide_true, if_true]; rfl
          · left
            simp only [h4, decide_false, Bool.false_eq_true, if_false]
            refine ⟨_, rfl, ⟨i + 1, by rw [(pv_at h).1, (pv_at h).2]; rfl, by omega, by rw [(pv_at h).1, (pv_at h).2]⟩, by simp; omega⟩
        · right
          rw [if_pos (c := (cutE day l.Cuts[i] != 0) = true) (by simpa using h3), if_pos (c := cutE day l.Cuts[i] ≠ 0) (by simpa using h3)]
          simp [eres, h3]
  · right
    obtain rfl : i = l.Cuts.length := by omega
    rw [cut_end]
    simp [chkC, eres]
def chkS (t : List UInt8) (r : Int) (d : Bool) (cs : List T_api_Cut) : Int :=
  if gv t = false then 10 else if 400 < t.length then 9 else if kd r d ≠ 0 then 13 else if 64 < cs.length then 9 else if chkC (dayS r d) 0 0 cs ≠ 0 then chkC (dayS r d) 0 0 cs else if 16 < (reelS cs).length then 9 else 0
theorem day_le {r : Int} {d : Bool} : dayS r d ≤ 5184000 := by
  by_cases h : kd r d = 0
  · obtain ⟨h1, _, h3⟩ := kd_np h
    have := np_range h1
    omega
  · unfold dayS; rw [if_neg h]; omega
theorem day_pos {r : Int} {d : Bool} (h : kd r d = 0) : 0 < dayS r d := by
  obtain ⟨h1, _, h3⟩ := kd_np h
  have := np_range h1
  omega
theorem prog_Check (l : T_edl_List) (hr : 0 ≤ l.Rate ∧ l.Rate ≤ 255) (ht : l.Title.length ≤ 140737488355328) : g_edl_Check l = some (chkS l.Title l.Rate l.Drop l.Cuts) := by
  unfold g_edl_Check chkS
  rw [prog_Valid_eq _ ht]
  have hv : (if rV l.Rate = true then if l.Drop = true then some (!rDr l.Rate) else some false else some true : Option Bool) = some (decide (kd l.Rate l.Drop ≠ 0)) := by
    unfold kd
    cases rV l.Rate <;> cases l.Drop <;> cases rDr l.Rate <;> rfl
  simp only [Option.bind_some, (rates hr).1, (rates hr).2.2.2.2.1, (days hr l.Drop).2.2.1, hv, decide_eq_true_eq]
  cases hg : gv l.Title
  · rfl
  · simp only [if_true, Bool.true_eq_false, if_false]
    by_cases h1 : 400 < l.Title.length
    · have c1 : (400 : Int) < (l.Title.length : Int) := by omega
      simp only [c1, h1, if_true]
    · have c1 : ¬ (400 : Int) < (l.Title.length : Int) := by omega
      simp only [c1, h1, if_false]
      by_cases h2 : kd l.Rate l.Drop = 0
      · simp only [h2, ne_eq, not_true_eq_false, if_false]
        by_cases h3 : 64 < l.Cuts.length
        · have c3 : (64 : Int) < (l.Cuts.length : Int) := by omega
          simp only [c3, h3, if_true]
        · have c3 : ¬ (64 : Int) < (l.Cuts.length : Int) := by omega
          simp only [c3, h3, if_false, prog_loop day_le l (by omega), Option.bind_some]
          by_cases h4 : chkC (dayS l.Rate l.Drop) 0 0 l.Cuts = 0
          · simp only [h4, eres, if_true, prog_Reels l (by omega), Option.bind_some, not_true_eq_false, if_false]
            by_cases h5 : 16 < (reelS l.Cuts).length
            · have c5 : (16 : Int) < ((reelS l.Cuts).length : Int) := by omega
              simp only [c5, h5, if_true]
            · have c5 : ¬ (16 : Int) < ((reelS l.Cuts).length : Int) := by omega
              simp only [c5, h5, if_false]
          · simp only [eres, h4, if_false, not_false_eq_true, if_true]
      · simp only [h2, ne_eq, not_false_eq_true, if_true]
theorem ref_Check (l : TRL) (hr : 0 ≤ l.Rate ∧ l.Rate ≤ 255) (ht : l.Title.length ≤ 140737488355328) : g_ref44_Check l = some (chkS l.Title l.Rate l.Drop l.Cuts) := by
  unfold g_ref44_Check chkS
  rw [ref_Valid_eq _ ht]
  simp only [Option.bind_some, (days hr l.Drop).2.2.2, decide_eq_true_eq]
  cases hg : gv l.Title
  · rfl
  · simp only [if_true, Bool.true_eq_false, if_false]
    by_cases h1 : 400 < l.Title.length
    · have c1 : (400 : Int) < (l.Title.length : Int) := by omega
      simp only [c1, h1, if_true]
    · have c1 : ¬ (400 : Int) < (l.Title.length : Int) := by omega
      simp only [c1, h1, if_false]
      by_cases h2 : kd l.Rate l.Drop = 0
      · have hp := day_pos h2
        have hp2 : (dayS l.Rate l.Drop == 0) = false := by simp; omega
        simp only [hp2, h2, ne_eq, not_true_eq_false, Bool.false_eq_true, if_false]
        by_cases h3 : 64 < l.Cuts.length
        · have c3 : (64 : Int) < (l.Cuts.length : Int) := by omega
          simp only [c3, h3, if_true]
        · have c3 : ¬ (64 : Int) < (l.Cuts.length : Int) := by omega
          simp only [c3, h3, if_false, ref_loop day_le l (by omega), Option.bind_some]
          by_cases h4 : chkC (dayS l.Rate l.Drop) 0 0 l.Cuts = 0
          · simp only [h4, eres, if_true, ref_Reels l (by omega), Option.bind_some, not_true_eq_false, if_false]
            by_cases h5 : 16 < (reelS l.Cuts).length
            · have c5 : (16 : Int) < ((reelS l.Cuts).length : Int) := by omega
              simp only [c5, h5, if_true]
            · have c5 : ¬ (16 : Int) < ((reelS l.Cuts).length : Int) := by omega
              simp only [c5, h5, if_false]
          · simp only [eres, h4, if_false, not_false_eq_true, if_true]
      · have : dayS l.Rate l.Drop = 0 := by unfold dayS; rw [if_neg h2]
        simp only [this, h2, beq_self_eq_true, ne_eq, not_false_eq_true, if_true]
end Go.Proofs.YtnjjdbljoligdaaGreatDoor
namespace Go.Proofs.YtnjjdbljoligdaaGreatDoor
set_option maxRecDepth 100000
def d2 (n : Int) : List UInt8 := bytesOf [IntKind.u8.wrap (IntKind.i64.wrap (48 + IntKind.i64.wrap (Int.tdiv n 10))), IntKind.u8.wrap (IntKind.i64.wrap (48 + Int.tmod n 10))]
end Go.Proofs.YtnjjdbljoligdaaGreatDoor
namespace Go.Proofs.YtnjjdbljoligdaaGreatDoor
set_option maxRecDepth 1000000
theorem awake44 : g_law44_awake = some true := by decide +kernel
end Go.Proofs.YtnjjdbljoligdaaGreatDoor

namespace Go.Proofs.YtnjjdbljoligdaaGreatDoor
open Go.ChangeShapes Go.WideShapes Go.ChangeAt Go.RowKit Go.Joins
set_option maxRecDepth 100000
def FA (w : World) : Nat → Nat → Prop := fun b _ => b < w.heap.size
theorem FA_fb (w : World) : FB (cF (FA w)) w := fun _ _ h => h
theorem wf_inR {k : IntKind} {n : Int} (h : (Lit.int k n).wf = true) : inR k n := by
  simp only [Lit.wf, Bool.and_eq_true, decide_eq_true_eq] at h
  cases k <;> simp [IntKind.min, IntKind.max, IntKind.signed, IntKind.bits] at h <;> simp [inR, kLo, kHi] <;> omega
theorem strOfBytes (s : ByteArray) : (⟨s.data.toList.toArray⟩ : ByteArray) = s := by cases s; simp
theorem AFun.law {P : Program} {I : World → Prop} {f : FuncId} {ds : List D} (h : AFun P I f ds (.bool true)) {W : World} {args : List Value} (hI : I W) (hl : args.length = ds.length) (hr : ∀ (i : Nat) v d, args[i]? = some v → ds[i]? = some d → Rep W (cF (FA W)) v d) :
    Calls P f args.toArray W fun e w' => e = .returned (.bool true) ∧ Below W.heap.size W w' := by
  refine (h.2 W (FA W) args hI (FA_fb W) hl hr).mono ?_
  rintro e w' ⟨v, F', rfl, hb, _, _, _, hrep⟩
  cases hrep
  exact ⟨rfl, hb⟩
section
variable (H : Type) (enc : TypeId × Value → H) (P : Program)
def OpT {α : Type} (t : TypeId) (δ : α → D) : Prop :=
  ∀ (w : World) (fuel : Nat) (cs : List Value) (x : DataW H × List MemPlace), DataW.trod enc P w 0 (fun _ => true) true fuel t cs = some x → ∃ a : α, RepL (cF (FA w)) w cs (δ a).cells
def OpF {α : Type} (fs : List Field) (off : Nat) (γ : α → List D) : Prop :=
  ∀ (w : World) (fuel : Nat) (cs : List Value), off ≤ cs.length → (∀ f ∈ fs, ∃ x, DataW.trod enc P w 0 (fun _ => true) true fuel f.type ((cs.drop f.offset).take (P.cellsOf f.type)) = some x) → (fs = [] → cs.length = off) → (∀ f ∈ fs, f.offset + P.cellsOf f.type ≤ cs.length) → ((fs.map fun f => P.cellsOf f.type).sum + off = cs.length) → ∃ a : α, RepL (cF (FA w)) w (cs.drop off) (γ a)
end
section
variable {H : Type} {enc : TypeId × Value → H} {P : Program}
theorem OpT.int {t : TypeId} {k : IntKind} (ht : P.underlying t = some (.int k)) : OpT H enc P t (D.int k) := by
  intro w fuel cs x h
  obtain ⟨n, rfl, _, hw⟩ := DataW.trod_int ht h
  exact ⟨n, RepL.one1 rfl (.int _ _ (wf_inR hw))⟩
theorem OpT.bool {t : TypeId} (ht : P.underlying t = some .bool) : OpT H enc P t D.bool := by
  intro w fuel cs x h
  obtain ⟨n, rfl, _⟩ := DataW.trod_bool ht h
  exact ⟨n, RepL.one1 rfl (.bool _)⟩
theorem rep_strB {w : World} {C : Cx} (s : ByteArray) (h : s.size ≤ maxLen) : Rep w C (.string s) (.str s.data.toList) := by
  have := Rep.str (w := w) (C := C) s.data.toList (by rw [Array.length_toList]; exact h)
  rwa [strOfBytes] at this
theorem OpT.str {t : TypeId} (ht : P.underlying t = some .string) : OpT H enc P t D.str := by
  intro w fuel cs x h
  obtain ⟨s, rfl, _, hs⟩ := DataW.trod_string ht h
  exact ⟨s.data.toList, RepL.one1 rfl (rep_strB s hs)⟩
theorem OpT.map {α β : Type} {t : TypeId} {δ : α → D} {ε : β → D} (h : OpT H enc P t δ) (φ : α → β) (hφ : ∀ a, ε (φ a) = δ a) : OpT H enc P t ε := by
  intro w fuel cs x hx
  obtain ⟨a, ha⟩ := h w fuel cs x hx
  exact ⟨φ a, by rw [hφ]; exact ha⟩
theorem OpF.nil {off : Nat} : OpF H enc P [] off (fun _ : Unit => []) := by
  intro w fuel cs h1 h2 h3 h4 h5
  refine ⟨(), ?_⟩
  rw [List.drop_eq_nil_of_le (by have := h3 rfl; omega)]
  exact RepL.nil
theorem OpF.cons {α β : Type} {f : Field} {fs : List Field} {off : Nat} {δ : α → D} {γ : β → List D} (ho : f.offset = off) (h : OpT H enc P f.type δ) (hr : OpF H enc P fs (off + P.cellsOf f.type) γ) : OpF H enc P (f :: fs) off (fun p : α × β => (δ p.1).cells ++ γ p.2) := by
  intro w fuel cs h1 h2 h3 h4 h5
  subst ho
  obtain ⟨x, hx⟩ := h2 f (by simp)
  obtain ⟨a, ha⟩ := h w fuel _ x hx
  have hlen : f.offset + P.cellsOf f.type ≤ cs.length := h4 f (by simp)
  simp only [List.map_cons, List.sum_cons] at h5
  obtain ⟨b, hb⟩ := hr w fuel cs hlen (fun g hg => h2 g (by simp [hg])) (fun e => by subst e; simp at h5; omega) (fun g hg => h4 g (by simp [hg])) (by omega)
  refine ⟨(a, b), ?_⟩
  have := ha.append hb
  rw [show (cs.drop f.offset).take (P.cellsOf f.type) ++ cs.drop (f.offset + P.cellsOf f.type) = cs.drop f.offset by rw [← List.drop_drop]; exact List.take_append_drop _ _] at this
  exact this
theorem OpT.struct {α β : Type} {t : TypeId} {fs : Array Field} {γ : α → List D} {ε : β → D} (ht : P.underlying t = some (.struct fs)) (hoff : (fs.toList.all fun f => decide (f.offset + P.cellsOf f.type ≤ P.cellsOf t)) = true) (hsum : (fs.toList.map fun f => P.cellsOf f.type).sum = P.cellsOf t) (h : OpF H enc P fs.toList 0 γ) (φ : α → β) (hφ : ∀ a, (ε (φ a)).cells = γ a) : OpT H enc P t ε := by
  intro w fuel cs x hx
  obtain ⟨xs, n, _, _, hl, hxl, hf⟩ := DataW.trod_struct ht hx
  obtain ⟨a, ha⟩ := h w n cs (Nat.zero_le _) (fun f hf' => by
    obtain ⟨i, hi, rfl⟩ := List.getElem_of_mem hf'
    have hi' : fs[i]? = some fs.toList[i] := by simp at hi ⊢
    have := hf i _ hi'
    rw [List.getElem?_eq_getElem (by rw [hxl]; simpa using hi)] at this
    exact ⟨_, this⟩) (fun e => by rw [e] at hsum; simp at hsum; omega) (fun f hf' => by have := List.all_eq_true.1 hoff f hf'; simp at this; omega) (by omega)
  refine ⟨φ a, ?_⟩
  rw [hφ]
  simpa using ha
theorem addr_addO (b o i : Nat) : (⟨b, o, none⟩ : Addr).add i = ⟨b, o + i, none⟩ := by
  unfold Addr.add
  split
  · rename_i e; subst e; rfl
  · rfl
theorem rows_of {w : World} {b off k : Nat} {α : Type} {δ : α → D} (hk : ∀ a, (δ a).cells.length = k) : ∀ (n : Nat) (s : Nat), (∀ i, i < n → ∃ cs', (∀ j, j < k → w.cell? ⟨b, off + (s + i) * k + j, none⟩ = cs'[j]?) ∧ cs'.length = k ∧ ∃ a : α, RepL (cF (FA w)) w cs' (δ a).cells) →
    ∃ (l : List α) (vals : List Value), l.length = n ∧ vals.length = n * k ∧ RepL (cF (FA w)) w vals ((l.map δ).flatMap D.cells) ∧ ∀ (i : Nat) v, vals[i]? = some v → w.cell? ⟨b, off + s * k + i, none⟩ = some v := by
  intro n
  induction n with
  | zero => intro s _; exact ⟨[], [], rfl, by simp, RepL.nil, by simp⟩
  | succ n ih =>
    intro s h
    obtain ⟨cs, hc, hcl, a, ha⟩ := h 0 (by omega)
    obtain ⟨l, vals, h1, h2, h3, h4⟩ := ih (s + 1) (fun i hi => by
      obtain ⟨cs', hh⟩ := h (i + 1) (by omega)
      refine ⟨cs', ?_⟩
      rw [show s + 1 + i = s + (i + 1) by omega]
      exact hh)
    refine ⟨a :: l, cs ++ vals, by simp [h1], by rw [List.length_append, hcl, h2, Nat.add_mul]; omega, ?_, ?_⟩
    · simp only [List.map_cons, List.flatMap_cons]
      exact ha.append h3
    · intro i v hv
      by_cases hi : i < k
      · rw [List.getElem?_append_left (by omega)] at hv
        have := hc i hi
        rw [Nat.add_zero] at this
        rw [this, hv]
      · rw [List.getElem?_append_right (by omega)] at hv
        have := h4 _ v hv
        rw [hcl] at this
        rw [← this]
        congr 2
        rw [Nat.add_mul]
        omega
theorem OpT.slice {α : Type} {t e : TypeId} {δ : α → D} (ht : P.underlying t = some (.slice e)) (hpos : 0 < P.cellsOf e) (hk : ∀ a, (δ a).cells.length = P.cellsOf e) (h : OpT H enc P e δ) : OpT H enc P t (fun l : List α => D.sl (l.map δ)) := by
  intro w fuel cs x hx
  rcases Deep.open_slice ht hx with ⟨rfl, _⟩ | ⟨a, len, cap, m, n, Dd, Pl, rfl, hb, hl, hm, hmm, _, hel⟩
  · exact ⟨[], RepL.one1 rfl (.sl0 _ _ (Nat.zero_le _))⟩
  · simp only [if_true] at hmm
    subst hmm
    by_cases h0 : len = 0
    · subst h0
      exact ⟨[], RepL.one1 rfl (.sl0 _ _ hm)⟩
    · obtain ⟨b, off, spot⟩ := a
      obtain ⟨c0, hc0, _⟩ := hel 0 (by omega)
      obtain ⟨_, hl0, hg0⟩ := World.cells?_some hc0
      have hcell0 := hg0 0 hpos
      have hx0 : c0[0]? = some (c0[0]'(by omega)) := List.getElem?_eq_getElem _
      rw [hx0] at hcell0
      have hspot : spot = none := by simpa [Addr.add] using World.cell?_spot hcell0
      subst hspot
      have hbl : b < w.heap.size := by
        rcases Nat.lt_or_ge b w.heap.size with h1 | h1
        · exact h1
        · simp [Addr.add, World.cell?, Array.getElem?_eq_none h1] at hcell0
      obtain ⟨l, vals, h1, h2, h3, h4⟩ := rows_of (w := w) (b := b) (off := off) (k := P.cellsOf e) hk len 0 (fun i hi => by
        obtain ⟨cs', hc', ht'⟩ := hel i (by omega)
        obtain ⟨_, hl', hg'⟩ := World.cells?_some hc'
        refine ⟨cs', fun j hj => ?_, hl', h w n cs' _ ht'⟩
        have := hg' j hj
        rw [addr_addO, addr_addO] at this
        rw [← this]
        simp)
      refine ⟨l, RepL.one1 rfl ?_⟩
      have hkk : ∀ x ∈ l.map δ, x.cells.length = P.cellsOf e := fun x hx => by obtain ⟨y, _, rfl⟩ := List.mem_map.1 hx; exact hk y
      have := Rep.sl (w := w) (C := cF (FA w)) b off (P.cellsOf e) m (l.map δ) vals (by simp [h1]; omega) hm hkk h3.len h3.one (fun _ _ => hbl) (fun i v hv => by have := h4 i v hv; simpa using this) (fun i v d hv hd => h3.rep i v d hv hd)
      rw [List.length_map, h1] at this
      exact this
theorem arr_rows {α : Type} {e : TypeId} {δ : α → D} (h : OpT H enc P e δ) (w : World) (fuel : Nat) (cs : List Value) (k : Nat) : ∀ (n s : Nat), (∀ i, s ≤ i → i < s + n → ∃ x, DataW.trod enc P w 0 (fun _ => true) true fuel e ((cs.drop (i * k)).take k) = some x) → cs.length = (s + n) * k →
    ∃ l : List α, l.length = n ∧ RepL (cF (FA w)) w (cs.drop (s * k)) (l.flatMap fun a => (δ a).cells) := by
  intro n
  induction n with
  | zero => intro s _ hl; exact ⟨[], rfl, by rw [List.drop_eq_nil_of_le (by rw [hl]; exact Nat.le_refl _)]; exact RepL.nil⟩
  | succ n ih =>
    intro s hx hl
    obtain ⟨x, hx0⟩ := hx s (by omega) (by omega)
    obtain ⟨a, ha⟩ := h w fuel _ x hx0
    obtain ⟨l, hll, hr⟩ := ih (s + 1) (fun i h1 h2 => hx i (by omega) (by omega)) (by rw [hl]; congr 1; omega)
    refine ⟨a :: l, by simp [hll], ?_⟩
    have := ha.append hr
    rw [show (cs.drop (s * k)).take k ++ cs.drop ((s + 1) * k) = cs.drop (s * k) by rw [show (s + 1) * k = s * k + k by rw [Nat.add_mul]; omega, ← List.drop_drop]; exact List.take_append_drop _ _] at this
    exact this
theorem OpT.array {α β : Type} {t e : TypeId} {n : Nat} {δ : α → D} {ε : β → D} (ht : P.underlying t = some (.array n e)) (hc : P.cellsOf t = n * P.cellsOf e) (h : OpT H enc P e δ) (φ : (l : List α) → l.length = n → β) (hφ : ∀ l h, (ε (φ l h)).cells = l.flatMap fun a => (δ a).cells) : OpT H enc P t ε := by
  intro w fuel cs x hx
  obtain ⟨xs, m, _, _, hl, hxl, hf⟩ := DataW.trod_array ht hx
  obtain ⟨l, hll, hr⟩ := arr_rows h w m cs (P.cellsOf e) n 0 (fun i _ hi => by
    have := hf i (by omega)
    rw [List.getElem?_eq_getElem (by omega)] at this
    exact ⟨_, this⟩) (by rw [hl, hc, Nat.zero_add])
  refine ⟨φ l hll, ?_⟩
  rw [hφ]
  simpa using hr
theorem OpT.arg1 {α : Type} {t : TypeId} {δ : α → D} (h : OpT H enc P t δ) {w : World} {v : Value} {d : DataW H} {p : List MemPlace} (hv : v.cells = #[v]) (hδ : ∀ a, (δ a).cells = [δ a]) (ht : DataW.Trod enc P w 0 (fun _ => true) true t v d p) : ∃ a, Rep w (cF (FA w)) v (δ a) := by
  obtain ⟨fuel, hf⟩ := ht
  obtain ⟨a, ha⟩ := h w fuel _ _ hf
  refine ⟨a, ?_⟩
  rw [hv, hδ] at ha
  exact ha.rep 0 v (δ a) rfl rfl
theorem OpT.argStr {α : Type} {t : TypeId} {δ : α → D} (ht : P.underlying t = some .string) (h : OpT H enc P t δ) (hδ : ∀ a, (δ a).cells = [δ a]) {w : World} {r : Reach} {b0 : Nat} {v : Value} {d : DataW H} {p : List MemPlace} (hv : Value.okWide P w r b0 t v) (hd : DataW.Trod enc P w 0 (fun _ => true) true t v d p) : ∃ a, Rep w (cF (FA w)) v (δ a) := by
  obtain ⟨n, rfl⟩ := okWide_string ht hv
  exact h.arg1 rfl hδ hd
end
end Go.Proofs.YtnjjdbljoligdaaGreatDoor
namespace Go.Proofs.YtnjjdbljoligdaaGreatDoor
open Go.ChangeShapes Go.WideShapes Go.ChangeAt Go.RowKit
set_option maxRecDepth 100000
theorem own : ownKnob Tryz.prog.godebug = none := by kernel_rfl
theorem laidOut : laidOutB Tryz.prog = true := by kernel_rfl
theorem standIn_all (ts : List TypeId) (h : ts.all (fun t => !(Tryz.prog.wantsStandIn t)) = true) (t : TypeId) (ht : t ∈ ts) : Tryz.pinned.checked.prog.wantsStandIn t = false := by
  have := List.all_eq_true.1 h t ht
  exact (show Tryz.prog.wantsStandIn t = false by simpa using this)
def putCells (cs : Array Value) : Obj → Obj
  | .cells _ t frozen => .cells cs t frozen
  | o => o
theorem gTabType : (Tryz.prog.globals[3]?).map (·.type) = some 219 := by kernel_rfl
theorem cellsTab : Tryz.prog.cellsOf 219 = 20 := by kernel_rfl
theorem cellsU64 : Tryz.prog.cellsOf 161 = 1 := by kernel_rfl
theorem laidPow : (Rows.laid_internal_strconv_uint64pow10 : DataW Unit) = Lib.tabData .u64 Lib.pow10Tab := by kernel_rfl
theorem tab_of8 {W : World} (h : laidMetH Tryz.prog [("math/bits.deBruijn32tab", Rows.laid_math_bits_deBruijn32tab), ("math/bits.deBruijn64tab", Rows.laid_math_bits_deBruijn64tab), ("internal/strconv.uint64pow10", Rows.laid_internal_strconv_uint64pow10), ("unicode/utf8.acceptRanges", Rows.laid_unicode_utf8_acceptRanges), ("strconv.ErrRange", Rows.laid_strconv_ErrRange), ("strconv.ErrSyntax", Rows.laid_strconv_ErrSyntax), ("unicode/utf8.first", Rows.laid_unicode_utf8_first)] W) : Tab W := by
  have h1 : laidMet Tryz.prog [("internal/strconv.uint64pow10", Rows.laid_internal_strconv_uint64pow10), ("unicode/utf8.acceptRanges", Rows.laid_unicode_utf8_acceptRanges), ("strconv.ErrRange", Rows.laid_strconv_ErrRange), ("strconv.ErrSyntax", Rows.laid_strconv_ErrSyntax), ("unicode/utf8.first", Rows.laid_unicode_utf8_first)] W := (laidMet.tail (laidMet.tail h))
  rw [laidPow] at h1
  exact Lib.tabIs_of_head (rest := [("unicode/utf8.acceptRanges", Rows.laid_unicode_utf8_acceptRanges), ("strconv.ErrRange", Rows.laid_strconv_ErrRange), ("strconv.ErrSyntax", Rows.laid_strconv_ErrSyntax), ("unicode/utf8.first", Rows.laid_unicode_utf8_first)]) gTab gTabType Tryz.underlying219 Tryz.underlying161 cellsU64 cellsTab h1
theorem starErr : "*" ++ "errors.errorString" = "*errors.errorString" := by decide
theorem rowErr (u : TypeId) (h : Tryz.prog.typeName? 3 u = some "*errors.errorString") : u = 239 :=
  typeName_ptr_named (nm := "errors.errorString") (by rw [starErr]; kernel_rfl) (by kernel_rfl) (by decide) u (by rw [starErr]; exact h)
theorem cellsErr : Tryz.prog.cellsOf 241 = 1 := by kernel_rfl
theorem cellsStr : Tryz.prog.cellsOf 9 = 1 := by kernel_rfl
theorem gErrSyntax : Tryz.prog.globalNamed "strconv.ErrSyntax" = some 4 := by kernel_rfl
theorem gErrSyntaxType : (Tryz.prog.globals[4]?).map (·.type) = some 69 := by kernel_rfl
theorem ErrSyntax_of8 {W : World} (h : laidMetH Tryz.prog [("math/bits.deBruijn32tab", Rows.laid_math_bits_deBruijn32tab), ("math/bits.deBruijn64tab", Rows.laid_math_bits_deBruijn64tab), ("internal/strconv.uint64pow10", Rows.laid_internal_strconv_uint64pow10), ("unicode/utf8.acceptRanges", Rows.laid_unicode_utf8_acceptRanges), ("strconv.ErrRange", Rows.laid_strconv_ErrRange), ("strconv.ErrSyntax", Rows.laid_strconv_ErrSyntax), ("unicode/utf8.first", Rows.laid_unicode_utf8_first)] W) : ∃ te pe, W.cell? ⟨4, 0, none⟩ = some (.iface te pe) := by
  have h1 : laidMet Tryz.prog [("strconv.ErrSyntax", Rows.laid_strconv_ErrSyntax), ("unicode/utf8.first", Rows.laid_unicode_utf8_first)] W := (laidMet.tail (laidMet.tail (laidMet.tail (laidMet.tail (laidMet.tail h)))))
  obtain ⟨a, s, hv, _, _, _⟩ := laid_sentinel h1 gErrSyntax gErrSyntaxType Tryz.underlying69 rowErr Tryz.underlying239 Tryz.underlying241 rfl rfl Tryz.underlying9 cellsErr cellsStr
  exact ⟨_, _, by simpa using World.var?_cell gErrSyntax hv 0⟩
theorem gErrRange : Tryz.prog.globalNamed "strconv.ErrRange" = some 5 := by kernel_rfl
theorem gErrRangeType : (Tryz.prog.globals[5]?).map (·.type) = some 69 := by kernel_rfl
theorem ErrRange_of8 {W : World} (h : laidMetH Tryz.prog [("math/bits.deBruijn32tab", Rows.laid_math_bits_deBruijn32tab), ("math/bits.deBruijn64tab", Rows.laid_math_bits_deBruijn64tab), ("internal/strconv.uint64pow10", Rows.laid_internal_strconv_uint64pow10), ("unicode/utf8.acceptRanges", Rows.laid_unicode_utf8_acceptRanges), ("strconv.ErrRange", Rows.laid_strconv_ErrRange), ("strconv.ErrSyntax", Rows.laid_strconv_ErrSyntax), ("unicode/utf8.first", Rows.laid_unicode_utf8_first)] W) : ∃ te pe, W.cell? ⟨5, 0, none⟩ = some (.iface te pe) := by
  have h1 : laidMet Tryz.prog [("strconv.ErrRange", Rows.laid_strconv_ErrRange), ("strconv.ErrSyntax", Rows.laid_strconv_ErrSyntax), ("unicode/utf8.first", Rows.laid_unicode_utf8_first)] W := (laidMet.tail (laidMet.tail (laidMet.tail (laidMet.tail h))))
  obtain ⟨a, s, hv, _, _, _⟩ := laid_sentinel h1 gErrRange gErrRangeType Tryz.underlying69 rowErr Tryz.underlying239 Tryz.underlying241 rfl rfl Tryz.underlying9 cellsErr cellsStr
  exact ⟨_, _, by simpa using World.var?_cell gErrRange hv 0⟩
theorem u8t_of8 {W : World} (h : laidMetH Tryz.prog [("math/bits.deBruijn32tab", Rows.laid_math_bits_deBruijn32tab), ("math/bits.deBruijn64tab", Rows.laid_math_bits_deBruijn64tab), ("internal/strconv.uint64pow10", Rows.laid_internal_strconv_uint64pow10), ("unicode/utf8.acceptRanges", Rows.laid_unicode_utf8_acceptRanges), ("strconv.ErrRange", Rows.laid_strconv_ErrRange), ("strconv.ErrSyntax", Rows.laid_strconv_ErrSyntax), ("unicode/utf8.first", Rows.laid_unicode_utf8_first)] W) : U8T W :=
  utf8Tabs_of_readsT (U8Types.of196 Tryz.laysValid) ⟨by kernel_rfl, by kernel_rfl, by kernel_rfl, by kernel_rfl, by kernel_rfl, by kernel_rfl, by kernel_rfl⟩ (Lib.laidMet.reads h (.tail _ (.tail _ (.tail _ (.tail _ (.tail _ (.tail _ (.head _)))))))) (Lib.laidMet.reads h (.tail _ (.tail _ (.tail _ (.head _)))))
theorem cell_keep {w w' : World} {g c : Nat} {v : Value} (h : w.cell? ⟨g, c, none⟩ = some v) (hb : Below w.heap.size w w') : w'.cell? ⟨g, c, none⟩ = some v := by
  have hlt : g < w.heap.size := by
    rcases Nat.lt_or_ge g w.heap.size with h1 | h1
    · exact h1
    · simp [World.cell?, Array.getElem?_eq_none h1] at h
  rw [World.cell?_of_block (hb.block g hlt)]
  exact h
theorem stabU8T : Stab U8T := fun w w' h hb => ⟨fun c hc => cell_keep (h.1 c hc) hb, fun i hi => ⟨cell_keep (h.2 i hi).1 hb, cell_keep (h.2 i hi).2 hb⟩⟩
theorem shp_of {W : World} (h : W.ShapedOpen Tryz.prog) : Shp W :=
  cell_of_shapedOpen_int (k := .i64) (t := 3) (zero := #[.int .i64 0]) h (of_decide_eq_true (by kernel_rfl)) (by kernel_rfl) rfl (by kernel_rfl) (by kernel_rfl) Tryz.underlying3
def Env8 (w : World) : Prop := Tab w ∧ Shp w ∧ PIv w ∧ U8T w
theorem stabEnv8 : Stab Env8 := fun w w' ⟨a, b, c, d⟩ hb => ⟨stabTab w w' a hb, stabShp w w' b hb, stabPIv w w' c hb, stabU8T w w' d hb⟩
theorem env_of8 {W : World} (h : laidMetH Tryz.prog [("math/bits.deBruijn32tab", Rows.laid_math_bits_deBruijn32tab), ("math/bits.deBruijn64tab", Rows.laid_math_bits_deBruijn64tab), ("internal/strconv.uint64pow10", Rows.laid_internal_strconv_uint64pow10), ("unicode/utf8.acceptRanges", Rows.laid_unicode_utf8_acceptRanges), ("strconv.ErrRange", Rows.laid_strconv_ErrRange), ("strconv.ErrSyntax", Rows.laid_strconv_ErrSyntax), ("unicode/utf8.first", Rows.laid_unicode_utf8_first)] W) (hs : W.ShapedOpen Tryz.prog) : Env8 W := ⟨tab_of8 h, shp_of hs, ⟨ErrSyntax_of8 h, ErrRange_of8 h⟩, u8t_of8 h⟩
noncomputable def low8 : Nat := (World.holding Tryz.prog default ⟨#[], #[], []⟩).heap.size
noncomputable def laidWorld8 (os : Os) : World :=
  { (World.holding Tryz.prog os ⟨#[.cells #[.string ⟨#[118, 97, 108, 117, 101, 32, 111, 117, 116, 32, 111, 102, 32, 114, 97, 110, 103, 101]⟩] 241, .cells #[.string ⟨#[105, 110, 118, 97, 108, 105, 100, 32, 115, 121, 110, 116, 97, 120]⟩] 241], #[], []⟩) with heap := ((((((((World.holding Tryz.prog os ⟨#[.cells #[.string ⟨#[118, 97, 108, 117, 101, 32, 111, 117, 116, 32, 111, 102, 32, 114, 97, 110, 103, 101]⟩] 241, .cells #[.string ⟨#[105, 110, 118, 97, 108, 105, 100, 32, 115, 121, 110, 116, 97, 120]⟩] 241], #[], []⟩).heap.modify 6 (putCells #[.int .u8 0, .int .u8 1, .int .u8 28, .int .u8 2, .int .u8 29, .int .u8 14, .int .u8 24, .int .u8 3, .int .u8 30, .int .u8 22, .int .u8 20, .int .u8 15, .int .u8 25, .int .u8 17, .int .u8 4, .int .u8 8, .int .u8 31, .int .u8 27, .int .u8 13, .int .u8 23, .int .u8 21, .int .u8 19, .int .u8 16, .int .u8 7, .int .u8 26, .int .u8 12, .int .u8 18, .int .u8 6, .int .u8 11, .int .u8 5, .int .u8 10, .int .u8 9])).modify 7 (putCells #[.int .u8 0, .int .u8 1, .int .u8 56, .int .u8 2, .int .u8 57, .int .u8 49, .int .u8 28, .int .u8 3, .int .u8 61, .int .u8 58, .int .u8 42, .int .u8 50, .int .u8 38, .int .u8 29, .int .u8 17, .int .u8 4, .int .u8 62, .int .u8 47, .int .u8 59, .int .u8 36, .int .u8 45, .int .u8 43, .int .u8 51, .int .u8 22, .int .u8 53, .int .u8 39, .int .u8 33, .int .u8 30, .int .u8 24, .int .u8 18, .int .u8 12, .int .u8 5, .int .u8 63, .int .u8 55, .int .u8 48, .int .u8 27, .int .u8 60, .int .u8 41, .int .u8 37, .int .u8 16, .int .u8 46, .int .u8 35, .int .u8 44, .int .u8 21, .int .u8 52, .int .u8 32, .int .u8 23, .int .u8 11, .int .u8 54, .int .u8 26, .int .u8 40, .int .u8 15, .int .u8 34, .int .u8 20, .int .u8 31, .int .u8 10, .int .u8 25, .int .u8 14, .int .u8 19, .int .u8 9, .int .u8 13, .int .u8 8, .int .u8 7, .int .u8 6])).modify 3 (putCells #[.int .u64 1, .int .u64 10, .int .u64 100, .int .u64 1000, .int .u64 10000, .int .u64 100000, .int .u64 1000000, .int .u64 10000000, .int .u64 100000000, .int .u64 1000000000, .int .u64 10000000000, .int .u64 100000000000, .int .u64 1000000000000, .int .u64 10000000000000, .int .u64 100000000000000, .int .u64 1000000000000000, .int .u64 10000000000000000, .int .u64 100000000000000000, .int .u64 1000000000000000000, .int .u64 10000000000000000000])).modify 1 (putCells #[.int .u8 128, .int .u8 191, .int .u8 160, .int .u8 191, .int .u8 128, .int .u8 159, .int .u8 144, .int .u8 191, .int .u8 128, .int .u8 143, .int .u8 0, .int .u8 0, .int .u8 0, .int .u8 0, .int .u8 0, .int .u8 0, .int .u8 0, .int .u8 0, .int .u8 0, .int .u8 0, .int .u8 0, .int .u8 0, .int .u8 0, .int .u8 0, .int .u8 0, .int .u8 0, .int .u8 0, .int .u8 0, .int .u8 0, .int .u8 0, .int .u8 0, .int .u8 0])).modify 5 (putCells #[.iface 239 (.pointer (some ⟨low8 + 0, 0, none⟩))])).modify 4 (putCells #[.iface 239 (.pointer (some ⟨low8 + 1, 0, none⟩))])).modify 0 (putCells (Pinned.utf8FirstZ.map fun (z : Nat) => Value.int .u8 (z : Int)).toArray)) }
end Go.Proofs.YtnjjdbljoligdaaGreatDoor

namespace Go.Proofs.YtnjjdbljoligdaaGreatDoor
set_option maxRecDepth 100000
def lastC (s : TRS) : Int := if s.At ≤ 0 then 0 else match s.Line.Fields[(s.At - 1).toNat]? with
  | some f => f.Column
  | none => 0
def toP (s : TRS) : TLS := ⟨s.Line, s.At, lastC s, if s.Code = 0 then ⟨0, 0, 0⟩ else ⟨s.Line.Number, s.Col, s.Code⟩⟩
def SOK (s : TRS) : Prop := 0 ≤ s.At ∧ s.At ≤ s.Line.Fields.length ∧ s.Line.Fields.length ≤ 1000 ∧ ∀ f ∈ s.Line.Fields, f.Text.length ≤ 1000
theorem toP_code (s : TRS) : (toP s).bad_.Code = s.Code := by
  unfold toP
  by_cases h : s.Code = 0
  · simp [h]
  · simp [h]
theorem done_toP (s : TRS) : gLS_done (toP s) = some (s.Code != 0, toP s) := by
  unfold gLS_done
  rw [toP_code]
theorem note_0 (s : TRS) (c : Int) : gLS_note (toP s) c 0 = some (toP s) := by
  unfold gLS_note
  rw [done_toP]
  by_cases h : s.Code = 0
  · simp [h]
  · simp [h]
theorem note_toP (s : TRS) {e : Int} (c : Int) (he : e ≠ 0) (hs : SOK s) : ∃ s', gRS_fail s e c = some s' ∧ gLS_note (toP s) c e = some (toP s') ∧ SOK s' ∧ s'.Code ≠ 0 ∧ s'.Line = s.Line := by
  unfold gLS_note gRS_fail
  rw [done_toP]
  by_cases h : s.Code = 0
  · refine ⟨⟨s.Line, s.At, e, c⟩, by simp [h], ?_, hs, he, rfl⟩
    simp [h, he, toP, lastC]
  · refine ⟨s, by simp [h], ?_, hs, h, rfl⟩
    simp [h]
theorem take_both {s : TRS} (hs : SOK s) (q : Bool) : ∃ f b s', gRS_take s q = some (f, b, s') ∧ gLS_take (toP s) q = some (f.Text, b, toP s') ∧ SOK s' ∧ s'.Line = s.Line ∧ f.Text.length ≤ 1000 ∧ (b = true → s'.Code = 0 ∧ (toP s').last_ = f.Column) ∧ (b = false → s'.Code ≠ 0 ∧ f.Text = []) := by
  unfold gRS_take gLS_take
  rw [done_toP]
  simp only [Option.bind_some]
  by_cases hc : s.Code = 0
  · have hc1 : ¬ (s.Code != 0) = true := by simpa using hc
    rw [if_neg hc1, if_neg hc1]
    obtain ⟨h1, h2, h3, h4⟩ := hs
    have hw := wr64 (x := (s.Line.Fields.length : Int) - s.At) (by omega)
    unfold gRS_Left
    rw [if_neg hc1, hw]
    simp only [Option.bind_some]
    have e1 : (toP s).next_ = s.At := rfl
    have e2 : (toP s).line_ = s.Line := rfl
    rw [e1, e2]
    by_cases hz : s.At = s.Line.Fields.length
    · rw [if_pos (by simp; omega), if_pos (by simpa using hz)]
      obtain ⟨s', k1, k2, k3, k4, k5⟩ := note_toP s (e := 4) 0 (by decide) ⟨h1, h2, h3, h4⟩
      rw [k1, k2]
      exact ⟨_, _, _, rfl, rfl, k3, k5, by simp, fun h => (nomatch h), fun _ => ⟨k4, rfl⟩⟩
    · rw [if_neg (by simp; omega), if_neg (by simpa using hz)]
      obtain ⟨y, hy, hm, hg⟩ := atI_some (l := s.Line.Fields) (n := s.At) h1 (by omega)
      rw [hy]
      simp only [Option.bind_some]
      by_cases hq : (y.Quoted == q) = true
      · rw [if_pos hq, if_pos hq, wr64 (x := s.At + 1) (by omega)]
        have hl : lastC ⟨s.Line, s.At + 1, s.Code, s.Col⟩ = y.Column := by
          unfold lastC
          rw [if_neg (by dsimp only; omega)]
          dsimp only
          rw [show s.At + 1 - 1 = s.At by omega, hg]
        refine ⟨y, true, ⟨s.Line, s.At + 1, s.Code, s.Col⟩, rfl, ?_, ⟨by dsimp only; omega, by dsimp only; omega, h3, h4⟩, rfl, h4 y hm, fun _ => ⟨hc, hl⟩, fun h => (nomatch h)⟩
        unfold toP
        rw [hl]
      · rw [if_neg hq, if_neg hq]
        obtain ⟨s', k1, k2, k3, k4, k5⟩ := note_toP s (e := 4) y.Column (by decide) ⟨h1, h2, h3, h4⟩
        rw [k1, k2]
        exact ⟨_, _, _, rfl, rfl, k3, k5, by simp, fun h => (nomatch h), fun _ => ⟨k4, rfl⟩⟩
  · have hc1 : (s.Code != 0) = true := by simpa using hc
    rw [if_pos hc1, if_pos hc1]
    exact ⟨_, _, _, rfl, rfl, hs, rfl, by simp, fun h => (nomatch h), fun _ => ⟨hc, rfl⟩⟩
theorem left_both {s : TRS} (hs : SOK s) : ∃ n, gRS_Left s = some (n, s) ∧ gLS_Left (toP s) = some (n, toP s) := by
  unfold gRS_Left gLS_Left
  rw [done_toP]
  simp only [Option.bind_some]
  by_cases hc : s.Code = 0
  · have hc1 : ¬ (s.Code != 0) = true := by simpa using hc
    rw [if_neg hc1, if_neg hc1]
    exact ⟨_, rfl, rfl⟩
  · have hc1 : (s.Code != 0) = true := by simpa using hc
    rw [if_pos hc1, if_pos hc1]
    exact ⟨_, rfl, rfl⟩
theorem word_both {s : TRS} (hs : SOK s) : ∃ w s', gRS_Word s = some (w, s') ∧ gLS_Word (toP s) = some (w, toP s') ∧ SOK s' ∧ s'.Line = s.Line ∧ w.length ≤ 1000 := by
  obtain ⟨f, b, s', h1, h2, h3, h4, h5, _⟩ := take_both hs false
  unfold gRS_Word gLS_Word
  rw [h1, h2]
  exact ⟨_, _, rfl, rfl, h3, h4, h5⟩
theorem quoted_both {s : TRS} (hs : SOK s) : ∃ w s', gRS_Quoted s = some (w, s') ∧ gLS_Quoted (toP s) = some (w, toP s') ∧ SOK s' ∧ s'.Line = s.Line ∧ w.length ≤ 1000 := by
  obtain ⟨f, b, s', h1, h2, h3, h4, h5, _⟩ := take_both hs true
  unfold gRS_Quoted gLS_Quoted
  rw [h1, h2]
  exact ⟨_, _, rfl, rfl, h3, h4, h5⟩
theorem fail_both {s : TRS} (hs : SOK s) (e : Int) : ∃ s', gRS_Fail s e = some s' ∧ gLS_Fail (toP s) e = some (toP s') ∧ SOK s' ∧ s'.Line = s.Line ∧ (e ≠ 0 → s'.Code ≠ 0) ∧ (e = 0 → s' = s) := by
  unfold gRS_Fail gLS_Fail
  by_cases he : e = 0
  · subst he
    rw [note_0]
    exact ⟨s, rfl, rfl, hs, rfl, fun h => absurd rfl h, fun _ => rfl⟩
  · rw [if_neg (by simpa using he)]
    obtain ⟨s', k1, k2, k3, k4, k5⟩ := note_toP s (e := e) (toP s).last_ he hs
    rw [k2]
    refine ⟨s', ?_, rfl, k3, k5, fun _ => k4, fun h => absurd h he⟩
    obtain ⟨h1, h2, h3, h4⟩ := hs
    have hl : (toP s).last_ = lastC s := rfl
    rw [hl] at k1
    by_cases h0 : 0 < s.At
    · rw [if_pos (by simpa using h0), wr64 (x := s.At - 1) (by omega)]
      obtain ⟨y, hy, hm, hg⟩ := atI_some (l := s.Line.Fields) (n := s.At - 1) (by omega) (by omega)
      have : lastC s = y.Column := by unfold lastC; rw [if_neg (by omega), hg]
      rw [hy]
      simp only [Option.bind_some]
      rw [← this, k1]
      rfl
    · rw [if_neg (by simpa using h0)]
      have : lastC s = 0 := by unfold lastC; rw [if_pos (by omega)]
      rw [this] at k1
      rw [k1]
      rfl
theorem choice_both {s : TRS} (hs : SOK s) (ws : List (List UInt8)) (hw : ws.length ≤ 1000) : ∃ i s', gRS_Choice s ws = some (i, s') ∧ gLS_Choice (toP s) ws = some (i, toP s') ∧ SOK s' ∧ s'.Line = s.Line := by
  obtain ⟨f, b, s', h1, h2, h3, h4, h5, h6, h7⟩ := take_both hs false
  unfold gRS_Choice gLS_Choice
  rw [h1, h2]
  cases b with
  | false => exact ⟨_, _, rfl, rfl, h3, h4⟩
  | true =>
    simp only [Option.bind_some, if_true]
    have hst : gLS_Choice_s1 ws (f.Text, true, toP s') = gRS_Choice_s1 ws (f, true, s') := rfl
    rw [hst]
    obtain ⟨e, he⟩ := iter_ends (step := gRS_Choice_s1 ws (f, true, s')) ws.length (by omega) (fun i hi => by
      have hwr := wr64 (x := (i : Int) + 1) (by omega)
      simp only [gRS_Choice_s1, atI_nat hi, Option.bind_some, hwr]
      rw [if_pos (by simpa using hi)]
      split
      · exact .inr ⟨_, rfl⟩
      · exact .inl rfl) ⟨.inr (), by simp [gRS_Choice_s1]⟩
    rw [he]
    simp only [Option.bind_some]
    cases e with
    | inl i => exact ⟨_, _, rfl, rfl, h3, h4⟩
    | inr u =>
      obtain ⟨s2, k1, k2, k3, k4, k5⟩ := note_toP s' (e := 4) f.Column (by decide) h3
      rw [(h6 rfl).2]
      simp only [k1, k2, Option.bind_some]
      exact ⟨_, _, rfl, rfl, k3, k5.trans h4⟩
theorem name_both {s : TRS} (hs : SOK s) : ∃ w s', gRS_Name s false = some (w, s') ∧ gLS_Name (toP s) false = some (w, toP s') ∧ SOK s' ∧ s'.Line = s.Line ∧ w.length ≤ 1000 := by
  obtain ⟨f, b, s', h1, h2, h3, h4, h5, h6, h7⟩ := take_both hs false
  unfold gRS_Name gLS_Name
  rw [h1, h2]
  cases b with
  | false => exact ⟨_, _, rfl, rfl, h3, h4, by simp⟩
  | true =>
    simp only [Option.bind_some, if_true, Bool.false_eq_true, if_false, ref07_Name_eq, lines_Name_eq]
    by_cases hn : isNm f.Text = true
    · rw [if_pos hn, if_pos hn]
      exact ⟨_, _, rfl, rfl, h3, h4, h5⟩
    · rw [if_neg hn, if_neg hn, (h6 rfl).2]
      obtain ⟨s2, k1, k2, k3, k4, k5⟩ := note_toP s' (e := 5) f.Column (by decide) h3
      rw [k1, k2]
      exact ⟨_, _, rfl, rfl, k3, k5.trans h4, by simp⟩
theorem numS_0 {t : List UInt8} {lo hi : Int} (h : (numS t lo hi).2 ≠ 0) : (numS t lo hi).1 = 0 := by
  unfold numS at h ⊢
  split
  · rfl
  · split
    · rfl
    · rename_i h1 h2; rw [if_neg h1, if_neg h2] at h; exact absurd rfl h
theorem number_both {s : TRS} (hs : SOK s) (lo hi : Int) : ∃ n s', gRS_Number s lo hi = some (n, s') ∧ gLS_Number (toP s) lo hi = some (n, toP s') ∧ SOK s' ∧ s'.Line = s.Line := by
  obtain ⟨f, b, s', h1, h2, h3, h4, h5, h6, h7⟩ := take_both hs false
  unfold gRS_Number gLS_Number
  rw [h1, h2]
  cases b with
  | false => exact ⟨_, _, rfl, rfl, h3, h4⟩
  | true =>
    simp only [Option.bind_some, if_true, ref_Number_eq f.Text lo hi (by omega), lines_Number_eq f.Text lo hi (by omega)]
    by_cases hn : (numS f.Text lo hi).2 = 0
    · rw [if_neg (by simpa using hn), if_neg (by simpa using hn)]
      exact ⟨_, _, rfl, rfl, h3, h4⟩
    · rw [if_pos (by simpa using hn), if_pos (by simpa using hn), (h6 rfl).2, numS_0 hn]
      obtain ⟨s2, k1, k2, k3, k4, k5⟩ := note_toP s' (e := (numS f.Text lo hi).2) f.Column hn h3
      rw [k1, k2]
      exact ⟨_, _, rfl, rfl, k3, k5.trans h4⟩
theorem end_both {s : TRS} (hs : SOK s) : ∃ d b, gRS_End s = some (d, b, s) ∧ gLS_End (toP s) = some (d, b, toP s) ∧ (b = true → d.Line = s.Line.Number ∧ d.Code ≠ 0) ∧ (b = false → d = ⟨0, 0, 0⟩ ∧ s.Code = 0) := by
  unfold gRS_End gLS_End
  rw [toP_code]
  by_cases hc : s.Code = 0
  · have hc1 : ¬ (s.Code != 0) = true := by simpa using hc
    rw [if_neg hc1, if_neg hc1]
    obtain ⟨h1, h2, h3, h4⟩ := hs
    unfold gRS_Left
    rw [if_neg hc1, wr64 (x := (s.Line.Fields.length : Int) - s.At) (by omega)]
    simp only [Option.bind_some]
    have e1 : (toP s).next_ = s.At := rfl
    have e2 : (toP s).line_ = s.Line := rfl
    rw [e1, e2]
    by_cases hz : s.At = s.Line.Fields.length
    · rw [if_neg (by simp; omega), if_neg (by simp; omega)]
      exact ⟨_, _, rfl, rfl, fun h => (nomatch h), fun _ => ⟨rfl, hc⟩⟩
    · rw [if_pos (by simp; omega), if_pos (by simp; omega)]
      obtain ⟨y, hy, hm, hg⟩ := atI_some (l := s.Line.Fields) (n := s.At) h1 (by omega)
      rw [hy]
      exact ⟨_, _, rfl, rfl, fun _ => ⟨rfl, show (4 : Int) ≠ 0 by decide⟩, fun h => (nomatch h)⟩
  · have hc1 : (s.Code != 0) = true := by simpa using hc
    rw [if_pos hc1, if_pos hc1]
    refine ⟨_, _, rfl, ?_, fun _ => ⟨rfl, hc⟩, fun h => (nomatch h)⟩
    unfold toP
    simp [hc]
end Go.Proofs.YtnjjdbljoligdaaGreatDoor
namespace Go.Proofs.YtnjjdbljoligdaaGreatDoor
set_option maxRecDepth 100000
theorem numB_itoa {n : Int} (h : -9223372036854775808 ≤ n ∧ n ≤ 9223372036854775807) : numBad (Lib.itoa n) = false ∧ numVal (Lib.itoa n) = n := by
  have h1 := numS_itoa n h.1 h.2
  unfold numS at h1
  split at h1
  · simp at h1
  · rename_i hb
    split at h1
    · simp at h1
    · injection h1 with h1 _
      exact ⟨by simpa using hb, h1⟩
theorem prs_itoa {n : Int} (h : -9223372036854775808 ≤ n ∧ n ≤ 9223372036854775807) : g_strconv_ParseInt (Lib.itoa n) 10 64 = some (n, false) := by
  obtain ⟨h1, h2⟩ := numB_itoa h
  have hl := itoa_len h
  unfold g_strconv_ParseInt
  rw [if_pos ⟨rfl, rfl, by omega⟩, parse_eq _ h1, h2, if_neg (by omega)]
theorem prs_total (s : List UInt8) (hs : s.length ≤ 1000) : ∃ v e, g_strconv_ParseInt s 10 64 = some (v, e) := by
  unfold g_strconv_ParseInt
  rw [if_pos ⟨rfl, rfl, by omega⟩]
  split <;> exact ⟨_, _, rfl⟩
theorem prs_nil : ∃ v, g_strconv_ParseInt [] 10 64 = some (v, true) := ⟨_, rfl⟩
theorem itoa_bytes {n : Int} : ∀ b ∈ Lib.itoa n, isDg b = true ∨ b = 45 := by
  intro b hb
  by_cases h : 0 ≤ n
  · obtain ⟨u, rfl⟩ : ∃ u : Nat, n = (u : Int) := ⟨n.toNat, by omega⟩
    rw [Lib.itoa_nonneg] at hb
    exact .inl (List.all_eq_true.1 (dec_facts u).2.1 b hb)
  · obtain ⟨u, rfl⟩ : ∃ u : Nat, n = -(u : Int) := ⟨n.natAbs, by omega⟩
    rw [Lib.itoa_neg u (by omega)] at hb
    rcases List.mem_cons.1 hb with h1 | h1
    · exact .inr h1
    · exact .inl (List.all_eq_true.1 (dec_facts u).2.1 b h1)
theorem itoa_no47 {n : Int} : (47 : UInt8) ∉ Lib.itoa n := fun h => by
  rcases itoa_bytes _ h with h1 | h1
  · revert h1; decide
  · revert h1; decide
theorem rT_eq (x : T_api_Ratio) : rT x = Lib.itoa x.Num ++ 47 :: Lib.itoa x.Den := by simp [rT]
theorem rT_cut (x : T_api_Ratio) : Lib.cut (rT x) [47] = (Lib.itoa x.Num, Lib.itoa x.Den, true) := by
  rw [Cut_eq, rT_eq, spB_app 47 _ _ itoa_no47, spB_no 47 _ itoa_no47]
  simp [Lib.join_cons, Lib.joinTail]
def rIs (s : List UInt8) (x : T_api_Ratio) : Prop := vR x = true ∧ rT x = s
theorem prog_ratio_Parse (s : List UInt8) (hs : s.length ≤ 1000) : (∃ x, rIs s x ∧ g_ratio_Parse s = some (x, 0)) ∨ ((∀ x, ¬ rIs s x) ∧ g_ratio_Parse s = some (⟨0, 0⟩, 4)) := by
  unfold g_ratio_Parse
  have hcut : g_strings_Cut s [47] = some (Lib.cut s [47]) := by unfold g_strings_Cut; rw [if_pos (by omega)]
  rw [hcut]
  simp only [Option.bind_some]
  by_cases hx : ∃ x, rIs s x
  · obtain ⟨x, hv, rfl⟩ := hx
    left
    refine ⟨x, ⟨hv, rfl⟩, ?_⟩
    have hp := vR_in hv
    unfold inP at hp
    rw [rT_cut, prs_itoa (n := x.Num) (by omega)]
    simp only [Option.bind_some]
    rw [prs_itoa (n := x.Den) (by omega)]
    simp only [Option.bind_some, Bool.false_eq_true, if_false, ratio_Text]
    have : rTx ⟨x.Num, x.Den⟩ = rT x := by unfold rTx; rw [if_pos hv]
    rw [this]
    simp
  · right
    refine ⟨fun x h => hx ⟨x, h⟩, ?_⟩
    obtain ⟨c1, c2⟩ := cut_len s [47]
    obtain ⟨n, e, h1⟩ := prs_total (Lib.cut s [47]).1 (by omega)
    obtain ⟨d, f, h2⟩ := prs_total (Lib.cut s [47]).2.1 (by omega)
    rw [h1]
    simp only [Option.bind_some]
    rw [h2]
    simp only [Option.bind_some, ratio_Text]
    cases e with
    | true => rfl
    | false =>
      cases f with
      | true => rfl
      | false =>
        have hne : rTx ⟨n, d⟩ ≠ s := by
          intro hr
          unfold rTx at hr
          cases hv : vR ⟨n, d⟩
          · rw [hv] at hr
            simp at hr
            subst hr
            obtain ⟨v, hv2⟩ := prs_nil
            have : (Lib.cut ([] : List UInt8) [47]).1 = [] := List.eq_nil_of_length_eq_zero (by have := (cut_len [] [47]).1; simpa using this)
            rw [this, hv2] at h1
            simp at h1
          · rw [hv, if_pos rfl] at hr
            exact hx ⟨_, hv, hr⟩
        simp [hne]
theorem rnum_same (d : List UInt8) : g_ref01_Number_s1 d = g_ref01_Number_s2 d := rfl
theorem rnum_loop (d : List UInt8) (hl : d.length ≤ 12) : iter (g_ref01_Number_s2 d) (0, 0) = some (if d.all isDg = true then .inr ((numV 0 d : Nat) : Int) else .inl ()) := by
  refine iter_of (fun x e => ∃ i : Nat, x = (((numV 0 (d.take i) : Nat) : Int), (i : Int)) ∧ i ≤ d.length ∧ (d.take i).all isDg = true ∧ e = if d.all isDg = true then .inr ((numV 0 d : Nat) : Int) else .inl ()) (fun x => d.length - x.2.toNat) ?_ (x := (0, 0)) ⟨0, rfl, Nat.zero_le _, by simp, rfl⟩ (by show d.length - _ < _; omega)
  rintro x e ⟨i, rfl, hi, ha, rfl⟩
  unfold g_ref01_Number_s2
  dsimp only
  by_cases h : i < d.length
  · rw [if_pos (by simpa using h), atI_nat h]
    simp only [Option.bind_some]
    have hb : (if decide (((d[i].toNat : Nat) : Int) < 48) = true then some true else some (decide (57 < ((d[i].toNat : Nat) : Int))) : Option Bool) = some (!isDg d[i]) := by
      unfold isDg
      by_cases h1 : d[i].toNat < 48
      · have h1' : ((d[i].toNat : Nat) : Int) < 48 := by omega
        have h1'' : ¬ 48 ≤ d[i].toNat := by omega
        simp [h1', h1'']
      · have h1' : ¬ ((d[i].toNat : Nat) : Int) < 48 := by omega
        have h1'' : 48 ≤ d[i].toNat := by omega
        by_cases h2 : d[i].toNat ≤ 57
        · have h2' : ¬ 57 < ((d[i].toNat : Nat) : Int) := by omega
          simp [h1', h1'', h2, h2']
        · have h2' : 57 < ((d[i].toNat : Nat) : Int) := by omega
          simp [h1', h1'', h2, h2']
    rw [hb]
    simp only [Option.bind_some]
    cases hd : isDg d[i]
    · right
      have : d.all isDg = false := by
        rw [Bool.eq_false_iff]; intro hall
        have := List.all_eq_true.1 hall d[i] (List.getElem_mem h)
        rw [hd] at this; cases this
      simp [this]
    · left
      have hdg : 48 ≤ d[i].toNat ∧ d[i].toNat ≤ 57 := by simpa [isDg] using hd
      have hlt := numV_le (d.take i) 0 (fun b hb => List.all_eq_true.1 ha b hb)
      have hp : 10 ^ (d.take i).length ≤ 10 ^ 11 := Nat.pow_le_pow_right (by omega) (by rw [List.length_take]; omega)
      have hs : d.take (i + 1) = d.take i ++ [d[i]] := by rw [List.take_append_getElem h]
      have hq : numV 0 (d.take i) < 100000000000 := by omega
      rw [show ((IntKind.u8.wrap (((d[i].toNat : Nat) : Int) - 48))) = ((d[i].toNat : Nat) : Int) - 48 from wr8 (by omega), wr64 (x := ((d[i].toNat : Nat) : Int) - 48) (by omega), wr64 (x := 10 * ((numV 0 (d.take i) : Nat) : Int)) (by omega), wr64 (x := (i : Int) + 1) (by omega), wr64 (by omega)]
      refine ⟨_, rfl, ⟨i + 1, ?_, by omega, ?_, by first | rfl | trivial⟩, by simp; omega⟩
      · rw [hs, numV_snoc]
        congr 1
        omega
      · rw [hs, List.all_append, ha]; simp [hd]
  · right
    obtain rfl : i = d.length := by omega
    rw [if_neg (by simp)]
    rw [List.take_length] at ha ⊢
    rw [if_pos ha]
theorem decDigits_short {u : Nat} (h : u ≤ 9999999999) : (Lib.decDigits u).length ≤ 11 := by
  obtain ⟨h1, h2, b, t, h3, h4⟩ := dec_facts u
  by_cases hu : 1 ≤ u
  · have hb := h4 hu
    rw [h3] at h1 h2 ⊢
    have hdg : 48 ≤ b.toNat ∧ b.toNat ≤ 57 := by have := List.all_eq_true.1 h2 b (by simp); simpa [isDg] using this
    rw [numV_cons] at h1
    have := numV_ge t (0 * 10 + (b.toNat - 48))
    rw [h1] at this
    have h5 : 1 * 10 ^ t.length ≤ (0 * 10 + (b.toNat - 48)) * 10 ^ t.length := Nat.mul_le_mul_right _ (by omega)
    have h6 : t.length < 10 := by
      rcases Nat.lt_or_ge t.length 10 with h | h
      · exact h
      · have : 10 ^ 10 ≤ 10 ^ t.length := Nat.pow_le_pow_right (by omega) h
        omega
    simp; omega
  · obtain rfl : u = 0 := by omega
    rw [Lib.decDigits_one (by omega)]; simp
theorem ref_Number (z : List UInt8) : ∃ n ok, g_ref01_Number z = some (n, ok) ∧ (-1000000000000 ≤ n ∧ n ≤ 1000000000000) ∧ (∀ m : Int, -9999999999 ≤ m ∧ m ≤ 9999999999 → z = Lib.itoa m → n = m ∧ ok = true) ∧ (ok = true → Lib.itoa n = z) := by
  have hpow : ∀ d : List UInt8, d.length ≤ 12 → d.all isDg = true → numV 0 d ≤ 1000000000000 := by
    intro d hl ha
    have h1 := numV_le d 0 (fun b hb => List.all_eq_true.1 ha b hb)
    have h2 : 10 ^ d.length ≤ 10 ^ 12 := Nat.pow_le_pow_right (by omega) hl
    omega
  unfold g_ref01_Number
  have hneg : (if decide ((0 : Int) < (z.length : Int)) = true then (atI z 0).bind fun b12 => some (((b12.toNat : Nat) : Int) == 45) else some false : Option Bool) = some (numN z) := by
    cases z with
    | nil => rfl
    | cons b t =>
      rw [if_pos (by first | (simp; done) | (simp; omega))]
      have : atI (b :: t) 0 = some b := rfl
      rw [this]
      by_cases h45 : b.toNat = 45
      · simp [numN, h45]
      · have h1 : (((b.toNat : Nat) : Int) == 45) = false := by rw [beq_eq_false_iff_ne]; omega
        have h2 : (b.toNat == 45) = false := by simpa using h45
        simp only [numN, List.head?_cons, Option.any_some, Option.bind_some, h1, h2]
  rw [hneg]
  simp only [Option.bind_some, rnum_same]
  cases hn : numN z
  · simp only [Bool.false_eq_true, if_false]
    by_cases hl : z.length = 0 ∨ 12 < z.length
    · have hv : (if ((z.length : Int) == 0) = true then some true else some (decide (12 < (z.length : Int))) : Option Bool) = some true := by
        by_cases h0 : z.length = 0
        · simp [h0]
        · have h1 : 12 < (z.length : Int) := by omega
          have h2 : ¬ (z.length : Int) = 0 := by omega
          simp [h1, h2]
      rw [hv]
      refine ⟨0, false, rfl, by omega, fun m hm hz => ?_, fun h => by cases h⟩
      exfalso
      have hm0 : 0 ≤ m := by
        rcases Int.lt_or_le m 0 with h | h
        · obtain ⟨u, rfl⟩ : ∃ u : Nat, m = -(u : Int) := ⟨m.natAbs, by omega⟩
          rw [Lib.itoa_neg u (by omega)] at hz
          rw [hz] at hn; simp [numN] at hn
        · exact h
      obtain ⟨u, rfl⟩ : ∃ u : Nat, m = (u : Int) := ⟨m.toNat, by omega⟩
      rw [Lib.itoa_nonneg] at hz
      have h5 := decDigits_short (u := u) (by omega)
      obtain ⟨_, _, b, t, h3, _⟩ := dec_facts u
      rw [← hz] at h5 h3
      rw [h3] at hl h5
      simp at hl h5
      omega
    · have hv : (if ((z.length : Int) == 0) = true then some true else some (decide (12 < (z.length : Int))) : Option Bool) = some false := by
        have h1 : decide (12 < (z.length : Int)) = false := by simp; omega
        have h2 : ((z.length : Int) == 0) = false := by rw [beq_eq_false_iff_ne]; omega
        rw [h1, h2]; rfl
      rw [hv, rnum_loop z (by omega)]
      simp only [Option.bind_some, Bool.false_eq_true, if_false]
      cases ha : z.all isDg
      · refine ⟨0, false, rfl, by omega, fun m hm hz => ?_, fun h => by cases h⟩
        exfalso
        have hm0 : 0 ≤ m := by
          rcases Int.lt_or_le m 0 with h | h
          · obtain ⟨u, rfl⟩ : ∃ u : Nat, m = -(u : Int) := ⟨m.natAbs, by omega⟩
            rw [Lib.itoa_neg u (by omega)] at hz
            rw [hz] at hn; simp [numN] at hn
          · exact h
        obtain ⟨u, rfl⟩ : ∃ u : Nat, m = (u : Int) := ⟨m.toNat, by omega⟩
        rw [Lib.itoa_nonneg] at hz
        have := (dec_facts u).2.1
        rw [← hz, ha] at this; cases this
      · have hb := hpow z (by omega) ha
        simp only [if_true]
        rw [ref_Decimal (by omega)]
        refine ⟨((numV 0 z : Nat) : Int), _, rfl, by omega, fun m hm hz => ?_, fun h => by simpa using h⟩
        have hm0 : 0 ≤ m := by
          rcases Int.lt_or_le m 0 with h | h
          · obtain ⟨u, rfl⟩ : ∃ u : Nat, m = -(u : Int) := ⟨m.natAbs, by omega⟩
            rw [Lib.itoa_neg u (by omega)] at hz
            rw [hz] at hn; simp [numN] at hn
          · exact h
        obtain ⟨u, rfl⟩ : ∃ u : Nat, m = (u : Int) := ⟨m.toNat, by omega⟩
        rw [Lib.itoa_nonneg] at hz
        have := (dec_facts u).1
        rw [← hz] at this
        rw [this, Lib.itoa_nonneg, ← hz]
        exact ⟨rfl, by simp⟩
  · obtain ⟨b, t, rfl⟩ : ∃ b t, z = b :: t := by
      cases z with
      | nil => simp [numN] at hn
      | cons b t => exact ⟨b, t, rfl⟩
    have hb45 : b = 45 := by simp [numN] at hn; exact UInt8.toNat_inj.1 hn
    subst hb45
    have hsub : subL (45 :: t) 1 = some t := by
      have := subL_nat (s := 45 :: t) (i := 1) (by simp)
      simpa using this
    simp only [if_true, hsub, Option.bind_some]
    have hneg' : ∀ m : Int, 45 :: t = Lib.itoa m → ∃ u : Nat, 1 ≤ u ∧ m = -(u : Int) ∧ t = Lib.decDigits u := by
      intro m hz
      rcases Int.lt_or_le m 0 with h | h
      · obtain ⟨u, rfl⟩ : ∃ u : Nat, m = -(u : Int) := ⟨m.natAbs, by omega⟩
        rw [Lib.itoa_neg u (by omega)] at hz
        injection hz with _ hz
        exact ⟨u, by omega, rfl, hz⟩
      · obtain ⟨u, rfl⟩ : ∃ u : Nat, m = (u : Int) := ⟨m.toNat, by omega⟩
        rw [Lib.itoa_nonneg] at hz
        have h9 := List.all_eq_true.1 (dec_facts u).2.1 45 (by rw [← hz]; simp)
        exact absurd h9 (by decide)
    by_cases hl : t.length = 0 ∨ 12 < t.length
    · have hv : (if ((t.length : Int) == 0) = true then some true else some (decide (12 < (t.length : Int))) : Option Bool) = some true := by
        by_cases h0 : t.length = 0
        · simp [h0]
        · have h1 : 12 < (t.length : Int) := by omega
          have h2 : ¬ (t.length : Int) = 0 := by omega
          simp [h1, h2]
      rw [hv]
      refine ⟨0, false, rfl, by omega, fun m hm hz => ?_, fun h => by cases h⟩
      exfalso
      obtain ⟨u, hu, rfl, hzd⟩ := hneg' m hz
      have h5 := decDigits_short (u := u) (by omega)
      obtain ⟨_, _, b, t', h3, _⟩ := dec_facts u
      rw [← hzd] at h5 h3
      rw [h3] at hl h5
      simp at hl h5
      omega
    · have hv : (if ((t.length : Int) == 0) = true then some true else some (decide (12 < (t.length : Int))) : Option Bool) = some false := by
        have h1 : decide (12 < (t.length : Int)) = false := by simp; omega
        have h2 : ((t.length : Int) == 0) = false := by rw [beq_eq_false_iff_ne]; omega
        rw [h1, h2]; rfl
      rw [hv, rnum_loop t (by omega)]
      simp only [Option.bind_some, Bool.false_eq_true, if_false]
      cases ha : t.all isDg
      · refine ⟨0, false, rfl, by omega, fun m hm hz => ?_, fun h => by cases h⟩
        exfalso
        obtain ⟨u, hu, rfl, hzd⟩ := hneg' m hz
        have := (dec_facts u).2.1
        rw [← hzd, ha] at this; cases this
      · have hb := hpow t (by omega) ha
        simp only [if_true]
        rw [if_neg (c := (t == 45 :: t) = true) (by simp), wr64 (x := 0 - ((numV 0 t : Nat) : Int)) (by omega), ref_Decimal (by omega)]
        refine ⟨0 - ((numV 0 t : Nat) : Int), _, rfl, by omega, fun m hm hz => ?_, fun h => by simpa using h⟩
        have hz0 := hz
        obtain ⟨u, hu, rfl, hzd⟩ := hneg' m hz
        have := (dec_facts u).1
        rw [← hzd] at this
        rw [this, Int.zero_sub]
        exact ⟨rfl, by simp [hz0]⟩
theorem rT_inj {x y : T_api_Ratio} (hx : vR x = true) (hy : vR y = true) (h : rT x = rT y) : x = y := by
  have h1 := vR_in hx
  have h2 := vR_in hy
  unfold inP at h1 h2
  have e := rT_cut x
  rw [h, rT_cut] at e
  injection e with e1 e2
  injection e2 with e2 _
  have a := (numB_itoa (n := x.Num) (by omega)).2
  have b := (numB_itoa (n := x.Den) (by omega)).2
  rw [← e1, (numB_itoa (n := y.Num) (by omega)).2] at a
  rw [← e2, (numB_itoa (n := y.Den) (by omega)).2] at b
  cases x; cases y
  simp at a b
  simp [a, b]
theorem ref_ratio_Parse (s : List UInt8) (hs : s.length ≤ 1000) : (∃ x, rIs s x ∧ g_ref01_Parse s = some (x, 0)) ∨ ((∀ x, ¬ rIs s x) ∧ g_ref01_Parse s = some (⟨0, 0⟩, 4)) := by
  unfold g_ref01_Parse
  by_cases hm : (47 : UInt8) ∈ s
  · obtain ⟨a, b, rfl, hno⟩ := List.eq_append_cons_of_mem hm
    obtain ⟨n, ok1, n1, n2, n3, n4⟩ := ref_Number a
    obtain ⟨d, ok2, d1, d2, d3, d4⟩ := ref_Number b
    have hla : a.length < (a ++ 47 :: b).length := by simp
    have hend : g_ref01_Parse_s1 (a ++ 47 :: b) (a.length : Int) = some (.out (.inl (if ok1 && ok2 && (rTx ⟨n, d⟩ == a ++ 47 :: b) then (n, d, 0) else (0, 0, 4)))) := by
      unfold g_ref01_Parse_s1
      have h1 : subH (a ++ 47 :: b) (a.length : Int) = some a := by
        unfold subH
        rw [if_pos ⟨by omega, by simp⟩]; simp
      have h2 : subL (a ++ 47 :: b) ((a.length : Int) + 1) = some b := by
        have := subL_nat (s := a ++ 47 :: b) (i := a.length + 1) (by simp)
        simpa using this
      have h3 : atI (a ++ 47 :: b) (a.length : Int) = some 47 := by rw [atI_nat hla]; simp
      rw [if_pos (by simp; omega), h3, wr64 (x := (a.length : Int) + 1) (by simp at hs; omega), h1, h2]
      simp only [Option.bind_some, n1, d1, ref_ratio_Text]
      rw [if_neg (by decide)]
      cases ok1 with
      | false => rfl
      | true =>
        cases ok2 with
        | false => rfl
        | true =>
          by_cases ht : rTx ⟨n, d⟩ = a ++ 47 :: b
          · simp [ht]
          · simp [ht]
    have hit : iter (g_ref01_Parse_s1 (a ++ 47 :: b)) 0 = some (.inl (if ok1 && ok2 && (rTx ⟨n, d⟩ == a ++ 47 :: b) then (n, d, 0) else (0, 0, 4))) := by
      refine iter_idx a.length (by simp at hs; omega) (fun _ => Sum.inl (if ok1 && ok2 && (rTx ⟨n, d⟩ == a ++ 47 :: b) then (n, d, 0) else (0, 0, 4))) (fun i hi => .inl ⟨?_, rfl⟩) hend
      unfold g_ref01_Parse_s1
      have hi2 : i < (a ++ 47 :: b).length := by omega
      rw [if_pos (by simp at hi2 ⊢; omega), atI_nat hi2, wr64 (x := (i : Int) + 1) (by simp at hs; omega)]
      simp only [Option.bind_some]
      rw [if_pos]
      rw [List.getElem_append_left hi]
      have : a[i] ≠ 47 := fun e => hno (e ▸ List.getElem_mem hi)
      have h4 : a[i].toNat ≠ 47 := fun e => this (UInt8.toNat_inj.1 e)
      simp; omega
    rw [hit]
    simp only [Option.bind_some]
    by_cases hx : ∃ x, rIs (a ++ 47 :: b) x
    · obtain ⟨x, hv, hr⟩ := hx
      left
      have hp := vR_in hv
      unfold inP at hp
      have hc := rT_cut x
      rw [hr, Cut_eq, spB_app 47 _ _ hno] at hc
      have e1 : a = Lib.itoa x.Num := by
        rw [rT_eq] at hr
        have h5 := spB_app 47 _ (Lib.itoa x.Den) (itoa_no47 (n := x.Num))
        rw [hr, spB_app 47 _ _ hno] at h5
        injection h5
      have e2 : b = Lib.itoa x.Den := by
        rw [rT_eq, ← e1] at hr
        have := List.append_cancel_left hr
        injection this with _ this
        exact this.symm
      obtain ⟨f1, f2⟩ := n3 x.Num (by omega) e1
      obtain ⟨f3, f4⟩ := d3 x.Den (by omega) e2
      refine ⟨x, ⟨hv, hr⟩, ?_⟩
      have f5 : rTx ⟨n, d⟩ = a ++ 47 :: b := by rw [f1, f3]; unfold rTx; rw [if_pos hv]; exact hr
      rw [f2, f4, f5]
      simp [f1, f3]
    · right
      refine ⟨fun x h => hx ⟨x, h⟩, ?_⟩
      have : (ok1 && ok2 && (rTx ⟨n, d⟩ == a ++ 47 :: b)) = false := by
        rw [Bool.eq_false_iff]
        intro h
        simp only [Bool.and_eq_true, beq_iff_eq] at h
        have h1 := h.2
        unfold rTx at h1
        cases hv : vR ⟨n, d⟩
        · rw [hv] at h1; simp at h1
        · rw [hv, if_pos rfl] at h1
          exact hx ⟨_, hv, h1⟩
      rw [this]
      rfl
  · right
    refine ⟨fun x ⟨_, h⟩ => hm (by rw [← h, rT_eq]; simp), ?_⟩
    have hit : iter (g_ref01_Parse_s1 s) 0 = some (.inr ()) := by
      refine iter_idx s.length (by omega) (fun _ => Sum.inr ()) (fun i hi => .inl ⟨?_, rfl⟩) ?_
      · unfold g_ref01_Parse_s1
        rw [if_pos (by simpa using hi), atI_nat hi, wr64 (x := (i : Int) + 1) (by omega)]
        simp only [Option.bind_some]
        rw [if_pos]
        have : s[i] ≠ 47 := fun e => hm (e ▸ List.getElem_mem hi)
        have h4 : s[i].toNat ≠ 47 := fun e => this (UInt8.toNat_inj.1 e)
        simp; omega
      · unfold g_ref01_Parse_s1
        rw [if_neg (by simp)]
    rw [hit]
    rfl
theorem ratio_both (s : List UInt8) (hs : s.length ≤ 1000) : ∃ x e, g_ratio_Parse s = some (x, e) ∧ g_ref01_Parse s = some (x, e) ∧ (∀ y, rIs s y → x = y ∧ e = 0) := by
  rcases prog_ratio_Parse s hs with ⟨x, h1, h2⟩ | ⟨h1, h2⟩
  · rcases ref_ratio_Parse s hs with ⟨y, k1, k2⟩ | ⟨k1, k2⟩
    · obtain rfl := rT_inj h1.1 k1.1 (h1.2.trans k1.2.symm)
      exact ⟨x, 0, h2, k2, fun z hz => ⟨rT_inj h1.1 hz.1 (h1.2.trans hz.2.symm), rfl⟩⟩
    · exact absurd h1 (k1 x)
  · rcases ref_ratio_Parse s hs with ⟨y, k1, k2⟩ | ⟨k1, k2⟩
    · exact absurd k1 (h1 y)
    · exact ⟨_, _, h2, k2, fun z hz => absurd hz (h1 z)⟩
end Go.Proofs.YtnjjdbljoligdaaGreatDoor
namespace Go.Proofs.YtnjjdbljoligdaaGreatDoor
set_option maxRecDepth 100000
theorem tcp_same (s : List UInt8) : g_ref03_Parse_s1 s = g_timecode_Parse_s1 s := by
  funext x
  unfold g_ref03_Parse_s1 g_timecode_Parse_s1
  simp only [Int.mul_comm _ (10 : Int)]
theorem tc_same {r : Int} (h : 0 ≤ r ∧ r ≤ 255) (s : List UInt8) : g_timecode_Parse r s = g_ref03_Parse r s := by
  unfold g_timecode_Parse g_ref03_Parse
  simp only [tcp_same, (rates h).1, (rates h).2.1, tc_Check h, ref_tc_Check h] <;> rfl
theorem tcp_total (s : List UInt8) (hs : s.length = 11) : ∃ e, iter (g_timecode_Parse_s1 s) (0, 0, 0, 0, 0) = some e := by
  have := iter_post (step := g_timecode_Parse_s1 s) (fun x => 0 ≤ x.1 ∧ x.1 ≤ 4) (fun x => (4 - x.1).toNat) (fun _ => True) (x := (0, 0, 0, 0, 0)) ⟨Int.le_refl _, by simp⟩ (by simp) ?_
  · obtain ⟨e, h, _⟩ := this; exact ⟨e, h⟩
  · rintro ⟨i, a, b, c, d⟩ ⟨h0, h4⟩
    dsimp only at h0 h4
    have at3 : ∀ k : Nat, k < 11 → ∃ x, atI s (k : Int) = some x := fun k hk => ⟨_, atI_nat (by omega)⟩
    unfold g_timecode_Parse_s1
    dsimp only
    have hc : i = 4 ∨ i = 0 ∨ i = 1 ∨ i = 2 ∨ i = 3 := by omega
    rcases hc with rfl | rfl | rfl | rfl | rfl
    · right; exact ⟨_, rfl, trivial⟩
    · obtain ⟨x, hx⟩ := at3 0 (by omega)
      obtain ⟨y, hy⟩ := at3 1 (by omega)
      have hx : atI s (IntKind.i64.wrap (3 * 0)) = some x := hx
      have hy : atI s (IntKind.i64.wrap (IntKind.i64.wrap (3 * 0) + 1)) = some y := hy
      rw [if_pos (by simp), hx, hy]
      simp only [Option.bind_some]
      generalize hv : (if decide ((x.toNat : Int) < 48) = true then some true else if decide (57 < (x.toNat : Int)) = true then some true else if decide ((y.toNat : Int) < 48) = true then some true else some (decide (57 < (y.toNat : Int))) : Option Bool) = v
      have : v.isSome = true := by rw [← hv]; repeat' split
                                   all_goals rfl
      obtain ⟨v, rfl⟩ := Option.isSome_iff_exists.1 this
      cases v with
      | true => right; exact ⟨_, rfl, trivial⟩
      | false => left; exact ⟨_, rfl, ⟨show (0 : Int) ≤ IntKind.i64.wrap (0 + 1) by decide, show IntKind.i64.wrap (0 + 1) ≤ (4 : Int) by decide⟩, show (4 - IntKind.i64.wrap (0 + 1)).toNat < (4 - (0 : Int)).toNat by decide⟩
    · obtain ⟨x, hx⟩ := at3 3 (by omega)
      obtain ⟨y, hy⟩ := at3 4 (by omega)
      have hx : atI s (IntKind.i64.wrap (3 * 1)) = some x := hx
      have hy : atI s (IntKind.i64.wrap (IntKind.i64.wrap (3 * 1) + 1)) = some y := hy
      rw [if_pos (by simp), hx, hy]
      simp only [Option.bind_some]
      generalize hv : (if decide ((x.toNat : Int) < 48) = true then some true else if decide (57 < (x.toNat : Int)) = true then some true else if decide ((y.toNat : Int) < 48) = true then some true else some (decide (57 < (y.toNat : Int))) : Option Bool) = v
      have : v.isSome = true := by rw [← hv]; repeat' split
                                   all_goals rfl
      obtain ⟨v, rfl⟩ := Option.isSome_iff_exists.1 this
      cases v with
      | true => right; exact ⟨_, rfl, trivial⟩
      | false => left; exact ⟨_, rfl, ⟨show (0 : Int) ≤ IntKind.i64.wrap (1 + 1) by decide, show IntKind.i64.wrap (1 + 1) ≤ (4 : Int) by decide⟩, show (4 - IntKind.i64.wrap (1 + 1)).toNat < (4 - (1 : Int)).toNat by decide⟩
    · obtain ⟨x, hx⟩ := at3 6 (by omega)
      obtain ⟨y, hy⟩ := at3 7 (by omega)
      have hx : atI s (IntKind.i64.wrap (3 * 2)) = some x := hx
      have hy : atI s (IntKind.i64.wrap (IntKind.i64.wrap (3 * 2) + 1)) = some y := hy
      rw [if_pos (by simp), hx, hy]
      simp only [Option.bind_some]
      generalize hv : (if decide ((x.toNat : Int) < 48) = true then some true else if decide (57 < (x.toNat : Int)) = true then some true else if decide ((y.toNat : Int) < 48) = true then some true else some (decide (57 < (y.toNat : Int))) : Option Bool) = v
      have : v.isSome = true := by rw [← hv]; repeat' split
                                   all_goals rfl
      obtain ⟨v, rfl⟩ := Option.isSome_iff_exists.1 this
      cases v with
      | true => right; exact ⟨_, rfl, trivial⟩
      | false => left; exact ⟨_, rfl, ⟨show (0 : Int) ≤ IntKind.i64.wrap (2 + 1) by decide, show IntKind.i64.wrap (2 + 1) ≤ (4 : Int) by decide⟩, show (4 - IntKind.i64.wrap (2 + 1)).toNat < (4 - (2 : Int)).toNat by decide⟩
    · obtain ⟨x, hx⟩ := at3 9 (by omega)
      obtain ⟨y, hy⟩ := at3 10 (by omega)
      have hx : atI s (IntKind.i64.wrap (3 * 3)) = some x := hx
      have hy : atI s (IntKind.i64.wrap (IntKind.i64.wrap (3 * 3) + 1)) = some y := hy
      rw [if_pos (by simp), hx, hy]
      simp only [Option.bind_some]
      generalize hv : (if decide ((x.toNat : Int) < 48) = true then some true else if decide (57 < (x.toNat : Int)) = true then some true else if decide ((y.toNat : Int) < 48) = true then some true else some (decide (57 < (y.toNat : Int))) : Option Bool) = v
      have : v.isSome = true := by rw [← hv]; repeat' split
                                   all_goals rfl
      obtain ⟨v, rfl⟩ := Option.isSome_iff_exists.1 this
      cases v with
      | true => right; exact ⟨_, rfl, trivial⟩
      | false => left; exact ⟨_, rfl, ⟨show (0 : Int) ≤ IntKind.i64.wrap (3 + 1) by decide, show IntKind.i64.wrap (3 + 1) ≤ (4 : Int) by decide⟩, show (4 - IntKind.i64.wrap (3 + 1)).toNat < (4 - (3 : Int)).toNat by decide⟩
theorem tc_total {r : Int} (h : 0 ≤ r ∧ r ≤ 255) (s : List UInt8) : ∃ l e, g_timecode_Parse r s = some (l, e) ∧ (e ≠ 0 → l = zL) := by
  unfold g_timecode_Parse
  simp only [(rates h).1, tc_Check h, Option.bind_some]
  cases rV r
  · exact ⟨_, _, rfl, fun _ => rfl⟩
  · simp only [if_true]
    by_cases hl : s.length = 11
    · have h1 : ((s.length : Int) != 11) = false := by simp [hl]
      obtain ⟨x2, e2⟩ : ∃ x, atI s 2 = some x := ⟨_, atI_nat (n := 2) (by omega)⟩
      obtain ⟨x5, e5⟩ : ∃ x, atI s 5 = some x := ⟨_, atI_nat (n := 5) (by omega)⟩
      obtain ⟨x8, e8⟩ : ∃ x, atI s 8 = some x := ⟨_, atI_nat (n := 8) (by omega)⟩
      simp only [h1, Bool.false_eq_true, if_false, e2, e5, e8, Option.bind_some]
      generalize hv : (if ((x2.toNat : Int) != 58) = true then some true else if ((x5.toNat : Int) != 58) = true then some true else if ((x8.toNat : Int) != 58) = true then some ((x8.toNat : Int) != 59) else some false : Option Bool) = v
      have : v.isSome = true := by rw [← hv]; repeat' split
                                   all_goals rfl
      obtain ⟨v, rfl⟩ := Option.isSome_iff_exists.1 this
      cases v with
      | true => exact ⟨_, _, rfl, fun _ => rfl⟩
      | false =>
        obtain ⟨e, he⟩ := tcp_total s hl
        simp only [Option.bind_some, Bool.false_eq_true, if_false, he]
        cases e with
        | inl u => exact ⟨_, _, rfl, fun _ => rfl⟩
        | inr e =>
          dsimp only
          split
          · exact ⟨_, _, rfl, fun _ => rfl⟩
          · exact ⟨_, _, rfl, fun h => absurd rfl h⟩
    · have h1 : ((s.length : Int) != 11) = true := by simp; omega
      simp only [h1, if_true, Option.bind_some]
      exact ⟨_, _, rfl, fun _ => rfl⟩
theorem frame_both {s : TRS} (hs : SOK s) {r : Int} (hr : 0 ≤ r ∧ r ≤ 255) (t t' : List UInt8) (d : Bool) (cs cs' : List T_api_Cut) : ∃ n s', g_ref44_take s ⟨t, r, d, cs⟩ = some (n, s') ∧ g_edl_frame (toP s) ⟨t', r, d, cs'⟩ = some (n, toP s') ∧ SOK s' ∧ s'.Line = s.Line := by
  obtain ⟨w, s1, h1, h2, h3, h4, h5⟩ := word_both hs
  obtain ⟨l, e, k1, k2⟩ := tc_total hr w
  have k1' : g_ref03_Parse r w = some (l, e) := by rw [← tc_same hr]; exact k1
  unfold g_ref44_take g_edl_frame
  rw [h1, h2]
  simp only [Option.bind_some, k1, k1']
  obtain ⟨s2, f1, f2, f3, f4, f5, f6⟩ := fail_both h3 e
  rw [f1]
  simp only [Option.bind_some, tc_Frame hr, ref_tc_Frame hr]
  by_cases he : e = 0
  · obtain rfl := f6 he
    subst he
    simp only [beq_self_eq_true, if_true, Option.bind_some]
    by_cases hd : l.Drop = d
    · simp only [hd, beq_self_eq_true, Bool.not_true, Bool.false_eq_true, if_false, if_true, f2, Option.bind_some]
      exact ⟨_, _, rfl, rfl, f3, h4⟩
    · have hd' : (l.Drop == d) = false := by simpa using hd
      obtain ⟨s3, g1, g2, g3, g4, g5, g6⟩ := fail_both h3 4
      simp only [hd', Bool.not_false, Bool.false_eq_true, if_false, if_true, g1, g2, Option.bind_some]
      exact ⟨_, _, rfl, rfl, g3, g4.trans h4⟩
  · have he' : (e == 0) = false := by simpa using he
    simp only [he', Bool.false_eq_true, if_false, Option.bind_some, f2]
    by_cases hd : l.Drop = d
    · simp only [hd, beq_self_eq_true, if_true]
      exact ⟨_, _, rfl, rfl, f3, f4.trans h4⟩
    · have hd' : (l.Drop == d) = false := by simpa using hd
      obtain ⟨s3, g1, g2, g3, g4, g5, g6⟩ := fail_both f3 4
      -- a scanner that has failed stays as it is
      have hst : s3 = s2 := by
        have hcode := f5 he
        unfold gRS_Fail at g1
        rw [if_neg (by decide)] at g1
        have hfail : ∀ c, gRS_fail s2 4 c = some s2 := fun c => by unfold gRS_fail; rw [if_neg (by simpa using hcode)]
        by_cases h0 : 0 < s2.At
        · rw [if_pos (by simpa using h0)] at g1
          obtain ⟨y, hy, g1⟩ := bind_some g1
          rw [hfail] at g1
          simpa using g1.symm
        · rw [if_neg (by simpa using h0), hfail] at g1
          simpa using g1.symm
      subst hst
      simp only [hd', Bool.false_eq_true, if_false, g1, Option.bind_some]
      exact ⟨_, _, rfl, rfl, f3, f4.trans h4⟩
theorem cut_both {x : T_api_Line} (hx : x.Fields.length ≤ 1000 ∧ ∀ f ∈ x.Fields, f.Text.length ≤ 1000) {r : Int} (hr : 0 ≤ r ∧ r ≤ 255) (t t' : List UInt8) (d : Bool) (cs cs' : List T_api_Cut) : ∃ c g b, g_ref44_cut x ⟨t, r, d, cs⟩ = some (c, g, b) ∧ g_edl_cut x ⟨t', r, d, cs'⟩ = some (c, g, b) ∧ (b = true → g.Line = x.Number ∧ g.Code ≠ 0) := by
  have hS : SOK ⟨x, 0, 0, 0⟩ := ⟨Int.le_refl _, by simp, hx.1, hx.2⟩
  have hP : toP ⟨x, 0, 0, 0⟩ = ⟨x, 0, 0, ⟨0, 0, 0⟩⟩ := by unfold toP lastC; simp
  unfold g_ref44_cut g_edl_cut g_ref07_Scan g_lines_Scan
  rw [if_pos (by omega)]
  simp only [Option.bind_some]
  rw [← hP]
  obtain ⟨i1, s1, a1, b1, c1, e1⟩ := choice_both hS [[67, 85, 84]] (by simp)
  rw [a1, b1]; simp only [Option.bind_some]
  obtain ⟨n2, s2, a2, b2, c2, e2⟩ := number_both c1 1 999
  rw [a2, b2]; simp only [Option.bind_some]
  obtain ⟨w3, s3, a3, b3, c3, e3, _⟩ := name_both c2
  rw [a3, b3]; simp only [Option.bind_some]
  obtain ⟨n4, s4, a4, b4, c4, e4⟩ := frame_both c3 hr t t' d [] []
  rw [a4, b4]; simp only [Option.bind_some]
  obtain ⟨n5, s5, a5, b5, c5, e5⟩ := frame_both c4 hr t t' d [] []
  rw [a5, b5]; simp only [Option.bind_some]
  obtain ⟨n6, s6, a6, b6, c6, e6⟩ := frame_both c5 hr t t' d [] []
  rw [a6, b6]; simp only [Option.bind_some]
  obtain ⟨n7, a7, b7⟩ := left_both c6
  rw [a7, b7]; simp only [Option.bind_some]
  have hl6 : s6.Line = x := by rw [e6, e5, e4, e3, e2, e1]
  by_cases h7 : 0 < n7
  · simp only [h7, decide_true, if_true]
    obtain ⟨i8, s8, a8, b8, c8, e8⟩ := choice_both c6 [[83, 80, 69, 69, 68]] (by simp)
    rw [a8, b8]; simp only [Option.bind_some]
    obtain ⟨w9, s9, a9, b9, c9, e9, l9⟩ := word_both c8
    rw [a9, b9]; simp only [Option.bind_some]
    obtain ⟨q, eq, a10, b10, _⟩ := ratio_both w9 l9
    rw [a10, b10]; simp only [Option.bind_some]
    obtain ⟨s11, a11, b11, c11, e11, _, _⟩ := fail_both c9 eq
    rw [a11, b11]; simp only [Option.bind_some]
    obtain ⟨g, b, a12, b12, h12, _⟩ := end_both c11
    rw [a12, b12]; simp only [Option.bind_some]
    refine ⟨_, _, _, rfl, rfl, fun hb => ?_⟩
    obtain ⟨k1, k2⟩ := h12 hb
    exact ⟨by rw [k1, e11, e9, e8, hl6], k2⟩
  · simp only [h7, decide_false, Bool.false_eq_true, if_false]
    obtain ⟨g, b, a12, b12, h12, _⟩ := end_both c6
    rw [a12, b12]; simp only [Option.bind_some]
    refine ⟨_, _, _, rfl, rfl, fun hb => ?_⟩
    obtain ⟨k1, k2⟩ := h12 hb
    exact ⟨by rw [k1, hl6], k2⟩
end Go.Proofs.YtnjjdbljoligdaaGreatDoor
namespace Go.Proofs.YtnjjdbljoligdaaGreatDoor
set_option maxRecDepth 100000
section
variable {src : List UInt8} {o o2 : List T_api_Line} {d d2 : List T_api_Diag} {n st i n2 st2 i2 : Int}
theorem zs_go (h : g_ref07_Split_s1 src (o, d, n, st, i) = some (.go (o2, d2, n2, st2, i2))) : (d2 = d ∧ g_ref07_Split_z_s1 src (o, n, st, i) = some (.go (o2, n2, st2, i2))) ∨ d2 ≠ [] := by
  unfold g_ref07_Split_s1 at h
  unfold g_ref07_Split_z_s1
  dsimp only at h ⊢
  by_cases h1 : i ≤ (src.length : Int)
  · simp only [h1, decide_true, if_true] at h ⊢
    obtain ⟨v, hv, h⟩ := bind_some h
    injection h with h
    injection h with h
    obtain ⟨w, hw, hv⟩ := bind_some hv
    rw [hw]
    simp only [Option.bind_some]
    cases w with
    | true =>
      simp only [if_true] at hv ⊢
      injection hv with hv
      subst hv
      injection h with e1 h
      injection h with e2 h
      injection h with e3 h
      injection h with e4 e5
      left
      exact ⟨e2.symm, by rw [← e1, ← e3, ← e4, ← e5]⟩
    | false =>
      simp only [Bool.false_eq_true, if_false] at hv ⊢
      obtain ⟨z, hz, hv⟩ := bind_some hv
      rw [hz]
      simp only [Option.bind_some]
      by_cases h2 : 1000 < (z.length : Int)
      · simp only [h2, decide_true, if_true] at hv
        split at hv
        · injection hv with hv
          subst hv
          injection h with e1 h
          injection h with e2 h
          right; rw [← e2]; simp
        · cases hv
      · simp only [h2, decide_false, Bool.false_eq_true, if_false] at hv ⊢
        obtain ⟨r, hr, hv⟩ := bind_some hv
        rw [hr]
        simp only [Option.bind_some]
        by_cases h3 : 0 ≤ r.2
        · simp only [h3, decide_true, if_true] at hv
          split at hv
          · injection hv with hv
            subst hv
            injection h with e1 h
            injection h with e2 h
            right; rw [← e2]; simp
          · cases hv
        · simp only [h3, decide_false, Bool.false_eq_true, if_false] at hv ⊢
          by_cases h4 : 0 < (r.1.length : Int)
          · simp only [h4, decide_true, if_true] at hv ⊢
            split at hv
            · rename_i h5
              rw [if_pos h5]
              injection hv with hv
              subst hv
              injection h with e1 h
              injection h with e2 h
              injection h with e3 h
              injection h with e4 e5
              left
              exact ⟨e2.symm, by rw [← e1, ← e3, ← e4, ← e5]⟩
            · cases hv
          · simp only [h4, decide_false, Bool.false_eq_true, if_false] at hv ⊢
            injection hv with hv
            subst hv
            injection h with e1 h
            injection h with e2 h
            injection h with e3 h
            injection h with e4 e5
            left
            exact ⟨e2.symm, by rw [← e1, ← e3, ← e4, ← e5]⟩
  · simp only [h1, decide_false, Bool.false_eq_true, if_false] at h
    cases h
theorem zs_out {e : List T_api_Line × List T_api_Diag} (h : g_ref07_Split_s1 src (o, d, n, st, i) = some (.out e)) : e = (o, d) ∧ g_ref07_Split_z_s1 src (o, n, st, i) = some (.out o) := by
  unfold g_ref07_Split_s1 at h
  unfold g_ref07_Split_z_s1
  dsimp only at h ⊢
  by_cases h1 : i ≤ (src.length : Int)
  · simp only [h1, decide_true, if_true] at h
    obtain ⟨v, hv, h⟩ := bind_some h
    cases h
  · simp only [h1, decide_false, Bool.false_eq_true, if_false] at h ⊢
    injection h with h
    injection h with h
    exact ⟨h.symm, by first | rfl | trivial⟩
end
theorem zs_keep {src : List UInt8} : ∀ (k : Nat) (o : List T_api_Line) (d : List T_api_Diag) (n st i : Int) (e : List T_api_Line × List T_api_Diag), iterN (g_ref07_Split_s1 src) k (o, d, n, st, i) = some e → e.2 = [] → d = [] ∧ iterN (g_ref07_Split_z_s1 src) k (o, n, st, i) = some e.1 := by
  intro k
  induction k with
  | zero => intro o d n st i e h; cases h
  | succ k ih =>
    intro o d n st i e h he
    simp only [iterN] at h ⊢
    cases hs : g_ref07_Split_s1 src (o, d, n, st, i) with
    | none => rw [hs] at h; cases h
    | some y =>
      rw [hs] at h
      cases y with
      | out e' =>
        obtain ⟨k1, k2⟩ := zs_out hs
        simp only [Option.some.injEq] at h
        subst h
        subst k1
        rw [k2]
        exact ⟨he, rfl⟩
      | go y =>
        obtain ⟨o2, d2, n2, st2, i2⟩ := y
        obtain ⟨q1, q2⟩ := ih o2 d2 n2 st2 i2 e h he
        rcases zs_go hs with ⟨k1, k2⟩ | k1
        · rw [k2]
          exact ⟨by rw [← k1]; exact q1, q2⟩
        · exact absurd q1 k1
theorem Split_n_eq (src : List UInt8) : g_ref07_Split_n src = some (splitS src) := by
  unfold g_ref07_Split_n
  rw [ref_Split_eq]
  simp only [Option.bind_some]
  cases hd : (splitS src).2 with
  | cons a l => simp
  | nil =>
    simp only [List.isEmpty_nil, if_true]
    have hz : g_ref07_Split_z src = some ((splitS src).1, []) := by
      have h0 := hd
      unfold splitS at h0
      unfold g_ref07_Split_z
      by_cases hl : 262144 < src.length
      · rw [if_pos hl] at h0; simp at h0
      · rw [if_neg hl] at h0
        simp only at h0
        have h1 : (allR 0 (spL src) ([], [])).2 = [] := by
          cases hx : (allR 0 (spL src) ([], [])).2 with
          | nil => rfl
          | cons a l => rw [hx] at h0; simp at h0
        have hit := ref_Split_loop src (by omega)
        unfold iter at hit
        have := (zs_keep _ _ _ _ _ _ _ hit h1).2
        have hl' : ¬ (262144 : Int) < (src.length : Int) := by omega
        simp only [hl', decide_false, Bool.false_eq_true, if_false]
        unfold iter
        rw [this]
        simp only [Option.bind_some]
        unfold splitS
        rw [if_neg hl]
    rw [hz]
    simp only [Option.bind_some]
    rw [← hd]
theorem rF_mem (s : List UInt8) : ∀ l : List Int, (∃ r ∈ l, rF s l = .inl r) ∨ rF s l = .inr ()
  | [] => .inr rfl
  | r :: l => by
    simp only [rF]
    split
    · exact .inl ⟨r, by simp, rfl⟩
    · rcases rF_mem s l with ⟨q, h1, h2⟩ | h
      · exact .inl ⟨q, by simp [h1], h2⟩
      · exact .inr h
theorem rPs_cases (s : List UInt8) : (1 ≤ (rPs s).1 ∧ (rPs s).1 ≤ 7 ∧ (rPs s).2 = 0) ∨ rPs s = (0, 4) := by
  unfold rPs
  rcases rF_mem s [1, 2, 3, 4, 5, 6, 7] with ⟨r, h1, h2⟩ | h
  · rw [h2]
    left
    simp at h1
    exact ⟨by dsimp only; omega, by dsimp only; omega, rfl⟩
  · rw [h]; exact .inr rfl
theorem first_word {x : T_api_Line} (hx : x.Fields.length ≤ 1000 ∧ ∀ f ∈ x.Fields, f.Text.length ≤ 1000) {y : T_api_Field} (hy : atI x.Fields 0 = some y) (hq : y.Quoted = false) : ∃ s', gRS_Word ⟨x, 0, 0, 0⟩ = some (y.Text, s') ∧ gLS_Choice (toP ⟨x, 0, 0, 0⟩) [y.Text] = some (0, toP s') ∧ SOK s' ∧ s'.Line = x := by
  have hS : SOK ⟨x, 0, 0, 0⟩ := ⟨Int.le_refl _, by simp, hx.1, hx.2⟩
  obtain ⟨f, b, s', h1, h2, h3, h4, h5, h6, h7⟩ := take_both hS false
  have hlen : 0 < x.Fields.length := by
    have := (List.getElem?_eq_some_iff.1 (by simpa [atI] using hy)).1
    exact this
  have ht : gRS_take ⟨x, 0, 0, 0⟩ false = some (y, true, ⟨x, 1, 0, 0⟩) := by
    unfold gRS_take gRS_Left
    simp only [bne_self_eq_false, Bool.false_eq_true, if_false, Option.bind_some]
    have hl9 := hx.1
    rw [wr64 (x := (x.Fields.length : Int) - 0) (by omega), if_neg (by rw [beq_iff_eq]; omega), hy]
    simp only [Option.bind_some, hq, beq_self_eq_true, if_true]
    rfl
  rw [ht] at h1
  simp only [Option.some.injEq, Prod.mk.injEq] at h1
  obtain ⟨rfl, rfl, rfl⟩ := h1
  unfold gRS_Word gLS_Choice
  rw [ht, h2]
  simp only [Option.bind_some, if_true]
  have hit : iter (gLS_Choice_s1 [y.Text] (y.Text, true, toP ⟨x, 1, 0, 0⟩)) 0 = some (Sum.inl 0) := by
    refine iter_idx 0 (by omega) (fun _ => Sum.inl 0) (fun i hi => absurd hi (by omega)) ?_
    unfold gLS_Choice_s1
    rw [if_pos (by simp)]
    show (some y.Text).bind _ = _
    simp
  rw [hit]
  exact ⟨_, rfl, rfl, h3, rfl⟩
theorem head_both {x : T_api_Line} (hx : x.Fields.length ≤ 1000 ∧ ∀ f ∈ x.Fields, f.Text.length ≤ 1000) (hne : x.Fields ≠ []) : ∃ t r d g b, g_ref44_head x = some (⟨t, r, d, []⟩, g, b) ∧ g_edl_head x = some (⟨t, r, d, []⟩, if b then [g] else []) ∧ (0 ≤ r ∧ r ≤ 255) ∧ t.length ≤ 1000 ∧ (b = true → g.Line = x.Number ∧ g.Code ≠ 0) := by
  unfold g_ref44_head g_edl_head
  obtain ⟨y, hy⟩ : ∃ y, atI x.Fields 0 = some y := by
    cases hf : x.Fields with
    | nil => exact absurd hf hne
    | cons y l => exact ⟨y, rfl⟩
  rw [hy]
  simp only [Option.bind_some]
  by_cases hw : y.Quoted = true ∨ y.Text ≠ [69, 68, 76]
  · have hv : (if y.Quoted = true then some true else some (!(y.Text == ([69, 68, 76] : List UInt8))) : Option Bool) = some true := by
      by_cases hq : y.Quoted = true
      · simp [hq]
      · have : y.Text ≠ [69, 68, 76] := by rcases hw with h | h
                                           · exact absurd h hq
                                           · exact h
        simp [hq, this]
    rw [hv]
    exact ⟨_, _, _, _, true, rfl, rfl, by omega, by simp, fun _ => ⟨rfl, show (8 : Int) ≠ 0 by decide⟩⟩
  · have hq : y.Quoted = false := by
      cases h : y.Quoted
      · rfl
      · exact absurd (.inl h) hw
    have ht : y.Text = [69, 68, 76] := by
      by_cases h : y.Text = [69, 68, 76]
      · exact h
      · exact absurd (.inr h) hw
    have hv : (if y.Quoted = true then some true else some (!(y.Text == ([69, 68, 76] : List UInt8))) : Option Bool) = some false := by simp [hq, ht]
    rw [hv]
    obtain ⟨s1, a1, b1, c1, e1⟩ := first_word hx hy hq
    have hP : toP ⟨x, 0, 0, 0⟩ = ⟨x, 0, 0, ⟨0, 0, 0⟩⟩ := by unfold toP lastC; simp
    rw [hP, ht] at b1
    unfold g_ref07_Scan g_lines_Scan
    rw [if_pos (by omega)]
    simp only [Option.bind_some, Bool.false_eq_true, if_false, a1, b1]
    obtain ⟨w2, s2, a2, b2, c2, e2, l2⟩ := quoted_both c1
    simp only [a2, b2, Option.bind_some]
    obtain ⟨w3, s3, a3, b3, c3, e3, l3⟩ := word_both c2
    simp only [a3, b3, Option.bind_some, rate_Parse, ref_rate_Parse]
    have tail : ∀ {s4 : TRS} (c4 : SOK s4) (h4 : s4.Line = x) (r : Int) (hr : 0 ≤ r ∧ r ≤ 255), ∃ d g b, ((gRS_Choice s4 [[68, 82, 79, 80], [78, 68, 70]]).bind fun r58 => (((if (r58.1 == 0) then ((g_ref02_CanDrop r).bind fun r67 => (some (!r67))) else (some false)) : Option (Bool)).bind fun v64 => (if v64 then ((gRS_Fail r58.2 13).bind fun r72 => ((gRS_End r72).bind fun r78 => (if r78.2.1 then (some ((TRL.mk [] 0 false []), r78.1, true)) else (some ((TRL.mk w2 r (r58.1 == 0) []), (T_api_Diag.mk 0 0 0), false))))) else ((gRS_End r58.2).bind fun r91 => (if r91.2.1 then (some ((TRL.mk [] 0 false []), r91.1, true)) else (some ((TRL.mk w2 r (r58.1 == 0) []), (T_api_Diag.mk 0 0 0), false))))))) = some (if b then ⟨[], 0, false, []⟩ else ⟨w2, r, d, []⟩, g, b) ∧
        ((gLS_Choice (toP s4) [[68, 82, 79, 80], [78, 68, 70]]).bind fun r56 => (((if (r56.1 == 0) then ((g_timebase_CanDrop r).bind fun r65 => (some (!r65))) else (some false)) : Option (Bool)).bind fun v62 => (if v62 then ((gLS_Fail r56.2 13).bind fun r70 => ((gLS_End r70).bind fun r76 => (if r76.2.1 then (some ((T_edl_List.mk [] 0 false []), [r76.1])) else (some ((T_edl_List.mk w2 r (r56.1 == 0) []), []))))) else ((gLS_End r56.2).bind fun r89 => (if r89.2.1 then (some ((T_edl_List.mk [] 0 false []), [r89.1])) else (some ((T_edl_List.mk w2 r (r56.1 == 0) []), []))))))) = some (if b then ⟨[], 0, false, []⟩ else ⟨w2, r, d, []⟩, if b then [g] else []) ∧ (b = true → g.Line = x.Number ∧ g.Code ≠ 0) := by
      intro s4 c4 h4 r hr
      obtain ⟨i5, s5, a5, b5, c5, e5⟩ := choice_both c4 [[68, 82, 79, 80], [78, 68, 70]] (by simp)
      simp only [a5, b5, Option.bind_some, (rates hr).2.2.2.2.1, (rates hr).2.2.2.2.2.1]
      have hd : (if (i5 == 0) = true then some (!rDr r) else some false : Option Bool) = some ((i5 == 0) && !rDr r) := by cases (i5 == 0) <;> rfl
      rw [hd]
      simp only [Option.bind_some]
      cases hq : ((i5 == 0) && !rDr r)
      · simp only [Bool.false_eq_true, if_false]
        obtain ⟨g, b, a6, b6, h6, h7⟩ := end_both c5
        simp only [a6, b6, Option.bind_some]
        refine ⟨(i5 == 0), g, b, ?_, ?_, fun hb => ⟨by rw [(h6 hb).1, e5, h4], (h6 hb).2⟩⟩
        · cases b with
          | true => rfl
          | false => rw [(h7 rfl).1]; rfl
        · cases b <;> rfl
      · simp only [if_true]
        obtain ⟨s6, a6, b6, c6, e6, _, _⟩ := fail_both c5 13
        simp only [a6, b6, Option.bind_some]
        obtain ⟨g, b, a7, b7, h6, h7⟩ := end_both c6
        simp only [a7, b7, Option.bind_some]
        refine ⟨(i5 == 0), g, b, ?_, ?_, fun hb => ⟨by rw [(h6 hb).1, e6, e5, h4], (h6 hb).2⟩⟩
        · cases b with
          | true => rfl
          | false => rw [(h7 rfl).1]; rfl
        · cases b <;> rfl
    rcases rPs_cases w3 with ⟨p1, p2, p3⟩ | p
    · obtain ⟨s4, a4, b4, c4, e4, f4, f4'⟩ := fail_both c3 (rPs w3).2
      obtain rfl := f4' p3
      simp only [a4, Option.bind_some]
      rw [if_neg (by simp [p3])]
      obtain ⟨d, g, b, q1, q2, q3⟩ := tail c3 (by rw [e3, e2, e1]) (rPs w3).1 (by omega)
      rw [q1, q2]
      cases b with
      | true => exact ⟨_, _, _, _, true, rfl, rfl, by omega, by simp, q3⟩
      | false => exact ⟨_, _, _, _, false, rfl, rfl, by omega, l2, q3⟩
    · obtain ⟨s4, a4, b4, c4, e4, f4, f4'⟩ := fail_both c3 4
      rw [p]
      simp only [a4, b4, Option.bind_some]
      rw [if_pos (by decide)]
      obtain ⟨d, g, b, q1, q2, q3⟩ := tail c4 (by rw [e4, e3, e2, e1]) 0 (by omega)
      rw [q1, q2]
      cases b with
      | true => exact ⟨_, _, _, _, true, rfl, rfl, by omega, by simp, q3⟩
      | false => exact ⟨_, _, _, _, false, rfl, rfl, by omega, l2, q3⟩
end Go.Proofs.YtnjjdbljoligdaaGreatDoor
