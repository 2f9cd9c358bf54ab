/- Texts of one proof, put together (Q8, Opn, Laid8, LQ1, LQ3). No condition but those that each theorem states. -/
import Derived.Test.YtedhognhhcihpaaGreatDoorX5
import Derived.Lib.Replace
import Derived.ProofKit
import Derived.OpenShut
import Derived.Deep.DeepHandedRow
import Derived.Lib.SmallJoins
import Derived.Deep.Slices
import Derived.Deep.Fields
import Derived.Test.YtedhognhhcihpaaGreatDoorCards
import Derived.Test.YtedhognhhcihpaaGreatDoorTie
import Derived.Lib.LaidTab
import Derived.Stop.LaidErr
import Derived.Lib.LaidIn
import Derived.Lib.LaidU8T
import Derived.Shelf.Vars
set_option linter.unusedSimpArgs false
set_option linter.unusedVariables false
namespace Go.Proofs.YtedhognhhcihpaaGreatDoor
set_option maxRecDepth 100000
def ntOK (n : List UInt8) : Prop := n.length ≤ 80 ∧ ∀ b ∈ n, 32 ≤ b.toNat ∧ b.toNat ≤ 126
theorem note_loop (n : List UInt8) : ∃ e, iter (g_law39_ProfileComments_s1 n) 0 = some e ∧ (e = .inr () → ntOK n) := by
  refine iter_post (fun x => ∃ i : Nat, x = (i : Int) ∧ i ≤ n.length ∧ (0 < i → n.length ≤ 80) ∧ ∀ j (h : j < n.length), j < i → 32 ≤ n[j].toNat ∧ n[j].toNat ≤ 126) (fun x => 81 - x.toNat) _ ⟨0, rfl, Nat.zero_le _, fun h => by omega, fun j _ h => by omega⟩ (by decide) ?_
  rintro x ⟨i, rfl, hi, h80, hg⟩
  unfold g_law39_ProfileComments_s1
  by_cases h : i < n.length
  · rw [if_pos (by simpa using h), atI_nat h]
    simp only [Option.bind_some]
    by_cases h1 : (n[i].toNat : Int) < 32
    · right; rw [if_pos (by simpa using h1)]; exact ⟨_, rfl, fun e => by cases e⟩
    · by_cases h2 : (126 : Int) < n[i].toNat
      · right; rw [if_neg (by simpa using h1), if_pos (by simpa using h2)]; exact ⟨_, rfl, fun e => by cases e⟩
      · by_cases h3 : (80 : Int) < n.length
        · right; rw [if_neg (by simpa using h1), if_neg (by simpa using h2), if_pos (by simpa using h3)]; exact ⟨_, rfl, fun e => by cases e⟩
        · left
          rw [if_neg (by simpa using h1), if_neg (by simpa using h2), if_neg (by simpa using h3), wr64 (by omega)]
          refine ⟨_, rfl, ⟨i + 1, rfl, h, fun _ => by omega, fun j hj hji => ?_⟩, by omega⟩
          by_cases e : j = i
          · subst e; omega
          · exact hg j hj (by omega)
  · right
    rw [if_neg (by simpa using h)]
    refine ⟨_, rfl, fun _ => ⟨?_, fun b hb => ?_⟩⟩
    · by_cases h0 : 0 < i
      · exact h80 h0
      · omega
    · obtain ⟨j, hj, rfl⟩ := List.getElem_of_mem hb
      exact hg j hj (by omega)
theorem index_line : ∀ (b t : List UInt8), (∀ x ∈ b, x.toNat ≠ 10) → Lib.index (b ++ 10 :: t) [10] = (b.length : Int)
  | [], t, _ => by simp [Lib.index]
  | c :: b, t, h => by
    have ih := index_line b t (fun x hx => h x (by simp [hx]))
    have hc : c ≠ 10 := fun e => h c (by simp) (by rw [e]; rfl)
    rw [List.cons_append]
    unfold Lib.index
    rw [ih]
    have hp : ([10] : List UInt8).isPrefixOf (c :: (b ++ 10 :: t)) = false := by simp [List.isPrefixOf, Ne.symm hc]
    rw [hp, if_neg (by decide), if_neg (by first | (simp; done) | (simp; omega)), List.length_cons]
    omega
theorem count_lines : ∀ (bs : List (List UInt8)) (fuel : Nat), (∀ b ∈ bs, ∀ x ∈ b, x.toNat ≠ 10) → bs.length ≤ fuel → Lib.countFrom [10] fuel (bs.flatMap fun b => b ++ [10]) = bs.length
  | [], 0, _, _ => rfl
  | [], fuel + 1, _, _ => by simp [Lib.countFrom, Lib.index]
  | b :: bs, 0, _, h => by simp at h
  | b :: bs, fuel + 1, hb, h => by
    have ih := count_lines bs fuel (fun c hc => hb c (by simp [hc])) (by simpa using h)
    rw [List.flatMap_cons, List.append_assoc, List.singleton_append]
    have hi := index_line b (bs.flatMap fun b => b ++ [10]) (hb b (by simp))
    rw [Lib.countFrom, hi, if_neg (by first | (simp; done) | (simp; omega))]
    have e : (b ++ 10 :: (bs.flatMap fun b => b ++ [10])).drop ((b.length : Int).toNat + ([10] : List UInt8).length) = bs.flatMap fun b => b ++ [10] := by
      simp
    rw [e, ih, List.length_cons]
    omega
theorem replaceK_lines (new : List UInt8) : ∀ (bs : List (List UInt8)), (∀ b ∈ bs, ∀ x ∈ b, x.toNat ≠ 10) → Lib.replaceK [10] new bs.length (bs.flatMap fun b => b ++ [10]) = bs.flatMap fun b => b ++ new
  | [], _ => rfl
  | b :: bs, hb => by
    rw [List.flatMap_cons, List.append_assoc, List.singleton_append, List.length_cons, Lib.replaceK_hit [10] new bs.length _ b.length (index_line b _ (hb b (by simp)))]
    have e : (b ++ 10 :: (bs.flatMap fun b => b ++ [10])).drop (b.length + ([10] : List UInt8).length) = bs.flatMap fun b => b ++ [10] := by
      simp
    rw [e, replaceK_lines new bs (fun c hc => hb c (by simp [hc]))]
    simp
theorem replace_lines {new : List UInt8} (hn : new ≠ [10]) (bs : List (List UInt8)) (hb : ∀ b ∈ bs, ∀ x ∈ b, x.toNat ≠ 10) : Lib.replaceAll (bs.flatMap fun b => b ++ [10]) [10] new = bs.flatMap fun b => b ++ new := by
  unfold Lib.replaceAll Lib.replace
  rw [if_neg (by simpa using fun e => hn e.symm)]
  have hc : Lib.replaceNum (bs.flatMap fun b => b ++ [10]) [10] (-1) = bs.length := by
    unfold Lib.replaceNum Lib.count
    rw [if_pos (.inl (by decide))]
    refine count_lines bs _ hb ?_
    have : ∀ bs : List (List UInt8), bs.length ≤ (bs.flatMap fun b => b ++ [10]).length := by
      intro bs
      induction bs with
      | nil => simp
      | cons b bs ih => simp only [List.flatMap_cons, List.length_append, List.length_cons, List.length_nil]; omega
    have := this bs
    omega
  rw [hc, replaceK_lines new bs hb]
theorem Replace_eq {new : List UInt8} (hn : new ≠ [10]) (hl : new.length ≤ 100) (bs : List (List UInt8)) (hb : ∀ b ∈ bs, ∀ x ∈ b, x.toNat ≠ 10) (hs : (bs.flatMap fun b => b ++ [10]).length ≤ 20000) (hs2 : (bs.flatMap fun b => b ++ new).length ≤ 200000) : g_strings_ReplaceAll (bs.flatMap fun b => b ++ [10]) [10] new = some (bs.flatMap fun b => b ++ new) := by
  unfold g_strings_ReplaceAll
  rw [replace_lines hn bs hb]
  have hc := Lib.countB_le ⟨([10] : List UInt8).toArray⟩ (by simp [ByteArray.size]) (bs.flatMap fun b => b ++ [10]).length ⟨(bs.flatMap fun b => b ++ [10]).toArray⟩ (by simp [ByteArray.size])
  have hc2 : Lib.countB ⟨(bs.flatMap fun b => b ++ [10]).toArray⟩ ⟨([10] : List UInt8).toArray⟩ ≤ 20000 := Nat.le_trans hc (by simpa [ByteArray.size] using hs)
  have hm : Lib.countB ⟨(bs.flatMap fun b => b ++ [10]).toArray⟩ ⟨([10] : List UInt8).toArray⟩ * new.length ≤ 20000 * 100 := Nat.mul_le_mul hc2 hl
  rw [if_pos ⟨by omega, by simp, by omega, by omega⟩]
def cmT (n : List UInt8) : List UInt8 := [32, 32, 35, 32] ++ n
theorem cmT_fS (n : List UInt8) (p : Nat) : fS (cmT n) p = .ok [] := by
  unfold cmT
  rw [show ([32, 32, 35, 32] ++ n : List UInt8) = 32 :: 32 :: 35 :: 32 :: n from rfl, fS_blank, fS_blank, fS_cons, if_neg (by decide), if_pos (by decide)]
theorem cmT_head (n : List UInt8) : (cmT n).head? = some 32 := rfl
theorem fS_wordsT {t : List UInt8} (ht : t.head? = some 32) (hq : ∀ q, fS t q = .ok []) : ∀ (ws : List (List UInt8)) (p : Nat), (∀ w ∈ ws, plainW w) → ws ≠ [] → fS (Lib.join ws [32] ++ t) p = .ok (fldsOf ws p)
  | [], p, _, h => absurd rfl h
  | [w], p, h, _ => by
    rw [Lib.join_one, fS_word (h w (by simp)) (.inr ht), hq]
    rfl
  | w :: v :: ws, p, h, _ => by
    have ih := fS_wordsT ht hq (v :: ws) (p + w.length + 1) (fun x hx => h x (by simp [hx])) (by simp)
    have e : Lib.join (w :: v :: ws) [32] ++ t = w ++ 32 :: (Lib.join (v :: ws) [32] ++ t) := by
      simp [Lib.join_cons, Lib.joinTail]
    rw [e, fS_word (h w (by simp)) (.inr rfl), fS_blank, ih]
    rfl
theorem lr_wordsT {n : List UInt8} {ws : List (List UInt8)} (hp : ∀ w ∈ ws, plainW w) (hne : ws ≠ []) (hl : (Lib.join ws [32] ++ cmT n).length ≤ 1000) (k : Nat) : lr k (Lib.join ws [32] ++ cmT n) = some (.inr ⟨((k + 1 : Nat) : Int), fldsOf ws 0⟩) := by
  unfold lr
  rw [if_neg (by omega), fS_wordsT (cmT_head n) (cmT_fS n) ws 0 hp hne]
  cases ws with
  | nil => exact absurd rfl hne
  | cons w ws => rfl
theorem fS_forbT {s t : List UInt8} (ht : t.head? = some 32) (hq0 : ∀ q, fS t q = .ok []) (hs : s.all plB = true) : ∃ c, fS ([70, 79, 82, 66, 73, 68, 68, 69, 78] ++ (32 :: (quS s ++ t))) 0 = .ok [⟨[70, 79, 82, 66, 73, 68, 68, 69, 78], 1, false⟩, ⟨s, c, true⟩] := by
  have h1 := fS_word (w := [70, 79, 82, 66, 73, 68, 68, 69, 78]) (t := 32 :: (quS s ++ t)) (p := 0) (by refine ⟨by simp, by decide, by decide⟩) (.inr rfl)
  rw [fS_blank] at h1
  obtain ⟨q, hq⟩ := fS_quote (s := s) (t := t) (p := 0 + 9 + 1) hs (.inr ht)
  rw [hq0] at hq
  rw [h1]
  rw [show 0 + ([70, 79, 82, 66, 73, 68, 68, 69, 78] : List UInt8).length + 1 = 0 + 9 + 1 from rfl, hq]
  exact ⟨_, rfl⟩
theorem spL_linesT {n : List UInt8} (hn : ∀ x ∈ n, x.toNat ≠ 10) : ∀ (bs : List (List UInt8)), (∀ b ∈ bs, ∀ x ∈ b, x.toNat ≠ 10) → spL (bs.flatMap fun b => b ++ (cmT n ++ [10, 10])) = (bs.flatMap fun b => [b ++ cmT n, []]) ++ [[]]
  | [], _ => by simp [spL]
  | b :: bs, h => by
    have hb : ∀ x ∈ b ++ cmT n, x.toNat ≠ 10 := by
      intro x hx
      rcases List.mem_append.1 hx with h1 | h1
      · exact h b (by simp) x h1
      · unfold cmT at h1
        rcases List.mem_append.1 h1 with h2 | h2
        · exact (by decide : ∀ x ∈ ([32, 32, 35, 32] : List UInt8), x.toNat ≠ 10) x h2
        · exact hn x h2
    have e : (b :: bs).flatMap (fun b => b ++ (cmT n ++ [10, 10])) = (b ++ cmT n) ++ 10 :: ([] ++ 10 :: (bs.flatMap fun b => b ++ (cmT n ++ [10, 10]))) := by simp
    rw [e, spL_app _ _ hb, spL_app _ _ (by simp), spL_linesT hn bs (fun c hc => h c (by simp [hc]))]
    rfl
theorem Comment_back {p : T_api_Profile} {n : List UInt8} (hn : ntOK n) (h : ckS p = 0) (h2 : (quS p.Forbidden).length ≤ 300) (h3 : p.Forbidden.length ≤ 1000) : (∀ b ∈ bdL p, ∀ x ∈ b, x.toNat ≠ 10) ∧ (∀ b ∈ bdL p, b.length ≤ 600) ∧ paS (([35, 32] ++ n ++ [10]) ++ (bdL p).flatMap fun b => b ++ (cmT n ++ [10, 10])) = (p, []) := by
  obtain ⟨hnm, hr, _, _, hgv, _⟩ := ck_ok h
  obtain ⟨a1, a2, a3, a4, a5, a6, a7, a8, a9, b1, b2, b3⟩ := hr
  have hnl := nm_len hnm
  have pn := plain_nm hnm
  have hn10 : ∀ x ∈ n, x.toNat ≠ 10 := fun x hx => by have := hn.2 x hx; omega
  have hcl : (cmT n).length ≤ 84 := by have := hn.1; unfold cmT; simp; omega
  have q0 := itoa_len (n := p.Reading) (by omega)
  have u0 := plain_itoa (n := p.Reading) (by omega)
  have q1 := itoa_len (n := p.MinFrames) (by omega)
  have u1 := plain_itoa (n := p.MinFrames) (by omega)
  have q2 := itoa_len (n := p.MaxFrames) (by omega)
  have u2 := plain_itoa (n := p.MaxFrames) (by omega)
  have q3 := itoa_len (n := p.MinGap) (by omega)
  have u3 := plain_itoa (n := p.MinGap) (by omega)
  have q4 := itoa_len (n := p.ShotBefore) (by omega)
  have u4 := plain_itoa (n := p.ShotBefore) (by omega)
  have q5 := itoa_len (n := p.ShotAfter) (by omega)
  have u5 := plain_itoa (n := p.ShotAfter) (by omega)
  have q6 := itoa_len (n := p.Rows) (by omega)
  have u6 := plain_itoa (n := p.Rows) (by omega)
  have q7 := itoa_len (n := p.Cols) (by omega)
  have u7 := plain_itoa (n := p.Cols) (by omega)
  have q8 := itoa_len (n := p.SafeTop) (by omega)
  have u8 := plain_itoa (n := p.SafeTop) (by omega)
  have q9 := itoa_len (n := p.SafeBottom) (by omega)
  have u9 := plain_itoa (n := p.SafeBottom) (by omega)
  have q10 := itoa_len (n := p.SafeLeft) (by omega)
  have u10 := plain_itoa (n := p.SafeLeft) (by omega)
  have q11 := itoa_len (n := p.SafeRight) (by omega)
  have u11 := plain_itoa (n := p.SafeRight) (by omega)
  have p0 : ∀ w ∈ ([[80, 82, 79, 70, 73, 76, 69], p.Name] : List (List UInt8)), plainW w := by
    intro w hw
    simp only [List.mem_cons, List.not_mem_nil, or_false] at hw
    rcases hw with rfl | rfl
    · exact plain_nm (by decide)
    · exact pn
  have l0 : (Lib.join [[80, 82, 79, 70, 73, 76, 69], p.Name] [32]).length ≤ 600 := by
    simp only [Lib.join_cons, Lib.joinTail, List.map_cons, List.map_nil, List.flatten_cons, List.flatten_nil, List.length_append, List.length_cons, List.length_nil]; omega
  have r0 := lr_wordsT (n := n) p0 (by simp) (by rw [List.length_append]; omega) 1
  have p1 : ∀ w ∈ ([[82, 69, 65, 68, 73, 78, 71], Lib.itoa p.Reading] : List (List UInt8)), plainW w := by
    intro w hw
    simp only [List.mem_cons, List.not_mem_nil, or_false] at hw
    rcases hw with rfl | rfl
    · exact plain_nm (by decide)
    · exact u0
  have l1 : (Lib.join [[82, 69, 65, 68, 73, 78, 71], Lib.itoa p.Reading] [32]).length ≤ 600 := by
    simp only [Lib.join_cons, Lib.joinTail, List.map_cons, List.map_nil, List.flatten_cons, List.flatten_nil, List.length_append, List.length_cons, List.length_nil]; omega
  have r1 := lr_wordsT (n := n) p1 (by simp) (by rw [List.length_append]; omega) 3
  have p2 : ∀ w ∈ ([[70, 82, 65, 77, 69, 83], Lib.itoa p.MinFrames, Lib.itoa p.MaxFrames] : List (List UInt8)), plainW w := by
    intro w hw
    simp only [List.mem_cons, List.not_mem_nil, or_false] at hw
    rcases hw with rfl | rfl | rfl
    · exact plain_nm (by decide)
    · exact u1
    · exact u2
  have l2 : (Lib.join [[70, 82, 65, 77, 69, 83], Lib.itoa p.MinFrames, Lib.itoa p.MaxFrames] [32]).length ≤ 600 := by
    simp only [Lib.join_cons, Lib.joinTail, List.map_cons, List.map_nil, List.flatten_cons, List.flatten_nil, List.length_append, List.length_cons, List.length_nil]; omega
  have r2 := lr_wordsT (n := n) p2 (by simp) (by rw [List.length_append]; omega) 5
  have p3 : ∀ w ∈ ([[71, 65, 80], Lib.itoa p.MinGap] : List (List UInt8)), plainW w := by
    intro w hw
    simp only [List.mem_cons, List.not_mem_nil, or_false] at hw
    rcases hw with rfl | rfl
    · exact plain_nm (by decide)
    · exact u3
  have l3 : (Lib.join [[71, 65, 80], Lib.itoa p.MinGap] [32]).length ≤ 600 := by
    simp only [Lib.join_cons, Lib.joinTail, List.map_cons, List.map_nil, List.flatten_cons, List.flatten_nil, List.length_append, List.length_cons, List.length_nil]; omega
  have r3 := lr_wordsT (n := n) p3 (by simp) (by rw [List.length_append]; omega) 7
  have p4 : ∀ w ∈ ([[83, 72, 79, 84, 83], Lib.itoa p.ShotBefore, Lib.itoa p.ShotAfter] : List (List UInt8)), plainW w := by
    intro w hw
    simp only [List.mem_cons, List.not_mem_nil, or_false] at hw
    rcases hw with rfl | rfl | rfl
    · exact plain_nm (by decide)
    · exact u4
    · exact u5
  have l4 : (Lib.join [[83, 72, 79, 84, 83], Lib.itoa p.ShotBefore, Lib.itoa p.ShotAfter] [32]).length ≤ 600 := by
    simp only [Lib.join_cons, Lib.joinTail, List.map_cons, List.map_nil, List.flatten_cons, List.flatten_nil, List.length_append, List.length_cons, List.length_nil]; omega
  have r4 := lr_wordsT (n := n) p4 (by simp) (by rw [List.length_append]; omega) 9
  have p5 : ∀ w ∈ ([[83, 73, 90, 69], Lib.itoa p.Rows, Lib.itoa p.Cols] : List (List UInt8)), plainW w := by
    intro w hw
    simp only [List.mem_cons, List.not_mem_nil, or_false] at hw
    rcases hw with rfl | rfl | rfl
    · exact plain_nm (by decide)
    · exact u6
    · exact u7
  have l5 : (Lib.join [[83, 73, 90, 69], Lib.itoa p.Rows, Lib.itoa p.Cols] [32]).length ≤ 600 := by
    simp only [Lib.join_cons, Lib.joinTail, List.map_cons, List.map_nil, List.flatten_cons, List.flatten_nil, List.length_append, List.length_cons, List.length_nil]; omega
  have r5 := lr_wordsT (n := n) p5 (by simp) (by rw [List.length_append]; omega) 11
  have p6 : ∀ w ∈ ([[83, 65, 70, 69], Lib.itoa p.SafeTop, Lib.itoa p.SafeBottom, Lib.itoa p.SafeLeft, Lib.itoa p.SafeRight] : List (List UInt8)), plainW w := by
    intro w hw
    simp only [List.mem_cons, List.not_mem_nil, or_false] at hw
    rcases hw with rfl | rfl | rfl | rfl | rfl
    · exact plain_nm (by decide)
    · exact u8
    · exact u9
    · exact u10
    · exact u11
  have l6 : (Lib.join [[83, 65, 70, 69], Lib.itoa p.SafeTop, Lib.itoa p.SafeBottom, Lib.itoa p.SafeLeft, Lib.itoa p.SafeRight] [32]).length ≤ 600 := by
    simp only [Lib.join_cons, Lib.joinTail, List.map_cons, List.map_nil, List.flatten_cons, List.flatten_nil, List.length_append, List.length_cons, List.length_nil]; omega
  have r6 := lr_wordsT (n := n) p6 (by simp) (by rw [List.length_append]; omega) 13
  obtain ⟨c, hc⟩ := fS_forbT (cmT_head n) (cmT_fS n) (gv_pl hgv)
  have l7 : ([70, 79, 82, 66, 73, 68, 68, 69, 78] ++ (32 :: quS p.Forbidden) : List UInt8).length ≤ 600 := by simp only [List.length_append, List.length_cons, List.length_nil]; omega
  have r7 : lr 15 (([70, 79, 82, 66, 73, 68, 68, 69, 78] ++ (32 :: quS p.Forbidden)) ++ cmT n) = some (.inr ⟨((15 + 1 : Nat) : Int), [⟨[70, 79, 82, 66, 73, 68, 68, 69, 78], 1, false⟩, ⟨p.Forbidden, c, true⟩]⟩) := by
    unfold lr
    rw [if_neg (by rw [List.length_append]; omega), show (([70, 79, 82, 66, 73, 68, 68, 69, 78] ++ (32 :: quS p.Forbidden)) ++ cmT n : List UInt8) = [70, 79, 82, 66, 73, 68, 68, 69, 78] ++ (32 :: (quS p.Forbidden ++ cmT n)) from by simp, hc]
  have hno : ∀ b ∈ bdL p, ∀ x ∈ b, x.toNat ≠ 10 := by
    intro b hb
    unfold bdL at hb
    simp only [List.mem_cons, List.not_mem_nil, or_false] at hb
    rcases hb with rfl | rfl | rfl | rfl | rfl | rfl | rfl | rfl
    · exact join_no10 _ p0
    · exact join_no10 _ p1
    · exact join_no10 _ p2
    · exact join_no10 _ p3
    · exact join_no10 _ p4
    · exact join_no10 _ p5
    · exact join_no10 _ p6
    · exact forb_no10 hgv
  have hbl : ∀ b ∈ bdL p, b.length ≤ 600 := by
    intro b hb
    unfold bdL at hb
    simp only [List.mem_cons, List.not_mem_nil, or_false] at hb
    rcases hb with rfl | rfl | rfl | rfl | rfl | rfl | rfl | rfl
    · exact l0
    · exact l1
    · exact l2
    · exact l3
    · exact l4
    · exact l5
    · exact l6
    · exact l7
  refine ⟨hno, hbl, ?_⟩
  have hsp : spL (([35, 32] ++ n ++ [10]) ++ (bdL p).flatMap fun b => b ++ (cmT n ++ [10, 10])) = ([35, 32] ++ n) :: (((bdL p).flatMap fun b => [b ++ cmT n, []]) ++ [[]]) := by
    rw [List.append_assoc, List.singleton_append, spL_app _ _ (by
      intro x hx
      rcases List.mem_append.1 hx with h1 | h1
      · exact (by decide : ∀ x ∈ ([35, 32] : List UInt8), x.toNat ≠ 10) x h1
      · exact hn10 x h1), spL_linesT hn10 _ hno]
  have hr0 : lr 0 ([35, 32] ++ n) = none := by
    unfold lr
    rw [if_neg (by have := hn.1; simp; omega), show ([35, 32] ++ n : List UInt8) = 35 :: 32 :: n from rfl, fS_cons, if_neg (by decide), if_pos (by decide)]
  have hlen : ¬ 262144 < (([35, 32] ++ n ++ [10]) ++ (bdL p).flatMap fun b => b ++ (cmT n ++ [10, 10])).length := by
    have := hn.1
    simp only [bdL, List.flatMap_cons, List.flatMap_nil, List.length_append, List.length_cons, List.length_nil]
    simp only [List.length_append, List.length_cons, List.length_nil] at l7
    omega
  have hS : splitS (([35, 32] ++ n ++ [10]) ++ (bdL p).flatMap fun b => b ++ (cmT n ++ [10, 10])) = ([⟨((1 + 1 : Nat) : Int), fldsOf [[80, 82, 79, 70, 73, 76, 69], p.Name] 0⟩, ⟨((3 + 1 : Nat) : Int), fldsOf [[82, 69, 65, 68, 73, 78, 71], Lib.itoa p.Reading] 0⟩, ⟨((5 + 1 : Nat) : Int), fldsOf [[70, 82, 65, 77, 69, 83], Lib.itoa p.MinFrames, Lib.itoa p.MaxFrames] 0⟩, ⟨((7 + 1 : Nat) : Int), fldsOf [[71, 65, 80], Lib.itoa p.MinGap] 0⟩, ⟨((9 + 1 : Nat) : Int), fldsOf [[83, 72, 79, 84, 83], Lib.itoa p.ShotBefore, Lib.itoa p.ShotAfter] 0⟩, ⟨((11 + 1 : Nat) : Int), fldsOf [[83, 73, 90, 69], Lib.itoa p.Rows, Lib.itoa p.Cols] 0⟩, ⟨((13 + 1 : Nat) : Int), fldsOf [[83, 65, 70, 69], Lib.itoa p.SafeTop, Lib.itoa p.SafeBottom, Lib.itoa p.SafeLeft, Lib.itoa p.SafeRight] 0⟩, ⟨((15 + 1 : Nat) : Int), [⟨[70, 79, 82, 66, 73, 68, 68, 69, 78], 1, false⟩, ⟨p.Forbidden, c, true⟩]⟩], []) := by
    unfold splitS
    rw [if_neg hlen, hsp]
    unfold bdL
    have r7' : lr 15 (70 :: 79 :: 82 :: 66 :: 73 :: 68 :: 68 :: 69 :: 78 :: 32 :: (quS p.Forbidden ++ cmT n)) = _ := r7
    have hr0' : lr 0 (35 :: 32 :: n) = none := hr0
    simp only [List.flatMap_cons, List.flatMap_nil, List.cons_append, List.nil_append, allR, hr0', r0, r1, r2, r3, r4, r5, r6, r7', accL, Nat.zero_add, Nat.reduceAdd, lr_nil, List.take_nil]
  have hL : lpS [⟨((1 + 1 : Nat) : Int), fldsOf [[80, 82, 79, 70, 73, 76, 69], p.Name] 0⟩, ⟨((3 + 1 : Nat) : Int), fldsOf [[82, 69, 65, 68, 73, 78, 71], Lib.itoa p.Reading] 0⟩, ⟨((5 + 1 : Nat) : Int), fldsOf [[70, 82, 65, 77, 69, 83], Lib.itoa p.MinFrames, Lib.itoa p.MaxFrames] 0⟩, ⟨((7 + 1 : Nat) : Int), fldsOf [[71, 65, 80], Lib.itoa p.MinGap] 0⟩, ⟨((9 + 1 : Nat) : Int), fldsOf [[83, 72, 79, 84, 83], Lib.itoa p.ShotBefore, Lib.itoa p.ShotAfter] 0⟩, ⟨((11 + 1 : Nat) : Int), fldsOf [[83, 73, 90, 69], Lib.itoa p.Rows, Lib.itoa p.Cols] 0⟩, ⟨((13 + 1 : Nat) : Int), fldsOf [[83, 65, 70, 69], Lib.itoa p.SafeTop, Lib.itoa p.SafeBottom, Lib.itoa p.SafeLeft, Lib.itoa p.SafeRight] 0⟩, ⟨((15 + 1 : Nat) : Int), [⟨[70, 79, 82, 66, 73, 68, 68, 69, 78], 1, false⟩, ⟨p.Forbidden, c, true⟩]⟩] 8 0 1 zP = .inr p := by
    refine (lp_step rfl (back_0 rfl hnm _)).trans ?_
    refine (lp_step rfl (back_1 rfl (by omega) _)).trans ?_
    refine (lp_step rfl (back_2 rfl (by omega) (by omega) _)).trans ?_
    refine (lp_step rfl (back_3 rfl (by omega) _)).trans ?_
    refine (lp_step rfl (back_4 rfl (by omega) (by omega) _)).trans ?_
    refine (lp_step rfl (back_5 rfl (by omega) (by omega) _)).trans ?_
    refine (lp_step rfl (back_6 rfl (by omega) (by omega) (by omega) (by omega) _)).trans ?_
    refine (lp_step rfl (back_7 rfl h3 _)).trans ?_
    rfl
  unfold paS
  rw [hS]
  dsimp only
  rw [if_pos rfl, hL]
  dsimp only
  rw [dif_neg (by simp), if_pos h]
theorem flat_lenE {M : Nat} (e : List UInt8) : ∀ (bs : List (List UInt8)), (∀ b ∈ bs, b.length ≤ M) → (bs.flatMap fun b => b ++ e).length ≤ bs.length * (M + e.length)
  | [], _ => by simp
  | b :: bs, h => by
    have ih := flat_lenE e bs (fun c hc => h c (by simp [hc]))
    have h1 := h b (by simp)
    rw [List.flatMap_cons, List.length_append, List.length_append, List.length_cons, Nat.succ_mul]
    omega
theorem ProfileComments_true (p : T_api_Profile) (n : List UInt8) : g_law39_ProfileComments p n = some true := by
  obtain ⟨l1, l2⟩ := smP_len p
  unfold g_law39_ProfileComments
  rw [awake39, small_eq]
  simp only [Option.bind_some, if_true]
  rw [prog_Text _ l1 l2]
  simp only [Option.bind_some]
  unfold tpS
  by_cases h : ckS (smP p) = 0
  · rw [if_pos h, if_neg (by simp)]
    obtain ⟨e, he, hno⟩ := note_loop n
    rw [he]
    cases e with
    | inl u => rfl
    | inr u =>
      have hnt := hno rfl
      have hn1 := hnt.1
      have hq : (quS (smP p).Forbidden).length ≤ 300 := by
        have h1 := qu_len (smP p).Forbidden
        have h2 : (smP p).Forbidden.length ≤ 40 := by simp only [smP, List.length_take]; omega
        unfold quS
        simp only [List.length_cons, List.length_append, List.length_nil]
        omega
      obtain ⟨k1, k2, k3⟩ := Comment_back hnt h hq l2
      have hb8 : (bdL (smP p)).length = 8 := rfl
      have f1 := flat_lenE (M := 600) [10] (bdL (smP p)) k2
      have hcl : (cmT n ++ [10, 10]).length ≤ 100 := by unfold cmT; simp; omega
      have f2 := flat_lenE (M := 600) (cmT n ++ [10, 10]) (bdL (smP p)) k2
      rw [hb8] at f1 f2
      simp only [List.length_cons, List.length_nil] at f1
      have hR := Replace_eq (new := cmT n ++ [10, 10]) (by unfold cmT; simp) hcl (bdL (smP p)) k1 (by omega) (by omega)
      simp only [Option.bind_some]
      rw [if_pos (by omega), if_pos (by omega), if_pos (by omega), if_pos (by omega), txt_bd]
      rw [show ([32, 32, 35, 32] ++ n ++ [10, 10] : List UInt8) = cmT n ++ [10, 10] from rfl, hR]
      simp only [Option.bind_some]
      rw [if_pos (by omega), (Parse_both _).1, k3]
      simp
  · rw [if_neg h, if_pos (by simpa using h)]
end Go.Proofs.YtedhognhhcihpaaGreatDoor
namespace Go.Proofs.YtedhognhhcihpaaGreatDoor
open Go.ChangeShapes Go.WideShapes Go.ChangeAt Go.RowKit Go.Joins
set_option maxRecDepth 100000
def FA (w : World) : Nat → Nat → Prop := fun b _ => b < w.heap.size
theorem FA_fb (w : World) : FB (cF (FA w)) w := fun _ _ h => h
theorem wf_inR {k : IntKind} {n : Int} (h : (Lit.int k n).wf = true) : inR k n := by
  simp only [Lit.wf, Bool.and_eq_true, decide_eq_true_eq] at h
  cases k <;> simp [IntKind.min, IntKind.max, IntKind.signed, IntKind.bits] at h <;> simp [inR, kLo, kHi] <;> omega
theorem strOfBytes (s : ByteArray) : (⟨s.data.toList.toArray⟩ : ByteArray) = s := by cases s; simp
theorem AFun.law {P : Program} {I : World → Prop} {f : FuncId} {ds : List D} (h : AFun P I f ds (.bool true)) {W : World} {args : List Value} (hI : I W) (hl : args.length = ds.length) (hr : ∀ (i : Nat) v d, args[i]? = some v → ds[i]? = some d → Rep W (cF (FA W)) v d) :
    Calls P f args.toArray W fun e w' => e = .returned (.bool true) ∧ Below W.heap.size W w' := by
  refine (h.2 W (FA W) args hI (FA_fb W) hl hr).mono ?_
  rintro e w' ⟨v, F', rfl, hb, _, _, _, hrep⟩
  cases hrep
  exact ⟨rfl, hb⟩
section
variable (H : Type) (enc : TypeId × Value → H) (P : Program)
def OpT {α : Type} (t : TypeId) (δ : α → D) : Prop :=
  ∀ (w : World) (fuel : Nat) (cs : List Value) (x : DataW H × List MemPlace), DataW.trod enc P w 0 (fun _ => true) true fuel t cs = some x → ∃ a : α, RepL (cF (FA w)) w cs (δ a).cells
def OpF {α : Type} (fs : List Field) (off : Nat) (γ : α → List D) : Prop :=
  ∀ (w : World) (fuel : Nat) (cs : List Value), off ≤ cs.length → (∀ f ∈ fs, ∃ x, DataW.trod enc P w 0 (fun _ => true) true fuel f.type ((cs.drop f.offset).take (P.cellsOf f.type)) = some x) → (fs = [] → cs.length = off) → (∀ f ∈ fs, f.offset + P.cellsOf f.type ≤ cs.length) → ((fs.map fun f => P.cellsOf f.type).sum + off = cs.length) → ∃ a : α, RepL (cF (FA w)) w (cs.drop off) (γ a)
end
section
variable {H : Type} {enc : TypeId × Value → H} {P : Program}
theorem OpT.int {t : TypeId} {k : IntKind} (ht : P.underlying t = some (.int k)) : OpT H enc P t (D.int k) := by
  intro w fuel cs x h
  obtain ⟨n, rfl, _, hw⟩ := DataW.trod_int ht h
  exact ⟨n, RepL.one1 rfl (.int _ _ (wf_inR hw))⟩
theorem OpT.bool {t : TypeId} (ht : P.underlying t = some .bool) : OpT H enc P t D.bool := by
  intro w fuel cs x h
  obtain ⟨n, rfl, _⟩ := DataW.trod_bool ht h
  exact ⟨n, RepL.one1 rfl (.bool _)⟩
theorem rep_strB {w : World} {C : Cx} (s : ByteArray) (h : s.size ≤ maxLen) : Rep w C (.string s) (.str s.data.toList) := by
  have := Rep.str (w := w) (C := C) s.data.toList (by rw [Array.length_toList]; exact h)
  rwa [strOfBytes] at this
theorem OpT.str {t : TypeId} (ht : P.underlying t = some .string) : OpT H enc P t D.str := by
  intro w fuel cs x h
  obtain ⟨s, rfl, _, hs⟩ := DataW.trod_string ht h
  exact ⟨s.data.toList, RepL.one1 rfl (rep_strB s hs)⟩
theorem OpT.map {α β : Type} {t : TypeId} {δ : α → D} {ε : β → D} (h : OpT H enc P t δ) (φ : α → β) (hφ : ∀ a, ε (φ a) = δ a) : OpT H enc P t ε := by
  intro w fuel cs x hx
  obtain ⟨a, ha⟩ := h w fuel cs x hx
  exact ⟨φ a, by rw [hφ]; exact ha⟩
theorem OpF.nil {off : Nat} : OpF H enc P [] off (fun _ : Unit => []) := by
  intro w fuel cs h1 h2 h3 h4 h5
  refine ⟨(), ?_⟩
  rw [List.drop_eq_nil_of_le (by have := h3 rfl; omega)]
  exact RepL.nil
theorem OpF.cons {α β : Type} {f : Field} {fs : List Field} {off : Nat} {δ : α → D} {γ : β → List D} (ho : f.offset = off) (h : OpT H enc P f.type δ) (hr : OpF H enc P fs (off + P.cellsOf f.type) γ) : OpF H enc P (f :: fs) off (fun p : α × β => (δ p.1).cells ++ γ p.2) := by
  intro w fuel cs h1 h2 h3 h4 h5
  subst ho
  obtain ⟨x, hx⟩ := h2 f (by simp)
  obtain ⟨a, ha⟩ := h w fuel _ x hx
  have hlen : f.offset + P.cellsOf f.type ≤ cs.length := h4 f (by simp)
  simp only [List.map_cons, List.sum_cons] at h5
  obtain ⟨b, hb⟩ := hr w fuel cs hlen (fun g hg => h2 g (by simp [hg])) (fun e => by subst e; simp at h5; omega) (fun g hg => h4 g (by simp [hg])) (by omega)
  refine ⟨(a, b), ?_⟩
  have := ha.append hb
  rw [show (cs.drop f.offset).take (P.cellsOf f.type) ++ cs.drop (f.offset + P.cellsOf f.type) = cs.drop f.offset by rw [← List.drop_drop]; exact List.take_append_drop _ _] at this
  exact this
theorem OpT.struct {α β : Type} {t : TypeId} {fs : Array Field} {γ : α → List D} {ε : β → D} (ht : P.underlying t = some (.struct fs)) (hoff : (fs.toList.all fun f => decide (f.offset + P.cellsOf f.type ≤ P.cellsOf t)) = true) (hsum : (fs.toList.map fun f => P.cellsOf f.type).sum = P.cellsOf t) (h : OpF H enc P fs.toList 0 γ) (φ : α → β) (hφ : ∀ a, (ε (φ a)).cells = γ a) : OpT H enc P t ε := by
  intro w fuel cs x hx
  obtain ⟨xs, n, _, _, hl, hxl, hf⟩ := DataW.trod_struct ht hx
  obtain ⟨a, ha⟩ := h w n cs (Nat.zero_le _) (fun f hf' => by
    obtain ⟨i, hi, rfl⟩ := List.getElem_of_mem hf'
    have hi' : fs[i]? = some fs.toList[i] := by simp at hi ⊢
    have := hf i _ hi'
    rw [List.getElem?_eq_getElem (by rw [hxl]; simpa using hi)] at this
    exact ⟨_, this⟩) (fun e => by rw [e] at hsum; simp at hsum; omega) (fun f hf' => by have := List.all_eq_true.1 hoff f hf'; simp at this; omega) (by omega)
  refine ⟨φ a, ?_⟩
  rw [hφ]
  simpa using ha
theorem addr_addO (b o i : Nat) : (⟨b, o, none⟩ : Addr).add i = ⟨b, o + i, none⟩ := by
  unfold Addr.add
  split
  · rename_i e; subst e; rfl
  · rfl
theorem rows_of {w : World} {b off k : Nat} {α : Type} {δ : α → D} (hk : ∀ a, (δ a).cells.length = k) : ∀ (n : Nat) (s : Nat), (∀ i, i < n → ∃ cs', (∀ j, j < k → w.cell? ⟨b, off + (s + i) * k + j, none⟩ = cs'[j]?) ∧ cs'.length = k ∧ ∃ a : α, RepL (cF (FA w)) w cs' (δ a).cells) →
    ∃ (l : List α) (vals : List Value), l.length = n ∧ vals.length = n * k ∧ RepL (cF (FA w)) w vals ((l.map δ).flatMap D.cells) ∧ ∀ (i : Nat) v, vals[i]? = some v → w.cell? ⟨b, off + s * k + i, none⟩ = some v := by
  intro n
  induction n with
  | zero => intro s _; exact ⟨[], [], rfl, by simp, RepL.nil, by simp⟩
  | succ n ih =>
    intro s h
    obtain ⟨cs, hc, hcl, a, ha⟩ := h 0 (by omega)
    obtain ⟨l, vals, h1, h2, h3, h4⟩ := ih (s + 1) (fun i hi => by
      obtain ⟨cs', hh⟩ := h (i + 1) (by omega)
      refine ⟨cs', ?_⟩
      rw [show s + 1 + i = s + (i + 1) by omega]
      exact hh)
    refine ⟨a :: l, cs ++ vals, by simp [h1], by rw [List.length_append, hcl, h2, Nat.add_mul]; omega, ?_, ?_⟩
    · simp only [List.map_cons, List.flatMap_cons]
      exact ha.append h3
    · intro i v hv
      by_cases hi : i < k
      · rw [List.getElem?_append_left (by omega)] at hv
        have := hc i hi
        rw [Nat.add_zero] at this
        rw [this, hv]
      · rw [List.getElem?_append_right (by omega)] at hv
        have := h4 _ v hv
        rw [hcl] at this
        rw [← this]
        congr 2
        rw [Nat.add_mul]
        omega
theorem OpT.slice {α : Type} {t e : TypeId} {δ : α → D} (ht : P.underlying t = some (.slice e)) (hpos : 0 < P.cellsOf e) (hk : ∀ a, (δ a).cells.length = P.cellsOf e) (h : OpT H enc P e δ) : OpT H enc P t (fun l : List α => D.sl (l.map δ)) := by
  intro w fuel cs x hx
  rcases Deep.open_slice ht hx with ⟨rfl, _⟩ | ⟨a, len, cap, m, n, Dd, Pl, rfl, hb, hl, hm, hmm, _, hel⟩
  · exact ⟨[], RepL.one1 rfl (.sl0 _ _ (Nat.zero_le _))⟩
  · simp only [if_true] at hmm
    subst hmm
    by_cases h0 : len = 0
    · subst h0
      exact ⟨[], RepL.one1 rfl (.sl0 _ _ hm)⟩
    · obtain ⟨b, off, spot⟩ := a
      obtain ⟨c0, hc0, _⟩ := hel 0 (by omega)
      obtain ⟨_, hl0, hg0⟩ := World.cells?_some hc0
      have hcell0 := hg0 0 hpos
      have hx0 : c0[0]? = some (c0[0]'(by omega)) := List.getElem?_eq_getElem _
      rw [hx0] at hcell0
      have hspot : spot = none := by simpa [Addr.add] using World.cell?_spot hcell0
      subst hspot
      have hbl : b < w.heap.size := by
        rcases Nat.lt_or_ge b w.heap.size with h1 | h1
        · exact h1
        · simp [Addr.add, World.cell?, Array.getElem?_eq_none h1] at hcell0
      obtain ⟨l, vals, h1, h2, h3, h4⟩ := rows_of (w := w) (b := b) (off := off) (k := P.cellsOf e) hk len 0 (fun i hi => by
        obtain ⟨cs', hc', ht'⟩ := hel i (by omega)
        obtain ⟨_, hl', hg'⟩ := World.cells?_some hc'
        refine ⟨cs', fun j hj => ?_, hl', h w n cs' _ ht'⟩
        have := hg' j hj
        rw [addr_addO, addr_addO] at this
        rw [← this]
        simp)
      refine ⟨l, RepL.one1 rfl ?_⟩
      have hkk : ∀ x ∈ l.map δ, x.cells.length = P.cellsOf e := fun x hx => by obtain ⟨y, _, rfl⟩ := List.mem_map.1 hx; exact hk y
      have := Rep.sl (w := w) (C := cF (FA w)) b off (P.cellsOf e) m (l.map δ) vals (by simp [h1]; omega) hm hkk h3.len h3.one (fun _ _ => hbl) (fun i v hv => by have := h4 i v hv; simpa using this) (fun i v d hv hd => h3.rep i v d hv hd)
      rw [List.length_map, h1] at this
      exact this
theorem arr_rows {α : Type} {e : TypeId} {δ : α → D} (h : OpT H enc P e δ) (w : World) (fuel : Nat) (cs : List Value) (k : Nat) : ∀ (n s : Nat), (∀ i, s ≤ i → i < s + n → ∃ x, DataW.trod enc P w 0 (fun _ => true) true fuel e ((cs.drop (i * k)).take k) = some x) → cs.length = (s + n) * k →
    ∃ l : List α, l.length = n ∧ RepL (cF (FA w)) w (cs.drop (s * k)) (l.flatMap fun a => (δ a).cells) := by
  intro n
  induction n with
  | zero => intro s _ hl; exact ⟨[], rfl, by rw [List.drop_eq_nil_of_le (by rw [hl]; exact Nat.le_refl _)]; exact RepL.nil⟩
  | succ n ih =>
    intro s hx hl
    obtain ⟨x, hx0⟩ := hx s (by omega) (by omega)
    obtain ⟨a, ha⟩ := h w fuel _ x hx0
    obtain ⟨l, hll, hr⟩ := ih (s + 1) (fun i h1 h2 => hx i (by omega) (by omega)) (by rw [hl]; congr 1; omega)
    refine ⟨a :: l, by simp [hll], ?_⟩
    have := ha.append hr
    rw [show (cs.drop (s * k)).take k ++ cs.drop ((s + 1) * k) = cs.drop (s * k) by rw [show (s + 1) * k = s * k + k by rw [Nat.add_mul]; omega, ← List.drop_drop]; exact List.take_append_drop _ _] at this
    exact this
theorem OpT.array {α β : Type} {t e : TypeId} {n : Nat} {δ : α → D} {ε : β → D} (ht : P.underlying t = some (.array n e)) (hc : P.cellsOf t = n * P.cellsOf e) (h : OpT H enc P e δ) (φ : (l : List α) → l.length = n → β) (hφ : ∀ l h, (ε (φ l h)).cells = l.flatMap fun a => (δ a).cells) : OpT H enc P t ε := by
  intro w fuel cs x hx
  obtain ⟨xs, m, _, _, hl, hxl, hf⟩ := DataW.trod_array ht hx
  obtain ⟨l, hll, hr⟩ := arr_rows h w m cs (P.cellsOf e) n 0 (fun i _ hi => by
    have := hf i (by omega)
    rw [List.getElem?_eq_getElem (by omega)] at this
    exact ⟨_, this⟩) (by rw [hl, hc, Nat.zero_add])
  refine ⟨φ l hll, ?_⟩
  rw [hφ]
  simpa using hr
theorem OpT.arg1 {α : Type} {t : TypeId} {δ : α → D} (h : OpT H enc P t δ) {w : World} {v : Value} {d : DataW H} {p : List MemPlace} (hv : v.cells = #[v]) (hδ : ∀ a, (δ a).cells = [δ a]) (ht : DataW.Trod enc P w 0 (fun _ => true) true t v d p) : ∃ a, Rep w (cF (FA w)) v (δ a) := by
  obtain ⟨fuel, hf⟩ := ht
  obtain ⟨a, ha⟩ := h w fuel _ _ hf
  refine ⟨a, ?_⟩
  rw [hv, hδ] at ha
  exact ha.rep 0 v (δ a) rfl rfl
theorem OpT.argS {α : Type} {t : TypeId} {δ : α → D} {cs : Array Value} (h : OpT H enc P t δ) {w : World} {d : DataW H} {p : List MemPlace} (hδ : ∀ a, ∃ ds, δ a = .agg ds) (ht : DataW.Trod enc P w 0 (fun _ => true) true t (.agg cs) d p) : ∃ a, Rep w (cF (FA w)) (.agg cs) (δ a) := by
  obtain ⟨fuel, hf⟩ := ht
  obtain ⟨a, ha⟩ := h w fuel _ _ hf
  refine ⟨a, ?_⟩
  obtain ⟨ds, hd⟩ := hδ a
  rw [hd] at ha ⊢
  have := ha.agg
  simpa [Value.cells, D.cells] using this
theorem OpT.argStr {α : Type} {t : TypeId} {δ : α → D} (ht : P.underlying t = some .string) (h : OpT H enc P t δ) (hδ : ∀ a, (δ a).cells = [δ a]) {w : World} {r : Reach} {b0 : Nat} {v : Value} {d : DataW H} {p : List MemPlace} (hv : Value.okWide P w r b0 t v) (hd : DataW.Trod enc P w 0 (fun _ => true) true t v d p) : ∃ a, Rep w (cF (FA w)) v (δ a) := by
  obtain ⟨n, rfl⟩ := okWide_string ht hv
  exact h.arg1 rfl hδ hd
theorem OpT.argStruct {α : Type} {t : TypeId} {fs : Array Field} {δ : α → D} (ht : P.underlying t = some (.struct fs)) (h : OpT H enc P t δ) (hδ : ∀ a, ∃ ds, δ a = .agg ds) {w : World} {r : Reach} {b0 : Nat} {v : Value} {d : DataW H} {p : List MemPlace} (hv : Value.okWide P w r b0 t v) (hd : DataW.Trod enc P w 0 (fun _ => true) true t v d p) : ∃ a, Rep w (cF (FA w)) v (δ a) := by
  obtain ⟨_, rfl, _⟩ := okWide_struct ht hv
  exact h.argS hδ hd
end
end Go.Proofs.YtedhognhhcihpaaGreatDoor
namespace Go.Proofs.YtedhognhhcihpaaGreatDoor
open Go.ChangeShapes Go.WideShapes Go.ChangeAt Go.RowKit
set_option maxRecDepth 100000
theorem own : ownKnob Tryz.prog.godebug = none := by kernel_rfl
theorem laidOut : laidOutB Tryz.prog = true := by kernel_rfl
theorem standIn_all (ts : List TypeId) (h : ts.all (fun t => !(Tryz.prog.wantsStandIn t)) = true) (t : TypeId) (ht : t ∈ ts) : Tryz.pinned.checked.prog.wantsStandIn t = false := by
  have := List.all_eq_true.1 h t ht
  exact (show Tryz.prog.wantsStandIn t = false by simpa using this)
def putCells (cs : Array Value) : Obj → Obj
  | .cells _ t frozen => .cells cs t frozen
  | o => o
theorem gTabType : (Tryz.prog.globals[3]?).map (·.type) = some 157 := by kernel_rfl
theorem cellsTab : Tryz.prog.cellsOf 157 = 20 := by kernel_rfl
theorem cellsU64 : Tryz.prog.cellsOf 125 = 1 := by kernel_rfl
theorem laidPow : (Rows.laid_internal_strconv_uint64pow10 : DataW Unit) = Lib.tabData .u64 Lib.pow10Tab := by kernel_rfl
theorem tab_of8 {W : World} (h : laidMetH Tryz.prog [("math/bits.deBruijn32tab", Rows.laid_math_bits_deBruijn32tab), ("math/bits.deBruijn64tab", Rows.laid_math_bits_deBruijn64tab), ("internal/strconv.uint64pow10", Rows.laid_internal_strconv_uint64pow10), ("unicode/utf8.acceptRanges", Rows.laid_unicode_utf8_acceptRanges), ("strconv.ErrRange", Rows.laid_strconv_ErrRange), ("strconv.ErrSyntax", Rows.laid_strconv_ErrSyntax), ("unicode/utf8.first", Rows.laid_unicode_utf8_first)] W) : Tab W := by
  have h1 : laidMet Tryz.prog [("internal/strconv.uint64pow10", Rows.laid_internal_strconv_uint64pow10), ("unicode/utf8.acceptRanges", Rows.laid_unicode_utf8_acceptRanges), ("strconv.ErrRange", Rows.laid_strconv_ErrRange), ("strconv.ErrSyntax", Rows.laid_strconv_ErrSyntax), ("unicode/utf8.first", Rows.laid_unicode_utf8_first)] W := (laidMet.tail (laidMet.tail h))
  rw [laidPow] at h1
  exact Lib.tabIs_of_head (rest := [("unicode/utf8.acceptRanges", Rows.laid_unicode_utf8_acceptRanges), ("strconv.ErrRange", Rows.laid_strconv_ErrRange), ("strconv.ErrSyntax", Rows.laid_strconv_ErrSyntax), ("unicode/utf8.first", Rows.laid_unicode_utf8_first)]) gTab gTabType Tryz.underlying157 Tryz.underlying125 cellsU64 cellsTab h1
theorem starErr : "*" ++ "errors.errorString" = "*errors.errorString" := by decide
theorem rowErr (u : TypeId) (h : Tryz.prog.typeName? 3 u = some "*errors.errorString") : u = 179 :=
  typeName_ptr_named (nm := "errors.errorString") (by rw [starErr]; kernel_rfl) (by kernel_rfl) (by decide) u (by rw [starErr]; exact h)
theorem cellsErr : Tryz.prog.cellsOf 181 = 1 := by kernel_rfl
theorem cellsStr : Tryz.prog.cellsOf 9 = 1 := by kernel_rfl
theorem gErrSyntax : Tryz.prog.globalNamed "strconv.ErrSyntax" = some 6 := by kernel_rfl
theorem gErrSyntaxType : (Tryz.prog.globals[6]?).map (·.type) = some 92 := by kernel_rfl
theorem ErrSyntax_of8 {W : World} (h : laidMetH Tryz.prog [("math/bits.deBruijn32tab", Rows.laid_math_bits_deBruijn32tab), ("math/bits.deBruijn64tab", Rows.laid_math_bits_deBruijn64tab), ("internal/strconv.uint64pow10", Rows.laid_internal_strconv_uint64pow10), ("unicode/utf8.acceptRanges", Rows.laid_unicode_utf8_acceptRanges), ("strconv.ErrRange", Rows.laid_strconv_ErrRange), ("strconv.ErrSyntax", Rows.laid_strconv_ErrSyntax), ("unicode/utf8.first", Rows.laid_unicode_utf8_first)] W) : ∃ te pe, W.cell? ⟨6, 0, none⟩ = some (.iface te pe) := by
  have h1 : laidMet Tryz.prog [("strconv.ErrSyntax", Rows.laid_strconv_ErrSyntax), ("unicode/utf8.first", Rows.laid_unicode_utf8_first)] W := (laidMet.tail (laidMet.tail (laidMet.tail (laidMet.tail (laidMet.tail h)))))
  obtain ⟨a, s, hv, _, _, _⟩ := laid_sentinel h1 gErrSyntax gErrSyntaxType Tryz.underlying92 rowErr Tryz.underlying179 Tryz.underlying181 rfl rfl Tryz.underlying9 cellsErr cellsStr
  exact ⟨_, _, by simpa using World.var?_cell gErrSyntax hv 0⟩
theorem gErrRange : Tryz.prog.globalNamed "strconv.ErrRange" = some 7 := by kernel_rfl
theorem gErrRangeType : (Tryz.prog.globals[7]?).map (·.type) = some 92 := by kernel_rfl
theorem ErrRange_of8 {W : World} (h : laidMetH Tryz.prog [("math/bits.deBruijn32tab", Rows.laid_math_bits_deBruijn32tab), ("math/bits.deBruijn64tab", Rows.laid_math_bits_deBruijn64tab), ("internal/strconv.uint64pow10", Rows.laid_internal_strconv_uint64pow10), ("unicode/utf8.acceptRanges", Rows.laid_unicode_utf8_acceptRanges), ("strconv.ErrRange", Rows.laid_strconv_ErrRange), ("strconv.ErrSyntax", Rows.laid_strconv_ErrSyntax), ("unicode/utf8.first", Rows.laid_unicode_utf8_first)] W) : ∃ te pe, W.cell? ⟨7, 0, none⟩ = some (.iface te pe) := by
  have h1 : laidMet Tryz.prog [("strconv.ErrRange", Rows.laid_strconv_ErrRange), ("strconv.ErrSyntax", Rows.laid_strconv_ErrSyntax), ("unicode/utf8.first", Rows.laid_unicode_utf8_first)] W := (laidMet.tail (laidMet.tail (laidMet.tail (laidMet.tail h))))
  obtain ⟨a, s, hv, _, _, _⟩ := laid_sentinel h1 gErrRange gErrRangeType Tryz.underlying92 rowErr Tryz.underlying179 Tryz.underlying181 rfl rfl Tryz.underlying9 cellsErr cellsStr
  exact ⟨_, _, by simpa using World.var?_cell gErrRange hv 0⟩
theorem u8t_of8 {W : World} (h : laidMetH Tryz.prog [("math/bits.deBruijn32tab", Rows.laid_math_bits_deBruijn32tab), ("math/bits.deBruijn64tab", Rows.laid_math_bits_deBruijn64tab), ("internal/strconv.uint64pow10", Rows.laid_internal_strconv_uint64pow10), ("unicode/utf8.acceptRanges", Rows.laid_unicode_utf8_acceptRanges), ("strconv.ErrRange", Rows.laid_strconv_ErrRange), ("strconv.ErrSyntax", Rows.laid_strconv_ErrSyntax), ("unicode/utf8.first", Rows.laid_unicode_utf8_first)] W) : U8T W :=
  utf8Tabs_of_readsT (U8Types.of196 Tryz.laysValid) ⟨by kernel_rfl, by kernel_rfl, by kernel_rfl, by kernel_rfl, by kernel_rfl, by kernel_rfl, by kernel_rfl⟩ (Lib.laidMet.reads h (.tail _ (.tail _ (.tail _ (.tail _ (.tail _ (.tail _ (.head _)))))))) (Lib.laidMet.reads h (.tail _ (.tail _ (.tail _ (.head _)))))
theorem cell_keep {w w' : World} {g c : Nat} {v : Value} (h : w.cell? ⟨g, c, none⟩ = some v) (hb : Below w.heap.size w w') : w'.cell? ⟨g, c, none⟩ = some v := by
  have hlt : g < w.heap.size := by
    rcases Nat.lt_or_ge g w.heap.size with h1 | h1
    · exact h1
    · simp [World.cell?, Array.getElem?_eq_none h1] at h
  rw [World.cell?_of_block (hb.block g hlt)]
  exact h
theorem stabU8T : Stab U8T := fun w w' h hb => ⟨fun c hc => cell_keep (h.1 c hc) hb, fun i hi => ⟨cell_keep (h.2 i hi).1 hb, cell_keep (h.2 i hi).2 hb⟩⟩
theorem shp_of {W : World} (h : W.ShapedOpen Tryz.prog) : Shp W :=
  cell_of_shapedOpen_int (k := .i64) (t := 3) (zero := #[.int .i64 0]) h (of_decide_eq_true (by kernel_rfl)) (by kernel_rfl) rfl (by kernel_rfl) (by kernel_rfl) Tryz.underlying3
def Env8 (w : World) : Prop := Tab w ∧ Shp w ∧ PIv w ∧ U8T w
theorem stabEnv8 : Stab Env8 := fun w w' ⟨a, b, c, d⟩ hb => ⟨stabTab w w' a hb, stabShp w w' b hb, stabPIv w w' c hb, stabU8T w w' d hb⟩
theorem env_of8 {W : World} (h : laidMetH Tryz.prog [("math/bits.deBruijn32tab", Rows.laid_math_bits_deBruijn32tab), ("math/bits.deBruijn64tab", Rows.laid_math_bits_deBruijn64tab), ("internal/strconv.uint64pow10", Rows.laid_internal_strconv_uint64pow10), ("unicode/utf8.acceptRanges", Rows.laid_unicode_utf8_acceptRanges), ("strconv.ErrRange", Rows.laid_strconv_ErrRange), ("strconv.ErrSyntax", Rows.laid_strconv_ErrSyntax), ("unicode/utf8.first", Rows.laid_unicode_utf8_first)] W) (hs : W.ShapedOpen Tryz.prog) : Env8 W := ⟨tab_of8 h, shp_of hs, ⟨ErrSyntax_of8 h, ErrRange_of8 h⟩, u8t_of8 h⟩
noncomputable def low8 : Nat := (World.holding Tryz.prog default ⟨#[], #[], []⟩).heap.size
noncomputable def laidWorld8 (os : Os) : World :=
  { (World.holding Tryz.prog os ⟨#[.cells #[.string ⟨#[118, 97, 108, 117, 101, 32, 111, 117, 116, 32, 111, 102, 32, 114, 97, 110, 103, 101]⟩] 181, .cells #[.string ⟨#[105, 110, 118, 97, 108, 105, 100, 32, 115, 121, 110, 116, 97, 120]⟩] 181], #[], []⟩) with heap := ((((((((World.holding Tryz.prog os ⟨#[.cells #[.string ⟨#[118, 97, 108, 117, 101, 32, 111, 117, 116, 32, 111, 102, 32, 114, 97, 110, 103, 101]⟩] 181, .cells #[.string ⟨#[105, 110, 118, 97, 108, 105, 100, 32, 115, 121, 110, 116, 97, 120]⟩] 181], #[], []⟩).heap.modify 4 (putCells #[.int .u8 0, .int .u8 1, .int .u8 28, .int .u8 2, .int .u8 29, .int .u8 14, .int .u8 24, .int .u8 3, .int .u8 30, .int .u8 22, .int .u8 20, .int .u8 15, .int .u8 25, .int .u8 17, .int .u8 4, .int .u8 8, .int .u8 31, .int .u8 27, .int .u8 13, .int .u8 23, .int .u8 21, .int .u8 19, .int .u8 16, .int .u8 7, .int .u8 26, .int .u8 12, .int .u8 18, .int .u8 6, .int .u8 11, .int .u8 5, .int .u8 10, .int .u8 9])).modify 5 (putCells #[.int .u8 0, .int .u8 1, .int .u8 56, .int .u8 2, .int .u8 57, .int .u8 49, .int .u8 28, .int .u8 3, .int .u8 61, .int .u8 58, .int .u8 42, .int .u8 50, .int .u8 38, .int .u8 29, .int .u8 17, .int .u8 4, .int .u8 62, .int .u8 47, .int .u8 59, .int .u8 36, .int .u8 45, .int .u8 43, .int .u8 51, .int .u8 22, .int .u8 53, .int .u8 39, .int .u8 33, .int .u8 30, .int .u8 24, .int .u8 18, .int .u8 12, .int .u8 5, .int .u8 63, .int .u8 55, .int .u8 48, .int .u8 27, .int .u8 60, .int .u8 41, .int .u8 37, .int .u8 16, .int .u8 46, .int .u8 35, .int .u8 44, .int .u8 21, .int .u8 52, .int .u8 32, .int .u8 23, .int .u8 11, .int .u8 54, .int .u8 26, .int .u8 40, .int .u8 15, .int .u8 34, .int .u8 20, .int .u8 31, .int .u8 10, .int .u8 25, .int .u8 14, .int .u8 19, .int .u8 9, .int .u8 13, .int .u8 8, .int .u8 7, .int .u8 6])).modify 3 (putCells #[.int .u64 1, .int .u64 10, .int .u64 100, .int .u64 1000, .int .u64 10000, .int .u64 100000, .int .u64 1000000, .int .u64 10000000, .int .u64 100000000, .int .u64 1000000000, .int .u64 10000000000, .int .u64 100000000000, .int .u64 1000000000000, .int .u64 10000000000000, .int .u64 100000000000000, .int .u64 1000000000000000, .int .u64 10000000000000000, .int .u64 100000000000000000, .int .u64 1000000000000000000, .int .u64 10000000000000000000])).modify 1 (putCells #[.int .u8 128, .int .u8 191, .int .u8 160, .int .u8 191, .int .u8 128, .int .u8 159, .int .u8 144, .int .u8 191, .int .u8 128, .int .u8 143, .int .u8 0, .int .u8 0, .int .u8 0, .int .u8 0, .int .u8 0, .int .u8 0, .int .u8 0, .int .u8 0, .int .u8 0, .int .u8 0, .int .u8 0, .int .u8 0, .int .u8 0, .int .u8 0, .int .u8 0, .int .u8 0, .int .u8 0, .int .u8 0, .int .u8 0, .int .u8 0, .int .u8 0, .int .u8 0])).modify 7 (putCells #[.iface 179 (.pointer (some ⟨low8 + 0, 0, none⟩))])).modify 6 (putCells #[.iface 179 (.pointer (some ⟨low8 + 1, 0, none⟩))])).modify 0 (putCells (Pinned.utf8FirstZ.map fun (z : Nat) => Value.int .u8 (z : Int)).toArray)) }
end Go.Proofs.YtedhognhhcihpaaGreatDoor

namespace Go.Proofs.YtedhognhhcihpaaGreatDoor
set_option maxRecDepth 100000
theorem law_ProfileComments (p : T_api_Profile) (n : List UInt8) : AFun Tryz.prog Env8 6 [p.d, .str n] (.bool true) :=
  a_law39_ProfileComments stabEnv8 (fun _ h => h.2.2.1) (fun _ h => h.2.1) (fun _ h => h.1) (fun _ h => h.2.2.2) (ProfileComments_true p n)
end Go.Proofs.YtedhognhhcihpaaGreatDoor
