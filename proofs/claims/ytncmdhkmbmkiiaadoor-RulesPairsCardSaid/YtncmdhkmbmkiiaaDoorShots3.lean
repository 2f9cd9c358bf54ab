/- The contract of the reference's Close of layer 37, and of both Snaps. Lists of int64 that read as a list. -/
import Derived.Test.YtncmdhkmbmkiiaaDoorShots2
namespace Go.Proofs.YtncmdhkmbmkiiaaDoor
open Go.RowKit

theorem suB_false {l : List Int} {f b a : Int} (h : suB l f b a = false) : ((shChk l != 0) = true) ∨ ((shChk l != 0) = false ∧ frB f = false) ∨ ((shChk l != 0) = false ∧ frB f = true ∧ frB b = false) ∨ ((shChk l != 0) = false ∧ frB f = true ∧ frB b = true ∧ frB a = false) := by
  unfold suB at h
  cases h1 : (shChk l == 0) <;> cases h2 : frB f <;> cases h3 : frB b <;> cases h4 : frB a <;> simp_all [bne]
theorem suB_true {l : List Int} {f b a : Int} (h : suB l f b a = true) : (shChk l != 0) = false ∧ frB f = true ∧ frB b = true ∧ frB a = true := by
  unfold suB at h
  cases h1 : (shChk l == 0) <;> cases h2 : frB f <;> cases h3 : frB b <;> cases h4 : frB a <;> simp_all [bne]

set_option maxHeartbeats 800000 in
theorem ref37_Close (A : Option Addr) (c : Nat) (l : List Int) (B : Nat) (f b a : Int) (w : World) (h : RdI w B A l) (hm : l.length ≤ 9223372036854775807) :
    Calls Tryd.prog 58 #[.slice A l.length c, .int .i64 f, .int .i64 b, .int .i64 a] w fun e w' => e = .returned (.tuple #[.int .i64 (clL l f b a).1, .bool (clL l f b a).2]) ∧ w = w' := by
  have H := Lib.hid h
  clear h
  cases h1 : suB l f b a with
  | false =>
    have HF : Hid (clL l f b a = (0, false)) := by simp [Hid, clL, h1]
    rcases suB_false h1 with h2 | ⟨h2, h3⟩ | ⟨h2, h3, h4⟩ | ⟨h2, h3, h4, h5⟩
    all_goals
      clear h1
      go_enter Tryd.func58, Tryd.ntmps58
      go_wp2_with (first | (go_at_call 81; refine (ref37_Check _ _ _ B _ H.out hm).mono ?_; rintro e w' ⟨rfl, rfl⟩) | (go_at_call 82; refine (ref37_frame _ _).mono ?_; rintro e w' ⟨rfl, rfl⟩))
      go_ret2
      exact ⟨ret_ib HF.out.symm, rfl⟩
  | true =>
    have HC : Hid (clL l f b a = tcL f b a (l.drop 0)) := by simp [Hid, clL, h1]
    obtain ⟨g1, g2, ⟨hf, hf'⟩, ⟨hb, hb'⟩, ⟨ha, ha'⟩⟩ := suB_parts h1
    have HL := Lib.hid g2
    obtain ⟨h2, h3, h4, h5⟩ := suB_true h1
    clear h1 g2
    go_enter Tryd.func58, Tryd.ntmps58
    go_wp2_with (first | (go_at_call 81; refine (ref37_Check _ _ _ B _ H.out hm).mono ?_; rintro e w' ⟨rfl, rfl⟩) | (go_at_call 82; refine (ref37_frame _ _).mono ?_; rintro e w' ⟨rfl, rfl⟩))
    clear h2 h3 h4 h5
    go_loop [8, 9, 11, 32] (fun _ _ _ i => ∃ k : Nat, k ≤ l.length ∧ i = .int .i64 k ∧ Hid (clL l f b a = tcL f b a (l.drop k))) (fun _ _ _ i => l.length - (intOf i).toNat)
    case atStart => exact ⟨0, Nat.zero_le _, rfl, HC⟩
    case round =>
      obtain ⟨k, hk, rfl, HK⟩ := hrel
      by_cases hlt : k < l.length
      · obtain ⟨bk, off, rfl, _, hc⟩ := H.out.at_ (show 0 < l.length by omega)
        have hck := hc k hlt
        have hst := tcL_step f b a l k hlt
        have hx := HL.out l[k] (List.getElem_mem hlt)
        obtain ⟨hx1, hx2⟩ := hx
        generalize l[k] = q at hck hst hx1 hx2
        clear hc
        by_cases ht : tcB f b a q = true
        · have hfin : clL l f b a = (q, true) := by rw [HK.out, hst, if_pos ht]
          have HF := Lib.hid hfin
          clear hfin hst HK HC
          unfold tcB at ht
          simp only [decide_eq_true_eq] at ht
          rcases ht with ⟨h1, h2⟩ | ⟨h1, h2⟩
          all_goals
            go_wp2
            go_ret2
            exact ⟨ret_ib HF.out.symm, rfl⟩
        · have hfin : clL l f b a = tcL f b a (l.drop (k + 1)) := by rw [HK.out, hst, if_neg ht]
          have HF := Lib.hid hfin
          clear hfin hst HK HC
          have h1 : ¬ (q - b < f ∧ f < q ∨ q < f ∧ f < q + a) := by simpa [tcB] using ht
          clear ht
          go_wp2
          all_goals first | (exfalso; omega) | skip
          all_goals
            go_round
            case rel => exact ⟨k + 1, by omega, by go_num, HF⟩
            case measure => simp [intOf]; omega
      · obtain rfl : k = l.length := by omega
        have hfin : clL l f b a = (0, false) := by rw [HK.out]; exact tcL_end f b a l
        have HF := Lib.hid hfin
        clear hfin HK HC
        go_wp2
        go_ret2
        exact ⟨ret_ib HF.out.symm, rfl⟩

/-- The places that Snap looks at, after k shot changes. -/
def snPl (l : List Int) (f b a : Int) (k : Nat) : List Int := f :: (l.take k).flatMap fun c => [c - b, c, c + a]
theorem snPl_zero (l : List Int) (f b a : Int) : snPl l f b a 0 = [f] := by simp [snPl]
theorem snPl_succ (l : List Int) (f b a : Int) (k : Nat) (h : k < l.length) : snPl l f b a (k + 1) = snPl l f b a k ++ [l[k] - b, l[k], l[k] + a] := by
  unfold snPl
  rw [List.take_succ_eq_append_getElem h, List.flatMap_append]
  rfl
theorem snPl_len (l : List Int) (f b a : Int) (k : Nat) (h : k ≤ l.length) : (snPl l f b a k).length = 1 + 3 * k := by
  have : ((l.take k).flatMap fun c => [c - b, c, c + a]).length = 3 * (l.take k).length := by
    generalize l.take k = m
    induction m with
    | nil => simp
    | cons x t ih => simp only [List.flatMap_cons, List.length_append, ih, List.length_cons, List.length_nil]; omega
  rw [snPl, List.length_cons, this, List.length_take]; omega
theorem snPl_all (l : List Int) (f b a : Int) : snPl l f b a l.length = snPlaces l f b a := by rw [snPl, snPlaces, List.take_length]

theorem snStep_ok (l : List Int) (f b a : Int) (st : Int × Bool) (p : Int) (h : 0 ≤ st.1 ∧ st.1 ≤ 5184000) : 0 ≤ (snStep l f b a st p).1 ∧ (snStep l f b a st p).1 ≤ 5184000 := by
  unfold snStep
  by_cases h1 : frB p = true
  · rw [if_pos h1]
    simp [frB] at h1
    split
    · exact h
    · split
      · exact h1
      · exact h
  · rw [if_neg h1]; exact h

/-- The state of Snap's search after k places. -/
def snSt (l : List Int) (f b a : Int) (P : List Int) (k : Nat) : Int × Bool := (P.take k).foldl (snStep l f b a) (0, false)
theorem snSt_succ (l : List Int) (f b a : Int) (P : List Int) (k : Nat) (h : k < P.length) : snSt l f b a P (k + 1) = snStep l f b a (snSt l f b a P k) P[k] := by
  rw [snSt, List.take_succ_eq_append_getElem h, List.foldl_append]; rfl
theorem snSt_ok (l : List Int) (f b a : Int) (P : List Int) : ∀ k, k ≤ P.length → 0 ≤ (snSt l f b a P k).1 ∧ (snSt l f b a P k).1 ≤ 5184000 := by
  intro k
  induction k with
  | zero => intro _; simp [snSt]
  | succ k ih => intro h; rw [snSt_succ _ _ _ _ _ _ (by omega)]; exact snStep_ok _ _ _ _ _ _ (ih (by omega))

theorem i64_info : (Tryd.prog.info? 2).map (fun i => (i.zero, i.size, i.bytes)) = some (some (.int .i64 0), 1, 8) := by kernel_rfl
end Go.Proofs.YtncmdhkmbmkiiaaDoor
