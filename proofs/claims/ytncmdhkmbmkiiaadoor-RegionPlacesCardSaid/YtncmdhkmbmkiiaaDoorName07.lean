/- Contracts of layer 7's Name, of the program and of the reference: the plain function nameB. -/
import Derived.Test.YtncmdhkmbmkiiaaDoorProg
import Derived.Test.YtncmdhkmbmkiiaaDoorBase
set_option linter.unusedSimpArgs false
set_option linter.unusedVariables false
namespace Go.Proofs.YtncmdhkmbmkiiaaDoor
open Go.RowKit

/-- A byte that may stand in a name behind the first one, as a number. -/
def nmByte (b : Int) : Bool := decide ((65 ≤ b ∧ b ≤ 90) ∨ (48 ≤ b ∧ b ≤ 57) ∨ b = 95 ∨ b = 45)
def upB (b : Int) : Bool := decide (65 ≤ b ∧ b ≤ 90)
/-- Is a string a name? -/
def nameB (s : List UInt8) : Bool := decide (1 ≤ s.length ∧ s.length ≤ 16) && (match s with | [] => false | c :: _ => upB c.toNat) && s.all fun c => nmByte c.toNat

theorem nameB_len {s : List UInt8} (h : ¬ (1 ≤ s.length ∧ s.length ≤ 16)) : nameB s = false := by simp [nameB, h]
theorem nameB_true {s : List UInt8} (h1 : 1 ≤ s.length) (h2 : s.length ≤ 16) (h3 : ∀ i (hi : i < s.length), nmByte s[i].toNat = true) (h4 : upB (s[0]'(by omega)).toNat = true) : nameB s = true := by
  cases s with
  | nil => simp at h1
  | cons c t =>
    simp only [nameB]
    rw [decide_eq_true ⟨h1, h2⟩, Bool.true_and, Bool.and_eq_true]
    refine ⟨h4, List.all_eq_true.2 fun x hx => ?_⟩
    obtain ⟨i, hi, rfl⟩ := List.getElem_of_mem hx
    exact h3 i hi
theorem nameB_bad {s : List UInt8} (i : Nat) (hi : i < s.length) (h : nmByte s[i].toNat = false) : nameB s = false := by
  have : (s.all fun c => nmByte c.toNat) = false := by
    rw [List.all_eq_false]
    exact ⟨s[i], List.getElem_mem hi, by simp [h]⟩
  simp [nameB, this]
theorem nameB_first {s : List UInt8} (hi : 0 < s.length) (h : upB s[0].toNat = false) : nameB s = false := by
  match s, hi with
  | c :: t, _ =>
    have : upB c.toNat = false := h
    simp [nameB, this]

set_option maxHeartbeats 1000000 in
theorem lines_Name (s : ByteArray) (w : World) (hs : s.size ≤ 9223372036854775807) :
    Calls Tryd.prog 51 #[.string s] w fun e w' => e = .returned (.bool (nameB s.data.toList)) ∧ w = w' := by
  have hsl : s.data.toList.length = s.size := Array.length_toList
  by_cases h1 : s.size < 1
  · have HR : Hid (nameB s.data.toList = false) := nameB_len (by omega)
    clear hsl
    go_enter Tryd.func51, Tryd.ntmps51
    go_wp2
    go_ret
    exact ⟨ret_bool HR.out.symm, rfl⟩
  · by_cases h2 : 16 < s.size
    · have HR : Hid (nameB s.data.toList = false) := nameB_len (by omega)
      clear hsl
      go_enter Tryd.func51, Tryd.ntmps51
      go_wp2
      go_ret
      exact ⟨ret_bool HR.out.symm, rfl⟩
    · have h3 : 0 < s.size := by omega
      have HF : upB s[0].toNat = false → nameB s.data.toList = false := fun h => nameB_first (s := s.data.toList) (by omega) h
      have HFH := Lib.hid HF
      clear HF
      by_cases h4 : ((s[0].toNat : Nat) : Int) < 65
      · have HR : Hid (nameB s.data.toList = false) := HFH.out (by simp [upB]; omega)
        go_enter Tryd.func51, Tryd.ntmps51
        go_wp2
        go_ret
        exact ⟨ret_bool HR.out.symm, rfl⟩
      · by_cases h5 : 90 < ((s[0].toNat : Nat) : Int)
        · have HR : Hid (nameB s.data.toList = false) := HFH.out (by simp [upB]; omega)
          go_enter Tryd.func51, Tryd.ntmps51
          go_wp2
          go_ret
          exact ⟨ret_bool HR.out.symm, rfl⟩
        · have HU : Hid (upB s[0].toNat = true) := by simp [Hid, upB]; omega
          have HSL := Lib.hid hsl
          clear HFH hsl
          go_enter Tryd.func51, Tryd.ntmps51
          go_wp2
          go_loop [2, 3, 4, 25] (fun _ _ _ i => ∃ k : Nat, k ≤ s.size ∧ i = .int .i64 k ∧ Hid (∀ j (hj : j < s.size), j < k → nmByte s[j].toNat = true)) (fun _ _ _ i => s.size - (intOf i).toNat)
          case atStart => exact ⟨0, Nat.zero_le _, rfl, fun j _ hj => absurd hj (by omega)⟩
          case round =>
            obtain ⟨k, hk, rfl, HK⟩ := hrel
            by_cases hlt : k < s.size
            · have HBAD : Hid (nmByte s[k].toNat = false → nameB s.data.toList = false) := fun h => nameB_bad (s := s.data.toList) k (by rw [HSL.out]; exact hlt) h
              cases hg : nmByte s[k].toNat with
              | true =>
                have HK1 : Hid (∀ j (hj : j < s.size), j < k + 1 → nmByte s[j].toNat = true) := by
                  intro j hj hjk
                  by_cases e : j = k
                  · subst e; exact hg
                  · exact HK.out j hj (by omega)
                have hg' : (65 ≤ ((s[k].toNat : Nat) : Int) ∧ ((s[k].toNat : Nat) : Int) ≤ 90) ∨ (48 ≤ ((s[k].toNat : Nat) : Int) ∧ ((s[k].toNat : Nat) : Int) ≤ 57) ∨ ((s[k].toNat : Nat) : Int) = 95 ∨ ((s[k].toNat : Nat) : Int) = 45 := by simpa [nmByte] using hg
                clear hg HBAD HK
                rcases hg' with ⟨g1, g2⟩ | ⟨g1, g2⟩ | g1 | g1
                all_goals
                  go_wp2
                  go_round
                  case rel => exact ⟨k + 1, by omega, by go_num, HK1⟩
                  case measure => simp [intOf]; omega
              | false =>
                have HR := Lib.hid (HBAD.out hg)
                have hg' : ¬ ((65 ≤ ((s[k].toNat : Nat) : Int) ∧ ((s[k].toNat : Nat) : Int) ≤ 90) ∨ (48 ≤ ((s[k].toNat : Nat) : Int) ∧ ((s[k].toNat : Nat) : Int) ≤ 57) ∨ ((s[k].toNat : Nat) : Int) = 95 ∨ ((s[k].toNat : Nat) : Int) = 45) := by simpa [nmByte] using hg
                have n1 : (((s[k].toNat : Nat) : Int) != 95) = true := by simp; omega
                have n2 : (((s[k].toNat : Nat) : Int) != 45) = true := by simp; omega
                have hc : ((s[k].toNat : Nat) : Int) < 48 ∨ (57 < ((s[k].toNat : Nat) : Int) ∧ ((s[k].toNat : Nat) : Int) < 65) ∨ 90 < ((s[k].toNat : Nat) : Int) := by omega
                clear hg hg' HBAD HK
                rcases hc with g1 | ⟨g1, g2⟩ | g1
                all_goals
                  go_wp2
                  go_ret
                  exact ⟨ret_bool HR.out.symm, rfl⟩
            · obtain rfl : k = s.size := by omega
              have HR : Hid (nameB s.data.toList = true) := nameB_true (by rw [HSL.out]; omega) (by rw [HSL.out]; omega) (fun i hi => HK.out i (by rw [HSL.out] at hi; exact hi) (by rw [HSL.out] at hi; exact hi)) HU.out
              go_wp2
              go_ret
              exact ⟨ret_bool HR.out.symm, rfl⟩

/-- The bytes before place k may stand in a name. -/
def NmInv (s : ByteArray) (k : Nat) : Prop := (∀ j (hj : j < s.size), j < k → nmByte s[j].toNat = true) ∧ (∀ h : 0 < s.size, 0 < k → upB s[0].toNat = true)

set_option maxHeartbeats 1000000 in
theorem ref07_Name (s : ByteArray) (w : World) (hs : s.size ≤ 9223372036854775807) :
    Calls Tryd.prog 52 #[.string s] w fun e w' => e = .returned (.bool (nameB s.data.toList)) ∧ w = w' := by
  have hsl : s.data.toList.length = s.size := Array.length_toList
  by_cases h1 : s.size < 1
  · have HR : Hid (nameB s.data.toList = false) := nameB_len (by omega)
    clear hsl
    go_enter Tryd.func52, Tryd.ntmps52
    go_wp2
    go_ret
    exact ⟨ret_bool HR.out.symm, rfl⟩
  · by_cases h2 : 16 < s.size
    · have HR : Hid (nameB s.data.toList = false) := nameB_len (by omega)
      clear hsl
      go_enter Tryd.func52, Tryd.ntmps52
      go_wp2
      go_ret
      exact ⟨ret_bool HR.out.symm, rfl⟩
    · have h3 : 0 < s.size := by omega
      have HFH : Hid (upB s[0].toNat = false → nameB s.data.toList = false) := fun h => nameB_first (s := s.data.toList) (by omega) h
      have HSL := Lib.hid hsl
      clear hsl
      go_enter Tryd.func52, Tryd.ntmps52
      go_wp2
      go_loop [2, 3, 4] (fun _ i _ => ∃ k : Nat, k ≤ s.size ∧ i = .int .i64 k ∧ NmInv s k) (fun _ i _ => s.size - (intOf i).toNat)
      case atStart => exact ⟨0, Nat.zero_le _, rfl, fun j _ hj => absurd hj (by omega), fun _ h => absurd h (by omega)⟩
      case round =>
        obtain ⟨k, hk, rfl, HK⟩ := hrel
        by_cases hlt : k < s.size
        · by_cases h0 : k = 0
          · subst h0
            cases hu : upB s[0].toNat with
            | true =>
              have HK1 : NmInv s (0 + 1) := by
                refine ⟨fun j hj hj1 => ?_, fun _ _ => hu⟩
                obtain rfl : j = 0 := by omega
                simp [upB] at hu
                simp [nmByte]; omega
              have hu' : 65 ≤ ((s[0].toNat : Nat) : Int) ∧ ((s[0].toNat : Nat) : Int) ≤ 90 := by simpa [upB] using hu
              obtain ⟨g1, g2⟩ := hu'
              clear hu HFH HK
              go_wp2
              go_round
              case rel => exact ⟨0 + 1, by omega, by go_num, HK1⟩
              case measure => simp [intOf]; omega
            | false =>
              have HR := Lib.hid (HFH.out hu)
              have hu' : ((s[0].toNat : Nat) : Int) < 65 ∨ (65 ≤ ((s[0].toNat : Nat) : Int) ∧ decide (((s[0].toNat : Nat) : Int) ≤ 90) = false) := by simp [upB] at hu; simp; omega
              clear hu HFH HK
              rcases hu' with g1 | ⟨g1, g2⟩
              all_goals
                go_wp2
                go_ret
                exact ⟨ret_bool HR.out.symm, rfl⟩
          · have HBAD : Hid (nmByte s[k].toNat = false → nameB s.data.toList = false) := fun h => nameB_bad (s := s.data.toList) k (by rw [HSL.out]; exact hlt) h
            have hk0 : ((k : Int) == 0) = false := by simp; omega
            cases hg : nmByte s[k].toNat with
            | true =>
              have HK1 : NmInv s (k + 1) := by
                refine ⟨fun j hj hjk => ?_, fun h _ => HK.2 h (by omega)⟩
                by_cases e : j = k
                · subst e; exact hg
                · exact HK.1 j hj (by omega)
              have hg' : (65 ≤ ((s[k].toNat : Nat) : Int) ∧ ((s[k].toNat : Nat) : Int) ≤ 90) ∨ (48 ≤ ((s[k].toNat : Nat) : Int) ∧ ((s[k].toNat : Nat) : Int) ≤ 57) ∨ ((s[k].toNat : Nat) : Int) = 95 ∨ ((s[k].toNat : Nat) : Int) = 45 := by simpa [nmByte] using hg
              clear hg HBAD HK HFH
              rcases hg' with ⟨g1, g2⟩ | ⟨g1, g2⟩ | g1 | g1
              all_goals
                go_wp2
                go_round
                case rel => exact ⟨k + 1, by omega, by go_num, HK1⟩
                case measure => simp [intOf]; omega
            | false =>
              have HR := Lib.hid (HBAD.out hg)
              have hg' : ¬ ((65 ≤ ((s[k].toNat : Nat) : Int) ∧ ((s[k].toNat : Nat) : Int) ≤ 90) ∨ (48 ≤ ((s[k].toNat : Nat) : Int) ∧ ((s[k].toNat : Nat) : Int) ≤ 57) ∨ ((s[k].toNat : Nat) : Int) = 95 ∨ ((s[k].toNat : Nat) : Int) = 45) := by simpa [nmByte] using hg
              have n1 : (((s[k].toNat : Nat) : Int) != 95) = true := by simp; omega
              have n2 : (((s[k].toNat : Nat) : Int) != 45) = true := by simp; omega
              have hc : ((s[k].toNat : Nat) : Int) < 48 ∨ (48 ≤ ((s[k].toNat : Nat) : Int) ∧ decide (((s[k].toNat : Nat) : Int) ≤ 57) = false ∧ ((s[k].toNat : Nat) : Int) < 65) ∨ (65 ≤ ((s[k].toNat : Nat) : Int) ∧ decide (((s[k].toNat : Nat) : Int) ≤ 90) = false ∧ decide (((s[k].toNat : Nat) : Int) ≤ 57) = false) := by simp only [decide_eq_false_iff_not]; omega
              clear hg hg' HBAD HK HFH
              rcases hc with g1 | ⟨g1, g2, g3⟩ | ⟨g1, g2, g3⟩
              all_goals
                go_wp2
                go_ret
                exact ⟨ret_bool HR.out.symm, rfl⟩
        · obtain rfl : k = s.size := by omega
          have HR : Hid (nameB s.data.toList = true) := nameB_true (by rw [HSL.out]; omega) (by rw [HSL.out]; omega) (fun i hi => HK.1 i (by rw [HSL.out] at hi; exact hi) (by rw [HSL.out] at hi; exact hi)) (HK.2 h3 (by omega))
          go_wp2
          go_ret
          exact ⟨ret_bool HR.out.symm, rfl⟩
end Go.Proofs.YtncmdhkmbmkiiaaDoor
