/- Texts of one proof, put together (M6, M7, Ma, N1, Opn, Laid8, LN1, M8, M9, M10, M11, M12, N2, LN2, M13, M14, LN3, LN). No condition but those that each theorem states. -/
import Derived.Test.YtnjjdbljoligdaaGreatDoorV5
import Derived.ProofKit
import Derived.OpenShut
import Derived.Deep.DeepHandedRow
import Derived.Lib.SmallJoins
import Derived.Deep.Slices
import Derived.Deep.Fields
import Derived.Test.YtnjjdbljoligdaaGreatDoorCards
import Derived.Test.YtnjjdbljoligdaaGreatDoorTie
import Derived.Lib.LaidTab
import Derived.Stop.LaidErr
import Derived.Lib.LaidIn
import Derived.Lib.LaidU8T
import Derived.Shelf.Vars
set_option linter.unusedSimpArgs false
set_option linter.unusedVariables false
namespace Go.Proofs.YtnjjdbljoligdaaGreatDoor
set_option maxRecDepth 100000
def lastS (c : T_api_Cut) : Int := c.Source + (c.Record.Out - 1 - c.Record.In) * c.Speed.Num / c.Speed.Den
def spOK (x : T_api_Ratio) : Prop := vR x = true ∧ 0 ≤ x.Num ∧ x.Num ≤ 8 ∧ x.Den ≤ 8
instance (x : T_api_Ratio) : Decidable (spOK x) := by unfold spOK; infer_instance
def cutE (day : Int) (c : T_api_Cut) : Int :=
  if isNm c.Reel = false then 5 else if c.Record.Out ≤ c.Record.In then 1 else if c.Record.In < 0 ∨ day ≤ c.Record.Out then 2
  else if ¬ spOK c.Speed then 3 else if c.Source < 0 ∨ day ≤ c.Source ∨ day ≤ lastS c then 2 else 0
theorem mul8 {x n : Int} (hx : 0 ≤ x ∧ x ≤ 5184000) (hn : 0 ≤ n ∧ n ≤ 8) : 0 ≤ x * n ∧ x * n ≤ 41472000 := by
  refine ⟨Int.mul_nonneg hx.1 hn.1, ?_⟩
  have := Int.mul_le_mul hx.2 hn.2 hn.1 (by omega)
  omega
theorem last_facts {day : Int} (hd : day ≤ 5184000) {c : T_api_Cut} (h2 : ¬ c.Record.Out ≤ c.Record.In) (h3 : ¬ (c.Record.In < 0 ∨ day ≤ c.Record.Out)) (h4 : spOK c.Speed) : (0 ≤ c.Record.Out - 1 - c.Record.In ∧ c.Record.Out - 1 - c.Record.In ≤ 5184000) ∧ (0 ≤ (c.Record.Out - 1 - c.Record.In) * c.Speed.Num ∧ (c.Record.Out - 1 - c.Record.In) * c.Speed.Num ≤ 41472000) ∧ 1 ≤ c.Speed.Den ∧ (0 ≤ (c.Record.Out - 1 - c.Record.In) * c.Speed.Num / c.Speed.Den ∧ (c.Record.Out - 1 - c.Record.In) * c.Speed.Num / c.Speed.Den ≤ 41472000) := by
  obtain ⟨a1, a2, a3, a4⟩ := h4
  have hin := vR_in a1
  unfold inP at hin
  have hx : 0 ≤ c.Record.Out - 1 - c.Record.In ∧ c.Record.Out - 1 - c.Record.In ≤ 5184000 := by omega
  have hm := mul8 hx ⟨a2, a3⟩
  refine ⟨hx, hm, by omega, Int.ediv_nonneg hm.1 (by omega), ?_⟩
  have := Int.ediv_le_self c.Speed.Den hm.1
  omega
theorem prog_last {day : Int} (hd : day ≤ 5184000) {c : T_api_Cut} (h2 : ¬ c.Record.Out ≤ c.Record.In) (h3 : ¬ (c.Record.In < 0 ∨ day ≤ c.Record.Out)) (h4 : spOK c.Speed) (h5 : 0 ≤ c.Source ∧ c.Source ≤ 5184000) : g_edl_last c = some (lastS c) := by
  obtain ⟨hx, hm, hden, hq⟩ := last_facts hd h2 h3 h4
  have h4' := h4
  obtain ⟨a1, a2, a3, a4⟩ := h4'
  unfold g_edl_last lastS
  rw [wr64 (x := c.Record.Out - 1) (by omega), wr64 (x := c.Record.Out - 1 - c.Record.In) (by omega), wr64 (x := (c.Record.Out - 1 - c.Record.In) * c.Speed.Num) (by omega), Quot_floor (by omega) (by omega)]
  simp only [Option.bind_some]
  rw [wr64 (by omega)]
theorem ref_last {day : Int} (hd : day ≤ 5184000) {c : T_api_Cut} (h2 : ¬ c.Record.Out ≤ c.Record.In) (h3 : ¬ (c.Record.In < 0 ∨ day ≤ c.Record.Out)) (h4 : spOK c.Speed) (h5 : 0 ≤ c.Source ∧ c.Source ≤ 5184000) : g_ref44_Played c (IntKind.i64.wrap (c.Record.Out - 1)) = some (lastS c) := by
  obtain ⟨hx, hm, hden, hq⟩ := last_facts hd h2 h3 h4
  unfold g_ref44_Played lastS
  rw [wr64 (x := c.Record.Out - 1) (by omega), wr64 (x := c.Record.Out - 1 - c.Record.In) (by omega), wr64 (x := (c.Record.Out - 1 - c.Record.In) * c.Speed.Num) (by omega), if_pos (by omega), Int.tdiv_eq_ediv_of_nonneg hm.1, wr64 (x := (c.Record.Out - 1 - c.Record.In) * c.Speed.Num / c.Speed.Den) (by omega), wr64 (by omega)]
theorem cut_tail {day : Int} (hd : day ≤ 5184000) (c : T_api_Cut) {lastF : Option Int} (hl : ¬ c.Record.Out ≤ c.Record.In → ¬ (c.Record.In < 0 ∨ day ≤ c.Record.Out) → spOK c.Speed → 0 ≤ c.Source ∧ c.Source ≤ 5184000 → lastF = some (lastS c)) :
    (if isNm c.Reel then (if (decide (c.Record.Out ≤ c.Record.In)) then (some 1) else (((if (decide (c.Record.In < 0)) then (some true) else (some (decide (day ≤ c.Record.Out)))) : Option (Bool)).bind fun v31 => (if v31 then (some 2) else ((((some (vR c.Speed)).bind fun r46 => (if r46 then (if (decide (c.Speed.Num < 0)) then (some true) else (if (decide (8 < c.Speed.Num)) then (some true) else (some (decide (8 < c.Speed.Den))))) else (some true))) : Option (Bool)).bind fun v44 => (if v44 then (some 3) else (if (decide (c.Source < 0)) then (some 2) else (if (decide (day ≤ c.Source)) then (some 2) else (lastF.bind fun r67 => (if (decide (day ≤ r67)) then (some 2) else (some 0)))))))))) else (some 5)) = some (cutE day c) := by
  unfold cutE
  cases h1 : isNm c.Reel
  · rfl
  · simp only [if_true, Bool.true_eq_false, if_false]
    by_cases h2 : c.Record.Out ≤ c.Record.In
    · rw [if_pos (by simpa using h2), if_pos h2]
    · rw [if_neg (by simpa using h2), if_neg h2]
      by_cases h3 : c.Record.In < 0 ∨ day ≤ c.Record.Out
      · rw [if_pos h3]
        by_cases h3a : c.Record.In < 0
        · simp [h3a]
        · have : day ≤ c.Record.Out := by omega
          simp [h3a, this]
      · rw [if_neg h3]
        have h3a : ¬ c.Record.In < 0 := by omega
        have h3b : ¬ day ≤ c.Record.Out := by omega
        simp only [h3a, h3b, decide_false, Bool.false_eq_true, if_false, Option.bind_some]
        by_cases h4 : spOK c.Speed
        · rw [if_neg (c := ¬ spOK c.Speed) (fun h => h h4)]
          have h4' := h4
          obtain ⟨a1, a2, a3, a4⟩ := h4'
          have b1 : ¬ c.Speed.Num < 0 := by omega
          have b2 : ¬ 8 < c.Speed.Num := by omega
          have b3 : ¬ 8 < c.Speed.Den := by omega
          simp only [a1, b1, b2, b3, decide_false, Bool.false_eq_true, if_false, if_true, Option.bind_some]
          by_cases h5 : c.Source < 0
          · simp [h5]
          · by_cases h6 : day ≤ c.Source
            · simp [h5, h6]
            · rw [hl h2 h3 h4 ⟨by omega, by omega⟩]
              by_cases h7 : day ≤ lastS c
              · simp [h5, h6, h7]
              · simp [h5, h6, h7]
        · rw [if_pos h4]
          unfold spOK at h4
          cases hv : vR c.Speed
          · rfl
          · by_cases b1 : c.Speed.Num < 0
            · simp [b1]
            · by_cases b2 : 8 < c.Speed.Num
              · simp [b1, b2]
              · have b3 : 8 < c.Speed.Den := by
                  rcases Int.lt_or_le 8 c.Speed.Den with h | h
                  · exact h
                  · exact absurd ⟨hv, by omega, by omega, h⟩ h4
                simp [b1, b2, b3]
theorem prog_checkCut {day : Int} (hd : day ≤ 5184000) (c : T_api_Cut) : g_edl_checkCut c day = some (cutE day c) := by
  unfold g_edl_checkCut
  rw [lines_Name_eq, ratio_Valid]
  exact cut_tail hd c (prog_last hd)
def chkC (day : Int) : Int → Int → List T_api_Cut → Int
  | _, _, [] => 0
  | n, o, c :: cs => if c.Number < 1 ∨ 999 < c.Number then 2 else if c.Number ≤ n then 8 else if cutE day c ≠ 0 then cutE day c else if c.Record.In < o then 14 else chkC day c.Number c.Record.Out cs
theorem ref_single {day : Int} (hd : day ≤ 5184000) (c : T_api_Cut) (n : Int) : g_ref44_single c n day = some (if c.Number < 1 ∨ 999 < c.Number then 2 else if c.Number ≤ n then 8 else cutE day c) := by
  unfold g_ref44_single
  by_cases h1 : c.Number < 1
  · simp [h1]
  · by_cases h2 : 999 < c.Number
    · simp [h2]
    · by_cases h3 : c.Number ≤ n
      · simp [h1, h2, h3]
      · simp only [h1, h2, h3, decide_false, Bool.false_eq_true, if_false, Option.bind_some, or_self]
        rw [ref07_Name_eq, ref_ratio_Valid]
        exact cut_tail hd c (ref_last hd)
def pvN (cs : List T_api_Cut) : Nat → Int
  | 0 => 0
  | k + 1 => match cs[k]? with
    | some c => c.Number
    | none => 0
def pvO (cs : List T_api_Cut) : Nat → Int
  | 0 => 0
  | k + 1 => match cs[k]? with
    | some c => c.Record.Out
    | none => 0
theorem pv_at {cs : List T_api_Cut} {i : Nat} (h : i < cs.length) : pvN cs (i + 1) = cs[i].Number ∧ pvO cs (i + 1) = cs[i].Record.Out := by
  simp [pvN, pvO, List.getElem?_eq_getElem h]
def eres (e : Int) : Int ⊕ Unit := if e = 0 then .inr () else .inl e
theorem cutE_in {day : Int} {c : T_api_Cut} (h : cutE day c = 0) : ¬ c.Record.In < 0 := by
  unfold cutE at h
  split at h
  · omega
  · split at h
    · omega
    · split at h
      · omega
      · omega
theorem prog_loop {day : Int} (hd : day ≤ 5184000) (l : T_edl_List) (hn : l.Cuts.length ≤ 1000) : iter (g_edl_Check_s1 l day) 0 = some (eres (chkC day 0 0 l.Cuts)) := by
  have key := iter_idx (step := g_edl_Check_s1 l day) l.Cuts.length (by omega) (fun i => eres (chkC day (pvN l.Cuts i) (pvO l.Cuts i) (l.Cuts.drop i))) (fun i hi => ?_) ?_
  · simpa [pvN, pvO] using key
  · unfold g_edl_Check_s1
    rw [if_pos (cut_at hi).1, (cut_at hi).2, wr64 (x := (i : Int) + 1) (by omega), wr64 (x := (i : Int) - 1) (by omega), List.drop_eq_getElem_cons hi]
    simp only [Option.bind_some, chkC, prog_checkCut hd]
    by_cases h1 : l.Cuts[i].Number < 1 ∨ 999 < l.Cuts[i].Number
    · right
      rw [if_pos h1]
      by_cases h1a : l.Cuts[i].Number < 1
      · simp [h1a, eres]
      · have : 999 < l.Cuts[i].Number := by omega
        simp [h1a, this, eres]
    · rw [if_neg h1]
      have h1a : ¬ l.Cuts[i].Number < 1 := by omega
      have h1b : ¬ 999 < l.Cuts[i].Number := by omega
      simp only [h1a, h1b, decide_false, Bool.false_eq_true, if_false, Option.bind_some]
      cases i with
      | zero =>
        rw [if_neg (c := decide ((0 : Int) < ((0 : Nat) : Int)) = true) (by simp), if_neg (c := decide ((0 : Int) < ((0 : Nat) : Int)) = true) (by simp)]
        have p1 : pvN l.Cuts 0 = 0 := rfl
        have p2 : pvO l.Cuts 0 = 0 := rfl
        have hN : ¬ l.Cuts[0].Number ≤ 0 := by omega
        simp only [Option.bind_some, Bool.false_eq_true, if_false, p1, p2, hN]
        by_cases h3 : cutE day l.Cuts[0] = 0
        · left
          rw [if_neg (c := (cutE day l.Cuts[0] != 0) = true) (by simpa using h3), if_neg (c := cutE day l.Cuts[0] ≠ 0) (by simpa using h3), if_neg (cutE_in h3), (pv_at hi).1, (pv_at hi).2]
          exact ⟨rfl, rfl⟩
        · right
          rw [if_pos (c := (cutE day l.Cuts[0] != 0) = true) (by simpa using h3), if_pos (c := cutE day l.Cuts[0] ≠ 0) (by simpa using h3)]
          simp [eres, h3]
      | succ k =>
        have hk : k < l.Cuts.length := by omega
        have e : (((k + 1 : Nat) : Int) - 1) = (k : Int) := by omega
        rw [if_pos (c := decide ((0 : Int) < ((k + 1 : Nat) : Int)) = true) (by first | (simp; done) | (simp; omega)), if_pos (c := decide ((0 : Int) < ((k + 1 : Nat) : Int)) = true) (by first | (simp; done) | (simp; omega)), e, atI_nat hk]
        simp only [Option.bind_some, (pv_at hk).1, (pv_at hk).2, decide_eq_true_eq]
        by_cases h2 : l.Cuts[k + 1].Number ≤ l.Cuts[k].Number
        · right; rw [if_pos h2, if_pos h2]; simp [eres]
        · rw [if_neg h2, if_neg h2]
          by_cases h3 : cutE day l.Cuts[k + 1] = 0
          · rw [if_neg (c := (cutE day l.Cuts[k + 1] != 0) = true) (by simpa using h3), if_neg (c := cutE day l.Cuts[k + 1] ≠ 0) (by simpa using h3)]
            by_cases h4 : l.Cuts[k + 1].Record.In < l.Cuts[k].Record.Out
            · right; rw [if_pos h4, if_pos h4]; simp [eres]
            · left; rw [if_neg h4, if_neg h4, (pv_at hi).1, (pv_at hi).2]; exact ⟨rfl, rfl⟩
          · right
            rw [if_pos (c := (cutE day l.Cuts[k + 1] != 0) = true) (by simpa using h3), if_pos (c := cutE day l.Cuts[k + 1] ≠ 0) (by simpa using h3)]
            simp [eres, h3]
  · unfold g_edl_Check_s1
    rw [cut_end]
    simp [chkC, eres]
theorem ref_loop {day : Int} (hd : day ≤ 5184000) (l : TRL) (hn : l.Cuts.length ≤ 1000) : iter (g_ref44_Check_s1 l day) (0, 0, 0) = some (eres (chkC day 0 0 l.Cuts)) := by
  refine iter_of (fun x e => ∃ i : Nat, x = (pvN l.Cuts i, pvO l.Cuts i, (i : Int)) ∧ i ≤ l.Cuts.length ∧ e = eres (chkC day (pvN l.Cuts i) (pvO l.Cuts i) (l.Cuts.drop i))) (fun x => l.Cuts.length - x.2.2.toNat) ?_ (x := (0, 0, 0)) ⟨0, rfl, Nat.zero_le _, by simp [pvN, pvO]⟩ (by show l.Cuts.length - _ < _; omega)
  rintro x e ⟨i, rfl, hi, rfl⟩
  unfold g_ref44_Check_s1
  dsimp only
  by_cases h : i < l.Cuts.length
  · rw [if_pos (cut_at h).1, (cut_at h).2, wr64 (x := (i : Int) + 1) (by omega), List.drop_eq_getElem_cons h]
    simp only [Option.bind_some, chkC, ref_single hd]
    by_cases h1 : l.Cuts[i].Number < 1 ∨ 999 < l.Cuts[i].Number
    · right; simp only [if_pos h1]; rfl
    · simp only [if_neg h1]
      by_cases h2 : l.Cuts[i].Number ≤ pvN l.Cuts i
      · right; simp only [if_pos h2]; rfl
      · simp only [if_neg h2]
        by_cases h3 : cutE day l.Cuts[i] = 0
        · rw [if_neg (c := (cutE day l.Cuts[i] != 0) = true) (by simpa using h3), if_neg (c := cutE day l.Cuts[i] ≠ 0) (by simpa using h3)]
          by_cases h4 : l.Cuts[i].Record.In < pvO l.Cuts i
          · right; simp only [h4, decide_true, if_true]; rfl
          · left
            simp only [h4, decide_false, Bool.false_eq_true, if_false]
            refine ⟨_, rfl, ⟨i + 1, by rw [(pv_at h).1, (pv_at h).2]; rfl, by omega, by rw [(pv_at h).1, (pv_at h).2]⟩, by simp; omega⟩
        · right
          rw [if_pos (c := (cutE day l.Cuts[i] != 0) = true) (by simpa using h3), if_pos (c := cutE day l.Cuts[i] ≠ 0) (by simpa using h3)]
          simp [eres, h3]
  · right
    obtain rfl : i = l.Cuts.length := by omega
    rw [cut_end]
    simp [chkC, eres]
def chkS (t : List UInt8) (r : Int) (d : Bool) (cs : List T_api_Cut) : Int :=
  if gv t = false then 10 else if 400 < t.length then 9 else if kd r d ≠ 0 then 13 else if 64 < cs.length then 9 else if chkC (dayS r d) 0 0 cs ≠ 0 then chkC (dayS r d) 0 0 cs else if 16 < (reelS cs).length then 9 else 0
theorem day_le {r : Int} {d : Bool} : dayS r d ≤ 5184000 := by
  by_cases h : kd r d = 0
  · obtain ⟨h1, _, h3⟩ := kd_np h
    have := np_range h1
    omega
  · unfold dayS; rw [if_neg h]; omega
theorem day_pos {r : Int} {d : Bool} (h : kd r d = 0) : 0 < dayS r d := by
  obtain ⟨h1, _, h3⟩ := kd_np h
  have := np_range h1
  omega
theorem prog_Check (l : T_edl_List) (hr : 0 ≤ l.Rate ∧ l.Rate ≤ 255) (ht : l.Title.length ≤ 140737488355328) : g_edl_Check l = some (chkS l.Title l.Rate l.Drop l.Cuts) := by
  unfold g_edl_Check chkS
  rw [prog_Valid_eq _ ht]
  have hv : (if rV l.Rate = true then if l.Drop = true then some (!rDr l.Rate) else some false else some true : Option Bool) = some (decide (kd l.Rate l.Drop ≠ 0)) := by
    unfold kd
    cases rV l.Rate <;> cases l.Drop <;> cases rDr l.Rate <;> rfl
  simp only [Option.bind_some, (rates hr).1, (rates hr).2.2.2.2.1, (days hr l.Drop).2.2.1, hv, decide_eq_true_eq]
  cases hg : gv l.Title
  · rfl
  · simp only [if_true, Bool.true_eq_false, if_false]
    by_cases h1 : 400 < l.Title.length
    · have c1 : (400 : Int) < (l.Title.length : Int) := by omega
      simp only [c1, h1, if_true]
    · have c1 : ¬ (400 : Int) < (l.Title.length : Int) := by omega
      simp only [c1, h1, if_false]
      by_cases h2 : kd l.Rate l.Drop = 0
      · simp only [h2, ne_eq, not_true_eq_false, if_false]
        by_cases h3 : 64 < l.Cuts.length
        · have c3 : (64 : Int) < (l.Cuts.length : Int) := by omega
          simp only [c3, h3, if_true]
        · have c3 : ¬ (64 : Int) < (l.Cuts.length : Int) := by omega
          simp only [c3, h3, if_false, prog_loop day_le l (by omega), Option.bind_some]
          by_cases h4 : chkC (dayS l.Rate l.Drop) 0 0 l.Cuts = 0
          · simp only [h4, eres, if_true, prog_Reels l (by omega), Option.bind_some, not_true_eq_false, if_false]
            by_cases h5 : 16 < (reelS l.Cuts).length
            · have c5 : (16 : Int) < ((reelS l.Cuts).length : Int) := by omega
              simp only [c5, h5, if_true]
            · have c5 : ¬ (16 : Int) < ((reelS l.Cuts).length : Int) := by omega
              simp only [c5, h5, if_false]
          · simp only [eres, h4, if_false, not_false_eq_true, if_true]
      · simp only [h2, ne_eq, not_false_eq_true, if_true]
theorem ref_Check (l : TRL) (hr : 0 ≤ l.Rate ∧ l.Rate ≤ 255) (ht : l.Title.length ≤ 140737488355328) : g_ref44_Check l = some (chkS l.Title l.Rate l.Drop l.Cuts) := by
  unfold g_ref44_Check chkS
  rw [ref_Valid_eq _ ht]
  simp only [Option.bind_some, (days hr l.Drop).2.2.2, decide_eq_true_eq]
  cases hg : gv l.Title
  · rfl
  · simp only [if_true, Bool.true_eq_false, if_false]
    by_cases h1 : 400 < l.Title.length
    · have c1 : (400 : Int) < (l.Title.length : Int) := by omega
      simp only [c1, h1, if_true]
    · have c1 : ¬ (400 : Int) < (l.Title.length : Int) := by omega
      simp only [c1, h1, if_false]
      by_cases h2 : kd l.Rate l.Drop = 0
      · have hp := day_pos h2
        have hp2 : (dayS l.Rate l.Drop == 0) = false := by simp; omega
        simp only [hp2, h2, ne_eq, not_true_eq_false, Bool.false_eq_true, if_false]
        by_cases h3 : 64 < l.Cuts.length
        · have c3 : (64 : Int) < (l.Cuts.length : Int) := by omega
          simp only [c3, h3, if_true]
        · have c3 : ¬ (64 : Int) < (l.Cuts.length : Int) := by omega
          simp only [c3, h3, if_false, ref_loop day_le l (by omega), Option.bind_some]
          by_cases h4 : chkC (dayS l.Rate l.Drop) 0 0 l.Cuts = 0
          · simp only [h4, eres, if_true, ref_Reels l (by omega), Option.bind_some, not_true_eq_false, if_false]
            by_cases h5 : 16 < (reelS l.Cuts).length
            · have c5 : (16 : Int) < ((reelS l.Cuts).length : Int) := by omega
              simp only [c5, h5, if_true]
            · have c5 : ¬ (16 : Int) < ((reelS l.Cuts).length : Int) := by omega
              simp only [c5, h5, if_false]
          · simp only [eres, h4, if_false, not_false_eq_true, if_true]
      · have : dayS l.Rate l.Drop = 0 := by unfold dayS; rw [if_neg h2]
        simp only [this, h2, beq_self_eq_true, ne_eq, not_false_eq_true, if_true]
end Go.Proofs.YtnjjdbljoligdaaGreatDoor
namespace Go.Proofs.YtnjjdbljoligdaaGreatDoor
set_option maxRecDepth 100000
def d2 (n : Int) : List UInt8 := bytesOf [IntKind.u8.wrap (IntKind.i64.wrap (48 + IntKind.i64.wrap (Int.tdiv n 10))), IntKind.u8.wrap (IntKind.i64.wrap (48 + Int.tmod n 10))]
theorem d2_len (n : Int) : (d2 n).length = 2 := rfl
def tcT (l : T_api_Label) : List UInt8 := (((((d2 l.H ++ [58]) ++ d2 l.M) ++ [58]) ++ d2 l.S) ++ [if l.Drop then 59 else 58]) ++ d2 l.F
theorem tcT_len (l : T_api_Label) : (tcT l).length = 11 := rfl
def tcS (r : Int) (l : T_api_Label) : List UInt8 × Int := if chkL r l ≠ 0 then ([], chkL r l) else (tcT l, 0)
theorem ref_tc_Text {r : Int} (h : 0 ≤ r ∧ r ≤ 255) (l : T_api_Label) : g_ref03_Text r l = some (tcS r l) := by
  unfold g_ref03_Text tcS
  rw [ref_tc_Check h]
  simp only [Option.bind_some, show ∀ n, g_ref03_two n = some (d2 n) from fun _ => rfl, d2_len]
  by_cases hc : chkL r l = 0
  · rw [if_neg (c := (chkL r l != 0) = true) (by simpa using hc), if_neg (c := chkL r l ≠ 0) (by simpa using hc)]
    cases hd : l.Drop
    · simp only [Bool.false_eq_true, if_false, tcT, hd]
      rfl
    · simp only [if_true, tcT, hd]
      rfl
  · rw [if_pos (c := (chkL r l != 0) = true) (by simpa using hc), if_pos (c := chkL r l ≠ 0) hc]
theorem prog_tc_Text {r : Int} (h : 0 ≤ r ∧ r ≤ 255) (l : T_api_Label) : g_timecode_Text r l = some (tcS r l) := by
  unfold g_timecode_Text tcS
  rw [tc_Check h]
  simp only [Option.bind_some]
  by_cases hc : chkL r l = 0
  · rw [if_neg (c := (chkL r l != 0) = true) (by simpa using hc), if_neg (c := chkL r l ≠ 0) (by simpa using hc)]
    unfold g_timecode_digits0 g_timecode_digits
    cases hd : l.Drop
    · simp only [Bool.false_eq_true, if_false, Option.bind_some, List.length_append, List.length_cons, List.length_nil, tcT, hd]
      rfl
    · simp only [if_true, Option.bind_some, List.length_append, List.length_cons, List.length_nil, tcT, hd]
      rfl
  · rw [if_pos (c := (chkL r l != 0) = true) (by simpa using hc), if_pos (c := chkL r l ≠ 0) hc]
def lblS (r : Int) (d : Bool) (f : Int) : List UInt8 := (tcS r (labS r d f).1).1
theorem tcS_len (r : Int) (l : T_api_Label) : (tcS r l).1.length ≤ 11 := by
  unfold tcS
  split
  · simp
  · rw [tcT_len]; exact Nat.le_refl _
theorem lblS_len (r : Int) (d : Bool) (f : Int) : (lblS r d f).length ≤ 11 := tcS_len _ _
theorem prog_label (l : T_edl_List) (h : 0 ≤ l.Rate ∧ l.Rate ≤ 255) (f : Int) : g_edl_label l f = some (lblS l.Rate l.Drop f) := by
  unfold g_edl_label lblS
  rw [tc_Label h]
  simp only [Option.bind_some, prog_tc_Text h]
theorem ref_label (l : TRL) (h : 0 ≤ l.Rate ∧ l.Rate ≤ 255) (f : Int) : g_ref44_label l f = some (lblS l.Rate l.Drop f) := by
  unfold g_ref44_label lblS
  rw [ref_tc_Label h]
  simp only [Option.bind_some, ref_tc_Text h]
def spT (x : T_api_Ratio) : List UInt8 := if x.Num = 1 ∧ x.Den = 1 then [] else [32, 83, 80, 69, 69, 68, 32] ++ rTx x
def cutW (r : Int) (d : Bool) (c : T_api_Cut) : List (List UInt8) := [[67, 85, 84], Lib.itoa c.Number, c.Reel, lblS r d c.Source, lblS r d c.Record.In, lblS r d c.Record.Out]
def cutT (r : Int) (d : Bool) (c : T_api_Cut) : List UInt8 := Lib.join (cutW r d c) [32] ++ (spT c.Speed ++ [10])
def hdT (t : List UInt8) (r : Int) (d : Bool) : List UInt8 := [69, 68, 76, 32] ++ (quS t ++ ([32] ++ (rS r ++ ([32] ++ ((if d then [68, 82, 79, 80] else [78, 68, 70]) ++ [10])))))
def lstT (t : List UInt8) (r : Int) (d : Bool) (cs : List T_api_Cut) : List UInt8 := hdT t r d ++ cs.flatMap (cutT r d)
def txtS (t : List UInt8) (r : Int) (d : Bool) (cs : List T_api_Cut) : List UInt8 × Int := if chkS t r d cs ≠ 0 then ([], chkS t r d cs) else (lstT t r d cs, 0)
theorem rTx_len (x : T_api_Ratio) : (rTx x).length ≤ 43 := by
  unfold rTx
  cases h : vR x
  · simp
  · have hp := vR_in h
    unfold inP at hp
    have l1 := itl (n := x.Num) (by omega)
    have l2 := itl (n := x.Den) (by omega)
    simp [rT]; omega
def cOK (c : T_api_Cut) : Prop := 1 ≤ c.Number ∧ c.Number ≤ 999 ∧ isNm c.Reel = true
theorem cutJ_len {r : Int} {d : Bool} {c : T_api_Cut} (h : cOK c) : (Lib.join (cutW r d c) [32]).length ≤ 80 := by
  have h1 := itoa_len (n := c.Number) (by have := h.1; have := h.2.1; omega)
  have h2 := (nm_len h.2.2).2
  have a := lblS_len r d c.Source
  have b := lblS_len r d c.Record.In
  have e := lblS_len r d c.Record.Out
  unfold cutW
  rw [Lib.join_cons]
  simp [Lib.joinTail]
  omega
theorem cutT_len {r : Int} {d : Bool} {c : T_api_Cut} (h : cOK c) : (cutT r d c).length ≤ 131 := by
  have h1 := cutJ_len (r := r) (d := d) h
  have h2 := rTx_len c.Speed
  unfold cutT spT
  split <;> simp <;> omega
theorem chkC_ok {day : Int} : ∀ {n o : Int} {cs : List T_api_Cut}, chkC day n o cs = 0 → ∀ c ∈ cs, cOK c ∧ cutE day c = 0
  | _, _, [], _, c, hc => by cases hc
  | n, o, c :: cs, h, c', hc => by
    unfold chkC at h
    split at h
    · omega
    · rename_i h1
      split at h
      · omega
      · split at h
        · rename_i h3; exact absurd h h3
        · rename_i h3
          split at h
          · omega
          · rcases List.mem_cons.1 hc with rfl | hc
            · refine ⟨⟨by omega, by omega, ?_⟩, by simpa using h3⟩
              have h3 : cutE day c' = 0 := by simpa using h3
              unfold cutE at h3
              cases hn : isNm c'.Reel
              · rw [hn] at h3; simp at h3
              · rfl
            · exact chkC_ok h c' hc
theorem chkS_ok {t : List UInt8} {r : Int} {d : Bool} {cs : List T_api_Cut} (h : chkS t r d cs = 0) : gv t = true ∧ t.length ≤ 400 ∧ kd r d = 0 ∧ cs.length ≤ 64 ∧ chkC (dayS r d) 0 0 cs = 0 ∧ (reelS cs).length ≤ 16 := by
  unfold chkS at h
  split at h
  · omega
  · rename_i h1
    split at h
    · omega
    · rename_i h2
      split at h
      · omega
      · rename_i h3
        split at h
        · omega
        · rename_i h4
          split at h
          · rename_i h5; exact absurd h h5
          · rename_i h5
            split at h
            · omega
            · rename_i h6
              exact ⟨by simpa using h1, by omega, by simpa using h3, by omega, by simpa using h5, by omega⟩
theorem flat_len3 (r : Int) (d : Bool) : ∀ (cs : List T_api_Cut), (∀ c ∈ cs, cOK c) → (cs.flatMap (cutT r d)).length ≤ 131 * cs.length
  | [], _ => by simp
  | c :: cs, h => by
    have h1 := flat_len3 r d cs (fun x hx => h x (by simp [hx]))
    have h2 := cutT_len (r := r) (d := d) (h c (by simp))
    simp only [List.flatMap_cons, List.length_append, List.length_cons]; omega
theorem rS_len (r : Int) : (rS r).length ≤ 6 := by
  unfold rS
  repeat' split
  all_goals simp
theorem quS_len (t : List UInt8) : (quS t).length ≤ 2 * t.length + 2 := by
  have := qu_len t
  simp only [quS, List.length_cons, List.length_append, List.length_nil]; omega
theorem hdT_len (t : List UInt8) (r : Int) (d : Bool) : (hdT t r d).length ≤ 2 * t.length + 19 := by
  have := quS_len t
  have := rS_len r
  unfold hdT
  cases d <;> simp <;> omega
theorem take_flat {cs : List T_api_Cut} {r : Int} {d : Bool} {i : Nat} (h : i < cs.length) : (cs.take (i + 1)).flatMap (cutT r d) = (cs.take i).flatMap (cutT r d) ++ cutT r d cs[i] := by
  rw [← List.take_append_getElem h, List.flatMap_append, List.flatMap_cons, List.flatMap_nil, List.append_nil]
theorem take_len3 {cs : List T_api_Cut} {r : Int} {d : Bool} (i : Nat) (h : ∀ c ∈ cs, cOK c) (hn : cs.length ≤ 64) : ((cs.take i).flatMap (cutT r d)).length ≤ 131 * 64 := by
  have := flat_len3 r d (cs.take i) (fun x hx => h x (List.mem_of_mem_take hx))
  have h2 : (cs.take i).length ≤ 64 := by rw [List.length_take]; omega
  omega
theorem prog_txt_loop {step : Int × List Int → Option (Nx (Int × List Int) (List Int))} {l : T_edl_List} (hr : 0 ≤ l.Rate ∧ l.Rate ≤ 255) (hc : ∀ c ∈ l.Cuts, cOK c) (hn : l.Cuts.length ≤ 64) (hst : step = g_edl_Text_s1 l ∨ step = g_edl_Text_s2 l) (b : List UInt8) (hb : b.length ≤ 1000000) :
    iter step (0, toI b) = some (toI (b ++ l.Cuts.flatMap (cutT l.Rate l.Drop))) := by
  have hs : step = g_edl_Text_s1 l := by rcases hst with h | h <;> rw [h]; rfl
  rw [hs]
  refine iter_of (fun x e => ∃ i : Nat, x = ((i : Int), toI (b ++ (l.Cuts.take i).flatMap (cutT l.Rate l.Drop))) ∧ i ≤ l.Cuts.length ∧ e = toI (b ++ l.Cuts.flatMap (cutT l.Rate l.Drop))) (fun x => l.Cuts.length - x.1.toNat) ?_ (x := (0, toI b)) ⟨0, by simp, Nat.zero_le _, rfl⟩ (by show l.Cuts.length - _ < _; omega)
  rintro x e ⟨i, rfl, hi, rfl⟩
  unfold g_edl_Text_s1
  dsimp only
  by_cases h : i < l.Cuts.length
  · left
    have hco := hc _ (List.getElem_mem h)
    have hj := cutJ_len (r := l.Rate) (d := l.Drop) hco
    have hk := rTx_len l.Cuts[i].Speed
    have ht := take_len3 (r := l.Rate) (d := l.Drop) i hc hn
    have hjoin : g_strings_Join [[67, 85, 84], Lib.itoa l.Cuts[i].Number, l.Cuts[i].Reel, lblS l.Rate l.Drop l.Cuts[i].Source, lblS l.Rate l.Drop l.Cuts[i].Record.In, lblS l.Rate l.Drop l.Cuts[i].Record.Out] [32] = some (Lib.join (cutW l.Rate l.Drop l.Cuts[i]) [32]) := by
      unfold g_strings_Join
      rw [if_pos ⟨by simp, by unfold cutW at hj; omega⟩]
      rfl
    rw [if_pos (cut_at h).1, (cut_at h).2, wr64 (x := (i : Int) + 1) (by omega)]
    simp only [Option.bind_some, Decimal_eq, prog_label l hr, hjoin, ratio_Text]
    rw [if_pos (by rw [toI_length, List.length_append]; omega)]
    by_cases hsp : l.Cuts[i].Speed.Num = 1 ∧ l.Cuts[i].Speed.Den = 1
    · rw [if_pos (by simp [hsp]), if_pos (by simp only [toI_length, List.length_append, List.length_cons, List.length_nil]; omega)]
      refine ⟨_, rfl, ⟨i + 1, ?_, by omega, by first | rfl | trivial⟩, by simp; omega⟩
      rw [take_flat h]
      simp only [← toI_append, cutT, spT, if_pos hsp, List.append_assoc, List.nil_append]
      rfl
    · rw [if_neg (by simpa using hsp), if_pos (by omega), if_pos (by simp only [toI_length, List.length_append, List.length_cons, List.length_nil]; omega), if_pos (by simp only [toI_length, List.length_append, List.length_cons, List.length_nil]; omega)]
      refine ⟨_, rfl, ⟨i + 1, ?_, by omega, by first | rfl | trivial⟩, by simp; omega⟩
      rw [take_flat h]
      simp only [← toI_append, cutT, spT, if_neg hsp, List.append_assoc]
      rfl
  · right
    obtain rfl : i = l.Cuts.length := by omega
    rw [cut_end]
    simp
theorem prog_Text (l : T_edl_List) (hr : 0 ≤ l.Rate ∧ l.Rate ≤ 255) (ht : l.Title.length ≤ 140737488355328) : g_edl_Text l = some (txtS l.Title l.Rate l.Drop l.Cuts) := by
  unfold g_edl_Text txtS
  rw [prog_Check l hr ht]
  simp only [Option.bind_some]
  by_cases hc : chkS l.Title l.Rate l.Drop l.Cuts = 0
  · rw [if_neg (c := (chkS l.Title l.Rate l.Drop l.Cuts != 0) = true) (by simpa using hc), if_neg (c := chkS l.Title l.Rate l.Drop l.Cuts ≠ 0) (by simpa using hc)]
    obtain ⟨c1, c2, c3, c4, c5, c6⟩ := chkS_ok hc
    have hq := quS_len l.Title
    have hs := rS_len l.Rate
    have hh := hdT_len l.Title l.Rate l.Drop
    have hco : ∀ c ∈ l.Cuts, cOK c := fun c h => (chkC_ok c5 c h).1
    simp only [lines_Quote_eq _ (show l.Title.length ≤ 70000000000000 by omega), (rates hr).2.2.2.2.2.2.1, Option.bind_some]
    cases hd : l.Drop
    · simp only [Bool.false_eq_true, if_false]
      rw [if_pos (by omega), if_pos (by omega), if_pos (by omega), if_pos (by omega), if_pos (by omega), if_pos (by omega), if_pos (by simp; omega)]
      rw [prog_txt_loop hr hco c4 (.inr rfl) _ (by simp; omega)]
      simp only [Option.bind_some, bytesOf_toI, lstT, hdT, hd, Bool.false_eq_true, if_false, List.append_assoc]
    · simp only [if_true]
      rw [if_pos (by omega), if_pos (by omega), if_pos (by omega), if_pos (by omega), if_pos (by omega), if_pos (by omega), if_pos (by simp; omega)]
      rw [prog_txt_loop hr hco c4 (.inl rfl) _ (by simp; omega)]
      simp only [Option.bind_some, bytesOf_toI, lstT, hdT, hd, if_true, List.append_assoc]
  · rw [if_pos (c := (chkS l.Title l.Rate l.Drop l.Cuts != 0) = true) (by simpa using hc), if_pos (c := chkS l.Title l.Rate l.Drop l.Cuts ≠ 0) hc]
theorem ref_txt_loop {step : List UInt8 × Int → Option (Nx (List UInt8 × Int) (List UInt8))} {l : TRL} (hr : 0 ≤ l.Rate ∧ l.Rate ≤ 255) (hc : ∀ c ∈ l.Cuts, cOK c) (hn : l.Cuts.length ≤ 64) (hst : step = g_ref44_Text_s1 l ∨ step = g_ref44_Text_s2 l) (b : List UInt8) (hb : b.length ≤ 1000000) :
    iter step (b, 0) = some (b ++ l.Cuts.flatMap (cutT l.Rate l.Drop)) := by
  have hs : step = g_ref44_Text_s1 l := by rcases hst with h | h <;> rw [h]; rfl
  rw [hs]
  refine iter_of (fun x e => ∃ i : Nat, x = (b ++ (l.Cuts.take i).flatMap (cutT l.Rate l.Drop), (i : Int)) ∧ i ≤ l.Cuts.length ∧ e = b ++ l.Cuts.flatMap (cutT l.Rate l.Drop)) (fun x => l.Cuts.length - x.2.toNat) ?_ (x := (b, 0)) ⟨0, by simp, Nat.zero_le _, rfl⟩ (by show l.Cuts.length - _ < _; omega)
  rintro x e ⟨i, rfl, hi, rfl⟩
  unfold g_ref44_Text_s1
  dsimp only
  by_cases h : i < l.Cuts.length
  · left
    have hco := hc _ (List.getElem_mem h)
    have hk := rTx_len l.Cuts[i].Speed
    have ht := take_len3 (r := l.Rate) (d := l.Drop) i hc hn
    have h1 := itoa_len (n := l.Cuts[i].Number) (by have := hco.1; have := hco.2.1; omega)
    have h2 := (nm_len hco.2.2).2
    have a1 := lblS_len l.Rate l.Drop l.Cuts[i].Source
    have a2 := lblS_len l.Rate l.Drop l.Cuts[i].Record.In
    have a3 := lblS_len l.Rate l.Drop l.Cuts[i].Record.Out
    have hjoin : Lib.join (cutW l.Rate l.Drop l.Cuts[i]) [32] = ((((((((([67, 85, 84, 32] ++ Lib.itoa l.Cuts[i].Number) ++ [32]) ++ l.Cuts[i].Reel) ++ [32]) ++ lblS l.Rate l.Drop l.Cuts[i].Source) ++ [32]) ++ lblS l.Rate l.Drop l.Cuts[i].Record.In) ++ [32]) ++ lblS l.Rate l.Drop l.Cuts[i].Record.Out) := by
      unfold cutW
      rw [Lib.join_cons]
      simp [Lib.joinTail]
    rw [if_pos (cut_at h).1, (cut_at h).2, wr64 (x := (i : Int) + 1) (by omega)]
    simp only [Option.bind_some, ref_Decimal (n := l.Cuts[i].Number) (by have := hco.1; have := hco.2.1; omega), ref_label l hr, ref_ratio_Text]
    have hl : (b ++ (l.Cuts.take i).flatMap (cutT l.Rate l.Drop)).length ≤ 1100000 := by rw [List.length_append]; omega
    rw [if_pos (by omega), if_pos (by omega), if_pos (by omega), if_pos (by omega), if_pos (by omega), if_pos (by omega), if_pos (by omega), if_pos (by omega), if_pos (by omega), if_pos (by omega)]
    by_cases hsp : l.Cuts[i].Speed.Num = 1 ∧ l.Cuts[i].Speed.Den = 1
    · rw [if_pos (by simp [hsp]), if_pos (by omega)]
      refine ⟨_, rfl, ⟨i + 1, ?_, by omega, by first | rfl | trivial⟩, by simp; omega⟩
      rw [take_flat h]
      simp only [cutT, hjoin, spT, if_pos hsp, List.append_assoc, List.nil_append]
      rfl
    · rw [if_neg (by simpa using hsp), if_pos (by omega), if_pos (by omega), if_pos (by omega)]
      refine ⟨_, rfl, ⟨i + 1, ?_, by omega, by first | rfl | trivial⟩, by simp; omega⟩
      rw [take_flat h]
      simp only [cutT, hjoin, spT, if_neg hsp, List.append_assoc]
      rfl
  · right
    obtain rfl : i = l.Cuts.length := by omega
    rw [cut_end]
    simp
theorem ref_Text (l : TRL) (hr : 0 ≤ l.Rate ∧ l.Rate ≤ 255) (ht : l.Title.length ≤ 140737488355328) : g_ref44_Text l = some (txtS l.Title l.Rate l.Drop l.Cuts) := by
  unfold g_ref44_Text txtS
  rw [ref_Check l hr ht]
  simp only [Option.bind_some]
  by_cases hc : chkS l.Title l.Rate l.Drop l.Cuts = 0
  · rw [if_neg (c := (chkS l.Title l.Rate l.Drop l.Cuts != 0) = true) (by simpa using hc), if_neg (c := chkS l.Title l.Rate l.Drop l.Cuts ≠ 0) (by simpa using hc)]
    obtain ⟨c1, c2, c3, c4, c5, c6⟩ := chkS_ok hc
    have hq := quS_len l.Title
    have hs := rS_len l.Rate
    have hco : ∀ c ∈ l.Cuts, cOK c := fun c h => (chkC_ok c5 c h).1
    simp only [ref_Quote_eq _ (show l.Title.length ≤ 70000000000000 by omega), (rates hr).2.2.2.2.2.2.2, Option.bind_some]
    rw [if_pos (by omega), if_pos (by omega), if_pos (by omega), if_pos (by omega)]
    cases hd : l.Drop
    · simp only [Bool.false_eq_true, if_false]
      rw [ref_txt_loop hr hco c4 (.inr rfl) _ (by simp; omega)]
      simp only [Option.bind_some, lstT, hdT, hd, Bool.false_eq_true, if_false, List.append_assoc]
      rfl
    · simp only [if_true]
      rw [if_pos (by omega), if_pos (by omega), if_pos (by omega), if_pos (by omega)]
      rw [ref_txt_loop hr hco c4 (.inl rfl) _ (by simp; omega)]
      simp only [Option.bind_some, lstT, hdT, hd, if_true, List.append_assoc]
      rfl
  · rw [if_pos (c := (chkS l.Title l.Rate l.Drop l.Cuts != 0) = true) (by simpa using hc), if_pos (c := chkS l.Title l.Rate l.Drop l.Cuts ≠ 0) hc]
end Go.Proofs.YtnjjdbljoligdaaGreatDoor
namespace Go.Proofs.YtnjjdbljoligdaaGreatDoor
set_option maxRecDepth 1000000
theorem awake44 : g_law44_awake = some true := by decide +kernel
end Go.Proofs.YtnjjdbljoligdaaGreatDoor
namespace Go.Proofs.YtnjjdbljoligdaaGreatDoor
set_option maxRecDepth 100000
def smB (l : TRL) : Bool := decide (l.Cuts.length ≤ 128) && decide (l.Title.length ≤ 800)
theorem small_eq (l : TRL) : g_law44_small l = some (smB l) := by
  unfold g_law44_small smB
  by_cases h : l.Cuts.length ≤ 128
  · have h' : (l.Cuts.length : Int) ≤ 128 := by omega
    by_cases k : l.Title.length ≤ 800
    · have k' : (l.Title.length : Int) ≤ 800 := by omega
      simp [h, h', k, k']
    · have k' : ¬ (l.Title.length : Int) ≤ 800 := by omega
      simp [h, h', k, k']
  · have h' : ¬ (l.Cuts.length : Int) ≤ 128 := by omega
    simp [h, h']
theorem smB_t {l : TRL} (h : smB l = true) : l.Cuts.length ≤ 128 ∧ l.Title.length ≤ 800 := by
  unfold smB at h; simpa using h
theorem EdlTexts_true (l : TRL) (hr : 0 ≤ l.Rate ∧ l.Rate ≤ 255) : g_law44_EdlTexts l = some true := by
  unfold g_law44_EdlTexts
  rw [awake44, small_eq]
  simp only [Option.bind_some, if_true]
  cases h : smB l
  · rfl
  · obtain ⟨h1, h2⟩ := smB_t h
    simp only [if_true, g_law44_Of, Option.bind_some]
    rw [prog_Text _ hr (by dsimp only; omega), ref_Text l hr (by omega)]
    simp
end Go.Proofs.YtnjjdbljoligdaaGreatDoor
namespace Go.Proofs.YtnjjdbljoligdaaGreatDoor
open Go.ChangeShapes Go.WideShapes Go.ChangeAt Go.RowKit Go.Joins
set_option maxRecDepth 100000
def FA (w : World) : Nat → Nat → Prop := fun b _ => b < w.heap.size
theorem FA_fb (w : World) : FB (cF (FA w)) w := fun _ _ h => h
theorem wf_inR {k : IntKind} {n : Int} (h : (Lit.int k n).wf = true) : inR k n := by
  simp only [Lit.wf, Bool.and_eq_true, decide_eq_true_eq] at h
  cases k <;> simp [IntKind.min, IntKind.max, IntKind.signed, IntKind.bits] at h <;> simp [inR, kLo, kHi] <;> omega
theorem strOfBytes (s : ByteArray) : (⟨s.data.toList.toArray⟩ : ByteArray) = s := by cases s; simp
theorem AFun.law {P : Program} {I : World → Prop} {f : FuncId} {ds : List D} (h : AFun P I f ds (.bool true)) {W : World} {args : List Value} (hI : I W) (hl : args.length = ds.length) (hr : ∀ (i : Nat) v d, args[i]? = some v → ds[i]? = some d → Rep W (cF (FA W)) v d) :
    Calls P f args.toArray W fun e w' => e = .returned (.bool true) ∧ Below W.heap.size W w' := by
  refine (h.2 W (FA W) args hI (FA_fb W) hl hr).mono ?_
  rintro e w' ⟨v, F', rfl, hb, _, _, _, hrep⟩
  cases hrep
  exact ⟨rfl, hb⟩
section
variable (H : Type) (enc : TypeId × Value → H) (P : Program)
def OpT {α : Type} (t : TypeId) (δ : α → D) : Prop :=
  ∀ (w : World) (fuel : Nat) (cs : List Value) (x : DataW H × List MemPlace), DataW.trod enc P w 0 (fun _ => true) true fuel t cs = some x → ∃ a : α, RepL (cF (FA w)) w cs (δ a).cells
def OpF {α : Type} (fs : List Field) (off : Nat) (γ : α → List D) : Prop :=
  ∀ (w : World) (fuel : Nat) (cs : List Value), off ≤ cs.length → (∀ f ∈ fs, ∃ x, DataW.trod enc P w 0 (fun _ => true) true fuel f.type ((cs.drop f.offset).take (P.cellsOf f.type)) = some x) → (fs = [] → cs.length = off) → (∀ f ∈ fs, f.offset + P.cellsOf f.type ≤ cs.length) → ((fs.map fun f => P.cellsOf f.type).sum + off = cs.length) → ∃ a : α, RepL (cF (FA w)) w (cs.drop off) (γ a)
end
section
variable {H : Type} {enc : TypeId × Value → H} {P : Program}
theorem OpT.int {t : TypeId} {k : IntKind} (ht : P.underlying t = some (.int k)) : OpT H enc P t (D.int k) := by
  intro w fuel cs x h
  obtain ⟨n, rfl, _, hw⟩ := DataW.trod_int ht h
  exact ⟨n, RepL.one1 rfl (.int _ _ (wf_inR hw))⟩
theorem OpT.bool {t : TypeId} (ht : P.underlying t = some .bool) : OpT H enc P t D.bool := by
  intro w fuel cs x h
  obtain ⟨n, rfl, _⟩ := DataW.trod_bool ht h
  exact ⟨n, RepL.one1 rfl (.bool _)⟩
theorem rep_strB {w : World} {C : Cx} (s : ByteArray) (h : s.size ≤ maxLen) : Rep w C (.string s) (.str s.data.toList) := by
  have := Rep.str (w := w) (C := C) s.data.toList (by rw [Array.length_toList]; exact h)
  rwa [strOfBytes] at this
theorem OpT.str {t : TypeId} (ht : P.underlying t = some .string) : OpT H enc P t D.str := by
  intro w fuel cs x h
  obtain ⟨s, rfl, _, hs⟩ := DataW.trod_string ht h
  exact ⟨s.data.toList, RepL.one1 rfl (rep_strB s hs)⟩
theorem OpT.map {α β : Type} {t : TypeId} {δ : α → D} {ε : β → D} (h : OpT H enc P t δ) (φ : α → β) (hφ : ∀ a, ε (φ a) = δ a) : OpT H enc P t ε := by
  intro w fuel cs x hx
  obtain ⟨a, ha⟩ := h w fuel cs x hx
  exact ⟨φ a, by rw [hφ]; exact ha⟩
theorem OpF.nil {off : Nat} : OpF H enc P [] off (fun _ : Unit => []) := by
  intro w fuel cs h1 h2 h3 h4 h5
  refine ⟨(), ?_⟩
  rw [List.drop_eq_nil_of_le (by have := h3 rfl; omega)]
  exact RepL.nil
theorem OpF.cons {α β : Type} {f : Field} {fs : List Field} {off : Nat} {δ : α → D} {γ : β → List D} (ho : f.offset = off) (h : OpT H enc P f.type δ) (hr : OpF H enc P fs (off + P.cellsOf f.type) γ) : OpF H enc P (f :: fs) off (fun p : α × β => (δ p.1).cells ++ γ p.2) := by
  intro w fuel cs h1 h2 h3 h4 h5
  subst ho
  obtain ⟨x, hx⟩ := h2 f (by simp)
  obtain ⟨a, ha⟩ := h w fuel _ x hx
  have hlen : f.offset + P.cellsOf f.type ≤ cs.length := h4 f (by simp)
  simp only [List.map_cons, List.sum_cons] at h5
  obtain ⟨b, hb⟩ := hr w fuel cs hlen (fun g hg => h2 g (by simp [hg])) (fun e => by subst e; simp at h5; omega) (fun g hg => h4 g (by simp [hg])) (by omega)
  refine ⟨(a, b), ?_⟩
  have := ha.append hb
  rw [show (cs.drop f.offset).take (P.cellsOf f.type) ++ cs.drop (f.offset + P.cellsOf f.type) = cs.drop f.offset by rw [← List.drop_drop]; exact List.take_append_drop _ _] at this
  exact this
theorem OpT.struct {α β : Type} {t : TypeId} {fs : Array Field} {γ : α → List D} {ε : β → D} (ht : P.underlying t = some (.struct fs)) (hoff : (fs.toList.all fun f => decide (f.offset + P.cellsOf f.type ≤ P.cellsOf t)) = true) (hsum : (fs.toList.map fun f => P.cellsOf f.type).sum = P.cellsOf t) (h : OpF H enc P fs.toList 0 γ) (φ : α → β) (hφ : ∀ a, (ε (φ a)).cells = γ a) : OpT H enc P t ε := by
  intro w fuel cs x hx
  obtain ⟨xs, n, _, _, hl, hxl, hf⟩ := DataW.trod_struct ht hx
  obtain ⟨a, ha⟩ := h w n cs (Nat.zero_le _) (fun f hf' => by
    obtain ⟨i, hi, rfl⟩ := List.getElem_of_mem hf'
    have hi' : fs[i]? = some fs.toList[i] := by simp at hi ⊢
    have := hf i _ hi'
    rw [List.getElem?_eq_getElem (by rw [hxl]; simpa using hi)] at this
    exact ⟨_, this⟩) (fun e => by rw [e] at hsum; simp at hsum; omega) (fun f hf' => by have := List.all_eq_true.1 hoff f hf'; simp at this; omega) (by omega)
  refine ⟨φ a, ?_⟩
  rw [hφ]
  simpa using ha
theorem addr_addO (b o i : Nat) : (⟨b, o, none⟩ : Addr).add i = ⟨b, o + i, none⟩ := by
  unfold Addr.add
  split
  · rename_i e; subst e; rfl
  · rfl
theorem rows_of {w : World} {b off k : Nat} {α : Type} {δ : α → D} (hk : ∀ a, (δ a).cells.length = k) : ∀ (n : Nat) (s : Nat), (∀ i, i < n → ∃ cs', (∀ j, j < k → w.cell? ⟨b, off + (s + i) * k + j, none⟩ = cs'[j]?) ∧ cs'.length = k ∧ ∃ a : α, RepL (cF (FA w)) w cs' (δ a).cells) →
    ∃ (l : List α) (vals : List Value), l.length = n ∧ vals.length = n * k ∧ RepL (cF (FA w)) w vals ((l.map δ).flatMap D.cells) ∧ ∀ (i : Nat) v, vals[i]? = some v → w.cell? ⟨b, off + s * k + i, none⟩ = some v := by
  intro n
  induction n with
  | zero => intro s _; exact ⟨[], [], rfl, by simp, RepL.nil, by simp⟩
  | succ n ih =>
    intro s h
    obtain ⟨cs, hc, hcl, a, ha⟩ := h 0 (by omega)
    obtain ⟨l, vals, h1, h2, h3, h4⟩ := ih (s + 1) (fun i hi => by
      obtain ⟨cs', hh⟩ := h (i + 1) (by omega)
      refine ⟨cs', ?_⟩
      rw [show s + 1 + i = s + (i + 1) by omega]
      exact hh)
    refine ⟨a :: l, cs ++ vals, by simp [h1], by rw [List.length_append, hcl, h2, Nat.add_mul]; omega, ?_, ?_⟩
    · simp only [List.map_cons, List.flatMap_cons]
      exact ha.append h3
    · intro i v hv
      by_cases hi : i < k
      · rw [List.getElem?_append_left (by omega)] at hv
        have := hc i hi
        rw [Nat.add_zero] at this
        rw [this, hv]
      · rw [List.getElem?_append_right (by omega)] at hv
        have := h4 _ v hv
        rw [hcl] at this
        rw [← this]
        congr 2
        rw [Nat.add_mul]
        omega
theorem OpT.slice {α : Type} {t e : TypeId} {δ : α → D} (ht : P.underlying t = some (.slice e)) (hpos : 0 < P.cellsOf e) (hk : ∀ a, (δ a).cells.length = P.cellsOf e) (h : OpT H enc P e δ) : OpT H enc P t (fun l : List α => D.sl (l.map δ)) := by
  intro w fuel cs x hx
  rcases Deep.open_slice ht hx with ⟨rfl, _⟩ | ⟨a, len, cap, m, n, Dd, Pl, rfl, hb, hl, hm, hmm, _, hel⟩
  · exact ⟨[], RepL.one1 rfl (.sl0 _ _ (Nat.zero_le _))⟩
  · simp only [if_true] at hmm
    subst hmm
    by_cases h0 : len = 0
    · subst h0
      exact ⟨[], RepL.one1 rfl (.sl0 _ _ hm)⟩
    · obtain ⟨b, off, spot⟩ := a
      obtain ⟨c0, hc0, _⟩ := hel 0 (by omega)
      obtain ⟨_, hl0, hg0⟩ := World.cells?_some hc0
      have hcell0 := hg0 0 hpos
      have hx0 : c0[0]? = some (c0[0]'(by omega)) := List.getElem?_eq_getElem _
      rw [hx0] at hcell0
      have hspot : spot = none := by simpa [Addr.add] using World.cell?_spot hcell0
      subst hspot
      have hbl : b < w.heap.size := by
        rcases Nat.lt_or_ge b w.heap.size with h1 | h1
        · exact h1
        · simp [Addr.add, World.cell?, Array.getElem?_eq_none h1] at hcell0
      obtain ⟨l, vals, h1, h2, h3, h4⟩ := rows_of (w := w) (b := b) (off := off) (k := P.cellsOf e) hk len 0 (fun i hi => by
        obtain ⟨cs', hc', ht'⟩ := hel i (by omega)
        obtain ⟨_, hl', hg'⟩ := World.cells?_some hc'
        refine ⟨cs', fun j hj => ?_, hl', h w n cs' _ ht'⟩
        have := hg' j hj
        rw [addr_addO, addr_addO] at this
        rw [← this]
        simp)
      refine ⟨l, RepL.one1 rfl ?_⟩
      have hkk : ∀ x ∈ l.map δ, x.cells.length = P.cellsOf e := fun x hx => by obtain ⟨y, _, rfl⟩ := List.mem_map.1 hx; exact hk y
      have := Rep.sl (w := w) (C := cF (FA w)) b off (P.cellsOf e) m (l.map δ) vals (by simp [h1]; omega) hm hkk h3.len h3.one (fun _ _ => hbl) (fun i v hv => by have := h4 i v hv; simpa using this) (fun i v d hv hd => h3.rep i v d hv hd)
      rw [List.length_map, h1] at this
      exact this
theorem arr_rows {α : Type} {e : TypeId} {δ : α → D} (h : OpT H enc P e δ) (w : World) (fuel : Nat) (cs : List Value) (k : Nat) : ∀ (n s : Nat), (∀ i, s ≤ i → i < s + n → ∃ x, DataW.trod enc P w 0 (fun _ => true) true fuel e ((cs.drop (i * k)).take k) = some x) → cs.length = (s + n) * k →
    ∃ l : List α, l.length = n ∧ RepL (cF (FA w)) w (cs.drop (s * k)) (l.flatMap fun a => (δ a).cells) := by
  intro n
  induction n with
  | zero => intro s _ hl; exact ⟨[], rfl, by rw [List.drop_eq_nil_of_le (by rw [hl]; exact Nat.le_refl _)]; exact RepL.nil⟩
  | succ n ih =>
    intro s hx hl
    obtain ⟨x, hx0⟩ := hx s (by omega) (by omega)
    obtain ⟨a, ha⟩ := h w fuel _ x hx0
    obtain ⟨l, hll, hr⟩ := ih (s + 1) (fun i h1 h2 => hx i (by omega) (by omega)) (by rw [hl]; congr 1; omega)
    refine ⟨a :: l, by simp [hll], ?_⟩
    have := ha.append hr
    rw [show (cs.drop (s * k)).take k ++ cs.drop ((s + 1) * k) = cs.drop (s * k) by rw [show (s + 1) * k = s * k + k by rw [Nat.add_mul]; omega, ← List.drop_drop]; exact List.take_append_drop _ _] at this
    exact this
theorem OpT.array {α β : Type} {t e : TypeId} {n : Nat} {δ : α → D} {ε : β → D} (ht : P.underlying t = some (.array n e)) (hc : P.cellsOf t = n * P.cellsOf e) (h : OpT H enc P e δ) (φ : (l : List α) → l.length = n → β) (hφ : ∀ l h, (ε (φ l h)).cells = l.flatMap fun a => (δ a).cells) : OpT H enc P t ε := by
  intro w fuel cs x hx
  obtain ⟨xs, m, _, _, hl, hxl, hf⟩ := DataW.trod_array ht hx
  obtain ⟨l, hll, hr⟩ := arr_rows h w m cs (P.cellsOf e) n 0 (fun i _ hi => by
    have := hf i (by omega)
    rw [List.getElem?_eq_getElem (by omega)] at this
    exact ⟨_, this⟩) (by rw [hl, hc, Nat.zero_add])
  refine ⟨φ l hll, ?_⟩
  rw [hφ]
  simpa using hr
theorem OpT.argS {α : Type} {t : TypeId} {δ : α → D} {cs : Array Value} (h : OpT H enc P t δ) {w : World} {d : DataW H} {p : List MemPlace} (hδ : ∀ a, ∃ ds, δ a = .agg ds) (ht : DataW.Trod enc P w 0 (fun _ => true) true t (.agg cs) d p) : ∃ a, Rep w (cF (FA w)) (.agg cs) (δ a) := by
  obtain ⟨fuel, hf⟩ := ht
  obtain ⟨a, ha⟩ := h w fuel _ _ hf
  refine ⟨a, ?_⟩
  obtain ⟨ds, hd⟩ := hδ a
  rw [hd] at ha ⊢
  have := ha.agg
  simpa [Value.cells, D.cells] using this
theorem OpT.argStruct {α : Type} {t : TypeId} {fs : Array Field} {δ : α → D} (ht : P.underlying t = some (.struct fs)) (h : OpT H enc P t δ) (hδ : ∀ a, ∃ ds, δ a = .agg ds) {w : World} {r : Reach} {b0 : Nat} {v : Value} {d : DataW H} {p : List MemPlace} (hv : Value.okWide P w r b0 t v) (hd : DataW.Trod enc P w 0 (fun _ => true) true t v d p) : ∃ a, Rep w (cF (FA w)) v (δ a) := by
  obtain ⟨_, rfl, _⟩ := okWide_struct ht hv
  exact h.argS hδ hd
end
end Go.Proofs.YtnjjdbljoligdaaGreatDoor
namespace Go.Proofs.YtnjjdbljoligdaaGreatDoor
open Go.ChangeShapes Go.WideShapes Go.ChangeAt Go.RowKit
set_option maxRecDepth 100000
theorem own : ownKnob Tryz.prog.godebug = none := by kernel_rfl
theorem laidOut : laidOutB Tryz.prog = true := by kernel_rfl
theorem standIn_all (ts : List TypeId) (h : ts.all (fun t => !(Tryz.prog.wantsStandIn t)) = true) (t : TypeId) (ht : t ∈ ts) : Tryz.pinned.checked.prog.wantsStandIn t = false := by
  have := List.all_eq_true.1 h t ht
  exact (show Tryz.prog.wantsStandIn t = false by simpa using this)
def putCells (cs : Array Value) : Obj → Obj
  | .cells _ t frozen => .cells cs t frozen
  | o => o
theorem gTabType : (Tryz.prog.globals[3]?).map (·.type) = some 219 := by kernel_rfl
theorem cellsTab : Tryz.prog.cellsOf 219 = 20 := by kernel_rfl
theorem cellsU64 : Tryz.prog.cellsOf 161 = 1 := by kernel_rfl
theorem laidPow : (Rows.laid_internal_strconv_uint64pow10 : DataW Unit) = Lib.tabData .u64 Lib.pow10Tab := by kernel_rfl
theorem tab_of8 {W : World} (h : laidMetH Tryz.prog [("math/bits.deBruijn32tab", Rows.laid_math_bits_deBruijn32tab), ("math/bits.deBruijn64tab", Rows.laid_math_bits_deBruijn64tab), ("internal/strconv.uint64pow10", Rows.laid_internal_strconv_uint64pow10), ("unicode/utf8.acceptRanges", Rows.laid_unicode_utf8_acceptRanges), ("strconv.ErrRange", Rows.laid_strconv_ErrRange), ("strconv.ErrSyntax", Rows.laid_strconv_ErrSyntax), ("unicode/utf8.first", Rows.laid_unicode_utf8_first)] W) : Tab W := by
  have h1 : laidMet Tryz.prog [("internal/strconv.uint64pow10", Rows.laid_internal_strconv_uint64pow10), ("unicode/utf8.acceptRanges", Rows.laid_unicode_utf8_acceptRanges), ("strconv.ErrRange", Rows.laid_strconv_ErrRange), ("strconv.ErrSyntax", Rows.laid_strconv_ErrSyntax), ("unicode/utf8.first", Rows.laid_unicode_utf8_first)] W := (laidMet.tail (laidMet.tail h))
  rw [laidPow] at h1
  exact Lib.tabIs_of_head (rest := [("unicode/utf8.acceptRanges", Rows.laid_unicode_utf8_acceptRanges), ("strconv.ErrRange", Rows.laid_strconv_ErrRange), ("strconv.ErrSyntax", Rows.laid_strconv_ErrSyntax), ("unicode/utf8.first", Rows.laid_unicode_utf8_first)]) gTab gTabType Tryz.underlying219 Tryz.underlying161 cellsU64 cellsTab h1
theorem starErr : "*" ++ "errors.errorString" = "*errors.errorString" := by decide
theorem rowErr (u : TypeId) (h : Tryz.prog.typeName? 3 u = some "*errors.errorString") : u = 239 :=
  typeName_ptr_named (nm := "errors.errorString") (by rw [starErr]; kernel_rfl) (by kernel_rfl) (by decide) u (by rw [starErr]; exact h)
theorem cellsErr : Tryz.prog.cellsOf 241 = 1 := by kernel_rfl
theorem cellsStr : Tryz.prog.cellsOf 9 = 1 := by kernel_rfl
theorem gErrSyntax : Tryz.prog.globalNamed "strconv.ErrSyntax" = some 4 := by kernel_rfl
theorem gErrSyntaxType : (Tryz.prog.globals[4]?).map (·.type) = some 69 := by kernel_rfl
theorem ErrSyntax_of8 {W : World} (h : laidMetH Tryz.prog [("math/bits.deBruijn32tab", Rows.laid_math_bits_deBruijn32tab), ("math/bits.deBruijn64tab", Rows.laid_math_bits_deBruijn64tab), ("internal/strconv.uint64pow10", Rows.laid_internal_strconv_uint64pow10), ("unicode/utf8.acceptRanges", Rows.laid_unicode_utf8_acceptRanges), ("strconv.ErrRange", Rows.laid_strconv_ErrRange), ("strconv.ErrSyntax", Rows.laid_strconv_ErrSyntax), ("unicode/utf8.first", Rows.laid_unicode_utf8_first)] W) : ∃ te pe, W.cell? ⟨4, 0, none⟩ = some (.iface te pe) := by
  have h1 : laidMet Tryz.prog [("strconv.ErrSyntax", Rows.laid_strconv_ErrSyntax), ("unicode/utf8.first", Rows.laid_unicode_utf8_first)] W := (laidMet.tail (laidMet.tail (laidMet.tail (laidMet.tail (laidMet.tail h)))))
  obtain ⟨a, s, hv, _, _, _⟩ := laid_sentinel h1 gErrSyntax gErrSyntaxType Tryz.underlying69 rowErr Tryz.underlying239 Tryz.underlying241 rfl rfl Tryz.underlying9 cellsErr cellsStr
  exact ⟨_, _, by simpa using World.var?_cell gErrSyntax hv 0⟩
theorem gErrRange : Tryz.prog.globalNamed "strconv.ErrRange" = some 5 := by kernel_rfl
theorem gErrRangeType : (Tryz.prog.globals[5]?).map (·.type) = some 69 := by kernel_rfl
theorem ErrRange_of8 {W : World} (h : laidMetH Tryz.prog [("math/bits.deBruijn32tab", Rows.laid_math_bits_deBruijn32tab), ("math/bits.deBruijn64tab", Rows.laid_math_bits_deBruijn64tab), ("internal/strconv.uint64pow10", Rows.laid_internal_strconv_uint64pow10), ("unicode/utf8.acceptRanges", Rows.laid_unicode_utf8_acceptRanges), ("strconv.ErrRange", Rows.laid_strconv_ErrRange), ("strconv.ErrSyntax", Rows.laid_strconv_ErrSyntax), ("unicode/utf8.first", Rows.laid_unicode_utf8_first)] W) : ∃ te pe, W.cell? ⟨5, 0, none⟩ = some (.iface te pe) := by
  have h1 : laidMet Tryz.prog [("strconv.ErrRange", Rows.laid_strconv_ErrRange), ("strconv.ErrSyntax", Rows.laid_strconv_ErrSyntax), ("unicode/utf8.first", Rows.laid_unicode_utf8_first)] W := (laidMet.tail (laidMet.tail (laidMet.tail (laidMet.tail h))))
  obtain ⟨a, s, hv, _, _, _⟩ := laid_sentinel h1 gErrRange gErrRangeType Tryz.underlying69 rowErr Tryz.underlying239 Tryz.underlying241 rfl rfl Tryz.underlying9 cellsErr cellsStr
  exact ⟨_, _, by simpa using World.var?_cell gErrRange hv 0⟩
theorem u8t_of8 {W : World} (h : laidMetH Tryz.prog [("math/bits.deBruijn32tab", Rows.laid_math_bits_deBruijn32tab), ("math/bits.deBruijn64tab", Rows.laid_math_bits_deBruijn64tab), ("internal/strconv.uint64pow10", Rows.laid_internal_strconv_uint64pow10), ("unicode/utf8.acceptRanges", Rows.laid_unicode_utf8_acceptRanges), ("strconv.ErrRange", Rows.laid_strconv_ErrRange), ("strconv.ErrSyntax", Rows.laid_strconv_ErrSyntax), ("unicode/utf8.first", Rows.laid_unicode_utf8_first)] W) : U8T W :=
  utf8Tabs_of_readsT (U8Types.of196 Tryz.laysValid) ⟨by kernel_rfl, by kernel_rfl, by kernel_rfl, by kernel_rfl, by kernel_rfl, by kernel_rfl, by kernel_rfl⟩ (Lib.laidMet.reads h (.tail _ (.tail _ (.tail _ (.tail _ (.tail _ (.tail _ (.head _)))))))) (Lib.laidMet.reads h (.tail _ (.tail _ (.tail _ (.head _)))))
theorem cell_keep {w w' : World} {g c : Nat} {v : Value} (h : w.cell? ⟨g, c, none⟩ = some v) (hb : Below w.heap.size w w') : w'.cell? ⟨g, c, none⟩ = some v := by
  have hlt : g < w.heap.size := by
    rcases Nat.lt_or_ge g w.heap.size with h1 | h1
    · exact h1
    · simp [World.cell?, Array.getElem?_eq_none h1] at h
  rw [World.cell?_of_block (hb.block g hlt)]
  exact h
theorem stabU8T : Stab U8T := fun w w' h hb => ⟨fun c hc => cell_keep (h.1 c hc) hb, fun i hi => ⟨cell_keep (h.2 i hi).1 hb, cell_keep (h.2 i hi).2 hb⟩⟩
theorem shp_of {W : World} (h : W.ShapedOpen Tryz.prog) : Shp W :=
  cell_of_shapedOpen_int (k := .i64) (t := 3) (zero := #[.int .i64 0]) h (of_decide_eq_true (by kernel_rfl)) (by kernel_rfl) rfl (by kernel_rfl) (by kernel_rfl) Tryz.underlying3
def Env8 (w : World) : Prop := Tab w ∧ Shp w ∧ PIv w ∧ U8T w
theorem stabEnv8 : Stab Env8 := fun w w' ⟨a, b, c, d⟩ hb => ⟨stabTab w w' a hb, stabShp w w' b hb, stabPIv w w' c hb, stabU8T w w' d hb⟩
theorem env_of8 {W : World} (h : laidMetH Tryz.prog [("math/bits.deBruijn32tab", Rows.laid_math_bits_deBruijn32tab), ("math/bits.deBruijn64tab", Rows.laid_math_bits_deBruijn64tab), ("internal/strconv.uint64pow10", Rows.laid_internal_strconv_uint64pow10), ("unicode/utf8.acceptRanges", Rows.laid_unicode_utf8_acceptRanges), ("strconv.ErrRange", Rows.laid_strconv_ErrRange), ("strconv.ErrSyntax", Rows.laid_strconv_ErrSyntax), ("unicode/utf8.first", Rows.laid_unicode_utf8_first)] W) (hs : W.ShapedOpen Tryz.prog) : Env8 W := ⟨tab_of8 h, shp_of hs, ⟨ErrSyntax_of8 h, ErrRange_of8 h⟩, u8t_of8 h⟩
noncomputable def low8 : Nat := (World.holding Tryz.prog default ⟨#[], #[], []⟩).heap.size
noncomputable def laidWorld8 (os : Os) : World :=
  { (World.holding Tryz.prog os ⟨#[.cells #[.string ⟨#[118, 97, 108, 117, 101, 32, 111, 117, 116, 32, 111, 102, 32, 114, 97, 110, 103, 101]⟩] 241, .cells #[.string ⟨#[105, 110, 118, 97, 108, 105, 100, 32, 115, 121, 110, 116, 97, 120]⟩] 241], #[], []⟩) with heap := ((((((((World.holding Tryz.prog os ⟨#[.cells #[.string ⟨#[118, 97, 108, 117, 101, 32, 111, 117, 116, 32, 111, 102, 32, 114, 97, 110, 103, 101]⟩] 241, .cells #[.string ⟨#[105, 110, 118, 97, 108, 105, 100, 32, 115, 121, 110, 116, 97, 120]⟩] 241], #[], []⟩).heap.modify 6 (putCells #[.int .u8 0, .int .u8 1, .int .u8 28, .int .u8 2, .int .u8 29, .int .u8 14, .int .u8 24, .int .u8 3, .int .u8 30, .int .u8 22, .int .u8 20, .int .u8 15, .int .u8 25, .int .u8 17, .int .u8 4, .int .u8 8, .int .u8 31, .int .u8 27, .int .u8 13, .int .u8 23, .int .u8 21, .int .u8 19, .int .u8 16, .int .u8 7, .int .u8 26, .int .u8 12, .int .u8 18, .int .u8 6, .int .u8 11, .int .u8 5, .int .u8 10, .int .u8 9])).modify 7 (putCells #[.int .u8 0, .int .u8 1, .int .u8 56, .int .u8 2, .int .u8 57, .int .u8 49, .int .u8 28, .int .u8 3, .int .u8 61, .int .u8 58, .int .u8 42, .int .u8 50, .int .u8 38, .int .u8 29, .int .u8 17, .int .u8 4, .int .u8 62, .int .u8 47, .int .u8 59, .int .u8 36, .int .u8 45, .int .u8 43, .int .u8 51, .int .u8 22, .int .u8 53, .int .u8 39, .int .u8 33, .int .u8 30, .int .u8 24, .int .u8 18, .int .u8 12, .int .u8 5, .int .u8 63, .int .u8 55, .int .u8 48, .int .u8 27, .int .u8 60, .int .u8 41, .int .u8 37, .int .u8 16, .int .u8 46, .int .u8 35, .int .u8 44, .int .u8 21, .int .u8 52, .int .u8 32, .int .u8 23, .int .u8 11, .int .u8 54, .int .u8 26, .int .u8 40, .int .u8 15, .int .u8 34, .int .u8 20, .int .u8 31, .int .u8 10, .int .u8 25, .int .u8 14, .int .u8 19, .int .u8 9, .int .u8 13, .int .u8 8, .int .u8 7, .int .u8 6])).modify 3 (putCells #[.int .u64 1, .int .u64 10, .int .u64 100, .int .u64 1000, .int .u64 10000, .int .u64 100000, .int .u64 1000000, .int .u64 10000000, .int .u64 100000000, .int .u64 1000000000, .int .u64 10000000000, .int .u64 100000000000, .int .u64 1000000000000, .int .u64 10000000000000, .int .u64 100000000000000, .int .u64 1000000000000000, .int .u64 10000000000000000, .int .u64 100000000000000000, .int .u64 1000000000000000000, .int .u64 10000000000000000000])).modify 1 (putCells #[.int .u8 128, .int .u8 191, .int .u8 160, .int .u8 191, .int .u8 128, .int .u8 159, .int .u8 144, .int .u8 191, .int .u8 128, .int .u8 143, .int .u8 0, .int .u8 0, .int .u8 0, .int .u8 0, .int .u8 0, .int .u8 0, .int .u8 0, .int .u8 0, .int .u8 0, .int .u8 0, .int .u8 0, .int .u8 0, .int .u8 0, .int .u8 0, .int .u8 0, .int .u8 0, .int .u8 0, .int .u8 0, .int .u8 0, .int .u8 0, .int .u8 0, .int .u8 0])).modify 5 (putCells #[.iface 239 (.pointer (some ⟨low8 + 0, 0, none⟩))])).modify 4 (putCells #[.iface 239 (.pointer (some ⟨low8 + 1, 0, none⟩))])).modify 0 (putCells (Pinned.utf8FirstZ.map fun (z : Nat) => Value.int .u8 (z : Int)).toArray)) }
end Go.Proofs.YtnjjdbljoligdaaGreatDoor
namespace Go.Proofs.YtnjjdbljoligdaaGreatDoor
set_option maxRecDepth 100000
theorem lst_rate {l : TRL} (hz : ∀ d ∈ [TRL.d l], Sz d) : 0 ≤ l.Rate ∧ l.Rate ≤ 255 :=
  Sz_u8.1 (Sz_agg.1 (hz (TRL.d l) (by simp)) (.int .u8 l.Rate) (by simp))
theorem law_EdlTexts (l : TRL) : AFun Tryz.prog Env8 6 [l.d] (.bool true) := by
  refine AFun.sized (by kernel_rfl) fun hz => ?_
  exact a_law44_EdlTexts stabEnv8 (fun _ h => h.2.2.1) (fun _ h => h.2.1) (fun _ h => h.1) (fun _ h => h.2.2.2) (EdlTexts_true l (lst_rate hz))
end Go.Proofs.YtnjjdbljoligdaaGreatDoor







namespace Go.Proofs.YtnjjdbljoligdaaGreatDoor
set_option maxRecDepth 100000
structure CutG (r : Int) (d : Bool) (c : T_api_Cut) : Prop where
  num : 1 ≤ c.Number ∧ c.Number ≤ 999
  reel : isNm c.Reel = true
  src : 0 ≤ c.Source ∧ c.Source < dayS r d
  ein : 0 ≤ c.Record.In ∧ c.Record.In < dayS r d
  out : 0 ≤ c.Record.Out ∧ c.Record.Out < dayS r d
  sp : spOK c.Speed
end Go.Proofs.YtnjjdbljoligdaaGreatDoor



