/- The law of the texts of regions holds: plain; no program in sight. -/
import Derived.Test.YtipdmcpmedmicaaDoorL10v
set_option linter.unusedSimpArgs false
set_option linter.unusedVariables false
namespace Go.Proofs.YtipdmcpmedmicaaDoor
set_option maxRecDepth 100000

theorem take_at {L : T_api_Line} {k : Nat} {f : T_api_Field} (hl : L.Fields.length = 7) (hf : L.Fields[k]? = some f) (hq : f.Quoted = false) : g_ref07_Scanner_take ⟨L, (k : Int), 0, 0⟩ false = some (f, true, ⟨L, ((k + 1 : Nat) : Int), 0, 0⟩) := by
  have hk : k < 7 := by have := (List.getElem?_eq_some_iff.1 hf).1; omega
  have hw := wrap_i64 ((L.Fields.length : Int) - (k : Int)) (by omega) (by omega)
  have hw2 := wrap_i64 ((k : Int) + 1) (by omega) (by omega)
  have hat : atI L.Fields (k : Int) = some f := by simp [atI, hf]
  unfold g_ref07_Scanner_take g_ref07_Scanner_Left
  simp only [bne_self_eq_false, Bool.false_eq_true, if_false, hw, Option.bind_some]
  rw [if_neg (by simp; omega), hat]
  simp only [Option.bind_some, hq, beq_self_eq_true, if_true, hw2]
  rfl
theorem name_at {L : T_api_Line} {k : Nat} {f : T_api_Field} (hl : L.Fields.length = 7) (hf : L.Fields[k]? = some f) (hq : f.Quoted = false) (hn : isNm f.Text = true) : g_ref07_Scanner_Name ⟨L, (k : Int), 0, 0⟩ false = some (f.Text, ⟨L, ((k + 1 : Nat) : Int), 0, 0⟩) := by
  unfold g_ref07_Scanner_Name
  rw [take_at hl hf hq]
  simp only [Option.bind_some, if_true, Bool.false_eq_true, if_false, ref07_Name_eq, hn]
theorem number_at {L : T_api_Line} {k : Nat} {f : T_api_Field} {n lo hi : Int} (hl : L.Fields.length = 7) (hf : L.Fields[k]? = some f) (hq : f.Quoted = false) (hn : g_ref07_Number f.Text lo hi = some (n, 0)) : g_ref07_Scanner_Number ⟨L, (k : Int), 0, 0⟩ lo hi = some (n, ⟨L, ((k + 1 : Nat) : Int), 0, 0⟩) := by
  unfold g_ref07_Scanner_Number
  rw [take_at hl hf hq]
  simp only [Option.bind_some, if_true, hn, bne_self_eq_false, Bool.false_eq_true, if_false]
theorem choice_at {L : T_api_Line} {k : Nat} {f : T_api_Field} {ws : List (List UInt8)} (hl : L.Fields.length = 7) (hf : L.Fields[k]? = some f) (hq : f.Quoted = false) (i : Nat) (hw : ws.length ≤ 1000) (hi : ws[i]? = some f.Text) (hb : ∀ j, j < i → ws[j]? ≠ some f.Text) : g_ref07_Scanner_Choice ⟨L, (k : Int), 0, 0⟩ ws = some ((i : Int), ⟨L, ((k + 1 : Nat) : Int), 0, 0⟩) := by
  have hil := (List.getElem?_eq_some_iff.1 hi).1
  unfold g_ref07_Scanner_Choice
  rw [take_at hl hf hq]
  simp only [Option.bind_some, if_true]
  have key : iter (g_ref07_Scanner_Choice_s1 ws (f, true, ⟨L, ((k + 1 : Nat) : Int), 0, 0⟩)) 0 = some (.inl (i : Int)) := by
    refine iter_chain (fun j => (j : Int)) i (by omega) (fun j hj => ?_) ?_
    · have hjl : j < ws.length := by omega
      have hwr := wrap_i64 ((j : Int) + 1) (by omega) (by omega)
      simp only [g_ref07_Scanner_Choice_s1, atI_nat hjl, Option.bind_some, hwr]
      rw [if_pos (by simpa using hjl), if_neg (fun e => hb j hj (by rw [List.getElem?_eq_getElem hjl]; simpa using e))]
      rfl
    · have e : ws[i] = f.Text := by
        have := List.getElem?_eq_getElem hil
        rw [hi] at this; injection this with this; exact this.symm
      simp only [g_ref07_Scanner_Choice_s1, atI_nat hil, Option.bind_some]
      rw [if_pos (by simpa using hil), if_pos (by simp [e])]
  rw [key]
  rfl
/-- The reference reads a region from its text. -/
theorem ref_back {r : T_api_Region} (h : chk r = 0) : g_ref10_Parse (txt r) = some (r, 0) := by
  obtain ⟨h1, h2, h3⟩ := chk_all h
  unfold g_ref10_Parse
  rw [ref_Split_eq, splitS_txt h]
  have hd : ¬ ((0 : Int) < (([] : List T_api_Diag).length : Int)) := by simp
  simp only [Option.bind_some, hd, decide_false, Bool.false_eq_true, if_false]
  rw [if_neg (by simp)]
  have a0 : atI [(⟨1, fldsOf (wds r) 0⟩ : T_api_Line)] 0 = some ⟨1, fldsOf (wds r) 0⟩ := rfl
  simp only [a0, Option.bind_some, g_ref07_Scan]
  have hl : (⟨1, fldsOf (wds r) 0⟩ : T_api_Line).Fields.length = 7 := by simp [fldsOf, wds]
  have e0 := name_at (k := 0) hl rfl rfl h1
  have e1 := number_at (k := 1) (n := r.Top) (lo := 0) (hi := 31) hl rfl rfl (rnum032 0 31 (by omega) (by omega) (by omega) (by omega))
  have e2 := number_at (k := 2) (n := r.Height) (lo := 1) (hi := 32) hl rfl rfl (rnum032 1 32 (by omega) (by omega) (by omega) (by omega))
  have e3 := number_at (k := 3) (n := r.Left) (lo := 0) (hi := 31) hl rfl rfl (rnum032 0 31 (by omega) (by omega) (by omega) (by omega))
  have e4 := number_at (k := 4) (n := r.Width) (lo := 1) (hi := 32) hl rfl rfl (rnum032 1 32 (by omega) (by omega) (by omega) (by omega))
  have e5 : ∃ i : Nat, g_ref07_Scanner_Choice ⟨⟨1, fldsOf (wds r) 0⟩, ((5 : Nat) : Int), 0, 0⟩ [[76, 69, 70, 84], [67, 69, 78, 84, 69, 82], [82, 73, 71, 72, 84]] = some ((i : Int), ⟨⟨1, fldsOf (wds r) 0⟩, ((6 : Nat) : Int), 0, 0⟩) ∧ (i : Int) + 1 = r.Align := by
    have ha : r.Align = 1 ∨ r.Align = 2 ∨ r.Align = 3 := by omega
    rcases ha with ha | ha | ha
    · exact ⟨0, choice_at hl rfl rfl 0 (by simp) (by simp [alW, ha]) (by intro j hj; omega), by simp [ha]⟩
    · exact ⟨1, choice_at hl rfl rfl 1 (by simp) (by simp [alW, ha]) (by intro j hj; obtain rfl : j = 0 := (by omega); simp [alW, ha]), by simp [ha]⟩
    · refine ⟨2, choice_at hl rfl rfl 2 (by simp) (by simp [alW, ha]) (by intro j hj; have : j = 0 ∨ j = 1 := (by omega); rcases this with rfl | rfl <;> simp [alW, ha]), by simp [ha]⟩
  obtain ⟨i, e5, hi⟩ := e5
  have e6 : ∃ j : Nat, g_ref07_Scanner_Choice ⟨⟨1, fldsOf (wds r) 0⟩, ((6 : Nat) : Int), 0, 0⟩ [[84, 79, 80], [66, 79, 84, 84, 79, 77]] = some ((j : Int), ⟨⟨1, fldsOf (wds r) 0⟩, ((7 : Nat) : Int), 0, 0⟩) ∧ ((j : Int) == 1) = r.Bottom := by
    cases hb : r.Bottom with
    | false => exact ⟨0, choice_at hl rfl rfl 0 (by simp) (by simp [anW, hb]) (by intro j hj; omega), rfl⟩
    | true => exact ⟨1, choice_at hl rfl rfl 1 (by simp) (by simp [anW, hb]) (by intro j hj; obtain rfl : j = 0 := (by omega); simp [anW, hb]), rfl⟩
  obtain ⟨j, e6, hj⟩ := e6
  have hT : g_ref10_Take ⟨⟨1, fldsOf (wds r) 0⟩, 0, 0, 0⟩ = some (r, ⟨⟨1, fldsOf (wds r) 0⟩, ((7 : Nat) : Int), 0, 0⟩) := by
    unfold g_ref10_Take
    have e0' : g_ref07_Scanner_Name ⟨⟨1, fldsOf (wds r) 0⟩, 0, 0, 0⟩ false = some (r.Name, ⟨⟨1, fldsOf (wds r) 0⟩, ((1 : Nat) : Int), 0, 0⟩) := e0
    rw [e0']
    simp only [Option.bind_some]
    rw [e1]
    simp only [Option.bind_some]
    rw [e2]
    simp only [Option.bind_some]
    rw [e3]
    simp only [Option.bind_some]
    rw [e4]
    simp only [Option.bind_some, g_ref10_Aligns]
    rw [e5]
    simp only [Option.bind_some]
    rw [e6]
    simp only [Option.bind_some, hj]
    have hw : IntKind.u8.wrap (IntKind.i64.wrap ((i : Int) + 1)) = r.Align := by
      rw [hi]
      have ha : r.Align = 1 ∨ r.Align = 2 ∨ r.Align = 3 := by omega
      rcases ha with ha | ha | ha <;> rw [ha] <;> rfl
    rw [hw]
  rw [hT]
  simp only [Option.bind_some]
  have hE : g_ref07_Scanner_End ⟨⟨1, fldsOf (wds r) 0⟩, ((7 : Nat) : Int), 0, 0⟩ = some (⟨0, 0, 0⟩, false, ⟨⟨1, fldsOf (wds r) 0⟩, ((7 : Nat) : Int), 0, 0⟩) := by
    unfold g_ref07_Scanner_End g_ref07_Scanner_Left
    simp only [bne_self_eq_false, Bool.false_eq_true, if_false, Option.bind_some]
    have e : IntKind.i64.wrap (((fldsOf (wds r) 0).length : Int) - ((7 : Nat) : Int)) = 0 := by
      have : (fldsOf (wds r) 0).length = 7 := hl
      rw [this]; rfl
    rw [e]
    simp
  rw [hE]
  simp only [Option.bind_some, Bool.false_eq_true, if_false, ref10_Text_eq]
  rw [if_pos h]
  simp
/-- The two readers agree. -/
theorem parses_eq (s : List UInt8) (hs : s.length ≤ 1048576) : ∃ res, g_region_Parse s = some res ∧ g_ref10_Parse s = some res := by
  obtain ⟨a, h1, h2⟩ := region_total s hs
  obtain ⟨b, h3, h4⟩ := ref_total s
  rcases h2 with ⟨k1, k2, k3⟩ | rfl
  · have := ref_back k2
    rw [k3, h3] at this
    injection this with this
    refine ⟨a, h1, ?_⟩
    rw [h3, this]
    congr 1
    exact Prod.ext rfl k1.symm
  · rcases h4 with ⟨k1, k2, k3⟩ | rfl
    · have := region_back k2
      rw [k3, h1] at this
      injection this with this
      injection this with _ this
      cases this
    · exact ⟨_, h1, h3⟩
theorem RegionTexts_true (r : T_api_Region) (s : List UInt8) (hs : s.length ≤ 1048576) : g_law10_RegionTexts r s = some true := by
  obtain ⟨p, hp, hq⟩ := parses_eq s hs
  unfold g_law10_RegionTexts
  rw [awake10, region_Text_eq, ref10_Text_eq, hp, hq]
  by_cases h : chk r = 0
  · simp [h, region_back h]
  · simp [h]
end Go.Proofs.YtipdmcpmedmicaaDoor
