/- Texts of one proof, put together (Q6, LQ2, LQ). No condition but those that each theorem states. -/
import Derived.Test.YtedhognhhcihpaaGreatDoorW6
set_option linter.unusedSimpArgs false
set_option linter.unusedVariables false
namespace Go.Proofs.YtedhognhhcihpaaGreatDoor
set_option maxRecDepth 100000
theorem num_ok {n : Int} (h : 0 ≤ n ∧ n ≤ 5184000) : g_ref07_Number (Lib.itoa n) 0 5184000 = some (n, 0) := by
  have h1 := itoa_len (n := n) (by omega)
  rw [ref_Number_eq _ _ _ (by omega), numS_in n 0 5184000 (by omega) (by omega) h.1 h.2]
theorem num_at {L : T_api_Line} {k : Nat} {n : Int} {c : Int} (hl : L.Fields.length ≤ 1000) (hf : L.Fields[k]? = some ⟨Lib.itoa n, c, false⟩) (h : 0 ≤ n ∧ n ≤ 5184000) : g_ref39_num ⟨L, (k : Int), 0, 0⟩ = some (n, ⟨L, ((k + 1 : Nat) : Int), 0, 0⟩) := by
  unfold g_ref39_num
  rw [number_at hl hf rfl (num_ok h)]
  rfl
theorem itoa_1000 {n : Int} (h : 0 ≤ n ∧ n ≤ 10000000) : (Lib.itoa n).length ≤ 1000 := by
  have := itoa_len (n := n) (by omega); omega
theorem back_0 {x : T_api_Line} {c0 c1 : Int} {v0 : List UInt8} (hF : x.Fields = [⟨[80, 82, 79, 70, 73, 76, 69], c0, false⟩, ⟨v0, c1, false⟩]) (h0 : isNm v0 = true) (p : T_api_Profile) : g_profile_take p x 0 = some (⟨0, 0, 0⟩, false, ⟨v0, p.Reading, p.MinFrames, p.MaxFrames, p.MinGap, p.ShotBefore, p.ShotAfter, p.Rows, p.Cols, p.Forbidden, p.SafeTop, p.SafeBottom, p.SafeLeft, p.SafeRight⟩) := by
  have hx : lnOK x := by
    refine ⟨by rw [hF]; simp, fun f hf => ?_⟩
    rw [hF] at hf
    simp only [List.mem_cons, List.not_mem_nil, or_false] at hf
    rcases hf with rfl | rfl
    · simp
    · exact Nat.le_trans (nm_len h0).2 (by omega)
  obtain ⟨d, b, p', s, q, k1, k2, k3, k4, k5, _⟩ := take39 hx (by rw [hF]; simp) 0 (by omega) p
  have hsub : subI ([[80, 82, 79, 70, 73, 76, 69], [82, 69, 65, 68, 73, 78, 71], [70, 82, 65, 77, 69, 83], [71, 65, 80], [83, 72, 79, 84, 83], [83, 73, 90, 69], [83, 65, 70, 69], [70, 79, 82, 66, 73, 68, 68, 69, 78]] : List (List UInt8)) 0 (IntKind.i64.wrap (0 + 1)) = some [[80, 82, 79, 70, 73, 76, 69]] := by decide
  have hC := choice_at (L := x) (k := 0) (f := ⟨[80, 82, 79, 70, 73, 76, 69], c0, false⟩) (ws := [[80, 82, 79, 70, 73, 76, 69]]) hx.1 (by rw [hF]; rfl) rfl 0 (by simp) rfl (by omega)
  have e0 := name_at (L := x) (k := 1) (f := ⟨v0, c1, false⟩) hx.1 (by rw [hF]; rfl) rfl h0
  have hE := end_at (L := x) hx.1
  have hn : x.Fields.length = 2 := by rw [hF]; rfl
  rw [hn] at hE
  have hT : g_ref39_take ⟨x, 0, 0, 0⟩ 0 p = some (⟨x, ((2 : Nat) : Int), 0, 0⟩, ⟨v0, p.Reading, p.MinFrames, p.MaxFrames, p.MinGap, p.ShotBefore, p.ShotAfter, p.Rows, p.Cols, p.Forbidden, p.SafeTop, p.SafeBottom, p.SafeLeft, p.SafeRight⟩) := by
    unfold g_ref39_take
    rw [hsub, show (⟨x, 0, 0, 0⟩ : T_captionerref07_Scanner) = ⟨x, ((0 : Nat) : Int), 0, 0⟩ from rfl]
    simp only [Option.bind_some, hC, Int.reduceBEq, Bool.false_eq_true, if_false, if_true, Nat.reduceAdd, Nat.zero_add, e0]
  rw [show (((0 : Nat) : Int)) = 0 from rfl, hT] at k2
  simp only [Option.some.injEq, Prod.mk.injEq] at k2
  obtain ⟨rfl, rfl⟩ := k2
  rw [hE] at k3
  simp only [Option.some.injEq, Prod.mk.injEq] at k3
  obtain ⟨rfl, rfl, _⟩ := k3
  rw [show (((0 : Nat) : Int)) = 0 from rfl] at k1
  rw [k1, ← k4 rfl]
theorem back_1 {x : T_api_Line} {c0 c1 : Int} {v0 : Int} (hF : x.Fields = [⟨[82, 69, 65, 68, 73, 78, 71], c0, false⟩, ⟨Lib.itoa v0, c1, false⟩]) (h0 : 0 ≤ v0 ∧ v0 ≤ 5184000) (p : T_api_Profile) : g_profile_take p x 1 = some (⟨0, 0, 0⟩, false, ⟨p.Name, v0, p.MinFrames, p.MaxFrames, p.MinGap, p.ShotBefore, p.ShotAfter, p.Rows, p.Cols, p.Forbidden, p.SafeTop, p.SafeBottom, p.SafeLeft, p.SafeRight⟩) := by
  have hx : lnOK x := by
    refine ⟨by rw [hF]; simp, fun f hf => ?_⟩
    rw [hF] at hf
    simp only [List.mem_cons, List.not_mem_nil, or_false] at hf
    rcases hf with rfl | rfl
    · simp
    · exact itoa_1000 (by omega)
  obtain ⟨d, b, p', s, q, k1, k2, k3, k4, k5, _⟩ := take39 hx (by rw [hF]; simp) 1 (by omega) p
  have hsub : subI ([[80, 82, 79, 70, 73, 76, 69], [82, 69, 65, 68, 73, 78, 71], [70, 82, 65, 77, 69, 83], [71, 65, 80], [83, 72, 79, 84, 83], [83, 73, 90, 69], [83, 65, 70, 69], [70, 79, 82, 66, 73, 68, 68, 69, 78]] : List (List UInt8)) 1 (IntKind.i64.wrap (1 + 1)) = some [[82, 69, 65, 68, 73, 78, 71]] := by decide
  have hC := choice_at (L := x) (k := 0) (f := ⟨[82, 69, 65, 68, 73, 78, 71], c0, false⟩) (ws := [[82, 69, 65, 68, 73, 78, 71]]) hx.1 (by rw [hF]; rfl) rfl 0 (by simp) rfl (by omega)
  have e0 := num_at (L := x) (k := 1) (n := v0) (c := c1) hx.1 (by rw [hF]; rfl) h0
  have hE := end_at (L := x) hx.1
  have hn : x.Fields.length = 2 := by rw [hF]; rfl
  rw [hn] at hE
  have hT : g_ref39_take ⟨x, 0, 0, 0⟩ 1 p = some (⟨x, ((2 : Nat) : Int), 0, 0⟩, ⟨p.Name, v0, p.MinFrames, p.MaxFrames, p.MinGap, p.ShotBefore, p.ShotAfter, p.Rows, p.Cols, p.Forbidden, p.SafeTop, p.SafeBottom, p.SafeLeft, p.SafeRight⟩) := by
    unfold g_ref39_take
    rw [hsub, show (⟨x, 0, 0, 0⟩ : T_captionerref07_Scanner) = ⟨x, ((0 : Nat) : Int), 0, 0⟩ from rfl]
    simp only [Option.bind_some, hC, Int.reduceBEq, Bool.false_eq_true, if_false, if_true, Nat.reduceAdd, Nat.zero_add, e0]
  rw [show (((1 : Nat) : Int)) = 1 from rfl, hT] at k2
  simp only [Option.some.injEq, Prod.mk.injEq] at k2
  obtain ⟨rfl, rfl⟩ := k2
  rw [hE] at k3
  simp only [Option.some.injEq, Prod.mk.injEq] at k3
  obtain ⟨rfl, rfl, _⟩ := k3
  rw [show (((1 : Nat) : Int)) = 1 from rfl] at k1
  rw [k1, ← k4 rfl]
theorem back_2 {x : T_api_Line} {c0 c1 c2 : Int} {v0 : Int} {v1 : Int} (hF : x.Fields = [⟨[70, 82, 65, 77, 69, 83], c0, false⟩, ⟨Lib.itoa v0, c1, false⟩, ⟨Lib.itoa v1, c2, false⟩]) (h0 : 0 ≤ v0 ∧ v0 ≤ 5184000) (h1 : 0 ≤ v1 ∧ v1 ≤ 5184000) (p : T_api_Profile) : g_profile_take p x 2 = some (⟨0, 0, 0⟩, false, ⟨p.Name, p.Reading, v0, v1, p.MinGap, p.ShotBefore, p.ShotAfter, p.Rows, p.Cols, p.Forbidden, p.SafeTop, p.SafeBottom, p.SafeLeft, p.SafeRight⟩) := by
  have hx : lnOK x := by
    refine ⟨by rw [hF]; simp, fun f hf => ?_⟩
    rw [hF] at hf
    simp only [List.mem_cons, List.not_mem_nil, or_false] at hf
    rcases hf with rfl | rfl | rfl
    · simp
    · exact itoa_1000 (by omega)
    · exact itoa_1000 (by omega)
  obtain ⟨d, b, p', s, q, k1, k2, k3, k4, k5, _⟩ := take39 hx (by rw [hF]; simp) 2 (by omega) p
  have hsub : subI ([[80, 82, 79, 70, 73, 76, 69], [82, 69, 65, 68, 73, 78, 71], [70, 82, 65, 77, 69, 83], [71, 65, 80], [83, 72, 79, 84, 83], [83, 73, 90, 69], [83, 65, 70, 69], [70, 79, 82, 66, 73, 68, 68, 69, 78]] : List (List UInt8)) 2 (IntKind.i64.wrap (2 + 1)) = some [[70, 82, 65, 77, 69, 83]] := by decide
  have hC := choice_at (L := x) (k := 0) (f := ⟨[70, 82, 65, 77, 69, 83], c0, false⟩) (ws := [[70, 82, 65, 77, 69, 83]]) hx.1 (by rw [hF]; rfl) rfl 0 (by simp) rfl (by omega)
  have e0 := num_at (L := x) (k := 1) (n := v0) (c := c1) hx.1 (by rw [hF]; rfl) h0
  have e1 := num_at (L := x) (k := 2) (n := v1) (c := c2) hx.1 (by rw [hF]; rfl) h1
  have hE := end_at (L := x) hx.1
  have hn : x.Fields.length = 3 := by rw [hF]; rfl
  rw [hn] at hE
  have hT : g_ref39_take ⟨x, 0, 0, 0⟩ 2 p = some (⟨x, ((3 : Nat) : Int), 0, 0⟩, ⟨p.Name, p.Reading, v0, v1, p.MinGap, p.ShotBefore, p.ShotAfter, p.Rows, p.Cols, p.Forbidden, p.SafeTop, p.SafeBottom, p.SafeLeft, p.SafeRight⟩) := by
    unfold g_ref39_take
    rw [hsub, show (⟨x, 0, 0, 0⟩ : T_captionerref07_Scanner) = ⟨x, ((0 : Nat) : Int), 0, 0⟩ from rfl]
    simp only [Option.bind_some, hC, Int.reduceBEq, Bool.false_eq_true, if_false, if_true, Nat.reduceAdd, Nat.zero_add, e0, e1]
  rw [show (((2 : Nat) : Int)) = 2 from rfl, hT] at k2
  simp only [Option.some.injEq, Prod.mk.injEq] at k2
  obtain ⟨rfl, rfl⟩ := k2
  rw [hE] at k3
  simp only [Option.some.injEq, Prod.mk.injEq] at k3
  obtain ⟨rfl, rfl, _⟩ := k3
  rw [show (((2 : Nat) : Int)) = 2 from rfl] at k1
  rw [k1, ← k4 rfl]
theorem back_3 {x : T_api_Line} {c0 c1 : Int} {v0 : Int} (hF : x.Fields = [⟨[71, 65, 80], c0, false⟩, ⟨Lib.itoa v0, c1, false⟩]) (h0 : 0 ≤ v0 ∧ v0 ≤ 5184000) (p : T_api_Profile) : g_profile_take p x 3 = some (⟨0, 0, 0⟩, false, ⟨p.Name, p.Reading, p.MinFrames, p.MaxFrames, v0, p.ShotBefore, p.ShotAfter, p.Rows, p.Cols, p.Forbidden, p.SafeTop, p.SafeBottom, p.SafeLeft, p.SafeRight⟩) := by
  have hx : lnOK x := by
    refine ⟨by rw [hF]; simp, fun f hf => ?_⟩
    rw [hF] at hf
    simp only [List.mem_cons, List.not_mem_nil, or_false] at hf
    rcases hf with rfl | rfl
    · simp
    · exact itoa_1000 (by omega)
  obtain ⟨d, b, p', s, q, k1, k2, k3, k4, k5, _⟩ := take39 hx (by rw [hF]; simp) 3 (by omega) p
  have hsub : subI ([[80, 82, 79, 70, 73, 76, 69], [82, 69, 65, 68, 73, 78, 71], [70, 82, 65, 77, 69, 83], [71, 65, 80], [83, 72, 79, 84, 83], [83, 73, 90, 69], [83, 65, 70, 69], [70, 79, 82, 66, 73, 68, 68, 69, 78]] : List (List UInt8)) 3 (IntKind.i64.wrap (3 + 1)) = some [[71, 65, 80]] := by decide
  have hC := choice_at (L := x) (k := 0) (f := ⟨[71, 65, 80], c0, false⟩) (ws := [[71, 65, 80]]) hx.1 (by rw [hF]; rfl) rfl 0 (by simp) rfl (by omega)
  have e0 := num_at (L := x) (k := 1) (n := v0) (c := c1) hx.1 (by rw [hF]; rfl) h0
  have hE := end_at (L := x) hx.1
  have hn : x.Fields.length = 2 := by rw [hF]; rfl
  rw [hn] at hE
  have hT : g_ref39_take ⟨x, 0, 0, 0⟩ 3 p = some (⟨x, ((2 : Nat) : Int), 0, 0⟩, ⟨p.Name, p.Reading, p.MinFrames, p.MaxFrames, v0, p.ShotBefore, p.ShotAfter, p.Rows, p.Cols, p.Forbidden, p.SafeTop, p.SafeBottom, p.SafeLeft, p.SafeRight⟩) := by
    unfold g_ref39_take
    rw [hsub, show (⟨x, 0, 0, 0⟩ : T_captionerref07_Scanner) = ⟨x, ((0 : Nat) : Int), 0, 0⟩ from rfl]
    simp only [Option.bind_some, hC, Int.reduceBEq, Bool.false_eq_true, if_false, if_true, Nat.reduceAdd, Nat.zero_add, e0]
  rw [show (((3 : Nat) : Int)) = 3 from rfl, hT] at k2
  simp only [Option.some.injEq, Prod.mk.injEq] at k2
  obtain ⟨rfl, rfl⟩ := k2
  rw [hE] at k3
  simp only [Option.some.injEq, Prod.mk.injEq] at k3
  obtain ⟨rfl, rfl, _⟩ := k3
  rw [show (((3 : Nat) : Int)) = 3 from rfl] at k1
  rw [k1, ← k4 rfl]
theorem back_4 {x : T_api_Line} {c0 c1 c2 : Int} {v0 : Int} {v1 : Int} (hF : x.Fields = [⟨[83, 72, 79, 84, 83], c0, false⟩, ⟨Lib.itoa v0, c1, false⟩, ⟨Lib.itoa v1, c2, false⟩]) (h0 : 0 ≤ v0 ∧ v0 ≤ 5184000) (h1 : 0 ≤ v1 ∧ v1 ≤ 5184000) (p : T_api_Profile) : g_profile_take p x 4 = some (⟨0, 0, 0⟩, false, ⟨p.Name, p.Reading, p.MinFrames, p.MaxFrames, p.MinGap, v0, v1, p.Rows, p.Cols, p.Forbidden, p.SafeTop, p.SafeBottom, p.SafeLeft, p.SafeRight⟩) := by
  have hx : lnOK x := by
    refine ⟨by rw [hF]; simp, fun f hf => ?_⟩
    rw [hF] at hf
    simp only [List.mem_cons, List.not_mem_nil, or_false] at hf
    rcases hf with rfl | rfl | rfl
    · simp
    · exact itoa_1000 (by omega)
    · exact itoa_1000 (by omega)
  obtain ⟨d, b, p', s, q, k1, k2, k3, k4, k5, _⟩ := take39 hx (by rw [hF]; simp) 4 (by omega) p
  have hsub : subI ([[80, 82, 79, 70, 73, 76, 69], [82, 69, 65, 68, 73, 78, 71], [70, 82, 65, 77, 69, 83], [71, 65, 80], [83, 72, 79, 84, 83], [83, 73, 90, 69], [83, 65, 70, 69], [70, 79, 82, 66, 73, 68, 68, 69, 78]] : List (List UInt8)) 4 (IntKind.i64.wrap (4 + 1)) = some [[83, 72, 79, 84, 83]] := by decide
  have hC := choice_at (L := x) (k := 0) (f := ⟨[83, 72, 79, 84, 83], c0, false⟩) (ws := [[83, 72, 79, 84, 83]]) hx.1 (by rw [hF]; rfl) rfl 0 (by simp) rfl (by omega)
  have e0 := num_at (L := x) (k := 1) (n := v0) (c := c1) hx.1 (by rw [hF]; rfl) h0
  have e1 := num_at (L := x) (k := 2) (n := v1) (c := c2) hx.1 (by rw [hF]; rfl) h1
  have hE := end_at (L := x) hx.1
  have hn : x.Fields.length = 3 := by rw [hF]; rfl
  rw [hn] at hE
  have hT : g_ref39_take ⟨x, 0, 0, 0⟩ 4 p = some (⟨x, ((3 : Nat) : Int), 0, 0⟩, ⟨p.Name, p.Reading, p.MinFrames, p.MaxFrames, p.MinGap, v0, v1, p.Rows, p.Cols, p.Forbidden, p.SafeTop, p.SafeBottom, p.SafeLeft, p.SafeRight⟩) := by
    unfold g_ref39_take
    rw [hsub, show (⟨x, 0, 0, 0⟩ : T_captionerref07_Scanner) = ⟨x, ((0 : Nat) : Int), 0, 0⟩ from rfl]
    simp only [Option.bind_some, hC, Int.reduceBEq, Bool.false_eq_true, if_false, if_true, Nat.reduceAdd, Nat.zero_add, e0, e1]
  rw [show (((4 : Nat) : Int)) = 4 from rfl, hT] at k2
  simp only [Option.some.injEq, Prod.mk.injEq] at k2
  obtain ⟨rfl, rfl⟩ := k2
  rw [hE] at k3
  simp only [Option.some.injEq, Prod.mk.injEq] at k3
  obtain ⟨rfl, rfl, _⟩ := k3
  rw [show (((4 : Nat) : Int)) = 4 from rfl] at k1
  rw [k1, ← k4 rfl]
theorem back_5 {x : T_api_Line} {c0 c1 c2 : Int} {v0 : Int} {v1 : Int} (hF : x.Fields = [⟨[83, 73, 90, 69], c0, false⟩, ⟨Lib.itoa v0, c1, false⟩, ⟨Lib.itoa v1, c2, false⟩]) (h0 : 0 ≤ v0 ∧ v0 ≤ 5184000) (h1 : 0 ≤ v1 ∧ v1 ≤ 5184000) (p : T_api_Profile) : g_profile_take p x 5 = some (⟨0, 0, 0⟩, false, ⟨p.Name, p.Reading, p.MinFrames, p.MaxFrames, p.MinGap, p.ShotBefore, p.ShotAfter, v0, v1, p.Forbidden, p.SafeTop, p.SafeBottom, p.SafeLeft, p.SafeRight⟩) := by
  have hx : lnOK x := by
    refine ⟨by rw [hF]; simp, fun f hf => ?_⟩
    rw [hF] at hf
    simp only [List.mem_cons, List.not_mem_nil, or_false] at hf
    rcases hf with rfl | rfl | rfl
    · simp
    · exact itoa_1000 (by omega)
    · exact itoa_1000 (by omega)
  obtain ⟨d, b, p', s, q, k1, k2, k3, k4, k5, _⟩ := take39 hx (by rw [hF]; simp) 5 (by omega) p
  have hsub : subI ([[80, 82, 79, 70, 73, 76, 69], [82, 69, 65, 68, 73, 78, 71], [70, 82, 65, 77, 69, 83], [71, 65, 80], [83, 72, 79, 84, 83], [83, 73, 90, 69], [83, 65, 70, 69], [70, 79, 82, 66, 73, 68, 68, 69, 78]] : List (List UInt8)) 5 (IntKind.i64.wrap (5 + 1)) = some [[83, 73, 90, 69]] := by decide
  have hC := choice_at (L := x) (k := 0) (f := ⟨[83, 73, 90, 69], c0, false⟩) (ws := [[83, 73, 90, 69]]) hx.1 (by rw [hF]; rfl) rfl 0 (by simp) rfl (by omega)
  have e0 := num_at (L := x) (k := 1) (n := v0) (c := c1) hx.1 (by rw [hF]; rfl) h0
  have e1 := num_at (L := x) (k := 2) (n := v1) (c := c2) hx.1 (by rw [hF]; rfl) h1
  have hE := end_at (L := x) hx.1
  have hn : x.Fields.length = 3 := by rw [hF]; rfl
  rw [hn] at hE
  have hT : g_ref39_take ⟨x, 0, 0, 0⟩ 5 p = some (⟨x, ((3 : Nat) : Int), 0, 0⟩, ⟨p.Name, p.Reading, p.MinFrames, p.MaxFrames, p.MinGap, p.ShotBefore, p.ShotAfter, v0, v1, p.Forbidden, p.SafeTop, p.SafeBottom, p.SafeLeft, p.SafeRight⟩) := by
    unfold g_ref39_take
    rw [hsub, show (⟨x, 0, 0, 0⟩ : T_captionerref07_Scanner) = ⟨x, ((0 : Nat) : Int), 0, 0⟩ from rfl]
    simp only [Option.bind_some, hC, Int.reduceBEq, Bool.false_eq_true, if_false, if_true, Nat.reduceAdd, Nat.zero_add, e0, e1]
  rw [show (((5 : Nat) : Int)) = 5 from rfl, hT] at k2
  simp only [Option.some.injEq, Prod.mk.injEq] at k2
  obtain ⟨rfl, rfl⟩ := k2
  rw [hE] at k3
  simp only [Option.some.injEq, Prod.mk.injEq] at k3
  obtain ⟨rfl, rfl, _⟩ := k3
  rw [show (((5 : Nat) : Int)) = 5 from rfl] at k1
  rw [k1, ← k4 rfl]
theorem back_6 {x : T_api_Line} {c0 c1 c2 c3 c4 : Int} {v0 : Int} {v1 : Int} {v2 : Int} {v3 : Int} (hF : x.Fields = [⟨[83, 65, 70, 69], c0, false⟩, ⟨Lib.itoa v0, c1, false⟩, ⟨Lib.itoa v1, c2, false⟩, ⟨Lib.itoa v2, c3, false⟩, ⟨Lib.itoa v3, c4, false⟩]) (h0 : 0 ≤ v0 ∧ v0 ≤ 5184000) (h1 : 0 ≤ v1 ∧ v1 ≤ 5184000) (h2 : 0 ≤ v2 ∧ v2 ≤ 5184000) (h3 : 0 ≤ v3 ∧ v3 ≤ 5184000) (p : T_api_Profile) : g_profile_take p x 6 = some (⟨0, 0, 0⟩, false, ⟨p.Name, p.Reading, p.MinFrames, p.MaxFrames, p.MinGap, p.ShotBefore, p.ShotAfter, p.Rows, p.Cols, p.Forbidden, v0, v1, v2, v3⟩) := by
  have hx : lnOK x := by
    refine ⟨by rw [hF]; simp, fun f hf => ?_⟩
    rw [hF] at hf
    simp only [List.mem_cons, List.not_mem_nil, or_false] at hf
    rcases hf with rfl | rfl | rfl | rfl | rfl
    · simp
    · exact itoa_1000 (by omega)
    · exact itoa_1000 (by omega)
    · exact itoa_1000 (by omega)
    · exact itoa_1000 (by omega)
  obtain ⟨d, b, p', s, q, k1, k2, k3, k4, k5, _⟩ := take39 hx (by rw [hF]; simp) 6 (by omega) p
  have hsub : subI ([[80, 82, 79, 70, 73, 76, 69], [82, 69, 65, 68, 73, 78, 71], [70, 82, 65, 77, 69, 83], [71, 65, 80], [83, 72, 79, 84, 83], [83, 73, 90, 69], [83, 65, 70, 69], [70, 79, 82, 66, 73, 68, 68, 69, 78]] : List (List UInt8)) 6 (IntKind.i64.wrap (6 + 1)) = some [[83, 65, 70, 69]] := by decide
  have hC := choice_at (L := x) (k := 0) (f := ⟨[83, 65, 70, 69], c0, false⟩) (ws := [[83, 65, 70, 69]]) hx.1 (by rw [hF]; rfl) rfl 0 (by simp) rfl (by omega)
  have e0 := num_at (L := x) (k := 1) (n := v0) (c := c1) hx.1 (by rw [hF]; rfl) h0
  have e1 := num_at (L := x) (k := 2) (n := v1) (c := c2) hx.1 (by rw [hF]; rfl) h1
  have e2 := num_at (L := x) (k := 3) (n := v2) (c := c3) hx.1 (by rw [hF]; rfl) h2
  have e3 := num_at (L := x) (k := 4) (n := v3) (c := c4) hx.1 (by rw [hF]; rfl) h3
  have hE := end_at (L := x) hx.1
  have hn : x.Fields.length = 5 := by rw [hF]; rfl
  rw [hn] at hE
  have hT : g_ref39_take ⟨x, 0, 0, 0⟩ 6 p = some (⟨x, ((5 : Nat) : Int), 0, 0⟩, ⟨p.Name, p.Reading, p.MinFrames, p.MaxFrames, p.MinGap, p.ShotBefore, p.ShotAfter, p.Rows, p.Cols, p.Forbidden, v0, v1, v2, v3⟩) := by
    unfold g_ref39_take
    rw [hsub, show (⟨x, 0, 0, 0⟩ : T_captionerref07_Scanner) = ⟨x, ((0 : Nat) : Int), 0, 0⟩ from rfl]
    simp only [Option.bind_some, hC, Int.reduceBEq, Bool.false_eq_true, if_false, if_true, Nat.reduceAdd, Nat.zero_add, e0, e1, e2, e3]
  rw [show (((6 : Nat) : Int)) = 6 from rfl, hT] at k2
  simp only [Option.some.injEq, Prod.mk.injEq] at k2
  obtain ⟨rfl, rfl⟩ := k2
  rw [hE] at k3
  simp only [Option.some.injEq, Prod.mk.injEq] at k3
  obtain ⟨rfl, rfl, _⟩ := k3
  rw [show (((6 : Nat) : Int)) = 6 from rfl] at k1
  rw [k1, ← k4 rfl]
theorem back_7 {x : T_api_Line} {c0 c1 : Int} {v0 : List UInt8} (hF : x.Fields = [⟨[70, 79, 82, 66, 73, 68, 68, 69, 78], c0, false⟩, ⟨v0, c1, true⟩]) (h0 : v0.length ≤ 1000) (p : T_api_Profile) : g_profile_take p x 7 = some (⟨0, 0, 0⟩, false, ⟨p.Name, p.Reading, p.MinFrames, p.MaxFrames, p.MinGap, p.ShotBefore, p.ShotAfter, p.Rows, p.Cols, v0, p.SafeTop, p.SafeBottom, p.SafeLeft, p.SafeRight⟩) := by
  have hx : lnOK x := by
    refine ⟨by rw [hF]; simp, fun f hf => ?_⟩
    rw [hF] at hf
    simp only [List.mem_cons, List.not_mem_nil, or_false] at hf
    rcases hf with rfl | rfl
    · simp
    · exact h0
  obtain ⟨d, b, p', s, q, k1, k2, k3, k4, k5, _⟩ := take39 hx (by rw [hF]; simp) 7 (by omega) p
  have hsub : subI ([[80, 82, 79, 70, 73, 76, 69], [82, 69, 65, 68, 73, 78, 71], [70, 82, 65, 77, 69, 83], [71, 65, 80], [83, 72, 79, 84, 83], [83, 73, 90, 69], [83, 65, 70, 69], [70, 79, 82, 66, 73, 68, 68, 69, 78]] : List (List UInt8)) 7 (IntKind.i64.wrap (7 + 1)) = some [[70, 79, 82, 66, 73, 68, 68, 69, 78]] := by decide
  have hC := choice_at (L := x) (k := 0) (f := ⟨[70, 79, 82, 66, 73, 68, 68, 69, 78], c0, false⟩) (ws := [[70, 79, 82, 66, 73, 68, 68, 69, 78]]) hx.1 (by rw [hF]; rfl) rfl 0 (by simp) rfl (by omega)
  have e0 := quoted_at (L := x) (k := 1) (f := ⟨v0, c1, true⟩) hx.1 (by rw [hF]; rfl) rfl
  have hE := end_at (L := x) hx.1
  have hn : x.Fields.length = 2 := by rw [hF]; rfl
  rw [hn] at hE
  have hT : g_ref39_take ⟨x, 0, 0, 0⟩ 7 p = some (⟨x, ((2 : Nat) : Int), 0, 0⟩, ⟨p.Name, p.Reading, p.MinFrames, p.MaxFrames, p.MinGap, p.ShotBefore, p.ShotAfter, p.Rows, p.Cols, v0, p.SafeTop, p.SafeBottom, p.SafeLeft, p.SafeRight⟩) := by
    unfold g_ref39_take
    rw [hsub, show (⟨x, 0, 0, 0⟩ : T_captionerref07_Scanner) = ⟨x, ((0 : Nat) : Int), 0, 0⟩ from rfl]
    simp only [Option.bind_some, hC, Int.reduceBEq, Bool.false_eq_true, if_false, if_true, Nat.reduceAdd, Nat.zero_add, e0]
  rw [show (((7 : Nat) : Int)) = 7 from rfl, hT] at k2
  simp only [Option.some.injEq, Prod.mk.injEq] at k2
  obtain ⟨rfl, rfl⟩ := k2
  rw [hE] at k3
  simp only [Option.some.injEq, Prod.mk.injEq] at k3
  obtain ⟨rfl, rfl, _⟩ := k3
  rw [show (((7 : Nat) : Int)) = 7 from rfl] at k1
  rw [k1, ← k4 rfl]
theorem spL_lines : ∀ (bs : List (List UInt8)), (∀ b ∈ bs, ∀ x ∈ b, x.toNat ≠ 10) → spL (bs.flatMap fun b => b ++ [10]) = bs ++ [[]]
  | [], _ => by simp [spL]
  | b :: bs, h => by
    rw [List.flatMap_cons, List.append_assoc, List.singleton_append, spL_app _ _ (h b (by simp)), spL_lines bs (fun c hc => h c (by simp [hc]))]
    rfl
theorem lr_words {ws : List (List UInt8)} (hp : ∀ w ∈ ws, plainW w) (hne : ws ≠ []) (hl : (Lib.join ws [32]).length ≤ 1000) (n : Nat) : lr n (Lib.join ws [32]) = some (.inr ⟨((n + 1 : Nat) : Int), fldsOf ws 0⟩) := by
  unfold lr
  rw [if_neg (by omega), fS_words ws 0 hp]
  cases ws with
  | nil => exact absurd rfl hne
  | cons w ws => rfl
theorem lr_nil (n : Nat) : lr n [] = none := by
  unfold lr
  rw [if_neg (by simp), fS_nil]
theorem fS_forb {s : List UInt8} (hs : s.all plB = true) : ∃ c, fS ([70, 79, 82, 66, 73, 68, 68, 69, 78] ++ (32 :: quS s)) 0 = .ok [⟨[70, 79, 82, 66, 73, 68, 68, 69, 78], 1, false⟩, ⟨s, c, true⟩] := by
  have h1 := fS_word (w := [70, 79, 82, 66, 73, 68, 68, 69, 78]) (t := 32 :: quS s) (p := 0) (by refine ⟨by simp, by decide, by decide⟩) (.inr rfl)
  rw [fS_blank] at h1
  obtain ⟨q, hq⟩ := fS_quote (s := s) (t := []) (p := 0 + 9 + 1) hs (.inl rfl)
  rw [List.append_nil, fS_nil] at hq
  rw [h1]
  rw [show 0 + ([70, 79, 82, 66, 73, 68, 68, 69, 78] : List UInt8).length + 1 = 0 + 9 + 1 from rfl, hq]
  exact ⟨_, rfl⟩
def bdL (p : T_api_Profile) : List (List UInt8) := [Lib.join [[80, 82, 79, 70, 73, 76, 69], p.Name] [32], Lib.join [[82, 69, 65, 68, 73, 78, 71], Lib.itoa p.Reading] [32], Lib.join [[70, 82, 65, 77, 69, 83], Lib.itoa p.MinFrames, Lib.itoa p.MaxFrames] [32], Lib.join [[71, 65, 80], Lib.itoa p.MinGap] [32], Lib.join [[83, 72, 79, 84, 83], Lib.itoa p.ShotBefore, Lib.itoa p.ShotAfter] [32], Lib.join [[83, 73, 90, 69], Lib.itoa p.Rows, Lib.itoa p.Cols] [32], Lib.join [[83, 65, 70, 69], Lib.itoa p.SafeTop, Lib.itoa p.SafeBottom, Lib.itoa p.SafeLeft, Lib.itoa p.SafeRight] [32], [70, 79, 82, 66, 73, 68, 68, 69, 78] ++ (32 :: quS p.Forbidden)]
theorem txt_bd (p : T_api_Profile) : (ptL p).flatMap lnT = (bdL p).flatMap fun b => b ++ [10] := by
  simp [ptL, bdL, lnT, fdT, wrd, Lib.join_cons, Lib.joinTail]
theorem lp_step {ls : List T_api_Line} {m i : Nat} {nx : Int} {p q : T_api_Profile} {x : T_api_Line} {d : T_api_Diag} (hx : ls[i]? = some x) (ht : g_profile_take p x (i : Int) = some (d, false, q)) : lpS ls (m + 1) i nx p = lpS ls m (i + 1) (x.Number + 1) q := by
  rw [lpS, hx]
  simp only [ht]
theorem forb_no10 {s : List UInt8} (hg : gv s = true) : ∀ x ∈ ([70, 79, 82, 66, 73, 68, 68, 69, 78] ++ (32 :: quS s) : List UInt8), x.toNat ≠ 10 := by
  have hb := gv_bytes _ s (Nat.le_refl _) hg
  intro x hx
  rcases List.mem_append.1 hx with h | h
  · exact (by decide : ∀ x ∈ ([70, 79, 82, 66, 73, 68, 68, 69, 78] : List UInt8), x.toNat ≠ 10) x h
  rcases List.mem_cons.1 h with rfl | h
  · decide
  unfold quS at h
  rcases List.mem_cons.1 h with rfl | h
  · decide
  rcases List.mem_append.1 h with h | h
  · obtain ⟨b, h1, h2⟩ := List.mem_flatMap.1 h
    exact quB_no10 (hb b h1).1 x h2
  · simp at h; subst h; decide
theorem Text_back {p : T_api_Profile} (h : ckS p = 0) (h2 : (quS p.Forbidden).length ≤ 900) (h3 : p.Forbidden.length ≤ 1000) : paS ((ptL p).flatMap lnT) = (p, []) := by
  obtain ⟨hnm, hr, _, _, hgv, _⟩ := ck_ok h
  obtain ⟨a1, a2, a3, a4, a5, a6, a7, a8, a9, b1, b2, b3⟩ := hr
  have hnl := nm_len hnm
  have pn := plain_nm hnm
  have q0 := itoa_len (n := p.Reading) (by omega)
  have u0 := plain_itoa (n := p.Reading) (by omega)
  have q1 := itoa_len (n := p.MinFrames) (by omega)
  have u1 := plain_itoa (n := p.MinFrames) (by omega)
  have q2 := itoa_len (n := p.MaxFrames) (by omega)
  have u2 := plain_itoa (n := p.MaxFrames) (by omega)
  have q3 := itoa_len (n := p.MinGap) (by omega)
  have u3 := plain_itoa (n := p.MinGap) (by omega)
  have q4 := itoa_len (n := p.ShotBefore) (by omega)
  have u4 := plain_itoa (n := p.ShotBefore) (by omega)
  have q5 := itoa_len (n := p.ShotAfter) (by omega)
  have u5 := plain_itoa (n := p.ShotAfter) (by omega)
  have q6 := itoa_len (n := p.Rows) (by omega)
  have u6 := plain_itoa (n := p.Rows) (by omega)
  have q7 := itoa_len (n := p.Cols) (by omega)
  have u7 := plain_itoa (n := p.Cols) (by omega)
  have q8 := itoa_len (n := p.SafeTop) (by omega)
  have u8 := plain_itoa (n := p.SafeTop) (by omega)
  have q9 := itoa_len (n := p.SafeBottom) (by omega)
  have u9 := plain_itoa (n := p.SafeBottom) (by omega)
  have q10 := itoa_len (n := p.SafeLeft) (by omega)
  have u10 := plain_itoa (n := p.SafeLeft) (by omega)
  have q11 := itoa_len (n := p.SafeRight) (by omega)
  have u11 := plain_itoa (n := p.SafeRight) (by omega)
  have p0 : ∀ w ∈ ([[80, 82, 79, 70, 73, 76, 69], p.Name] : List (List UInt8)), plainW w := by
    intro w hw
    simp only [List.mem_cons, List.not_mem_nil, or_false] at hw
    rcases hw with rfl | rfl
    · exact plain_nm (by decide)
    · exact pn
  have l0 : (Lib.join [[80, 82, 79, 70, 73, 76, 69], p.Name] [32]).length ≤ 1000 := by
    simp only [Lib.join_cons, Lib.joinTail, List.map_cons, List.map_nil, List.flatten_cons, List.flatten_nil, List.length_append, List.length_cons, List.length_nil]; omega
  have r0 := lr_words p0 (by simp) l0 0
  have p1 : ∀ w ∈ ([[82, 69, 65, 68, 73, 78, 71], Lib.itoa p.Reading] : List (List UInt8)), plainW w := by
    intro w hw
    simp only [List.mem_cons, List.not_mem_nil, or_false] at hw
    rcases hw with rfl | rfl
    · exact plain_nm (by decide)
    · exact u0
  have l1 : (Lib.join [[82, 69, 65, 68, 73, 78, 71], Lib.itoa p.Reading] [32]).length ≤ 1000 := by
    simp only [Lib.join_cons, Lib.joinTail, List.map_cons, List.map_nil, List.flatten_cons, List.flatten_nil, List.length_append, List.length_cons, List.length_nil]; omega
  have r1 := lr_words p1 (by simp) l1 1
  have p2 : ∀ w ∈ ([[70, 82, 65, 77, 69, 83], Lib.itoa p.MinFrames, Lib.itoa p.MaxFrames] : List (List UInt8)), plainW w := by
    intro w hw
    simp only [List.mem_cons, List.not_mem_nil, or_false] at hw
    rcases hw with rfl | rfl | rfl
    · exact plain_nm (by decide)
    · exact u1
    · exact u2
  have l2 : (Lib.join [[70, 82, 65, 77, 69, 83], Lib.itoa p.MinFrames, Lib.itoa p.MaxFrames] [32]).length ≤ 1000 := by
    simp only [Lib.join_cons, Lib.joinTail, List.map_cons, List.map_nil, List.flatten_cons, List.flatten_nil, List.length_append, List.length_cons, List.length_nil]; omega
  have r2 := lr_words p2 (by simp) l2 2
  have p3 : ∀ w ∈ ([[71, 65, 80], Lib.itoa p.MinGap] : List (List UInt8)), plainW w := by
    intro w hw
    simp only [List.mem_cons, List.not_mem_nil, or_false] at hw
    rcases hw with rfl | rfl
    · exact plain_nm (by decide)
    · exact u3
  have l3 : (Lib.join [[71, 65, 80], Lib.itoa p.MinGap] [32]).length ≤ 1000 := by
    simp only [Lib.join_cons, Lib.joinTail, List.map_cons, List.map_nil, List.flatten_cons, List.flatten_nil, List.length_append, List.length_cons, List.length_nil]; omega
  have r3 := lr_words p3 (by simp) l3 3
  have p4 : ∀ w ∈ ([[83, 72, 79, 84, 83], Lib.itoa p.ShotBefore, Lib.itoa p.ShotAfter] : List (List UInt8)), plainW w := by
    intro w hw
    simp only [List.mem_cons, List.not_mem_nil, or_false] at hw
    rcases hw with rfl | rfl | rfl
    · exact plain_nm (by decide)
    · exact u4
    · exact u5
  have l4 : (Lib.join [[83, 72, 79, 84, 83], Lib.itoa p.ShotBefore, Lib.itoa p.ShotAfter] [32]).length ≤ 1000 := by
    simp only [Lib.join_cons, Lib.joinTail, List.map_cons, List.map_nil, List.flatten_cons, List.flatten_nil, List.length_append, List.length_cons, List.length_nil]; omega
  have r4 := lr_words p4 (by simp) l4 4
  have p5 : ∀ w ∈ ([[83, 73, 90, 69], Lib.itoa p.Rows, Lib.itoa p.Cols] : List (List UInt8)), plainW w := by
    intro w hw
    simp only [List.mem_cons, List.not_mem_nil, or_false] at hw
    rcases hw with rfl | rfl | rfl
    · exact plain_nm (by decide)
    · exact u6
    · exact u7
  have l5 : (Lib.join [[83, 73, 90, 69], Lib.itoa p.Rows, Lib.itoa p.Cols] [32]).length ≤ 1000 := by
    simp only [Lib.join_cons, Lib.joinTail, List.map_cons, List.map_nil, List.flatten_cons, List.flatten_nil, List.length_append, List.length_cons, List.length_nil]; omega
  have r5 := lr_words p5 (by simp) l5 5
  have p6 : ∀ w ∈ ([[83, 65, 70, 69], Lib.itoa p.SafeTop, Lib.itoa p.SafeBottom, Lib.itoa p.SafeLeft, Lib.itoa p.SafeRight] : List (List UInt8)), plainW w := by
    intro w hw
    simp only [List.mem_cons, List.not_mem_nil, or_false] at hw
    rcases hw with rfl | rfl | rfl | rfl | rfl
    · exact plain_nm (by decide)
    · exact u8
    · exact u9
    · exact u10
    · exact u11
  have l6 : (Lib.join [[83, 65, 70, 69], Lib.itoa p.SafeTop, Lib.itoa p.SafeBottom, Lib.itoa p.SafeLeft, Lib.itoa p.SafeRight] [32]).length ≤ 1000 := by
    simp only [Lib.join_cons, Lib.joinTail, List.map_cons, List.map_nil, List.flatten_cons, List.flatten_nil, List.length_append, List.length_cons, List.length_nil]; omega
  have r6 := lr_words p6 (by simp) l6 6
  obtain ⟨c, hc⟩ := fS_forb (gv_pl hgv)
  have l7 : ([70, 79, 82, 66, 73, 68, 68, 69, 78] ++ (32 :: quS p.Forbidden) : List UInt8).length ≤ 1000 := by simp only [List.length_append, List.length_cons, List.length_nil]; omega
  have r7 : lr 7 ([70, 79, 82, 66, 73, 68, 68, 69, 78] ++ (32 :: quS p.Forbidden)) = some (.inr ⟨((7 + 1 : Nat) : Int), [⟨[70, 79, 82, 66, 73, 68, 68, 69, 78], 1, false⟩, ⟨p.Forbidden, c, true⟩]⟩) := by
    unfold lr
    rw [if_neg (by omega), hc]
  have hsp : spL ((ptL p).flatMap lnT) = bdL p ++ [[]] := by
    rw [txt_bd]
    refine spL_lines _ fun b hb => ?_
    unfold bdL at hb
    simp only [List.mem_cons, List.not_mem_nil, or_false] at hb
    rcases hb with rfl | rfl | rfl | rfl | rfl | rfl | rfl | rfl
    · exact join_no10 _ p0
    · exact join_no10 _ p1
    · exact join_no10 _ p2
    · exact join_no10 _ p3
    · exact join_no10 _ p4
    · exact join_no10 _ p5
    · exact join_no10 _ p6
    · exact forb_no10 hgv
  have hlen : ¬ 262144 < ((ptL p).flatMap lnT).length := by
    rw [txt_bd]
    simp only [bdL, List.flatMap_cons, List.flatMap_nil, List.length_append, List.length_cons, List.length_nil]
    simp only [List.length_append, List.length_cons, List.length_nil] at l7
    omega
  have hS : splitS ((ptL p).flatMap lnT) = ([⟨((0 + 1 : Nat) : Int), fldsOf [[80, 82, 79, 70, 73, 76, 69], p.Name] 0⟩, ⟨((1 + 1 : Nat) : Int), fldsOf [[82, 69, 65, 68, 73, 78, 71], Lib.itoa p.Reading] 0⟩, ⟨((2 + 1 : Nat) : Int), fldsOf [[70, 82, 65, 77, 69, 83], Lib.itoa p.MinFrames, Lib.itoa p.MaxFrames] 0⟩, ⟨((3 + 1 : Nat) : Int), fldsOf [[71, 65, 80], Lib.itoa p.MinGap] 0⟩, ⟨((4 + 1 : Nat) : Int), fldsOf [[83, 72, 79, 84, 83], Lib.itoa p.ShotBefore, Lib.itoa p.ShotAfter] 0⟩, ⟨((5 + 1 : Nat) : Int), fldsOf [[83, 73, 90, 69], Lib.itoa p.Rows, Lib.itoa p.Cols] 0⟩, ⟨((6 + 1 : Nat) : Int), fldsOf [[83, 65, 70, 69], Lib.itoa p.SafeTop, Lib.itoa p.SafeBottom, Lib.itoa p.SafeLeft, Lib.itoa p.SafeRight] 0⟩, ⟨((7 + 1 : Nat) : Int), [⟨[70, 79, 82, 66, 73, 68, 68, 69, 78], 1, false⟩, ⟨p.Forbidden, c, true⟩]⟩], []) := by
    unfold splitS
    rw [if_neg hlen, hsp]
    have r7' : lr 7 (70 :: 79 :: 82 :: 66 :: 73 :: 68 :: 68 :: 69 :: 78 :: 32 :: quS p.Forbidden) = _ := r7
    unfold bdL
    simp only [List.cons_append, List.nil_append, allR, r0, r1, r2, r3, r4, r5, r6, r7', accL, Nat.zero_add, Nat.reduceAdd, lr_nil, List.take_nil]
  have hL : lpS [⟨((0 + 1 : Nat) : Int), fldsOf [[80, 82, 79, 70, 73, 76, 69], p.Name] 0⟩, ⟨((1 + 1 : Nat) : Int), fldsOf [[82, 69, 65, 68, 73, 78, 71], Lib.itoa p.Reading] 0⟩, ⟨((2 + 1 : Nat) : Int), fldsOf [[70, 82, 65, 77, 69, 83], Lib.itoa p.MinFrames, Lib.itoa p.MaxFrames] 0⟩, ⟨((3 + 1 : Nat) : Int), fldsOf [[71, 65, 80], Lib.itoa p.MinGap] 0⟩, ⟨((4 + 1 : Nat) : Int), fldsOf [[83, 72, 79, 84, 83], Lib.itoa p.ShotBefore, Lib.itoa p.ShotAfter] 0⟩, ⟨((5 + 1 : Nat) : Int), fldsOf [[83, 73, 90, 69], Lib.itoa p.Rows, Lib.itoa p.Cols] 0⟩, ⟨((6 + 1 : Nat) : Int), fldsOf [[83, 65, 70, 69], Lib.itoa p.SafeTop, Lib.itoa p.SafeBottom, Lib.itoa p.SafeLeft, Lib.itoa p.SafeRight] 0⟩, ⟨((7 + 1 : Nat) : Int), [⟨[70, 79, 82, 66, 73, 68, 68, 69, 78], 1, false⟩, ⟨p.Forbidden, c, true⟩]⟩] 8 0 1 zP = .inr p := by
    refine (lp_step rfl (back_0 rfl hnm _)).trans ?_
    refine (lp_step rfl (back_1 rfl (by omega) _)).trans ?_
    refine (lp_step rfl (back_2 rfl (by omega) (by omega) _)).trans ?_
    refine (lp_step rfl (back_3 rfl (by omega) _)).trans ?_
    refine (lp_step rfl (back_4 rfl (by omega) (by omega) _)).trans ?_
    refine (lp_step rfl (back_5 rfl (by omega) (by omega) _)).trans ?_
    refine (lp_step rfl (back_6 rfl (by omega) (by omega) (by omega) (by omega) _)).trans ?_
    refine (lp_step rfl (back_7 rfl h3 _)).trans ?_
    rfl
  unfold paS
  rw [hS]
  dsimp only
  rw [if_pos rfl, hL]
  dsimp only
  rw [dif_neg (by simp), if_pos h]
theorem ProfileTexts_true (p : T_api_Profile) : g_law39_ProfileTexts p = some true := by
  obtain ⟨l1, l2⟩ := smP_len p
  unfold g_law39_ProfileTexts
  rw [awake39, small_eq]
  simp only [Option.bind_some, if_true]
  rw [prog_Text _ l1 l2, ref_Text _ l1 l2]
  simp only [Option.bind_some, if_true, beq_self_eq_true, bne_self_eq_false, Bool.false_eq_true, if_false]
  unfold tpS
  by_cases h : ckS (smP p) = 0
  · rw [if_pos h]
    have hq : (quS (smP p).Forbidden).length ≤ 900 := by
      have h1 := qu_len (smP p).Forbidden
      have h2 : (smP p).Forbidden.length ≤ 40 := by simp only [smP, List.length_take]; omega
      unfold quS
      simp only [List.length_cons, List.length_append, List.length_nil]
      omega
    rw [if_neg (by simp), (Parse_both _).1, Text_back h hq l2]
    simp
  · rw [if_neg h, if_pos (by simpa using h)]
    rfl
end Go.Proofs.YtedhognhhcihpaaGreatDoor
namespace Go.Proofs.YtedhognhhcihpaaGreatDoor
set_option maxRecDepth 100000
theorem law_ProfileTexts (p : T_api_Profile) : AFun Tryz.prog Env8 4 [p.d] (.bool true) :=
  a_law39_ProfileTexts stabEnv8 (fun _ h => h.2.2.1) (fun _ h => h.2.1) (fun _ h => h.1) (fun _ h => h.2.2.2) (ProfileTexts_true p)
theorem law_ProfileParses (s : List UInt8) : AFun Tryz.prog Env8 5 [.str s] (.bool true) :=
  a_law39_ProfileParses stabEnv8 (fun _ h => h.2.2.1) (fun _ h => h.2.1) (fun _ h => h.1) (fun _ h => h.2.2.2) (ProfileParses_true s)
end Go.Proofs.YtedhognhhcihpaaGreatDoor

