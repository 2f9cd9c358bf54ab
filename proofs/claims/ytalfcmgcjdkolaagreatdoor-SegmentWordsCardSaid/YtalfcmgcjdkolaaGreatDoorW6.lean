/- Texts of one proof, put together (S23, S24, S25, Laid9, LSw, Opn, OpnW). No condition but those that each theorem states. -/
import Derived.Test.YtalfcmgcjdkolaaGreatDoorW5
import Derived.Test.YtalfcmgcjdkolaaGreatDoorCards
import Derived.Test.YtalfcmgcjdkolaaGreatDoorTie
import Derived.ProofKit
import Derived.OpenShut
import Derived.Deep.DeepHandedRow
import Derived.Lib.LaidIn
import Derived.Lib.LaidU8T
import Derived.Shelf.Vars
import Derived.Lib.SmallJoins
import Derived.Deep.Slices
import Derived.Deep.Fields
set_option linter.unusedSimpArgs false
set_option linter.unusedVariables false
namespace Go.Proofs.YtalfcmgcjdkolaaGreatDoor
set_option maxRecDepth 100000
set_option maxHeartbeats 10000000
def evR (s : A_Speech) (q : Nat × Nat) : List (List UInt8) := rowsT (psp s q.1 q.2) 0 ((pq s q.1 q.2).1.Breaks.map Int.toNat)
def evOf (s : A_Speech) (a : (Nat × Nat) × Nat) : A_Event := ⟨(a.2 : Int) + 1, (pq s a.1.1 a.1.2).1.Span, [], 1, [], (evR s a.1).map rowE⟩
theorem inl_nat (G : List Nat) : (inl G).map Int.toNat = G := by
  unfold inl
  rw [List.map_map]
  exact (List.map_congr_left (fun x _ => by simp)).trans (List.map_id G)
theorem part_rows {s : A_Speech} (hs : Sv s) {q : Nat × Nat} (h1 : q.1 < q.2) (h2 : q.2 ≤ s.Words.length) (ho : okE s q.1 q.2 = true) :
    g_rowbreak_Rows (psp s q.1 q.2) (pq s q.1 q.2).1.Breaks = some (evR s q, 0) ∧ ((evR s q).length : Int) ≤ s.House.Rows ∧ (evR s q).length ≤ 4 ∧ (∀ t ∈ evR s q, gv t = true ∧ chL t ≤ s.House.Cols) ∧ ((evR s q).map (· ++ [32])).flatten = spT (tkP s.Words q.1 q.2) := by
  obtain ⟨_, _, h⟩ := pq_eq hs h1 h2
  have h0 : (pq s q.1 q.2).2.2 = 0 := by simpa [okE] using ho
  obtain ⟨_, _, _, _, _, ⟨ck, G, g1, g2, g3⟩, _⟩ := h h0
  have hv := ckP_0 (psp_ok hs.ok (i := q.1) h2) ck
  have e : evR s q = rowsT (psp s q.1 q.2) 0 G := by unfold evR; rw [g1, inl_nat]
  have hr : 1 ≤ s.House.Rows ∧ s.House.Rows ≤ 4 := hv.rows
  rw [e, g1]
  refine ⟨rows_prog hv ck g2 g3, by rw [rowsT_len]; exact g3, by rw [rowsT_len]; omega, rows_fit hv g2, ?_⟩
  rw [rows_sp hv g2]
  rfl
theorem sub_tk {s : A_Speech} {i j : Nat} (hij : i < j) (hj : j ≤ s.Words.length) : subI (tks s.Words) (i : Int) (j : Int) = some (tkP s.Words i j) := by
  have := tks_len s.Words
  unfold subI tkP
  rw [if_pos (by omega)]
  simp only [Int.toNat_natCast]
theorem evs_prog {s : A_Speech} (hs : Sv s) {L : List (Nat × Nat)} {c e : Int} (hn : L.length ≤ 10) (hL : ∀ q ∈ L, q.1 < q.2 ∧ q.2 ≤ s.Words.length ∧ okE s q.1 q.2 = true) :
    iter (g_segment_Events_s1 s (L.map (fun q => (pq s q.1 q.2).1), c, e) (tks s.Words)) ([], 0) = some (L.zipIdx.map (evOf s)) := by
  refine iter_of (fun x e => e = L.zipIdx.map (evOf s) ∧ ∃ i : Nat, x.2 = (i : Int) ∧ i ≤ L.length ∧ x.1 = (L.zipIdx.take i).map (evOf s)) (fun x => L.length - x.2.toNat) ?_ (x := (_, 0)) ⟨rfl, 0, rfl, by omega, by simp⟩ (by show L.length - 0 < _; omega)
  rintro ⟨m, x⟩ e ⟨rfl, i, hx, hi, hm⟩
  dsimp only at hx hm ⊢
  subst hx hm
  unfold g_segment_Events_s1
  dsimp only
  rw [List.length_map]
  by_cases h : i < L.length
  · left
    obtain ⟨a1, a2, a3⟩ := hL L[i] (List.getElem_mem h)
    obtain ⟨b1, b2, b3, b4, b5⟩ := part_rows hs a1 a2 a3
    obtain ⟨_, _, hp⟩ := pq_eq hs a1 a2
    obtain ⟨c1, c2, _⟩ := hp (by simpa [okE] using a3)
    rw [if_pos (by simpa using h), show atI (L.map (fun q => (pq s q.1 q.2).1)) (i : Int) = some (pq s L[i].1 L[i].2).1 by rw [atI_nat (by simpa using h)]; simp, wr64 (x := (i : Int) + 1) (by omega)]
    simp only [Option.bind_some]
    rw [c1, c2, sub_tk a1 a2]
    simp only [Option.bind_some, g_segment_paragraph]
    rw [show (A_Paragraph.mk (tkP s.Words L[i].1 L[i].2) s.House.Cols s.House.Rows s.Table) = psp s L[i].1 L[i].2 from rfl, b1]
    simp only [Option.bind_some]
    rw [evRows_prog (by omega)]
    simp only [Option.bind_some]
    rw [if_pos (by simp; omega)]
    refine ⟨_, rfl, ⟨by first | rfl | trivial, i + 1, rfl, h, ?_⟩, by dsimp only; omega⟩
    dsimp only
    rw [List.take_succ_eq_append_getElem (by simpa using h), List.map_append]
    simp [evOf]
  · right
    obtain rfl : i = L.length := by omega
    rw [if_neg (by simp)]
    rw [List.take_of_length_le (by simp)]
end Go.Proofs.YtalfcmgcjdkolaaGreatDoor
namespace Go.Proofs.YtalfcmgcjdkolaaGreatDoor
set_option maxRecDepth 100000
set_option maxHeartbeats 10000000
theorem pa_adj {n a : Nat} {L : List (Nat × Nat)} (h : Pa n a L) : ∀ k (hk : k + 1 < L.length), L[k].2 = (L[k + 1]).1 := by
  induction h with
  | nil => intro k hk; simp at hk
  | @cons i j L h1 h2 h3 ih =>
    intro k hk
    cases k with
    | zero =>
      cases h3 with
      | nil => simp at hk
      | cons => rfl
    | succ k => simpa using ih k (by simpa using hk)
def wT (ws : List A_Word) : List UInt8 := (ws.map fun w => w.Text ++ [32]).flatten
theorem wT_app (a b : List A_Word) : wT (a ++ b) = wT a ++ wT b := by simp [wT]
theorem tkP_txt (ws : List A_Word) {i j : Nat} (hj : j ≤ ws.length) : spT (tkP ws i j) = wT ((ws.drop i).take (j - i)) := by
  unfold spT wT
  congr 1
  refine List.ext_getElem (by simp [tkP, tks]) fun k h1 h2 => ?_
  have hl := tkP_len ws (i := i) hj
  simp only [List.length_map] at h1 h2
  rw [List.getElem_map, List.getElem_map, tkP_at ws hj h1, tkA_text ws (by omega)]
  simp
theorem pa_text {ws : List A_Word} {a : Nat} {L : List (Nat × Nat)} (h : Pa ws.length a L) : (L.map fun q => spT (tkP ws q.1 q.2)).flatten = wT (ws.drop a) := by
  induction h with
  | nil => simp [wT]
  | @cons i j L h1 h2 h3 ih =>
    have e : (ws.drop i).take (j - i) ++ ws.drop j = ws.drop i := by
      rw [show ws.drop j = (ws.drop i).drop (j - i) by rw [List.drop_drop, show i + (j - i) = j by omega], List.take_append_drop]
    rw [List.map_cons, List.flatten_cons, ih, tkP_txt ws h2]
    exact (wT_app _ _).symm.trans (congrArg wT e)
theorem wT_len {ws : List A_Word} (h : ∀ w ∈ ws, w.Text.length ≤ 140737488355328) : (wT ws).length ≤ ws.length * 140737488355329 := by
  induction ws with
  | nil => simp [wT]
  | cons w ws ih =>
    have := ih (fun v hv => h v (by simp [hv]))
    have hw := h w (by simp)
    simp only [wT, List.map_cons, List.flatten_cons, List.length_append, List.length_cons, List.length_nil] at this ⊢
    omega
theorem words_prog {s : A_Speech} (h : Sok s) : iter (g_law38_SegmentWords_s1 s) ([], 0) = some (wT s.Words) := by
  have hn := h.words
  refine iter_of (fun x e => e = wT s.Words ∧ ∃ i : Nat, x.2 = (i : Int) ∧ i ≤ s.Words.length ∧ x.1 = wT (s.Words.take i)) (fun x => s.Words.length - x.2.toNat) ?_ (x := (_, 0)) ⟨rfl, 0, rfl, by omega, by simp [wT]⟩ (by show s.Words.length - 0 < _; omega)
  rintro ⟨m, x⟩ e ⟨rfl, i, hx, hi, hm⟩
  dsimp only at hx hm ⊢
  subst hx hm
  unfold g_law38_SegmentWords_s1
  dsimp only
  by_cases hh : i < s.Words.length
  · left
    have ht := h.texts _ (List.getElem_mem hh)
    have hl := wT_len (ws := s.Words.take i) (fun w hw => h.texts w (List.mem_of_mem_take hw))
    have hl2 : (s.Words.take i).length = i := by simp; omega
    rw [if_pos (by simpa using hh), atI_nat hh, wr64 (x := (i : Int) + 1) (by omega)]
    simp only [Option.bind_some]
    rw [if_pos (by omega), if_pos (by omega)]
    refine ⟨_, rfl, ⟨by first | rfl | trivial, i + 1, rfl, hh, ?_⟩, by dsimp only; omega⟩
    dsimp only
    rw [List.take_succ_eq_append_getElem hh, wT_app]
    simp [wT]
  · right
    obtain rfl : i = s.Words.length := by omega
    rw [if_neg (by simp), List.take_length]
theorem span_ok {s : A_Speech} (hs : Sv s) {q r : Nat × Nat} (h1 : q.1 < q.2) (h2 : q.2 = r.1) (h3 : r.1 < r.2) (h4 : r.2 ≤ s.Words.length) (o1 : okE s q.1 q.2 = true) (o2 : okE s r.1 r.2 = true) : (pq s q.1 q.2).1.Span.Out ≤ (pq s r.1 r.2).1.Span.In := by
  obtain ⟨_, _, ha⟩ := pq_eq hs h1 (by omega : q.2 ≤ s.Words.length)
  obtain ⟨_, _, hb⟩ := pq_eq hs h3 h4
  obtain ⟨_, _, _, _, _, _, e1⟩ := ha (by simpa [okE] using o1)
  obtain ⟨_, _, _, _, _, _, e2⟩ := hb (by simpa [okE] using o2)
  rw [e1, e2]
  dsimp only
  rw [wAt_eq (by omega), wAt_eq (by omega)]
  have := (ckWs_at hs.words r.1 (by omega)).2.1 (by omega)
  simpa only [h2] using this
theorem law_loop {s : A_Speech} (hs : Sv s) {L : List (Nat × Nat)} {z : Int} (hn : L.length ≤ 10) (hP : Pa s.Words.length 0 L) (ho : ∀ q ∈ L, okE s q.1 q.2 = true) :
    iter (g_law38_SegmentWords_s2 s (L.zipIdx.map (evOf s), z)) ([], 0) = some (.inr (wT s.Words)) := by
  have hm0 := pa_mem hP
  have hhr := hs.house
  have hfin : (L.map fun q => ((evR s q).map (· ++ [32])).flatten).flatten = wT s.Words := by
    rw [← List.drop_zero (l := s.Words), ← pa_text hP]
    congr 1
    refine List.map_congr_left fun q hq => ?_
    obtain ⟨_, b, c⟩ := hm0 q hq
    exact (part_rows hs b c (ho q hq)).2.2.2.2
  refine iter_of (fun x e => e = .inr (wT s.Words) ∧ ∃ i : Nat, x.2 = (i : Int) ∧ i ≤ L.length ∧ x.1 = ((L.take i).map fun q => ((evR s q).map (· ++ [32])).flatten).flatten ∧ x.1.length ≤ i * 1000000) (fun x => L.length - x.2.toNat) ?_ (x := (_, 0)) ⟨rfl, 0, rfl, by omega, by simp, by simp⟩ (by show L.length - 0 < _; omega)
  rintro ⟨m, x⟩ e ⟨rfl, i, hx, hi, hm, hml⟩
  dsimp only at hx hm hml ⊢
  subst hx
  unfold g_law38_SegmentWords_s2
  dsimp only
  have hlen : (L.zipIdx.map (evOf s)).length = L.length := by simp
  rw [hlen]
  by_cases h : i < L.length
  · left
    obtain ⟨_, a1, a2⟩ := hm0 L[i] (List.getElem_mem h)
    have a3 := ho L[i] (List.getElem_mem h)
    obtain ⟨b1, b2, b3, b4, b5⟩ := part_rows hs a1 a2 a3
    have hat : ∀ k (hk : k < L.length), atI (L.zipIdx.map (evOf s)) (k : Int) = some (evOf s (L[k], k)) := fun k hk => by
      rw [atI_nat (by simpa using hk)]
      simp
    have hrl : (evOf s (L[i], i)).Rows.length = (evR s L[i]).length := by simp [evOf]
    have hcond : (if (decide (0 < (i : Int))) then ((atI (L.zipIdx.map (evOf s)) (IntKind.i64.wrap ((i : Int) - 1))).bind fun y1023 => (some (decide ((evOf s (L[i], i)).Span.In < y1023.Span.Out)))) else (some false) : Option Bool) = some false := by
      by_cases h0 : 0 < i
      · rw [if_pos (by simpa using h0), wr64 (x := (i : Int) - 1) (by omega), show (i : Int) - 1 = ((i - 1 : Nat) : Int) by omega, hat (i - 1) (by omega)]
        simp only [Option.bind_some, Option.some.injEq, decide_eq_false_iff_not]
        have hadj := pa_adj hP (i - 1) (by omega)
        simp only [show i - 1 + 1 = i by omega] at hadj
        obtain ⟨_, d1, d2⟩ := hm0 (L[i - 1]'(by omega)) (List.getElem_mem _)
        have := span_ok hs d1 hadj a1 a2 (ho _ (List.getElem_mem _)) a3
        simp only [evOf]
        omega
      · rw [if_neg (by simpa using h0)]
    have hcols : s.House.Cols ≤ 100 := by
      have hv := hs.house
      unfold okR at hv
      omega
    rw [if_pos (by simpa using h), hat i h]
    simp only [Option.bind_some]
    rw [hrl, if_neg (by simp; omega), hcond]
    simp only [Option.bind_some, Bool.false_eq_true, if_false]
    rw [lawRows_prog (s := s) (y := evOf s (L[i], i)) (R := evR s L[i]) rfl b3 b4 hcols (by omega), wr64 (x := (i : Int) + 1) (by omega)]
    simp only [Option.bind_some]
    refine ⟨_, rfl, ⟨by first | rfl | trivial, i + 1, rfl, h, ?_, ?_⟩, by dsimp only; omega⟩
    · dsimp only
      rw [hm, List.take_succ_eq_append_getElem h, List.map_append, List.flatten_append]
      simp
    · dsimp only
      have hq : ∀ (R : List (List UInt8)), (∀ t ∈ R, gv t = true ∧ chL t ≤ s.House.Cols) → ((R.map (· ++ [32])).flatten).length ≤ R.length * 401 := by
        intro R
        induction R with
        | nil => simp
        | cons t R ih =>
          intro hR
          have h1 := ih (fun u hu => hR u (by simp [hu]))
          obtain ⟨g1, g2⟩ := hR t (by simp)
          have g3 := gv_len g1 (m := 100) (by omega)
          simp only [List.map_cons, List.flatten_cons, List.length_append, List.length_cons, List.length_nil] at h1 ⊢
          omega
      have := hq _ b4
      rw [List.length_append]
      omega
  · right
    obtain rfl : i = L.length := by omega
    rw [if_neg (by simp), hm, List.take_length, hfin]
end Go.Proofs.YtalfcmgcjdkolaaGreatDoor
namespace Go.Proofs.YtalfcmgcjdkolaaGreatDoor
set_option maxRecDepth 100000
set_option maxHeartbeats 10000000
theorem csL_inl {s : A_Speech} : ∀ {L : List (Nat × Nat)} {e : Int}, csL s L = .inl e → e ≠ 0
  | [], e, h => by simp [csL] at h
  | q :: L, e, h => by
    rw [csL_cons] at h
    by_cases hq : okE s q.1 q.2 = true
    · rw [if_pos hq] at h
      cases hL : csL s L with
      | inl f =>
        rw [hL] at h
        injection h with h
        exact h ▸ csL_inl hL
      | inr r => rw [hL] at h; cases h
    · rw [if_neg hq] at h
      injection h with h
      rw [← h]
      intro h0
      exact hq (by simp [okE, h0])
theorem segmentWords_true {s : A_Speech} (h : Szs s) (l : List A_Part) : g_law38_SegmentWords s l = some true := by
  obtain ⟨s', h1, h2⟩ := few_eq h
  have hsub : subH l (if 10 < (l.length : Int) then 10 else (l.length : Int)) = some (l.take 10) := subH_take l 10
  have hb : ∀ c : Int, c ≠ 0 → g_segment_Events s' (l.take 10) = some ([], c) → g_law38_SegmentWords s l = some true := by
    intro c hc he
    have hcb : (c != 0) = true := by simpa using hc
    simp [g_law38_SegmentWords, awake38, h1, hsub, he, hc]
  by_cases h3 : ckSp s' = 0
  · have hs := ckSp_0 h2 h3
    have hev : ∀ r : List A_Part × Int × Int, r.2.2 ≠ 0 → g_segment_cost s' (l.take 10) = some r → g_segment_Events s' (l.take 10) = some ([], r.2.2) := by
      intro r hr he
      simp [g_segment_Events, seg_Check h2, h3, he, hr]
    rcases cost_prog hs (l.take 10) (by simp; omega) with ⟨_, hc⟩ | ⟨L, hL, hP, hc⟩
    · exact hb 1 (by decide) (hev _ (by decide) hc)
    · have hn : L.length ≤ 10 := by
        have := congrArg List.length hL
        simp [inP] at this
        omega
      cases hcs : csL s' L with
      | inl e =>
        rw [hcs] at hc
        exact hb e (csL_inl hcs) (hev _ (csL_inl hcs) hc)
      | inr r =>
        rw [hcs] at hc
        obtain ⟨ho, rfl⟩ := csL_inr hcs
        dsimp only at hc
        have hm := pa_mem hP
        have hE : g_segment_Events s' (l.take 10) = some (L.zipIdx.map (evOf s'), 0) := by
          simp only [g_segment_Events, seg_Check h2, h3, hc, tokens_eq h2, Option.bind_some, bne_self_eq_false, Bool.false_eq_true, if_false]
          rw [evs_prog hs hn (fun q hq => ⟨(hm q hq).2.1, (hm q hq).2.2, ho q hq⟩)]
          rfl
        simp only [g_law38_SegmentWords, awake38, h1, hsub, hE, Option.bind_some, bne_self_eq_false, Bool.false_eq_true, if_false, if_true]
        rw [words_prog h2, Option.bind_some, law_loop hs hn hP ho]
        simp
  · exact hb _ h3 (by simp [g_segment_Events, seg_Check h2, h3])
end Go.Proofs.YtalfcmgcjdkolaaGreatDoor
namespace Go.Proofs.YtalfcmgcjdkolaaGreatDoor
open Go.ChangeShapes Go.WideShapes Go.ChangeAt Go.RowKit
set_option maxRecDepth 100000
theorem own : ownKnob Tryz.prog.godebug = none := by kernel_rfl
theorem laidOut : laidOutB Tryz.prog = true := by kernel_rfl
theorem standIn_all (ts : List TypeId) (h : ts.all (fun t => !(Tryz.prog.wantsStandIn t)) = true) (t : TypeId) (ht : t ∈ ts) : Tryz.pinned.checked.prog.wantsStandIn t = false := by
  have := List.all_eq_true.1 h t ht
  exact (show Tryz.prog.wantsStandIn t = false by simpa using this)
def putCells (cs : Array Value) : Obj → Obj
  | .cells _ t frozen => .cells cs t frozen
  | o => o
theorem u8t_of9 {W : World} (h : laidMetH Tryz.prog [("unicode/utf8.acceptRanges", Rows.laid_unicode_utf8_acceptRanges), ("unicode/utf8.first", Rows.laid_unicode_utf8_first)] W) : U8T W :=
  utf8Tabs_of_readsT (U8Types.of196 Tryz.laysValid) ⟨by kernel_rfl, by kernel_rfl, by kernel_rfl, by kernel_rfl, by kernel_rfl, by kernel_rfl, by kernel_rfl⟩ (Lib.laidMet.reads h (.tail _ (.head _))) (Lib.laidMet.reads h (.head _))
theorem cell_keep {w w' : World} {g c : Nat} {v : Value} (h : w.cell? ⟨g, c, none⟩ = some v) (hb : Below w.heap.size w w') : w'.cell? ⟨g, c, none⟩ = some v := by
  have hlt : g < w.heap.size := by
    rcases Nat.lt_or_ge g w.heap.size with h1 | h1
    · exact h1
    · simp [World.cell?, Array.getElem?_eq_none h1] at h
  rw [World.cell?_of_block (hb.block g hlt)]
  exact h
theorem stabU8T : Stab U8T := fun w w' h hb => ⟨fun c hc => cell_keep (h.1 c hc) hb, fun i hi => ⟨cell_keep (h.2 i hi).1 hb, cell_keep (h.2 i hi).2 hb⟩⟩
theorem shp_of {W : World} (h : W.ShapedOpen Tryz.prog) : Shp W :=
  cell_of_shapedOpen_int (k := .i64) (t := 3) (zero := #[.int .i64 0]) h (of_decide_eq_true (by kernel_rfl)) (by kernel_rfl) rfl (by kernel_rfl) (by kernel_rfl) Tryz.underlying3
def Env9 (w : World) : Prop := U8T w ∧ Shp w
theorem stabEnv9 : Stab Env9 := fun w w' ⟨a, b⟩ hb => ⟨stabU8T w w' a hb, stabShp w w' b hb⟩
theorem env_of9 {W : World} (h : laidMetH Tryz.prog [("unicode/utf8.acceptRanges", Rows.laid_unicode_utf8_acceptRanges), ("unicode/utf8.first", Rows.laid_unicode_utf8_first)] W) (hs : W.ShapedOpen Tryz.prog) : Env9 W := ⟨u8t_of9 h, shp_of hs⟩
noncomputable def laidWorld9 (os : Os) : World :=
  { (World.holding Tryz.prog os ⟨#[], #[], []⟩) with heap := (((World.holding Tryz.prog os ⟨#[], #[], []⟩).heap.modify 1 (putCells #[.int .u8 128, .int .u8 191, .int .u8 160, .int .u8 191, .int .u8 128, .int .u8 159, .int .u8 144, .int .u8 191, .int .u8 128, .int .u8 143, .int .u8 0, .int .u8 0, .int .u8 0, .int .u8 0, .int .u8 0, .int .u8 0, .int .u8 0, .int .u8 0, .int .u8 0, .int .u8 0, .int .u8 0, .int .u8 0, .int .u8 0, .int .u8 0, .int .u8 0, .int .u8 0, .int .u8 0, .int .u8 0, .int .u8 0, .int .u8 0, .int .u8 0, .int .u8 0])).modify 0 (putCells (Pinned.utf8FirstZ.map fun (z : Nat) => Value.int .u8 (z : Int)).toArray)) }
end Go.Proofs.YtalfcmgcjdkolaaGreatDoor
namespace Go.Proofs.YtalfcmgcjdkolaaGreatDoor
set_option maxRecDepth 100000
def A_Span.sz (x : A_Span) : Prop := (True) ∧ (True) ∧ True
def A_Word.sz (x : A_Word) : Prop := (x.Text.length ≤ 140737488351232) ∧ (A_Span.sz x.Span) ∧ True
def T_arr6_Int.sz (x : T_arr6_Int) : Prop := (True) ∧ (True) ∧ (True) ∧ (True) ∧ (True) ∧ (True)
def A_Penalties.sz (x : A_Penalties) : Prop := (T_arr6_Int.sz x.Sg) ∧ (True) ∧ (True) ∧ (True) ∧ (True) ∧ (True) ∧ (True) ∧ True
def A_Profile.sz (x : A_Profile) : Prop := (x.Name.length ≤ 140737488351232) ∧ (True) ∧ (True) ∧ (True) ∧ (True) ∧ (True) ∧ (True) ∧ (True) ∧ (True) ∧ (x.Fbd.length ≤ 140737488351232) ∧ (True) ∧ (True) ∧ (True) ∧ (True) ∧ True
def A_Speech.sz (x : A_Speech) : Prop := (True) ∧ (∀ a ∈ x.Words, A_Word.sz a) ∧ (∀ a ∈ x.Shots, True) ∧ (A_Penalties.sz x.Table) ∧ (A_Profile.sz x.House) ∧ True
def A_Part.sz (x : A_Part) : Prop := (True) ∧ (True) ∧ (∀ a ∈ x.Breaks, True) ∧ (A_Span.sz x.Span) ∧ True
theorem szs_of {s : A_Speech} (h : A_Speech.sz s) (hr : 0 ≤ s.Rate ∧ s.Rate ≤ 255) : Szs s :=
  ⟨hr, fun w hw => Nat.le_trans (h.2.1 w hw).1 (by decide), Nat.le_trans h.2.2.2.2.1.1 (by decide), Nat.le_trans h.2.2.2.2.1.2.2.2.2.2.2.2.2.2.1 (by decide)⟩
theorem speech_rate {ds : List D} {s : A_Speech} (h : ∀ d ∈ ds, Sz d) (hm : s.d ∈ ds) : 0 ≤ s.Rate ∧ s.Rate ≤ 255 :=
  Sz_u8.1 (Sz_agg.1 (h _ hm) (.int .u8 s.Rate) (by simp))
theorem law_SegmentWords (s : A_Speech) (l : List A_Part) (hB : A_Speech.sz s) (hC : ∀ a ∈ l, A_Part.sz a) : AFun Tryz.prog Env9 6 [s.d, .sl (l.map A_Part.d)] (.bool true) := by
  refine AFun.sized (by kernel_rfl) fun hz => ?_
  exact a_law38_SegmentWords stabEnv9 (fun _ h => h.2) (fun _ h => h.1) (segmentWords_true (szs_of hB (speech_rate hz (by simp))) l)
end Go.Proofs.YtalfcmgcjdkolaaGreatDoor
namespace Go.Proofs.YtalfcmgcjdkolaaGreatDoor
open Go.ChangeShapes Go.WideShapes Go.ChangeAt Go.RowKit Go.Joins
set_option maxRecDepth 100000
def FA (w : World) : Nat → Nat → Prop := fun b _ => b < w.heap.size
theorem FA_fb (w : World) : FB (cF (FA w)) w := fun _ _ h => h
theorem wf_inR {k : IntKind} {n : Int} (h : (Lit.int k n).wf = true) : inR k n := by
  simp only [Lit.wf, Bool.and_eq_true, decide_eq_true_eq] at h
  cases k <;> simp [IntKind.min, IntKind.max, IntKind.signed, IntKind.bits] at h <;> simp [inR, kLo, kHi] <;> omega
theorem strOfBytes (s : ByteArray) : (⟨s.data.toList.toArray⟩ : ByteArray) = s := by cases s; simp
theorem AFun.law {P : Program} {I : World → Prop} {f : FuncId} {ds : List D} (h : AFun P I f ds (.bool true)) {W : World} {args : List Value} (hI : I W) (hl : args.length = ds.length) (hr : ∀ (i : Nat) v d, args[i]? = some v → ds[i]? = some d → Rep W (cF (FA W)) v d) :
    Calls P f args.toArray W fun e w' => e = .returned (.bool true) ∧ Below W.heap.size W w' := by
  refine (h.2 W (FA W) args hI (FA_fb W) hl hr).mono ?_
  rintro e w' ⟨v, F', rfl, hb, _, _, _, hrep⟩
  cases hrep
  exact ⟨rfl, hb⟩
section
variable (H : Type) (enc : TypeId × Value → H) (P : Program)
def OpT {α : Type} (t : TypeId) (δ : α → D) : Prop :=
  ∀ (w : World) (fuel : Nat) (cs : List Value) (x : DataW H × List MemPlace), DataW.trod enc P w 0 (fun _ => true) true fuel t cs = some x → ∃ a : α, RepL (cF (FA w)) w cs (δ a).cells
def OpF {α : Type} (fs : List Field) (off : Nat) (γ : α → List D) : Prop :=
  ∀ (w : World) (fuel : Nat) (cs : List Value), off ≤ cs.length → (∀ f ∈ fs, ∃ x, DataW.trod enc P w 0 (fun _ => true) true fuel f.type ((cs.drop f.offset).take (P.cellsOf f.type)) = some x) → (fs = [] → cs.length = off) → (∀ f ∈ fs, f.offset + P.cellsOf f.type ≤ cs.length) → ((fs.map fun f => P.cellsOf f.type).sum + off = cs.length) → ∃ a : α, RepL (cF (FA w)) w (cs.drop off) (γ a)
end
section
variable {H : Type} {enc : TypeId × Value → H} {P : Program}
theorem OpT.int {t : TypeId} {k : IntKind} (ht : P.underlying t = some (.int k)) : OpT H enc P t (D.int k) := by
  intro w fuel cs x h
  obtain ⟨n, rfl, _, hw⟩ := DataW.trod_int ht h
  exact ⟨n, RepL.one1 rfl (.int _ _ (wf_inR hw))⟩
theorem OpT.bool {t : TypeId} (ht : P.underlying t = some .bool) : OpT H enc P t D.bool := by
  intro w fuel cs x h
  obtain ⟨n, rfl, _⟩ := DataW.trod_bool ht h
  exact ⟨n, RepL.one1 rfl (.bool _)⟩
theorem rep_strB {w : World} {C : Cx} (s : ByteArray) (h : s.size ≤ maxLen) : Rep w C (.string s) (.str s.data.toList) := by
  have := Rep.str (w := w) (C := C) s.data.toList (by rw [Array.length_toList]; exact h)
  rwa [strOfBytes] at this
theorem OpT.str {t : TypeId} (ht : P.underlying t = some .string) : OpT H enc P t D.str := by
  intro w fuel cs x h
  obtain ⟨s, rfl, _, hs⟩ := DataW.trod_string ht h
  exact ⟨s.data.toList, RepL.one1 rfl (rep_strB s hs)⟩
theorem OpT.map {α β : Type} {t : TypeId} {δ : α → D} {ε : β → D} (h : OpT H enc P t δ) (φ : α → β) (hφ : ∀ a, ε (φ a) = δ a) : OpT H enc P t ε := by
  intro w fuel cs x hx
  obtain ⟨a, ha⟩ := h w fuel cs x hx
  exact ⟨φ a, by rw [hφ]; exact ha⟩
theorem OpF.nil {off : Nat} : OpF H enc P [] off (fun _ : Unit => []) := by
  intro w fuel cs h1 h2 h3 h4 h5
  refine ⟨(), ?_⟩
  rw [List.drop_eq_nil_of_le (by have := h3 rfl; omega)]
  exact RepL.nil
theorem OpF.cons {α β : Type} {f : Field} {fs : List Field} {off : Nat} {δ : α → D} {γ : β → List D} (ho : f.offset = off) (h : OpT H enc P f.type δ) (hr : OpF H enc P fs (off + P.cellsOf f.type) γ) : OpF H enc P (f :: fs) off (fun p : α × β => (δ p.1).cells ++ γ p.2) := by
  intro w fuel cs h1 h2 h3 h4 h5
  subst ho
  obtain ⟨x, hx⟩ := h2 f (by simp)
  obtain ⟨a, ha⟩ := h w fuel _ x hx
  have hlen : f.offset + P.cellsOf f.type ≤ cs.length := h4 f (by simp)
  simp only [List.map_cons, List.sum_cons] at h5
  obtain ⟨b, hb⟩ := hr w fuel cs hlen (fun g hg => h2 g (by simp [hg])) (fun e => by subst e; simp at h5; omega) (fun g hg => h4 g (by simp [hg])) (by omega)
  refine ⟨(a, b), ?_⟩
  have := ha.append hb
  rw [show (cs.drop f.offset).take (P.cellsOf f.type) ++ cs.drop (f.offset + P.cellsOf f.type) = cs.drop f.offset by rw [← List.drop_drop]; exact List.take_append_drop _ _] at this
  exact this
theorem OpT.struct {α β : Type} {t : TypeId} {fs : Array Field} {γ : α → List D} {ε : β → D} (ht : P.underlying t = some (.struct fs)) (hoff : (fs.toList.all fun f => decide (f.offset + P.cellsOf f.type ≤ P.cellsOf t)) = true) (hsum : (fs.toList.map fun f => P.cellsOf f.type).sum = P.cellsOf t) (h : OpF H enc P fs.toList 0 γ) (φ : α → β) (hφ : ∀ a, (ε (φ a)).cells = γ a) : OpT H enc P t ε := by
  intro w fuel cs x hx
  obtain ⟨xs, n, _, _, hl, hxl, hf⟩ := DataW.trod_struct ht hx
  obtain ⟨a, ha⟩ := h w n cs (Nat.zero_le _) (fun f hf' => by
    obtain ⟨i, hi, rfl⟩ := List.getElem_of_mem hf'
    have hi' : fs[i]? = some fs.toList[i] := by simp at hi ⊢
    have := hf i _ hi'
    rw [List.getElem?_eq_getElem (by rw [hxl]; simpa using hi)] at this
    exact ⟨_, this⟩) (fun e => by rw [e] at hsum; simp at hsum; omega) (fun f hf' => by have := List.all_eq_true.1 hoff f hf'; simp at this; omega) (by omega)
  refine ⟨φ a, ?_⟩
  rw [hφ]
  simpa using ha
theorem addr_addO (b o i : Nat) : (⟨b, o, none⟩ : Addr).add i = ⟨b, o + i, none⟩ := by
  unfold Addr.add
  split
  · rename_i e; subst e; rfl
  · rfl
theorem rows_of {w : World} {b off k : Nat} {α : Type} {δ : α → D} (hk : ∀ a, (δ a).cells.length = k) : ∀ (n : Nat) (s : Nat), (∀ i, i < n → ∃ cs', (∀ j, j < k → w.cell? ⟨b, off + (s + i) * k + j, none⟩ = cs'[j]?) ∧ cs'.length = k ∧ ∃ a : α, RepL (cF (FA w)) w cs' (δ a).cells) →
    ∃ (l : List α) (vals : List Value), l.length = n ∧ vals.length = n * k ∧ RepL (cF (FA w)) w vals ((l.map δ).flatMap D.cells) ∧ ∀ (i : Nat) v, vals[i]? = some v → w.cell? ⟨b, off + s * k + i, none⟩ = some v := by
  intro n
  induction n with
  | zero => intro s _; exact ⟨[], [], rfl, by simp, RepL.nil, by simp⟩
  | succ n ih =>
    intro s h
    obtain ⟨cs, hc, hcl, a, ha⟩ := h 0 (by omega)
    obtain ⟨l, vals, h1, h2, h3, h4⟩ := ih (s + 1) (fun i hi => by
      obtain ⟨cs', hh⟩ := h (i + 1) (by omega)
      refine ⟨cs', ?_⟩
      rw [show s + 1 + i = s + (i + 1) by omega]
      exact hh)
    refine ⟨a :: l, cs ++ vals, by simp [h1], by rw [List.length_append, hcl, h2, Nat.add_mul]; omega, ?_, ?_⟩
    · simp only [List.map_cons, List.flatMap_cons]
      exact ha.append h3
    · intro i v hv
      by_cases hi : i < k
      · rw [List.getElem?_append_left (by omega)] at hv
        have := hc i hi
        rw [Nat.add_zero] at this
        rw [this, hv]
      · rw [List.getElem?_append_right (by omega)] at hv
        have := h4 _ v hv
        rw [hcl] at this
        rw [← this]
        congr 2
        rw [Nat.add_mul]
        omega
theorem OpT.slice {α : Type} {t e : TypeId} {δ : α → D} (ht : P.underlying t = some (.slice e)) (hpos : 0 < P.cellsOf e) (hk : ∀ a, (δ a).cells.length = P.cellsOf e) (h : OpT H enc P e δ) : OpT H enc P t (fun l : List α => D.sl (l.map δ)) := by
  intro w fuel cs x hx
  rcases Deep.open_slice ht hx with ⟨rfl, _⟩ | ⟨a, len, cap, m, n, Dd, Pl, rfl, hb, hl, hm, hmm, _, hel⟩
  · exact ⟨[], RepL.one1 rfl (.sl0 _ _ (Nat.zero_le _))⟩
  · simp only [if_true] at hmm
    subst hmm
    by_cases h0 : len = 0
    · subst h0
      exact ⟨[], RepL.one1 rfl (.sl0 _ _ hm)⟩
    · obtain ⟨b, off, spot⟩ := a
      obtain ⟨c0, hc0, _⟩ := hel 0 (by omega)
      obtain ⟨_, hl0, hg0⟩ := World.cells?_some hc0
      have hcell0 := hg0 0 hpos
      have hx0 : c0[0]? = some (c0[0]'(by omega)) := List.getElem?_eq_getElem _
      rw [hx0] at hcell0
      have hspot : spot = none := by simpa [Addr.add] using World.cell?_spot hcell0
      subst hspot
      have hbl : b < w.heap.size := by
        rcases Nat.lt_or_ge b w.heap.size with h1 | h1
        · exact h1
        · simp [Addr.add, World.cell?, Array.getElem?_eq_none h1] at hcell0
      obtain ⟨l, vals, h1, h2, h3, h4⟩ := rows_of (w := w) (b := b) (off := off) (k := P.cellsOf e) hk len 0 (fun i hi => by
        obtain ⟨cs', hc', ht'⟩ := hel i (by omega)
        obtain ⟨_, hl', hg'⟩ := World.cells?_some hc'
        refine ⟨cs', fun j hj => ?_, hl', h w n cs' _ ht'⟩
        have := hg' j hj
        rw [addr_addO, addr_addO] at this
        rw [← this]
        simp)
      refine ⟨l, RepL.one1 rfl ?_⟩
      have hkk : ∀ x ∈ l.map δ, x.cells.length = P.cellsOf e := fun x hx => by obtain ⟨y, _, rfl⟩ := List.mem_map.1 hx; exact hk y
      have := Rep.sl (w := w) (C := cF (FA w)) b off (P.cellsOf e) m (l.map δ) vals (by simp [h1]; omega) hm hkk h3.len h3.one (fun _ _ => hbl) (fun i v hv => by have := h4 i v hv; simpa using this) (fun i v d hv hd => h3.rep i v d hv hd)
      rw [List.length_map, h1] at this
      exact this
theorem arr_rows {α : Type} {e : TypeId} {δ : α → D} (h : OpT H enc P e δ) (w : World) (fuel : Nat) (cs : List Value) (k : Nat) : ∀ (n s : Nat), (∀ i, s ≤ i → i < s + n → ∃ x, DataW.trod enc P w 0 (fun _ => true) true fuel e ((cs.drop (i * k)).take k) = some x) → cs.length = (s + n) * k →
    ∃ l : List α, l.length = n ∧ RepL (cF (FA w)) w (cs.drop (s * k)) (l.flatMap fun a => (δ a).cells) := by
  intro n
  induction n with
  | zero => intro s _ hl; exact ⟨[], rfl, by rw [List.drop_eq_nil_of_le (by rw [hl]; exact Nat.le_refl _)]; exact RepL.nil⟩
  | succ n ih =>
    intro s hx hl
    obtain ⟨x, hx0⟩ := hx s (by omega) (by omega)
    obtain ⟨a, ha⟩ := h w fuel _ x hx0
    obtain ⟨l, hll, hr⟩ := ih (s + 1) (fun i h1 h2 => hx i (by omega) (by omega)) (by rw [hl]; congr 1; omega)
    refine ⟨a :: l, by simp [hll], ?_⟩
    have := ha.append hr
    rw [show (cs.drop (s * k)).take k ++ cs.drop ((s + 1) * k) = cs.drop (s * k) by rw [show (s + 1) * k = s * k + k by rw [Nat.add_mul]; omega, ← List.drop_drop]; exact List.take_append_drop _ _] at this
    exact this
theorem OpT.array {α β : Type} {t e : TypeId} {n : Nat} {δ : α → D} {ε : β → D} (ht : P.underlying t = some (.array n e)) (hc : P.cellsOf t = n * P.cellsOf e) (h : OpT H enc P e δ) (φ : (l : List α) → l.length = n → β) (hφ : ∀ l h, (ε (φ l h)).cells = l.flatMap fun a => (δ a).cells) : OpT H enc P t ε := by
  intro w fuel cs x hx
  obtain ⟨xs, m, _, _, hl, hxl, hf⟩ := DataW.trod_array ht hx
  obtain ⟨l, hll, hr⟩ := arr_rows h w m cs (P.cellsOf e) n 0 (fun i _ hi => by
    have := hf i (by omega)
    rw [List.getElem?_eq_getElem (by omega)] at this
    exact ⟨_, this⟩) (by rw [hl, hc, Nat.zero_add])
  refine ⟨φ l hll, ?_⟩
  rw [hφ]
  simpa using hr
theorem OpT.arg1 {α : Type} {t : TypeId} {δ : α → D} (h : OpT H enc P t δ) {w : World} {v : Value} {d : DataW H} {p : List MemPlace} (hv : v.cells = #[v]) (hδ : ∀ a, (δ a).cells = [δ a]) (ht : DataW.Trod enc P w 0 (fun _ => true) true t v d p) : ∃ a, Rep w (cF (FA w)) v (δ a) := by
  obtain ⟨fuel, hf⟩ := ht
  obtain ⟨a, ha⟩ := h w fuel _ _ hf
  refine ⟨a, ?_⟩
  rw [hv, hδ] at ha
  exact ha.rep 0 v (δ a) rfl rfl
theorem OpT.argS {α : Type} {t : TypeId} {δ : α → D} {cs : Array Value} (h : OpT H enc P t δ) {w : World} {d : DataW H} {p : List MemPlace} (hδ : ∀ a, ∃ ds, δ a = .agg ds) (ht : DataW.Trod enc P w 0 (fun _ => true) true t (.agg cs) d p) : ∃ a, Rep w (cF (FA w)) (.agg cs) (δ a) := by
  obtain ⟨fuel, hf⟩ := ht
  obtain ⟨a, ha⟩ := h w fuel _ _ hf
  refine ⟨a, ?_⟩
  obtain ⟨ds, hd⟩ := hδ a
  rw [hd] at ha ⊢
  have := ha.agg
  simpa [Value.cells, D.cells] using this
theorem OpT.argSlice {α : Type} {t e : TypeId} {δ : α → D} (ht : P.underlying t = some (.slice e)) (h : OpT H enc P t δ) (hδ : ∀ a, (δ a).cells = [δ a]) {w : World} {r : Reach} {b0 : Nat} {v : Value} {d : DataW H} {p : List MemPlace} (hv : Value.okWide P w r b0 t v) (hd : DataW.Trod enc P w 0 (fun _ => true) true t v d p) : ∃ a, Rep w (cF (FA w)) v (δ a) := by
  obtain ⟨_, _, _, rfl⟩ := okWide_slice ht hv
  exact h.arg1 rfl hδ hd
theorem OpT.argStruct {α : Type} {t : TypeId} {fs : Array Field} {δ : α → D} (ht : P.underlying t = some (.struct fs)) (h : OpT H enc P t δ) (hδ : ∀ a, ∃ ds, δ a = .agg ds) {w : World} {r : Reach} {b0 : Nat} {v : Value} {d : DataW H} {p : List MemPlace} (hv : Value.okWide P w r b0 t v) (hd : DataW.Trod enc P w 0 (fun _ => true) true t v d p) : ∃ a, Rep w (cF (FA w)) v (δ a) := by
  obtain ⟨_, rfl, _⟩ := okWide_struct ht hv
  exact h.argS hδ hd
end
end Go.Proofs.YtalfcmgcjdkolaaGreatDoor
namespace Go.Proofs.YtalfcmgcjdkolaaGreatDoor
open Go.ChangeShapes Go.WideShapes Go.ChangeAt Go.RowKit Go.Joins
set_option maxRecDepth 100000
theorem wt_each {H : Type} {P : Program} : ∀ {ts : List TypeId} {ds : List (DataW H)} {i : Nat} {t : TypeId} {d : DataW H}, ts[i]? = some t → ds[i]? = some d → ∀ m ∈ d.weights P t, m ∈ DataW.weightsEach P ts ds
  | [], _, i, t, d, h, _ => by simp at h
  | _ :: _, [], i, t, d, _, h => by simp at h
  | a :: ts, b :: ds, i, t, d, h1, h2 => by
    intro m hm
    unfold DataW.weightsEach
    rw [List.mem_append]
    cases i with
    | zero =>
      simp at h1 h2
      subst h1 h2
      exact .inl hm
    | succ i => exact .inr (wt_each (i := i) (by simpa using h1) (by simpa using h2) m hm)
theorem wt_all {H : Type} {P : Program} {e : TypeId} : ∀ {ds : List (DataW H)} {d : DataW H}, d ∈ ds → ∀ m ∈ d.weights P e, m ∈ DataW.weightsAll P e ds
  | a :: ds, d, h => by
    intro m hm
    unfold DataW.weightsAll
    rw [List.mem_append]
    rcases List.mem_cons.1 h with rfl | h
    · exact .inl hm
    · exact .inr (wt_all h m hm)
section
variable (H : Type) (enc : TypeId × Value → H) (P : Program) (n : Nat)
def OpTW {α : Type} (t : TypeId) (δ : α → D) (B : α → Prop) : Prop :=
  ∀ (w : World) (fuel : Nat) (cs : List Value) (x : DataW H × List MemPlace), DataW.trod enc P w 0 (fun _ => true) true fuel t cs = some x → (∀ m ∈ x.1.weights P t, m ≤ n) → ∃ a : α, RepL (cF (FA w)) w cs (δ a).cells ∧ B a
def OpFW {α : Type} (fs : List Field) (off : Nat) (γ : α → List D) (B : α → Prop) : Prop :=
  ∀ (w : World) (fuel : Nat) (cs : List Value), off ≤ cs.length → (∀ f ∈ fs, ∃ x : DataW H × List MemPlace, DataW.trod enc P w 0 (fun _ => true) true fuel f.type ((cs.drop f.offset).take (P.cellsOf f.type)) = some x ∧ ∀ m ∈ x.1.weights P f.type, m ≤ n) → (fs = [] → cs.length = off) → (∀ f ∈ fs, f.offset + P.cellsOf f.type ≤ cs.length) → ((fs.map fun f => P.cellsOf f.type).sum + off = cs.length) → ∃ a : α, RepL (cF (FA w)) w (cs.drop off) (γ a) ∧ B a
end
section
variable {H : Type} {enc : TypeId × Value → H} {P : Program} {n : Nat}
theorem OpTW.int {t : TypeId} {k : IntKind} (ht : P.underlying t = some (.int k)) : OpTW H enc P n t (D.int k) (fun _ => True) := by
  intro w fuel cs x h _
  obtain ⟨a, ha⟩ := OpT.int ht w fuel cs x h
  exact ⟨a, ha, trivial⟩
theorem OpTW.bool {t : TypeId} (ht : P.underlying t = some .bool) : OpTW H enc P n t D.bool (fun _ => True) := by
  intro w fuel cs x h _
  obtain ⟨a, ha⟩ := OpT.bool ht w fuel cs x h
  exact ⟨a, ha, trivial⟩
theorem OpTW.str {t : TypeId} (ht : P.underlying t = some .string) : OpTW H enc P n t D.str (fun s => s.length ≤ n) := by
  intro w fuel cs x h hn
  obtain ⟨s, rfl, rfl, hs⟩ := DataW.trod_string ht h
  refine ⟨s.data.toList, RepL.one1 rfl (rep_strB s hs), ?_⟩
  exact hn _ (by simp [DataW.weights])
theorem OpFW.nil {off : Nat} : OpFW H enc P n [] off (fun _ : Unit => []) (fun _ => True) := by
  intro w fuel cs h1 h2 h3 h4 h5
  refine ⟨(), ?_, trivial⟩
  rw [List.drop_eq_nil_of_le (by have := h3 rfl; omega)]
  exact RepL.nil
theorem OpFW.cons {α β : Type} {f : Field} {fs : List Field} {off : Nat} {δ : α → D} {γ : β → List D} {A : α → Prop} {B : β → Prop} (ho : f.offset = off) (h : OpTW H enc P n f.type δ A) (hr : OpFW H enc P n fs (off + P.cellsOf f.type) γ B) : OpFW H enc P n (f :: fs) off (fun p : α × β => (δ p.1).cells ++ γ p.2) (fun p => A p.1 ∧ B p.2) := by
  intro w fuel cs h1 h2 h3 h4 h5
  subst ho
  obtain ⟨x, hx, hxn⟩ := h2 f (by simp)
  obtain ⟨a, ha, hA⟩ := h w fuel _ x hx hxn
  have hlen : f.offset + P.cellsOf f.type ≤ cs.length := h4 f (by simp)
  simp only [List.map_cons, List.sum_cons] at h5
  obtain ⟨b, hb, hB⟩ := hr w fuel cs hlen (fun g hg => h2 g (by simp [hg])) (fun e => by subst e; simp at h5; omega) (fun g hg => h4 g (by simp [hg])) (by omega)
  refine ⟨(a, b), ?_, hA, hB⟩
  have := ha.append hb
  rw [show (cs.drop f.offset).take (P.cellsOf f.type) ++ cs.drop (f.offset + P.cellsOf f.type) = cs.drop f.offset by rw [← List.drop_drop]; exact List.take_append_drop _ _] at this
  exact this
theorem OpTW.struct {α β : Type} {t : TypeId} {fs : Array Field} {γ : α → List D} {ε : β → D} {A : α → Prop} {B : β → Prop} (ht : P.underlying t = some (.struct fs)) (hoff : (fs.toList.all fun f => decide (f.offset + P.cellsOf f.type ≤ P.cellsOf t)) = true) (hsum : (fs.toList.map fun f => P.cellsOf f.type).sum = P.cellsOf t) (h : OpFW H enc P n fs.toList 0 γ A) (φ : α → β) (hφ : ∀ a, (ε (φ a)).cells = γ a) (hB : ∀ a, A a → B (φ a)) : OpTW H enc P n t ε B := by
  intro w fuel cs x hx hn
  obtain ⟨xs, m, _, rfl, hl, hxl, hf⟩ := DataW.trod_struct ht hx
  obtain ⟨a, ha, hA⟩ := h w m cs (Nat.zero_le _) (fun f hf' => by
    obtain ⟨i, hi, rfl⟩ := List.getElem_of_mem hf'
    have hi' : fs[i]? = some fs.toList[i] := by simp at hi ⊢
    have := hf i _ hi'
    have hix : i < xs.length := by rw [hxl]; simpa using hi
    rw [List.getElem?_eq_getElem hix] at this
    refine ⟨_, this, fun k hk => hn k ?_⟩
    unfold DataW.weights
    rw [ht]
    exact wt_each (i := i) (by rw [List.getElem?_map, List.getElem?_eq_getElem hi]; rfl) (by rw [List.getElem?_map, List.getElem?_eq_getElem hix]; rfl) k hk) (fun e => by rw [e] at hsum; simp at hsum; omega) (fun f hf' => by have := List.all_eq_true.1 hoff f hf'; simp at this; omega) (by omega)
  refine ⟨φ a, ?_, hB a hA⟩
  rw [hφ]
  simpa using ha
theorem OpTW.slice {α : Type} {t e : TypeId} {δ : α → D} {A : α → Prop} (ht : P.underlying t = some (.slice e)) (hpos : 0 < P.cellsOf e) (hk : ∀ a, (δ a).cells.length = P.cellsOf e) (h : OpTW H enc P n e δ A) : OpTW H enc P n t (fun l : List α => D.sl (l.map δ)) (fun l => ∀ a ∈ l, A a) := by
  intro w fuel cs x hx hn
  rcases Deep.open_slice ht hx with ⟨rfl, _⟩ | ⟨a, len, cap, m, f, Dd, Pl, rfl, hb, hl, hm, hmm, rfl, hel⟩
  · exact ⟨[], RepL.one1 rfl (.sl0 _ _ (Nat.zero_le _)), by simp⟩
  · simp only [if_true] at hmm
    subst hmm
    by_cases h0 : len = 0
    · subst h0
      exact ⟨[], RepL.one1 rfl (.sl0 _ _ hm), by simp⟩
    · obtain ⟨b, off, spot⟩ := a
      obtain ⟨c0, hc0, _⟩ := hel 0 (by omega)
      obtain ⟨_, hl0, hg0⟩ := World.cells?_some hc0
      have hcell0 := hg0 0 hpos
      have hx0 : c0[0]? = some (c0[0]'(by omega)) := List.getElem?_eq_getElem _
      rw [hx0] at hcell0
      have hspot : spot = none := by simpa [Addr.add] using World.cell?_spot hcell0
      subst hspot
      have hbl : b < w.heap.size := by
        rcases Nat.lt_or_ge b w.heap.size with h1 | h1
        · exact h1
        · simp [Addr.add, World.cell?, Array.getElem?_eq_none h1] at hcell0
      unfold DataW.weights at hn
      rw [ht] at hn
      obtain ⟨l, vals, h1, h2, h3, h4⟩ := rows_of (w := w) (b := b) (off := off) (k := P.cellsOf e) (α := { a : α // A a }) (δ := fun a => δ a.1) (fun a => hk a.1) len 0 (fun i hi => by
        obtain ⟨cs', hc', ht'⟩ := hel i (by omega)
        obtain ⟨_, hl', hg'⟩ := World.cells?_some hc'
        refine ⟨cs', fun j hj => ?_, hl', ?_⟩
        · have := hg' j hj
          rw [addr_addO, addr_addO] at this
          rw [← this]
          simp
        · have hmem : Dd i ∈ (List.range len).map Dd := List.mem_map_of_mem (List.mem_range.2 hi)
          obtain ⟨a, ha, hA⟩ := h w f cs' _ ht' (fun k hk => hn k (List.mem_cons_of_mem _ (List.mem_append_left _ (wt_all hmem k hk))))
          exact ⟨⟨a, hA⟩, ha⟩)
      have hmap : l.map (fun a => δ a.1) = (l.map (·.1)).map δ := by rw [List.map_map]; rfl
      rw [hmap] at h3
      refine ⟨l.map (·.1), RepL.one1 rfl ?_, fun a ha => ?_⟩
      · have hkk : ∀ x ∈ (l.map (·.1)).map δ, x.cells.length = P.cellsOf e := fun x hx => by obtain ⟨y, _, rfl⟩ := List.mem_map.1 hx; exact hk y
        have := Rep.sl (w := w) (C := cF (FA w)) b off (P.cellsOf e) m ((l.map (·.1)).map δ) vals (by simp [h1]; omega) hm hkk h3.len h3.one (fun _ _ => hbl) (fun i v hv => by have := h4 i v hv; simpa using this) (fun i v d hv hd => h3.rep i v d hv hd)
        rw [List.length_map, List.length_map, h1] at this
        exact this
      · obtain ⟨y, _, rfl⟩ := List.mem_map.1 ha
        exact y.2
theorem arr_rowsW {α : Type} {e : TypeId} {δ : α → D} {A : α → Prop} (h : OpTW H enc P n e δ A) (w : World) (fuel : Nat) (cs : List Value) (k : Nat) : ∀ (m s : Nat), (∀ i, s ≤ i → i < s + m → ∃ x : DataW H × List MemPlace, DataW.trod enc P w 0 (fun _ => true) true fuel e ((cs.drop (i * k)).take k) = some x ∧ ∀ m ∈ x.1.weights P e, m ≤ n) → cs.length = (s + m) * k →
    ∃ l : List α, l.length = m ∧ RepL (cF (FA w)) w (cs.drop (s * k)) (l.flatMap fun a => (δ a).cells) ∧ ∀ a ∈ l, A a := by
  intro m
  induction m with
  | zero => intro s _ hl; exact ⟨[], rfl, by rw [List.drop_eq_nil_of_le (by rw [hl]; exact Nat.le_refl _)]; exact RepL.nil, by simp⟩
  | succ m ih =>
    intro s hx hl
    obtain ⟨x, hx0, hxn⟩ := hx s (by omega) (by omega)
    obtain ⟨a, ha, hA⟩ := h w fuel _ x hx0 hxn
    obtain ⟨l, hll, hr, hAl⟩ := ih (s + 1) (fun i h1 h2 => hx i (by omega) (by omega)) (by rw [hl]; congr 1; omega)
    refine ⟨a :: l, by simp [hll], ?_, fun b hb => by
      rcases List.mem_cons.1 hb with rfl | hb
      · exact hA
      · exact hAl b hb⟩
    have := ha.append hr
    rw [show (cs.drop (s * k)).take k ++ cs.drop ((s + 1) * k) = cs.drop (s * k) by rw [show (s + 1) * k = s * k + k by rw [Nat.add_mul]; omega, ← List.drop_drop]; exact List.take_append_drop _ _] at this
    exact this
theorem OpTW.array {α β : Type} {t e : TypeId} {m : Nat} {δ : α → D} {ε : β → D} {A : α → Prop} {B : β → Prop} (ht : P.underlying t = some (.array m e)) (hc : P.cellsOf t = m * P.cellsOf e) (h : OpTW H enc P n e δ A) (φ : (l : List α) → l.length = m → β) (hφ : ∀ l h, (ε (φ l h)).cells = l.flatMap fun a => (δ a).cells) (hB : ∀ l h, (∀ a ∈ l, A a) → B (φ l h)) : OpTW H enc P n t ε B := by
  intro w fuel cs x hx hn
  obtain ⟨xs, k, _, rfl, hl, hxl, hf⟩ := DataW.trod_array ht hx
  obtain ⟨l, hll, hr, hA⟩ := arr_rowsW h w k cs (P.cellsOf e) m 0 (fun i _ hi => by
    have := hf i (by omega)
    rw [List.getElem?_eq_getElem (by omega)] at this
    refine ⟨_, this, fun k hk => hn k ?_⟩
    unfold DataW.weights
    rw [ht]
    exact wt_all (List.mem_map_of_mem (f := (·.1)) (List.getElem_mem (l := xs) (n := i) (by omega))) k hk) (by rw [hl, hc, Nat.zero_add])
  refine ⟨φ l hll, ?_, hB l hll hA⟩
  rw [hφ]
  simpa using hr
theorem OpTW.argStruct {α : Type} {t : TypeId} {fs : Array Field} {δ : α → D} {B : α → Prop} (ht : P.underlying t = some (.struct fs)) (h : OpTW H enc P n t δ B) (hδ : ∀ a, ∃ ds, δ a = .agg ds) {w : World} {r : Reach} {b0 : Nat} {v : Value} {d : DataW H} {p : List MemPlace} (hv : Value.okWide P w r b0 t v) (hd : DataW.Trod enc P w 0 (fun _ => true) true t v d p) (hn : ∀ m ∈ d.weights P t, m ≤ n) : ∃ a, Rep w (cF (FA w)) v (δ a) ∧ B a := by
  obtain ⟨cs, rfl, _⟩ := okWide_struct ht hv
  obtain ⟨fuel, hf⟩ := hd
  obtain ⟨a, ha, hB⟩ := h w fuel _ _ hf hn
  refine ⟨a, ?_, hB⟩
  obtain ⟨ds, hd⟩ := hδ a
  rw [hd] at ha ⊢
  have := ha.agg
  simpa [Value.cells, D.cells] using this
theorem OpTW.argSlice {α : Type} {t e : TypeId} {δ : α → D} {B : α → Prop} (ht : P.underlying t = some (.slice e)) (h : OpTW H enc P n t δ B) (hδ : ∀ a, (δ a).cells = [δ a]) {w : World} {r : Reach} {b0 : Nat} {v : Value} {d : DataW H} {p : List MemPlace} (hv : Value.okWide P w r b0 t v) (hd : DataW.Trod enc P w 0 (fun _ => true) true t v d p) (hn : ∀ m ∈ d.weights P t, m ≤ n) : ∃ a, Rep w (cF (FA w)) v (δ a) ∧ B a := by
  obtain ⟨_, _, _, rfl⟩ := okWide_slice ht hv
  obtain ⟨fuel, hf⟩ := hd
  obtain ⟨a, ha, hB⟩ := h w fuel _ _ hf hn
  refine ⟨a, ?_, hB⟩
  rw [show (Value.cells _ : Array Value) = #[_] from rfl, hδ] at ha
  exact ha.rep 0 _ (δ a) rfl rfl
end
end Go.Proofs.YtalfcmgcjdkolaaGreatDoor
