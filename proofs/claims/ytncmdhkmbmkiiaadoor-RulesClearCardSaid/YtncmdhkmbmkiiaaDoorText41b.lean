/- The contract of layer 41's Text of the program. At most 1048576 findings. -/
import Derived.Test.YtncmdhkmbmkiiaaDoorText41
namespace Go.Proofs.YtncmdhkmbmkiiaaDoor
open Go.RowKit
attribute [local go_sem ↓] Go.wp_at_zero Go.wp_at_succ

def okRule (f : Fd) : Bool := decide (1 ≤ f.rule ∧ f.rule ≤ 12)
/-- The text of findings, and the error. -/
def txL (L : List Fd) : List UInt8 × Int := if L.all okRule then (L.flatMap txLine, 0) else ([], 3)
def wfF (f : Fd) : Prop := (0 ≤ f.rule ∧ f.rule ≤ 255) ∧ (-9223372036854775808 ≤ f.id ∧ f.id ≤ 9223372036854775807) ∧ (-9223372036854775808 ≤ f.other ∧ f.other ≤ 9223372036854775807) ∧ (-9223372036854775808 ≤ f.amount ∧ f.amount ≤ 9223372036854775807)

theorem nmB_empty {r : Int} (h : ¬ (1 ≤ r ∧ r ≤ 12)) : nmB r = ⟨#[]⟩ := by rw [nmB, nmL, if_neg h]
def rulesNameEmpty (r : Int) : Prop := 0 ≤ r ∧ r ≤ 255 ∧ ¬ (1 ≤ r ∧ r ≤ 12)
theorem rules_NameE (r : Int) (w : World) (h : rulesNameEmpty r) : Calls Tryd.prog 78 #[.int .u8 r] w fun e w' => e = .returned (.string ⟨#[]⟩) ∧ Below w.heap.size w w' := by
  have := rules_Name r w h.1 h.2.1
  rwa [nmB_empty h.2.2] at this
theorem nmB_facts {r : Int} (h : 1 ≤ r ∧ r ≤ 12) : (nmB r).toList.isEmpty = false ∧ (nmB r).size ≤ 9 := by
  have h4 : r = 1 ∨ r = 2 ∨ r = 3 ∨ r = 4 ∨ r = 5 ∨ r = 6 ∨ r = 7 ∨ r = 8 ∨ r = 9 ∨ r = 10 ∨ r = 11 ∨ r = 12 := by omega
  rcases h4 with rfl | rfl | rfl | rfl | rfl | rfl | rfl | rfl | rfl | rfl | rfl | rfl <;> exact ⟨by decide +kernel, by decide +kernel⟩
theorem txLine_len (f : Fd) (h : wfF f) : (txLine f).length ≤ 80 := by
  obtain ⟨_, h2, h3, h4⟩ := h
  have a := Lib.itoa_length_le _ h2.1 h2.2
  have b := Lib.itoa_length_le _ h3.1 h3.2
  have c := Lib.itoa_length_le _ h4.1 h4.2
  have d : (nmL f.rule).length ≤ 9 := by
    by_cases h : 1 ≤ f.rule ∧ f.rule ≤ 12
    · have := (nmB_facts h).2
      simpa [nmB, ByteArray.size] using this
    · simp [nmL, h]
  simp [txLine]; omega

theorem txFlat_len (L : List Fd) (h : ∀ f ∈ L, wfF f) : (L.flatMap txLine).length ≤ 80 * L.length := by
  induction L with
  | nil => simp
  | cons a t ih =>
    have h1 := txLine_len a (h a (by simp))
    have h2 := ih (fun f hf => h f (by simp [hf]))
    simp only [List.flatMap_cons, List.length_append, List.length_cons]; omega
theorem isB_snoc {B b : Nat} {w : World} {L M : List Fd} {f : Fd} (hM : M = L ++ [f]) (h : IsB B b (Lib.byteCells (L.flatMap txLine) ++ Lib.strCells (txB f)) w) : IsB B b (Lib.byteCells (M.flatMap txLine)) w := by
  subst hM
  rw [List.flatMap_append]
  have e : Lib.byteCells (L.flatMap txLine ++ [f].flatMap txLine) = Lib.byteCells (L.flatMap txLine) ++ Lib.strCells (txB f) := by
    rw [Lib.strCells_eq, txB_data]
    simp [Lib.byteCells]
  rw [e]
  exact h

/-- What Text's region keeps: the finding's block, the builder, the table. -/
def TxS (g B : Nat) (r id o m : Int) (bs : List Value) (w0 w : World) : Prop :=
  w.heap[g]? = some (.cells #[.int .u8 r, .int .i64 id, .int .i64 o, .int .i64 m] 35 (0, 0)) ∧ IsB B B bs w ∧ Tab w ∧ Below B w0 w ∧ B ≤ w.heap.size
section
variable {g B : Nat} {r id o m : Int} {bs : List Value} {w0 w : World}
theorem TxS.c1 (h : TxS g B r id o m bs w0 w) : w.cell? ⟨g, 1, none⟩ = some (.int .i64 id) := (cell_of_row _ _ 1 _ _ _ h.1).trans rfl
theorem TxS.c2 (h : TxS g B r id o m bs w0 w) : w.cell? ⟨g, 2, none⟩ = some (.int .i64 o) := (cell_of_row _ _ 2 _ _ _ h.1).trans rfl
theorem TxS.c3 (h : TxS g B r id o m bs w0 w) : w.cell? ⟨g, 3, none⟩ = some (.int .i64 m) := (cell_of_row _ _ 3 _ _ _ h.1).trans rfl
theorem TxS.lt (h : TxS g B r id o m bs w0 w) : g < w.heap.size := by
  rcases Nat.lt_or_ge g w.heap.size with h1 | h1
  · exact h1
  · have := h.1; simp [Array.getElem?_eq_none h1] at this
theorem TxS.below {w' : World} (h : TxS g B r id o m bs w0 w) (hb : Below w.heap.size w w') : TxS g B r id o m bs w0 w' :=
  ⟨(hb.block g h.lt).trans h.1, isB_below h.2.1 hb, tab_below h.2.2.1 hb, h.2.2.2.1.trans (hb.mono h.2.2.2.2), Nat.le_trans h.2.2.2.2 hb.size⟩
theorem TxS.drew (h : TxS g B r id o m bs w0 w) : TxS g B r id o m bs w0 w.drew := ⟨h.1, h.2.1, h.2.2.1, h.2.2.2.1.drew, h.2.2.2.2⟩
theorem dec_S (n : Int) (h0 : -9223372036854775808 ≤ n) (h1 : n ≤ 9223372036854775807) (hS : TxS g B r id o m bs w0 w) :
    Calls Tryd.prog 53 #[.int .i64 n] w fun e w' => e = .returned (.string (decB n)) ∧ TxS g B r id o m bs w0 w' :=
  (lines_Decimal n h0 h1 w hS.2.2.1).mono fun _ _ ⟨he, hb⟩ => ⟨he, hS.below hb⟩
theorem wr_S (s : ByteArray) (hS : TxS g B r id o m bs w0 w) (hg : g ≠ B) (hgt : 2 < B) (hlen : bs.length + s.size ≤ 140737488355328) :
    Calls Tryd.prog 79 #[.pointer (some ⟨B, 0, none⟩), .string s] w fun e w' => e = .returned (.tuple #[.int .i64 s.size, .nilIface]) ∧ TxS g B r id o m (bs ++ Lib.strCells s) w0 w' := by
  refine (writeString B B bs s w hS.2.1 hlen hS.2.2.2.2).mono ?_
  rintro e w' ⟨rfl, hB, hb, ho⟩
  refine ⟨rfl, ?_, hB, ?_, hS.2.2.2.1.trans hb, Nat.le_trans hS.2.2.2.2 hb.size⟩
  · rw [ho g hS.lt hg (fun cur fr e => by rw [hS.1] at e; injection e with e; injection e with _ e2 _; exact absurd e2 (by decide))]
    exact hS.1
  · exact tab_below_at hS.2.2.1 (hb.block _ hgt)
end

set_option maxHeartbeats 2000000 in
set_option maxRecDepth 100000 in
theorem rules_Text (A : Option Addr) (c : Nat) (L : List Fd) (w : World) (h : RdL encF 4 w w.heap.size A L) (hwf : ∀ f ∈ L, wfF f) (hm : L.length ≤ 1048576) (ht : Tab w) :
    Calls Tryd.prog 55 #[.slice A L.length c] w fun e w' => e = .returned (.tuple #[.string ⟨(txL L).1.toArray⟩, .int .i64 (txL L).2]) ∧ Below w.heap.size w w' := by
  have H := Lib.hid h
  have HW := Lib.hid hwf
  have HT := Lib.hid ht
  have hgt := tab_lt ht
  clear h hwf ht
  go_enter Tryd.func55, Tryd.ntmps55
  go_wp2
  go_loopw [2, 3, 6, 7, 10] (fun _ _ _ _ s wr => ∃ k : Nat, k ≤ L.length ∧ s = .int .i64 k ∧ IsB w.heap.size w.heap.size (Lib.byteCells ((L.take k).flatMap txLine)) wr ∧ Below w.heap.size w wr ∧ Tab wr ∧ Hid ((L.take k).all okRule = true)) (fun _ _ _ _ s _ => L.length - (intOf s).toNat)
  case atStart => exact ⟨0, Nat.zero_le _, rfl, Lib.fresh_isBuilder _ _ _, bal (Below.refl _ _) _, tab_below HT.out (bal (Below.refl _ _) _), by simp [Hid]⟩
  case round =>
    obtain ⟨k, hk, rfl, hB, hbel, htab, HO⟩ := hrel
    have HB := Lib.hid hB
    have HT := Lib.hid htab
    clear hB htab
    have hsz := hbel.size
    have hbl : w.heap.size < wr.heap.size := by
      rcases HB.out with h | h
      · exact h.lt
      · exact h.lt
    by_cases hlt : k < L.length
    · obtain ⟨bk, off, rfl, hbk, hc⟩ := (H.out.below hbel).at_ (show 0 < L.length by omega)
      have hx := List.getElem?_eq_getElem hlt
      have a0 := hc k _ hx 0 _ rfl
      have a1 := hc k _ hx 1 _ rfl
      have a2 := hc k _ hx 2 _ rfl
      have a3 := hc k _ hx 3 _ rfl
      have HX := Lib.hid (HW.out _ (List.getElem_mem hlt))
      have HTK := Lib.hid (List.take_succ_eq_append_getElem hlt)
      clear hc hx
      generalize L[k] = x at a0 a1 a2 a3 HX HTK
      obtain ⟨r, id, o, m⟩ := x
      simp only [Nat.add_zero] at a0
      obtain ⟨⟨r0, r1⟩, ⟨i0, i1⟩, ⟨o0, o1⟩, ⟨m0, m1⟩⟩ := HX.out
      by_cases hr : 1 ≤ r ∧ r ≤ 12
      · go_wp2_with (first | (go_at_call 78; refine (rules_Name _ _ r0 r1).mono ?_))
        rintro e w1 rfl hb1
        obtain ⟨n1, n2⟩ := nmB_facts hr
        have hb1 := bsz hb1 (by simp)
        have hz1 := hb1.size
        simp at hz1
        have hS1 : TxS wr.heap.size w.heap.size r id o m (Lib.byteCells ((L.take k).flatMap txLine)) w w1 :=
          ⟨by rw [hb1.block _ (by simp)]; exact heap_at_new _ _ _ rfl, isB_below (isB_below HB.out (bal (Below.refl _ _) _)) hb1, tab_below (tab_below HT.out (bal (Below.refl _ _) _)) hb1, hbel.trans (((bal (Below.refl _ _) _).trans (hb1.mono (by simp))).mono hsz), by omega⟩
        have e1 := hS1.c1
        have e2 := hS1.c2
        have e3 := hS1.c3
        clear a0 a1 a2 a3 hb1
        go_wp2
        have d1 := decB_size id i0 i1
        have d2 := decB_size o o0 o1
        have d3 := decB_size m m0 m1
        have hlen : (Lib.byteCells ((L.take k).flatMap txLine)).length + (txB ⟨r, id, o, m⟩).size ≤ 140737488355328 := by
          have h1 := txFlat_len (L.take k) (fun f hf => HW.out f (List.mem_of_mem_take hf))
          have h2 := List.length_take_le k L
          have h3 : (txB ⟨r, id, o, m⟩).size = (nmB r).size + 1 + (decB id).size + 1 + (decB o).size + 1 + (decB m).size + 1 := by simp [txB]; rfl
          rw [Lib.byteCells_length, h3]
          omega
        have hg : wr.heap.size ≠ w.heap.size := by omega
        have z1 : ¬ 9223372036854775807 < (nmB r).size + 1 := by omega
        have z2 : ¬ 9223372036854775807 < (nmB r).size + 1 + (decB id).size := by omega
        have z3 : ¬ 9223372036854775807 < (nmB r).size + 1 + (decB id).size + 1 := by omega
        have z4 : ¬ 9223372036854775807 < (nmB r).size + 1 + (decB id).size + 1 + (decB o).size := by omega
        have z5 : ¬ 9223372036854775807 < (nmB r).size + 1 + (decB id).size + 1 + (decB o).size + 1 := by omega
        have z6 : ¬ 9223372036854775807 < (nmB r).size + 1 + (decB id).size + 1 + (decB o).size + 1 + (decB m).size := by omega
        have z7 : ¬ 9223372036854775807 < (nmB r).size + 1 + (decB id).size + 1 + (decB o).size + 1 + (decB m).size + 1 := by omega
        have hS1d : TxS wr.heap.size w.heap.size r id o m (Lib.byteCells ((L.take k).flatMap txLine)) w w1.drew := hS1.drew
        go_region_held3 (fun w' => w'.cell? ⟨wr.heap.size, 1, none⟩ = some (.int .i64 id) ∧ w'.cell? ⟨wr.heap.size, 2, none⟩ = some (.int .i64 o) ∧ w'.cell? ⟨wr.heap.size, 3, none⟩ = some (.int .i64 m)) (go_keep)
          (first
            | (go_at_call_of 53 (Value.int IntKind.i64 id); refine (dec_S id i0 i1 hS1d).mono ?_; rintro e w2 ⟨rfl, hS2⟩; have q1 := hS2.c1; have q2 := hS2.c2; have q3 := hS2.c3)
            | (go_at_call_of 53 (Value.int IntKind.i64 o); refine (dec_S o o0 o1 hS2).mono ?_; rintro e w3 ⟨rfl, hS3⟩; have q4 := hS3.c1; have q5 := hS3.c2; have q6 := hS3.c3)
            | (go_at_call_of 53 (Value.int IntKind.i64 m); refine (dec_S m m0 m1 hS3).mono ?_; rintro e w4 ⟨rfl, hS4⟩; have q7 := hS4.c1; have q8 := hS4.c2; have q9 := hS4.c3)
            | (go_at_call 79; refine (wr_S (txB ⟨r, id, o, m⟩) hS4 hg hgt hlen).mono ?_; rintro e w5 ⟨rfl, hS5⟩; have q10 := hS5.c1; have q11 := hS5.c2; have q12 := hS5.c3))
        clear z1 z2 z3 z4 z5 z6 z7
        go_wp2
        go_roundw
        case rel => exact ⟨k + 1, by omega, by go_num, isB_snoc HTK.out hS5.2.1, hS5.2.2.2.1, hS5.2.2.1, by rw [HTK.out]; simp [Hid, HO.out, okRule, hr]⟩
        case measure => simp [intOf]; omega
      · have he := nmB_empty hr
        have hfin : txL L = ([], 3) := by
          rw [txL, if_neg]
          intro hall
          have := List.all_eq_true.1 hall ⟨r, id, o, m⟩ (List.mem_of_mem_take (i := k + 1) (by rw [HTK.out]; simp))
          exact hr (by simpa [okRule] using this)
        have HF := Lib.hid hfin
        clear hfin
        have hn : rulesNameEmpty r := ⟨r0, r1, hr⟩
        go_wp2_with (first | (go_at_call 78; refine (rules_NameE _ _ hn).mono ?_))
        rintro e w1 rfl hb1
        go_wp2
        go_ret2
        exact ⟨ret_si HF.out.symm, hbel.trans (((bal (Below.refl _ _) _).trans (hb1.mono (by simp))).mono hsz)⟩
    · obtain rfl : k = L.length := by omega
      have hfin : txL L = (L.flatMap txLine, 0) := by rw [txL, if_pos (by have := HO.out; rwa [List.take_length] at this)]
      have HF := Lib.hid hfin
      have HB' : Hid (IsB w.heap.size w.heap.size (Lib.byteCells (L.flatMap txLine)) wr) := by have := HB.out; rwa [List.take_length] at this
      clear hfin
      go_wp2_with (first | (go_at_call 80; refine (Tryd.Builder_String_any _ _ _ _ HB'.out hsz).mono ?_))
      rintro e w1 ⟨rfl, hb1⟩
      go_wp2
      go_ret2
      exact ⟨ret_si HF.out.symm, hbel.trans hb1⟩
end Go.Proofs.YtncmdhkmbmkiiaaDoor
