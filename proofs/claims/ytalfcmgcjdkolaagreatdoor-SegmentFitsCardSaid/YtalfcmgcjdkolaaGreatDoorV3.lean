/- Texts of one proof, put together (FwR2, FwS2, FwPr, FwNl, FwAny, FwSh, FwUn, FwMt, FwMu). No condition but those that each theorem states. -/
import Derived.Test.YtalfcmgcjdkolaaGreatDoorV2
set_option linter.unusedSimpArgs false
set_option linter.unusedVariables false
namespace Go.Proofs.YtalfcmgcjdkolaaGreatDoor
open Go.RowKit
inductive XE where
  | eff (e : Eff)
  | pat (id off : Nat) (xs : List D)
def patB (off : Nat) (xs : List D) : Option Blk → Option Blk
  | some (.box pn cs) => if off + xs.length ≤ cs.length then some (.box pn (cs.take off ++ xs ++ cs.drop (off + xs.length))) else some (.box pn cs)
  | b => b
def appX (H : Nat → Option Blk) : XE → Nat → Option Blk
  | .eff e => appEff H e
  | .pat id off xs => upd H id (patB off xs (H id))
def AS.stepX (S : AS) (o : Oper) (d : D) (x : XE) : AS := { S with env := (match o.dst with | some t => upd S.env t d | none => S.env), heap := appX S.heap x }
def SimB (lo n : Nat) (b b' : Option Blk) : Prop := b = b' ∨ ∃ pn cs cs', b = some (.box pn cs) ∧ b' = some (.box pn cs') ∧ cs.length = cs'.length ∧ ∀ i, lo ≤ i → i < lo + n → cs[i]? = cs'[i]?
theorem pat_get {cs xs : List D} {off : Nat} (h : off + xs.length ≤ cs.length) (i : Nat) : (cs.take off ++ xs ++ cs.drop (off + xs.length))[i]? = if i < off then cs[i]? else if i < off + xs.length then xs[i - off]? else cs[i]? := by
  have h1 : (cs.take off).length = off := by rw [List.length_take]; omega
  by_cases hi : i < off
  · rw [if_pos hi, List.append_assoc, List.getElem?_append_left (by omega), List.getElem?_take, if_pos hi]
  · rw [if_neg hi, List.append_assoc, List.getElem?_append_right (by omega), h1]
    by_cases hk : i < off + xs.length
    · rw [if_pos hk, List.getElem?_append_left (by omega)]
    · rw [if_neg hk, List.getElem?_append_right (by omega), List.getElem?_drop]
      congr 1; omega
theorem pat_len {cs xs : List D} {off : Nat} (h : off + xs.length ≤ cs.length) : (cs.take off ++ xs ++ cs.drop (off + xs.length)).length = cs.length := by
  simp only [List.length_append, List.length_take, List.length_drop]; omega
theorem patB_sim {lo n off : Nat} {xs : List D} {b b' : Option Blk} (h : SimB lo n b b') : SimB lo n (patB off xs b) (patB off xs b') := by
  rcases h with rfl | ⟨pn, cs, cs', rfl, rfl, hl, hg⟩
  · exact .inl rfl
  · simp only [patB]
    by_cases hc : off + xs.length ≤ cs.length
    · rw [if_pos hc, if_pos (by omega)]
      refine .inr ⟨pn, _, _, rfl, rfl, by rw [pat_len hc, pat_len (by omega), hl], fun i h1 h2 => ?_⟩
      rw [pat_get hc, pat_get (by omega)]
      split
      · exact hg i h1 h2
      · split
        · rfl
        · exact hg i h1 h2
    · rw [if_neg hc, if_neg (by omega)]
      exact .inr ⟨pn, cs, cs', rfl, rfl, hl, hg⟩
theorem patB_out {lo n off : Nat} {xs : List D} {b b' : Option Blk} (ho : off + xs.length ≤ lo ∨ lo + n ≤ off) (h : SimB lo n b b') : SimB lo n (patB off xs b) b' := by
  have key : ∀ pn (cs cs' : List D), cs.length = cs'.length → (∀ i, lo ≤ i → i < lo + n → cs[i]? = cs'[i]?) → SimB lo n (patB off xs (some (.box pn cs))) (some (.box pn cs')) := by
    intro pn cs cs' hl hg
    simp only [patB]
    by_cases hc : off + xs.length ≤ cs.length
    · rw [if_pos hc]
      refine .inr ⟨pn, _, _, rfl, rfl, by rw [pat_len hc, hl], fun i h1 h2 => ?_⟩
      rw [pat_get hc]
      split
      · exact hg i h1 h2
      · rw [if_neg (by omega)]; exact hg i h1 h2
    · rw [if_neg hc]; exact .inr ⟨pn, cs, cs', rfl, rfl, hl, hg⟩
  rcases h with rfl | ⟨pn, cs, cs', rfl, rfl, hl, hg⟩
  · cases b with
    | none => exact .inl rfl
    | some bb =>
      cases bb with
      | box pn cs => exact key pn cs cs rfl (fun _ _ _ => rfl)
      | _ => exact .inl rfl
  · exact key pn cs cs' hl hg
theorem SimB.symm {lo n : Nat} {b b' : Option Blk} (h : SimB lo n b b') : SimB lo n b' b := by
  rcases h with rfl | ⟨pn, cs, cs', rfl, rfl, hl, hg⟩
  · exact .inl rfl
  · exact .inr ⟨pn, cs', cs, rfl, rfl, hl.symm, fun i h1 h2 => (hg i h1 h2).symm⟩
theorem patB_comm {off off' : Nat} {xs xs' : List D} {b : Option Blk} (h : off + xs.length ≤ off' ∨ off' + xs'.length ≤ off) : patB off xs (patB off' xs' b) = patB off' xs' (patB off xs b) := by
  cases b with
  | none => rfl
  | some bb =>
    cases bb with
    | box pn cs =>
      simp only [patB]
      by_cases hc : off + xs.length ≤ cs.length <;> by_cases hc' : off' + xs'.length ≤ cs.length
      · rw [if_pos hc, if_pos hc']
        simp only [patB]
        rw [if_pos (by rw [pat_len hc']; exact hc), if_pos (by rw [pat_len hc]; exact hc')]
        congr 2
        apply List.ext_getElem?
        intro i
        rw [pat_get (by rw [pat_len hc']; exact hc), pat_get hc', pat_get (by rw [pat_len hc]; exact hc'), pat_get hc]
        by_cases h1 : i < off <;> by_cases h2 : i < off + xs.length <;> by_cases h3 : i < off' <;> by_cases h4 : i < off' + xs'.length <;> simp only [h1, h2, h3, h4, if_true, if_false] <;> omega
      · rw [if_pos hc, if_neg hc']
        simp only [patB]
        rw [if_pos hc, if_neg (by rw [pat_len hc]; exact hc')]
      · rw [if_neg hc, if_pos hc']
        simp only [patB]
        rw [if_neg (by rw [pat_len hc']; exact hc), if_pos hc']
      · rw [if_neg hc, if_neg hc']
        simp only [patB]
        rw [if_neg hc, if_neg hc']
    | _ => rfl
section
variable {P : Program} {I : World → Prop} {ops : Array Oper} {S : AS} {tr : Nat → D × XE}
def stY (ops : Array Oper) (S : AS) (tr : Nat → D × XE) (X : Nat → Bool) : Nat → AS
  | 0 => S
  | m + 1 => match ops[m]? with
    | some o => if X m then (stY ops S tr X m).stepX o (tr m).1 (tr m).2 else stY ops S tr X m
    | none => stY ops S tr X m
theorem stY_next (X : Nat → Bool) : ∀ m, (stY ops S tr X m).next = S.next ∧ (stY ops S tr X m).nt = S.nt
  | 0 => ⟨rfl, rfl⟩
  | m + 1 => by
    simp only [stY]
    split
    · split
      · exact stY_next X m
      · exact stY_next X m
    · exact stY_next X m
theorem stY_env {X Y : Nat → Bool} {t : Nat} : ∀ m, (∀ i o, i < m → ops[i]? = some o → o.dst = some t → X i = Y i) → (stY ops S tr X m).env t = (stY ops S tr Y m).env t
  | 0, _ => rfl
  | m + 1, h => by
    have ih := stY_env (X := X) (Y := Y) m fun i o hi => h i o (by omega)
    simp only [stY]
    cases ho : ops[m]? with
    | none => exact ih
    | some o =>
      simp only
      by_cases hd : o.dst = some t
      · have hxy := h m o (by omega) ho hd
        rw [hxy]
        split
        · simp [AS.stepX, hd, upd]
        · exact ih
      · have hstep : ∀ S1 : AS, (S1.stepX o (tr m).1 (tr m).2).env t = S1.env t := by
          intro S1
          simp only [AS.stepX]
          cases hdst : o.dst with
          | none => rfl
          | some t' => simp only [upd]; rw [if_neg (fun e => hd (by rw [hdst, e]))]
        split <;> split <;> simp only [hstep, ih]
theorem stY_cut (j : Nat) : ∀ m, j ≤ m → stY ops S tr (fun i => decide (i < j)) m = stY ops S tr (fun _ => true) j := by
  intro m
  induction m with
  | zero => intro h; obtain rfl : j = 0 := (by omega); rfl
  | succ m ih =>
    intro h
    by_cases hj : j = m + 1
    · subst hj
      have : ∀ m', m' ≤ m + 1 → stY ops S tr (fun i => decide (i < m + 1)) m' = stY ops S tr (fun _ => true) m' := by
        intro m'
        induction m' with
        | zero => intro _; rfl
        | succ m' ih' =>
          intro h'
          have hm : decide (m' < m + 1) = true := decide_eq_true (by omega)
          simp only [stY, ih' (by omega), hm]
      exact this _ (Nat.le_refl _)
    · have hm : decide (m < j) = false := decide_eq_false (by omega)
      have ihm := ih (by omega)
      simp only [stY]
      cases ops[m]? with
      | none => exact ihm
      | some o => simp only [hm, Bool.false_eq_true, if_false]; exact ihm
theorem light_out {nid : Nat} {e : Eff} {id : Nat} (h : effOk nid e = true) (hne : id ≠ nid) (H : Nat → Option Blk) : appEff H e id = H id := by
  refine appEff_notin _ _ _ fun p hp hpe => hne ?_
  unfold effOk at h
  split at h
  · cases hp
  · simp at hp h
    subst hp
    rw [← hpe, h]
  · simp at h
theorem stY_sim {X Y : Nat → Bool} {id lo n : Nat} : ∀ m, (∀ i e, i < m → (tr i).2 = .eff e → effOk (S.next + i) e = false → X i = Y i ∨ ∀ p ∈ e, p.1 ≠ id) → (∀ i, i < m → id = S.next + i → X i = Y i) →
    (∀ i off xs, i < m → (tr i).2 = .pat id off xs → X i = Y i ∨ off + xs.length ≤ lo ∨ lo + n ≤ off) → SimB lo n ((stY ops S tr X m).heap id) ((stY ops S tr Y m).heap id)
  | 0, _, _, _ => .inl rfl
  | m + 1, hv, h, hp => by
    have ih := stY_sim (X := X) (Y := Y) (id := id) (lo := lo) (n := n) m (fun i e hi => hv i e (by omega)) (fun i hi => h i (by omega)) (fun i off xs hi => hp i off xs (by omega))
    simp only [stY]
    cases ho : ops[m]? with
    | none => exact ih
    | some o =>
      simp only
      have both : ∀ (S1 S2 : AS), SimB lo n (S1.heap id) (S2.heap id) → SimB lo n ((S1.stepX o (tr m).1 (tr m).2).heap id) ((S2.stepX o (tr m).1 (tr m).2).heap id) := by
        intro S1 S2 hs
        simp only [AS.stepX]
        cases hx : (tr m).2 with
        | eff e =>
          simp only [appX]
          by_cases h1 : ∃ p ∈ e, p.1 = id
          · exact .inl (appEff_in e _ _ id h1)
          · have h1' : ∀ p ∈ e, p.1 ≠ id := fun p hp he => h1 ⟨p, hp, he⟩
            rw [appEff_notin e _ id h1', appEff_notin e _ id h1']; exact hs
        | pat id' off xs =>
          simp only [appX, upd]
          by_cases he : id = id'
          · subst he; simp only [if_true]; exact patB_sim hs
          · rw [if_neg he, if_neg he]; exact hs
      have same : X m = Y m → SimB lo n ((if X m = true then (stY ops S tr X m).stepX o (tr m).1 (tr m).2 else stY ops S tr X m).heap id) ((if Y m = true then (stY ops S tr Y m).stepX o (tr m).1 (tr m).2 else stY ops S tr Y m).heap id) := by
        intro hxy
        rw [hxy]
        split
        · exact both _ _ ih
        · exact ih
      cases hx : (tr m).2 with
      | eff e =>
        rw [← hx]
        cases he : effOk (S.next + m) e with
        | false =>
          rcases hv m e (by omega) hx he with hxy | hni
          · exact same hxy
          · have hstep : ∀ S1 : AS, (S1.stepX o (tr m).1 (tr m).2).heap id = S1.heap id := by
              intro S1
              simp only [AS.stepX, hx, appX]
              exact appEff_notin _ _ _ hni
            split <;> split <;> (try simp only [hstep]) <;> exact ih
        | true =>
          by_cases hid : id = S.next + m
          · exact same (h m (by omega) hid)
          · have hstep : ∀ S1 : AS, (S1.stepX o (tr m).1 (tr m).2).heap id = S1.heap id := by
              intro S1
              simp only [AS.stepX, hx, appX]
              exact light_out he hid _
            split <;> split <;> (try simp only [hstep]) <;> exact ih
      | pat id' off xs =>
        rw [← hx]
        by_cases hid : id' = id
        · subst hid
          rcases hp m off xs (by omega) hx with h1 | h1
          · exact same h1
          · have out1 : ∀ (S1 : AS) b', SimB lo n (S1.heap id') b' → SimB lo n ((S1.stepX o (tr m).1 (tr m).2).heap id') b' := by
              intro S1 b' hs
              simp only [AS.stepX, hx, appX, upd, if_true]
              exact patB_out h1 hs
            split <;> split
            · exact both _ _ ih
            · exact out1 _ _ ih
            · exact (out1 _ _ ih.symm).symm
            · exact ih
        · have hstep : ∀ S1 : AS, (S1.stepX o (tr m).1 (tr m).2).heap id = S1.heap id := by
            intro S1
            simp only [AS.stepX, hx, appX, upd]
            rw [if_neg (fun e => hid e.symm)]
          split <;> split <;> (try simp only [hstep]) <;> exact ih
theorem stY_heap {X Y : Nat → Bool} {id : Nat} : ∀ m, (∀ i e, i < m → (tr i).2 = .eff e → effOk (S.next + i) e = false → X i = Y i ∨ ∀ p ∈ e, p.1 ≠ id) → (∀ i, i < m → id = S.next + i → X i = Y i) →
    (∀ i off xs, i < m → (tr i).2 = .pat id off xs → X i = Y i) → (stY ops S tr X m).heap id = (stY ops S tr Y m).heap id
  | 0, _, _, _ => rfl
  | m + 1, hv, h, hp => by
    have ih := stY_heap (X := X) (Y := Y) (id := id) m (fun i e hi => hv i e (by omega)) (fun i hi => h i (by omega)) (fun i off xs hi => hp i off xs (by omega))
    simp only [stY]
    cases ho : ops[m]? with
    | none => exact ih
    | some o =>
      simp only
      have same : X m = Y m → (if X m = true then (stY ops S tr X m).stepX o (tr m).1 (tr m).2 else stY ops S tr X m).heap id = (if Y m = true then (stY ops S tr Y m).stepX o (tr m).1 (tr m).2 else stY ops S tr Y m).heap id := by
        intro hxy
        rw [hxy]
        split
        · simp only [AS.stepX]
          cases hx : (tr m).2 with
          | eff e => simp only [appX]; exact appEff_congr _ _ _ id ih
          | pat id' off xs =>
            simp only [appX, upd]
            by_cases he : id = id'
            · subst he; simp only [if_true, ih]
            · rw [if_neg he, if_neg he]; exact ih
        · exact ih
      cases hx : (tr m).2 with
      | eff e =>
        rw [← hx]
        cases he : effOk (S.next + m) e with
        | false =>
          rcases hv m e (by omega) hx he with hxy | hni
          · exact same hxy
          · have hstep : ∀ S1 : AS, (S1.stepX o (tr m).1 (tr m).2).heap id = S1.heap id := by
              intro S1
              simp only [AS.stepX, hx, appX]
              exact appEff_notin _ _ _ hni
            split <;> split <;> simp only [hstep, ih]
        | true =>
          by_cases hid : id = S.next + m
          · exact same (h m (by omega) hid)
          · have hstep : ∀ S1 : AS, (S1.stepX o (tr m).1 (tr m).2).heap id = S1.heap id := by
              intro S1
              simp only [AS.stepX, hx, appX]
              exact light_out he hid _
            split <;> split <;> simp only [hstep, ih]
      | pat id' off xs =>
        rw [← hx]
        by_cases hid : id' = id
        · subst hid; exact same (hp m off xs (by omega) hx)
        · have hstep : ∀ S1 : AS, (S1.stepX o (tr m).1 (tr m).2).heap id = S1.heap id := by
            intro S1
            simp only [AS.stepX, hx, appX, upd]
            rw [if_neg (fun e => hid e.symm)]
          split <;> split <;> simp only [hstep, ih]
def XComm (x y : XE) (id : Nat) : Prop := ∀ H, appX (appX H x) y id = appX (appX H y) x id
theorem appX_congr {x : XE} {H H' : Nat → Option Blk} {id : Nat} (h : H id = H' id) : appX H x id = appX H' x id := by
  cases x with
  | eff e => exact appEff_congr _ _ _ id h
  | pat id' off xs =>
    simp only [appX, upd]
    split
    · rename_i he; subst he; rw [h]
    · exact h
theorem stY_comm {X X' : Nat → Bool} {j : Nat} {o : Oper} (hX : ∀ i, X' i = if i = j then true else X i) (hj : X j = false) (ho : ops[j]? = some o) (hc : ∀ m, j < m → m < ops.size → X m = true → ∀ id, XComm (tr j).2 (tr m).2 id) (id : Nat) :
    ∀ m, j < m → m ≤ ops.size → (stY ops S tr X' m).heap id = appX (stY ops S tr X m).heap (tr j).2 id := by
  have hsame : ∀ m, m ≤ j → stY ops S tr X' m = stY ops S tr X m := by
    intro m
    induction m with
    | zero => intro _; rfl
    | succ m ihm =>
      intro hm
      have hXm : X' m = X m := by rw [hX, if_neg (by omega)]
      simp only [stY, ihm (by omega), hXm]
  intro m
  induction m with
  | zero => intro h; omega
  | succ m ihm =>
    intro hjm hms
    by_cases hmj : m = j
    · subst hmj
      have hXm : X' m = true := by rw [hX, if_pos rfl]
      simp only [stY, ho, hsame m (Nat.le_refl _), hXm, if_true, hj, Bool.false_eq_true, if_false, AS.stepX]
    · have ih2 := ihm (by omega) (by omega)
      have hom : ops[m]? = some ops[m] := Array.getElem?_eq_getElem (by omega)
      have hXm : X' m = X m := by rw [hX, if_neg hmj]
      simp only [stY, hom, hXm]
      cases hxm : X m with
      | false => simp only [Bool.false_eq_true, if_false]; exact ih2
      | true =>
        simp only [if_true, AS.stepX]
        rw [appX_congr ih2]
        exact hc m (by omega) (by omega) hxm id _
inductive Foot where
  | all
  | cell (id off n : Nat)
  | ids (l : List Nat)
def apartF (id off k : Nat) : Foot → Bool
  | .all => false
  | .cell id' off' n => !(id' == id) || decide (off + k ≤ off') || decide (off' + n ≤ off)
  | .ids l => !memN l id
def apartL (l : List Nat) : Foot → Bool
  | .all => false
  | .cell id _ _ => !memN l id
  | .ids l' => l.all fun a => !memN l' a
def FootOK (P : Program) (I : World → Prop) (ops : Array Oper) (i : Nat) (S : AS) (o : Oper) (d : D) (x : XE) : Foot → Prop
  | .all => True
  | .cell id off n => (∃ b, S.heap id = some b) ∧ ((∃ t a, o.op = .load t a ∧ S.val a = .ptr id off ∧ (aggT P t = some true → szT P t = some n) ∧ 0 < n) ∨ (∃ t a v, o.op = .store t a v ∧ S.val a = .ptr id off ∧ ((∃ xs, x = .pat id off xs ∧ xs.length = n) ∨ awant ops S.env o = some false)))
  | .ids l => (∀ t ∈ o.looksAt ops, ∀ id ∈ (S.env t).ids, id ∈ l) ∧ ∃ e, x = .eff e ∧ St1N P I ops i o S d e
def StX (P : Program) (I : World → Prop) (ops : Array Oper) (i : Nat) (o : Oper) (S : AS) (d : D) : XE → Prop
  | .eff e => St1 P I ops i o S d e
  | .pat id off xs => awant ops S.env o = some true ∧ d = .undef ∧ ∃ t a v pn cs, o.op = .store t a v ∧ S.val a = .ptr id off ∧ xs = (S.val v).cells ∧ S.heap id = some (.box pn cs) ∧ (S.val v).okS = true ∧ szT P t = some xs.length ∧ off + xs.length ≤ cs.length
theorem StX.toO {i : Nat} {o : Oper} {d : D} {x : XE} (h : StX P I ops i o S d x) : awpO P I ops i o S (· = S.stepX o d x) := by
  cases x with
  | eff e => exact St1.toO h
  | pat id off xs =>
    obtain ⟨h1, rfl, t, a, v, pn, cs, h2, h3, rfl, h4, h5, h6, h7⟩ := h
    unfold awpO
    simp only [h1, if_true]
    have hc : acallee S o.op = none := by rw [h2]; rfl
    simp only [hc, h2, aop, h3, h4]
    rw [if_pos ⟨h5, h6, h7⟩]
    simp only [AS.step, AS.stepX, appX, appEff, patB, h4]
    rw [if_pos h7]
    rfl
theorem loadD_cells {P : Program} {t : TypeId} {ds ds' : List D} {n : Nat} {d : D} (hl : ds.length = ds'.length) (hg : ∀ i, i < n → ds[i]? = ds'[i]?) (hz : aggT P t = some true → szT P t = some n) (hn : 0 < n) (h : loadD P t ds = some d) : loadD P t ds' = some d := by
  unfold loadD at h ⊢
  cases ha : aggT P t with
  | none => rw [ha] at h; simp at h
  | some b =>
    rw [ha] at h
    cases b with
    | true =>
      simp only [hz ha] at h ⊢
      split at h
      · rename_i hle
        rw [if_pos (by omega)]
        rw [← h]
        congr 2
        apply List.ext_getElem?
        intro i
        rw [List.getElem?_take, List.getElem?_take]
        split
        · rename_i hi; exact (hg i hi).symm
        · rfl
      · simp at h
    | false =>
      simp only at h ⊢
      rw [List.head?_eq_getElem?] at h ⊢
      rw [← hg 0 hn]
      exact h
theorem StX.mono {S' : AS} {i : Nat} {o : Oper} {d : D} {x : XE} {f : Foot} (hq : quietOp o.op = true) (hn : S'.next = S.next) (he : ∀ t ∈ o.looksAt ops, S'.env t = S.env t) (hf : heapy o.op = true → FootOK P I ops i S o d x f)
    (hcell : heapy o.op = true → ∀ id off n, f = .cell id off n → SimB off n (S.heap id) (S'.heap id)) (hids : heapy o.op = true → ∀ l, f = .ids l → ∀ id ∈ l, ∀ t ∈ o.looksAt ops, id ∈ (S.env t).ids → ∀ b, S.heap id = some b → S'.heap id = some b)
    (hall : heapy o.op = true → f = .all → (∀ t ∈ o.looksAt ops, Sub S.heap S'.heap (S.env t).ids) ∧ ∀ id b, id < S.next → S.heap id = some b → S'.heap id = some b)
    (hpf : ∀ id off xs, x = .pat id off xs → f = .cell id off xs.length) (h : StX P I ops i o S d x) : StX P I ops i o S' d x := by
  have hops : ∀ y ∈ o.op.operands.toList, S'.val y = S.val y := by
    intro y hy
    cases y with
    | tmp t => exact he t (by unfold Oper.looksAt; exact List.mem_append_left _ (List.mem_filterMap.2 ⟨_, hy, rfl⟩))
    | _ => rfl
  have hw : awant ops S'.env o = awant ops S.env o := by
    unfold awant
    cases hg : o.guard with
    | none => rfl
    | some jw =>
      obtain ⟨j, want⟩ := jw
      simp only
      cases hj : gdst ops j with
      | none => rfl
      | some t =>
        simp only
        rw [he t]
        unfold Oper.looksAt
        refine List.mem_append_right _ ?_
        rw [hg]
        unfold gdst at hj
        cases ho : ops[j]? with
        | none => rw [ho] at hj; simp at hj
        | some oj => rw [ho] at hj; simp [ho]; simpa using hj
  cases hhp : heapy o.op with
  | false =>
    cases x with
    | eff e => exact St1.mono hq hn he (fun h => by rw [hhp] at h; cases h) (fun h => by rw [hhp] at h; cases h) h
    | pat id off xs => obtain ⟨_, _, t, a, v, pn, cs, h2, _⟩ := h; rw [h2] at hhp; simp [heapy] at hhp
  | true =>
    cases f with
    | all =>
      cases x with
      | eff e => exact St1.mono hq hn he (fun _ => (hall hhp rfl).1) (fun _ _ => (hall hhp rfl).2) h
      | pat id off xs => have := hpf id off xs rfl; cases this
    | ids l =>
      cases x with
      | eff e =>
        obtain ⟨h1, e', h2, h3⟩ := hf hhp
        injection h2 with h2
        subst h2
        exact (St1N.mono hq hn he (fun _ t ht id hid b hb => hids hhp l rfl id (h1 t ht id hid) t ht hid b hb) h3).to1
      | pat id off xs => have := hpf id off xs rfl; cases this
    | cell id off n =>
      have hs := hcell hhp id off n rfl
      rcases (hf hhp).2 with ⟨t, a, ho, ha, hz, hn0⟩ | ⟨t, a, v, ho, ha, hvx⟩
      · -- a load
        cases x with
        | pat id' off' xs => obtain ⟨_, _, t', a', v, pn, cs, h2, _⟩ := h; rw [ho] at h2; cases h2
        | eff e =>
          rcases h with ⟨h1, h2, h3⟩ | ⟨h1, h2⟩
          · exact .inl ⟨by rw [hw]; exact h1, h2, h3⟩
          · refine .inr ⟨by rw [hw]; exact h1, ?_⟩
            have hac : ∀ S : AS, acallee S o.op = none := fun S => by rw [ho]; rfl
            rcases h2 with ⟨f', ds, ds', h3, _⟩ | ⟨h3, h4⟩ | ⟨f', ds, _, _, _, h3, _⟩
            · rw [hac] at h3; cases h3
            · refine .inr (.inl ⟨hac S', ?_⟩)
              have ha' : S'.val a = .ptr id off := by rw [hops a (by rw [ho]; simp [Op.operands])]; exact ha
              simp only [ho, aop, ha] at h4
              simp only [ho, aop, ha']
              rcases hs with hs | ⟨pn, cs, cs', e1, e2, e3, e4⟩
              · rw [← hs]; exact h4
              · rw [e1] at h4
                rw [e2]
                simp only [Option.map_eq_some_iff] at h4 ⊢
                obtain ⟨d', h5, h6⟩ := h4
                refine ⟨d', loadD_cells (by simp [e3]) (fun i hi => ?_) hz hn0 h5, h6⟩
                rw [List.getElem?_drop, List.getElem?_drop]
                exact e4 _ (by omega) (by omega)
            · rw [hac] at h3; cases h3
      · -- a store
        have hav : S'.val a = .ptr id off := by rw [hops a (by rw [ho]; simp [Op.operands])]; exact ha
        have hvv : S'.val v = S.val v := hops v (by rw [ho]; simp [Op.operands])
        cases x with
        | eff e =>
          rcases h with ⟨h1, h2, h3⟩ | ⟨h1, h2⟩
          · exact .inl ⟨by rw [hw]; exact h1, h2, h3⟩
          · rcases hvx with ⟨xs, hxs, _⟩ | hvx
            · cases hxs
            · rw [h1] at hvx; cases hvx
        | pat id' off' xs =>
          obtain ⟨h1, rfl, t', a', v', pn, cs, h2, h3, rfl, h4, h5, h6, h7⟩ := h
          rw [ho] at h2
          injection h2 with e1 e2 e3
          subst e1 e2 e3
          rw [ha] at h3
          injection h3 with e1 e2
          subst e1 e2
          rcases hs with hs | ⟨pn', cs1, cs', e1, e2, e3, e4⟩
          · exact ⟨by rw [hw]; exact h1, rfl, t, a, v, pn, cs, ho, hav, by rw [hvv], by rw [← hs]; exact h4, by rw [hvv]; exact h5, h6, h7⟩
          · rw [h4] at e1
            injection e1 with e1; injection e1 with e1 e5
            subst e1 e5
            exact ⟨by rw [hw]; exact h1, rfl, t, a, v, pn, cs', ho, hav, by rw [hvv], e2, by rw [hvv]; exact h5, h6, by omega⟩
theorem XComm.eff {e e' : Eff} (h : ∀ p ∈ e, ∀ q ∈ e', p.1 ≠ q.1) (id : Nat) : XComm (.eff e) (.eff e') id := fun H => appEff_comm e e' H id h
theorem XComm.patEff {pid off : Nat} {xs : List D} {e : Eff} (h : ∀ q ∈ e, q.1 ≠ pid) (id : Nat) : XComm (.pat pid off xs) (.eff e) id := by
  intro H
  simp only [appX]
  by_cases hid : id = pid
  · subst hid
    rw [appEff_notin e _ id h]
    simp only [upd, if_true]
    rw [appEff_notin e _ id h]
  · rw [show upd (appEff H e) pid (patB off xs (appEff H e pid)) id = appEff H e id by simp only [upd]; rw [if_neg hid]]
    refine appEff_congr e _ _ id ?_
    simp only [upd]; rw [if_neg hid]
theorem XComm.symm {x y : XE} {id : Nat} (h : XComm x y id) : XComm y x id := fun H => (h H).symm
theorem XComm.pat {a b off off' : Nat} {xs xs' : List D} (h : a ≠ b ∨ off + xs.length ≤ off' ∨ off' + xs'.length ≤ off) (id : Nat) : XComm (.pat a off xs) (.pat b off' xs') id := by
  intro H
  simp only [appX, upd]
  by_cases hab : a = b
  · subst hab
    by_cases hid : id = a
    · subst hid
      simp only [if_true]
      rcases h with h | h
      · exact absurd rfl h
      · exact (patB_comm (h.symm)).symm ▸ rfl
    · simp only [if_neg hid]
  · by_cases h1 : id = a
    · subst h1
      simp only [if_true, if_neg hab]
    · by_cases h2 : id = b
      · subst h2
        simp only [if_true, if_neg h1]
      · simp only [if_neg h1, if_neg h2]
set_option maxHeartbeats 2000000 in
theorem draw_any2 {ft : Nat → Foot} {G : Gh} {Q : Exit → Act → World → Prop} (hstab : Stab I) (hd : dstsOk ops S.nt = true) (hok : drawOk ops = true) (heff : ∀ i e, (tr i).2 = .eff e → effOk (S.next + i) e = true ∨ (effIn ops S.next i e = true ∧ ∀ j oj, ops[j]? = some oj → j ≠ i → heapy oj.op = true → ((aheads ops).getD (max j i) 0).testBit (min j i) = true ∨ (apartL (e.map (·.1)) (ft j) = true ∧ ∀ e', (tr j).2 = .eff e' → effOk (S.next + j) e' = true ∨ ∀ p ∈ e, ∀ q ∈ e', p.1 ≠ q.1))) (hS : ∀ id b, S.heap id = some b → id < S.next)
    (hft : ∀ i o, ops[i]? = some o → heapy o.op = true → FootOK P I ops i (stY ops S tr (fun _ => true) i) o (tr i).1 (tr i).2 (ft i))
    (hpf : ∀ i id off xs, (tr i).2 = .pat id off xs → i < ops.size ∧ ft i = .cell id off xs.length)
    (hpat : ∀ i id off xs, (tr i).2 = .pat id off xs → (id < S.next ∨ ∃ m, m < i ∧ id = S.next + m ∧ ((aheads ops).getD i 0).testBit m = true) ∧
      ∀ j oj, ops[j]? = some oj → j ≠ i → heapy oj.op = true → ((aheads ops).getD (max j i) 0).testBit (min j i) = true ∨ (apartF id off xs.length (ft j) = true ∧ ∀ e, (tr j).2 = .eff e → effOk (S.next + j) e = true ∨ ∀ q ∈ e, q.1 ≠ id))
    (hT : ∀ i o, ops[i]? = some o → StX P I ops i o (stY ops S tr (fun _ => true) i) (tr i).1 (tr i).2)
    (hQ : ∀ C a w, Rel I G (fun id => id < S.next + ops.size) (stY ops S tr (fun _ => true) ops.size) C a w → Q .normal a w) :
    ∀ (fuel : Nat) (listed : Array Bool) (C : Cx) (a : Act) (w : World), listed.size = ops.size → (∀ j o, ops[j]? = some o → listed.getD j false = true → ∀ e ∈ edgesOf o, listed.getD e false = true) → (listed.toList.filter (fun b => !b)).length ≤ fuel →
      Rel I G (fun id => id < S.next ∨ ∃ i, i < ops.size ∧ listed.getD i false = true ∧ id = S.next + i) (stY ops S tr (fun i => listed.getD i false) ops.size) C a w → wpAny P .any ops Q fuel listed a w := by
  -- the static conditions
  simp only [drawOk, Bool.and_eq_true] at hok
  obtain ⟨hok1, hok2⟩ := hok
  have quiet : ∀ j o, ops[j]? = some o → quietOp o.op = true ∧ ∀ e ∈ edgesOf o, e < j := by
    intro j o ho
    have hm : (o, j) ∈ ops.toList.zipIdx := by
      rw [List.mem_zipIdx_iff_getElem?]; simpa using ho
    have := List.all_eq_true.1 hok1 (o, j) hm
    simp only [Bool.and_eq_true, List.all_eq_true, decide_eq_true_eq] at this
    exact this
  have order : ∀ i j oi oj t, ops[i]? = some oi → ops[j]? = some oj → i ≠ j → oi.dst = some t → (t ∈ oj.looksAt ops ∨ oj.dst = some t) → ((aheads ops).getD (max i j) 0).testBit (min i j) = true := by
    intro i j oi oj t hi hj hne hdst ht
    have hm : (oj, j) ∈ ops.toList.zipIdx := by rw [List.mem_zipIdx_iff_getElem?]; simpa using hj
    have hm' : (oi, i) ∈ ops.toList.zipIdx := by rw [List.mem_zipIdx_iff_getElem?]; simpa using hi
    have := List.all_eq_true.1 (List.all_eq_true.1 hok2 (oj, j) hm) (oi, i) hm'
    simp only [hdst, Bool.or_eq_true, Bool.and_eq_true, beq_iff_eq, Bool.not_eq_true', bne_iff_ne, ne_eq] at this
    rcases this with h | h | h
    · exact absurd h hne
    · rcases ht with ht | ht
      · have : (oj.looksAt ops).contains t = true := by simpa using ht
        rw [this] at h; simp at h
      · exact absurd ht h.2
    · exact h
  have T_dst : ∀ j o, ops[j]? = some o → j < ops.size := by
    intro j o ho
    rcases Nat.lt_or_ge j ops.size with h | h
    · exact h
    · rw [Array.getElem?_eq_none h] at ho; cases ho
  have heavy : ∀ i e, (tr i).2 = .eff e → effOk (S.next + i) e = false → effIn ops S.next i e = true ∧ ∀ j oj, ops[j]? = some oj → j ≠ i → heapy oj.op = true → ((aheads ops).getD (max j i) 0).testBit (min j i) = true ∨ (apartL (e.map (·.1)) (ft j) = true ∧ ∀ e', (tr j).2 = .eff e' → effOk (S.next + j) e' = true ∨ ∀ p ∈ e, ∀ q ∈ e', p.1 ≠ q.1) := by
    intro i e hx hi
    rcases heff i e hx with h | h
    · rw [hi] at h; cases h
    · exact h
  have efflight : ∀ i e, effOk (S.next + i) e = true → ∀ p ∈ e, p.1 = S.next + i := by
    intro i e he p hp
    unfold effOk at he
    split at he
    · cases hp
    · simp at hp he
      subst hp
      exact he
    · simp at he
  have effin : ∀ i e, (tr i).2 = .eff e → ∀ p ∈ e, p.1 < S.next ∨ p.1 = S.next + i ∨ (p.1 < S.next + i ∧ ((aheads ops).getD i 0).testBit (p.1 - S.next) = true) := by
    intro i e hx p hp
    cases he : effOk (S.next + i) e with
    | false =>
      have := List.all_eq_true.1 (heavy i e hx he).1 p hp
      simp only [Bool.or_eq_true, decide_eq_true_eq, beq_iff_eq, Bool.and_eq_true] at this
      rcases this with (h | h) | h
      · exact .inl h
      · exact .inr (.inl h)
      · exact .inr (.inr h)
    | true => exact .inr (.inl (efflight i e he p hp))
  have fresh : ∀ j i, j ≤ i → ∀ m, (stY ops S tr (fun i => decide (i < j)) m).heap (S.next + i) = S.heap (S.next + i) := by
    intro j i hji m
    induction m with
    | zero => rfl
    | succ m ihm =>
      simp only [stY]
      cases hom : ops[m]? with
      | none => exact ihm
      | some om =>
        simp only
        split
        · rename_i hm
          have hm' : m < j := by simpa using hm
          simp only [AS.stepX]
          cases hx : (tr m).2 with
          | eff e =>
            simp only [appX]
            rw [appEff_notin _ _ _ (fun p hp => by rcases effin m e hx p hp with h | h | h <;> omega)]
            exact ihm
          | pat id off xs =>
            simp only [appX, upd]
            rw [if_neg (fun e => by rcases (hpat m id off xs hx).1 with h | ⟨m', h1, h2, _⟩ <;> omega)]
            exact ihm
        · exact ihm
  have endst : ∀ (listed : Array Bool), (∀ i, i < ops.size → listed.getD i false = true) → stY ops S tr (fun i => listed.getD i false) ops.size = stY ops S tr (fun _ => true) ops.size := by
    intro listed hall
    exact AS.ext2 (fun t => stY_env _ fun i o hi _ _ => hall i hi) (fun id => stY_heap _ (fun i e hi _ _ => .inl (hall i hi)) (fun i hi _ => hall i hi) (fun i off xs hi _ => hall i hi)) (by rw [(stY_next _ _).1, (stY_next _ _).1]) (by rw [(stY_next _ _).2, (stY_next _ _).2])
  intro fuel
  induction fuel with
  | zero =>
    intro listed C a w hsz hcl hfu hR
    have hall : ∀ i, i < ops.size → listed.getD i false = true := by
      intro i hi
      have hnil : listed.toList.filter (fun b => !b) = [] := List.eq_nil_of_length_eq_zero (by omega)
      rw [List.filter_eq_nil_iff] at hnil
      have hlt : i < listed.size := by omega
      have := hnil listed[i] (by simp)
      simpa [Array.getD, hlt] using this
    refine ⟨?_, ?_⟩
    · cases hr : Region.ready .any ops listed with
      | nil => rfl
      | cons j rest =>
        have hj : j ∈ Region.ready .any ops listed := by rw [hr]; simp
        obtain ⟨o, ho, h1, _⟩ := mem_ready'.1 hj
        have h2 := hall j (T_dst j o ho)
        have hlt : j < listed.size := by have := T_dst j o ho; omega
        simp [Array.getD, hlt] at h1 h2
        rw [h1] at h2; cases h2
    · refine hQ C a w ?_
      rw [endst listed hall] at hR
      exact ⟨hR.ok, hR.inv, hR.below, hR.new, hR.ext, hR.defers, hR.size, fun id hl => by rcases hR.live id hl with h | ⟨i, hi, _, h⟩ <;> omega⟩
  | succ fuel ih =>
    intro listed C a w hsz hcl hfu hR
    refine ⟨fun hr => ?_, fun j hj => ?_⟩
    · -- nothing is ready: all are done
      have hall : ∀ i, i < ops.size → listed.getD i false = true := by
        intro i
        induction i using Nat.strongRecOn with
        | _ i ihi =>
          intro hi
          cases hb : listed.getD i false with
          | true => rfl
          | false =>
            exfalso
            have ho : ops[i]? = some ops[i] := Array.getElem?_eq_getElem hi
            have hlt : i < listed.size := by omega
            have : i ∈ Region.ready .any ops listed := mem_ready'.2 ⟨_, ho, by simpa [Array.getD, hlt] using hb, fun e he => ihi e ((quiet i _ ho).2 e he) (by have := (quiet i _ ho).2 e he; omega)⟩
            rw [hr] at this
            cases this
      refine hQ C a w ?_
      rw [endst listed hall] at hR
      exact ⟨hR.ok, hR.inv, hR.below, hR.new, hR.ext, hR.defers, hR.size, fun id hl => by rcases hR.live id hl with h | ⟨i, hi, _, h⟩ <;> omega⟩
    · obtain ⟨o, ho, hl0, hed⟩ := mem_ready'.1 hj
      have hjlt := T_dst j o ho
      have hjl : j < listed.size := by omega
      have hjX : listed.getD j false = false := by simpa [Array.getD, hjl] using hl0
      have XX : ∀ j' o', ops[j']? = some o' → listed.getD j' false = true → ∀ e ∈ edgesOf o', listed.getD e false = true := hcl
      have done : ∀ i, ((aheads ops).getD j 0).testBit i = true → listed.getD i false = true := fun i hb => aheads_spec (fun i => listed.getD i false = true) XX j o ho hed i hb
      have notdone : ∀ i oi, ops[i]? = some oi → ((aheads ops).getD i 0).testBit j = true → listed.getD i false = false := by
        intro i oi hi hb
        cases hx : listed.getD i false with
        | false => rfl
        | true =>
          have := aheads_spec (fun i => listed.getD i false = true) XX i oi hi (XX i oi hi hx) j hb
          rw [hjX] at this; cases this
      -- what is ordered against j stands as in the text
      have byord : ∀ i, i < ops.size → i ≠ j → ((aheads ops).getD (max i j) 0).testBit (min i j) = true → listed.getD i false = decide (i < j) := by
        intro i hi hne hb
        have hoi : ops[i]? = some ops[i] := Array.getElem?_eq_getElem hi
        by_cases hij : i < j
        · rw [Nat.max_eq_right (by omega), Nat.min_eq_left (by omega)] at hb
          rw [done i hb, decide_eq_true hij]
        · rw [Nat.max_eq_left (by omega), Nat.min_eq_right (by omega)] at hb
          rw [notdone i _ hoi hb, decide_eq_false hij]
      have agree : ∀ t, (t ∈ o.looksAt ops ∨ o.dst = some t) → ∀ i oi, ops[i]? = some oi → oi.dst = some t → i ≠ j → listed.getD i false = decide (i < j) := by
        intro t ht i oi hi hdst hne
        exact byord i (T_dst i oi hi) hne (order i j oi o t hi ho hne hdst ht)
      have hcut := stY_cut (ops := ops) (S := S) (tr := tr) j ops.size (by omega)
      have henv : ∀ t ∈ o.looksAt ops, (stY ops S tr (fun i => listed.getD i false) ops.size).env t = (stY ops S tr (fun _ => true) j).env t := by
        intro t ht
        rw [← hcut]
        refine stY_env _ fun i oi _ hi hdst => ?_
        by_cases hne : i = j
        · subst hne; rw [hjX, decide_eq_false (by omega)]
        · exact agree t (.inl ht) i oi hi hdst hne
      have hvj : heapy o.op = true → ∀ i e, i < ops.size → (tr i).2 = .eff e → effOk (S.next + i) e = false → listed.getD i false = decide (i < j) ∨ apartL (e.map (·.1)) (ft j) = true := by
        intro hp i e hi hx he
        by_cases hne : i = j
        · subst hne; left; rw [hjX, decide_eq_false (by omega)]
        · rcases (heavy i e hx he).2 j o ho (fun e => hne e.symm) hp with hb | hb
          · left; rw [Nat.max_comm, Nat.min_comm] at hb; exact byord i hi hne hb
          · exact .inr hb.1
      have apc : ∀ (e : Eff) id off n, ft j = .cell id off n → apartL (e.map (·.1)) (ft j) = true → ∀ p ∈ e, p.1 ≠ id := by
        intro e id off n hfe h p hp hpe
        rw [hfe] at h
        simp only [apartL, Bool.not_eq_true'] at h
        rw [memN_iff.2 (by rw [← hpe]; exact List.mem_map_of_mem hp)] at h
        cases h
      have api : ∀ (e : Eff) l id, ft j = .ids l → id ∈ l → apartL (e.map (·.1)) (ft j) = true → ∀ p ∈ e, p.1 ≠ id := by
        intro e l id hfe hil h p hp hpe
        rw [hfe] at h
        have := List.all_eq_true.1 h p.1 (List.mem_map_of_mem hp)
        simp only [Bool.not_eq_true'] at this
        rw [hpe, memN_iff.2 hil] at this
        cases this
      -- a patch that is not ordered against j is apart from what j looks at
      have hpj : heapy o.op = true → ∀ i id off xs, i < ops.size → (tr i).2 = .pat id off xs → listed.getD i false = decide (i < j) ∨ apartF id off xs.length (ft j) = true := by
        intro hp i id off xs hi hx
        by_cases hne : i = j
        · subst hne; left; rw [hjX, decide_eq_false (by omega)]
        · rcases (hpat i id off xs hx).2 j o ho (fun e => hne e.symm) hp with hb | hb
          · left; rw [Nat.max_comm, Nat.min_comm] at hb; exact byord i hi hne hb
          · exact .inr hb.1
      have hrepj : ∀ t ∈ o.looksAt ops, ∀ id ∈ ((stY ops S tr (fun _ => true) j).env t).ids, id < S.next ∨ ∃ i, i < ops.size ∧ listed.getD i false = true ∧ id = S.next + i := by
        intro t ht id hid
        have hrep := hR.ok.env t
        rw [henv t ht] at hrep
        exact hR.live id (hrep.liveS hid)
      have hown : ∀ id b, (stY ops S tr (fun _ => true) j).heap id = some b → (id < S.next ∨ ∃ i, i < ops.size ∧ listed.getD i false = true ∧ id = S.next + i) → ∀ i, i < ops.size → id = S.next + i → listed.getD i false = decide (i < j) := by
        intro id b hb hlive i hi hidi
        rcases hlive with h | ⟨i', hi', hx, h⟩
        · omega
        · obtain rfl : i = i' := by omega
          rw [hx]
          by_cases hij : i < j
          · rw [decide_eq_true hij]
          · exfalso
            rw [← hcut, h, fresh j i (by omega)] at hb
            have := hS _ b hb
            omega
      have hst1 := (hT j o ho).mono (f := ft j) (S' := stY ops S tr (fun i => listed.getD i false) ops.size) (quiet j o ho).1 (by rw [(stY_next _ _).1, (stY_next _ _).1]) henv (hft j o ho)
        (fun hp id off n hfe => by
          -- the block that a load or store looks at
          have hval : (∃ t ∈ o.looksAt ops, id ∈ ((stY ops S tr (fun _ => true) j).env t).ids) ∨ False := by
            have hfo := hft j o ho hp
            rw [hfe] at hfo
            have look : ∀ a, a ∈ o.op.operands.toList → (stY ops S tr (fun _ => true) j).val a = .ptr id off → ∃ t ∈ o.looksAt ops, id ∈ ((stY ops S tr (fun _ => true) j).env t).ids := by
              intro a ha hav
              cases a with
              | tmp t => exact ⟨t, by unfold Oper.looksAt; exact List.mem_append_left _ (List.mem_filterMap.2 ⟨_, ha, rfl⟩), by simp only [AS.val] at hav; rw [hav]; simp [D.ids, D.ids1]⟩
              | const v =>
                exfalso
                simp only [AS.val] at hav
                unfold cD cD1 at hav
                repeat' split at hav
                all_goals cases hav
              | global g => simp [AS.val] at hav
              | func f => simp [AS.val] at hav
            rcases hfo.2 with ⟨t, a', h1, h2, _⟩ | ⟨t, a', v, h1, h2, _⟩
            · exact .inl (look a' (by rw [h1]; simp [Op.operands]) h2)
            · exact .inl (look a' (by rw [h1]; simp [Op.operands]) h2)
          rcases hval with ⟨t, ht, hid⟩ | h
          · cases hbk : (stY ops S tr (fun _ => true) j).heap id with
            | none =>
              have hfo := hft j o ho hp
              rw [hfe] at hfo
              obtain ⟨b, hb⟩ := hfo.1
              rw [hbk] at hb; cases hb
            | some b =>
              have : SimB off n ((stY ops S tr (fun i => decide (i < j)) ops.size).heap id) ((stY ops S tr (fun i => listed.getD i false) ops.size).heap id) := by
                refine stY_sim _ (fun i e hi hx he => (hvj hp i e hi hx he).elim (fun h => .inl h.symm) (fun h => .inr (apc e id off n hfe h))) (fun i hi hidi => (hown id b hbk (hrepj t ht id hid) i hi hidi).symm) (fun i off' xs hi hx => ?_)
                rcases hpj hp i id off' xs hi hx with h | h
                · exact .inl h.symm
                · rw [hfe] at h
                  simp only [apartF, beq_self_eq_true, Bool.not_true, Bool.false_or, Bool.or_eq_true, decide_eq_true_eq] at h
                  exact .inr h
              rw [hcut, hbk] at this
              exact this
          · exact h.elim)
        (fun hp l hfe id hil t ht hid b hb => by
          have hlv := hrepj t ht id hid
          have hb' := hb
          rw [← hcut] at hb'
          rw [← hb']
          refine (stY_heap _ (fun i e hi hx he => (hvj hp i e hi hx he).elim .inl (fun h => .inr (api e l id hfe hil h))) (fun i hi hidi => ?_) (fun i off xs hi hx => ?_))
          · exact hown id b hb hlv i hi hidi
          · rcases hpj hp i id off xs hi hx with h | h
            · exact h
            · rw [hfe] at h
              simp only [apartF, Bool.not_eq_true'] at h
              rw [memN_iff.2 hil] at h; cases h)
        (fun hp hfe => by
          have key : ∀ id b, (id < S.next ∨ ∃ i, i < ops.size ∧ listed.getD i false = true ∧ id = S.next + i) → (stY ops S tr (fun _ => true) j).heap id = some b → (stY ops S tr (fun i => listed.getD i false) ops.size).heap id = some b := by
            intro id b hlv hb
            have hb' := hb
            rw [← hcut] at hb'
            rw [← hb']
            refine stY_heap _ (fun i e hi hx he => (hvj hp i e hi hx he).elim .inl (fun h => by rw [hfe] at h; cases h)) (fun i hi hidi => hown id b hb hlv i hi hidi) (fun i off xs hi hx => ?_)
            rcases hpj hp i id off xs hi hx with h | h
            · exact h
            · rw [hfe] at h; cases h
          exact ⟨fun t ht id hid b hb => key id b (hrepj t ht id hid) hb, fun id b hlt hb => key id b (.inl (by rw [(stY_next _ _).1] at hlt; exact hlt)) hb⟩)
        (fun id off xs hx => (hpf j id off xs hx).2)
      have hnx := (stY_next (ops := ops) (S := S) (tr := tr) (fun i => listed.getD i false) ops.size).1
      have hnt := (stY_next (ops := ops) (S := S) (tr := tr) (fun i => listed.getD i false) ops.size).2
      refine awpO_sound hstab hR (by rw [hnt]; exact hd) ho ?_ hst1.toO ?_
      · rw [hnx]
        rintro (h | ⟨i, hi, hx, h⟩)
        · omega
        · obtain rfl : i = j := by omega
          rw [hjX] at hx; cases hx
      · intro S' C' a' w' hS' _ _ hR'
        subst hS'
        have hget : ∀ i, (listed.setIfInBounds j true).getD i false = if i = j then true else listed.getD i false := by
          intro i
          by_cases hij : i = j
          · subst hij; simp [Array.getD, hjl]
          · rw [if_neg hij]; exact getD_set_ne false (fun e => hij e.symm)
        have hstep : (stY ops S tr (fun i => listed.getD i false) ops.size).stepX o (tr j).1 (tr j).2 = stY ops S tr (fun i => (listed.setIfInBounds j true).getD i false) ops.size := by
          have hcut' := stY_cut (ops := ops) (S := S) (tr := tr) (j + 1) ops.size (by omega)
          refine AS.ext2 (fun t => ?_) (fun id => ?_) ?_ ?_
          · by_cases hdt : o.dst = some t
            · have h1 : (stY ops S tr (fun i => (listed.setIfInBounds j true).getD i false) ops.size).env t = (stY ops S tr (fun i => decide (i < j + 1)) ops.size).env t := by
                refine stY_env _ fun i oi _ hi hdst => ?_
                rw [hget]
                by_cases hij : i = j
                · subst hij; simp
                · rw [if_neg hij, agree t (.inr hdt) i oi hi hdst hij]
                  by_cases h : i < j
                  · rw [decide_eq_true h, decide_eq_true (by omega)]
                  · rw [decide_eq_false h, decide_eq_false (by omega)]
              rw [h1, hcut']
              simp [stY, ho, AS.stepX, hdt, upd]
            · have h1 : (stY ops S tr (fun i => (listed.setIfInBounds j true).getD i false) ops.size).env t = (stY ops S tr (fun i => listed.getD i false) ops.size).env t := by
                refine stY_env _ fun i oi _ hi hdst => ?_
                rw [hget]
                by_cases hij : i = j
                · subst hij; rw [ho] at hi; injection hi with hi; subst hi; exact absurd hdst hdt
                · rw [if_neg hij]
              rw [h1]
              simp only [AS.stepX]
              cases hdst : o.dst with
              | none => rfl
              | some t' => simp only [upd]; rw [if_neg (fun e => hdt (by rw [hdst, e]))]
          · -- what j does to blocks commutes with what was done ahead of it
            simp only [AS.stepX]
            refine (stY_comm (X := fun i => listed.getD i false) (X' := fun i => (listed.setIfInBounds j true).getD i false) hget hjX ho ?_ id ops.size (by omega) (Nat.le_refl _)).symm
            intro m hjm hms hxm id0
            have hmj : m ≠ j := by omega
            have hom : ops[m]? = some ops[m] := Array.getElem?_eq_getElem hms
            have nob : ((aheads ops).getD m 0).testBit j = true → False := fun hb => by
              have := notdone m _ hom hb
              rw [hxm] at this; cases this
            have hheapj : ∀ e, (tr j).2 = .eff e → effOk (S.next + j) e = false → heapy o.op = true := by
              intro e hx he
              cases hhe : heapy o.op with
              | true => rfl
              | false =>
                have hTj := hT j o ho
                rw [hx] at hTj
                have := St1.light (quiet j o ho).1 hhe hTj
                rw [(stY_next _ _).1, he] at this; cases this
            have hheapm : ∀ e, (tr m).2 = .eff e → effOk (S.next + m) e = false → heapy (ops[m]).op = true := by
              intro e hx he
              cases hhe : heapy (ops[m]).op with
              | true => rfl
              | false =>
                have hTm := hT m _ hom
                rw [hx] at hTm
                have := St1.light (quiet m _ hom).1 hhe hTm
                rw [(stY_next _ _).1, he] at this; cases this
            have hpatheapy : ∀ i oi id off xs, ops[i]? = some oi → (tr i).2 = .pat id off xs → heapy oi.op = true := by
              intro i oi id off xs hoi hx
              have hTi := hT i oi hoi
              rw [hx] at hTi
              obtain ⟨_, _, t, a, v, pn, cs, h2, _⟩ := hTi
              rw [h2]; rfl
            cases hxj : (tr j).2 with
            | eff e =>
              cases hxm' : (tr m).2 with
              | eff e' =>
                refine XComm.eff (fun p hp q hq hpq => ?_) id0
                cases hej : effOk (S.next + j) e with
                | true =>
                  have hpj' := efflight j e hej p hp
                  cases hem : effOk (S.next + m) e' with
                  | true => have := efflight m e' hem q hq; omega
                  | false =>
                    rcases effin m e' hxm' q hq with h | h | ⟨h, hb⟩
                    · omega
                    · omega
                    · rw [← hpq, hpj', Nat.add_sub_cancel_left] at hb
                      exact nob hb
                | false =>
                  have hhj := hheapj e hxj hej
                  cases hem : effOk (S.next + m) e' with
                  | false =>
                    rcases (heavy j e hxj hej).2 m _ hom hmj (hheapm e' hxm' hem) with hb | ⟨_, hb⟩
                    · rw [Nat.max_eq_left (by omega), Nat.min_eq_right (by omega)] at hb
                      exact nob hb
                    · rcases hb e' hxm' with hb | hb
                      · rw [hem] at hb; cases hb
                      · exact hb p hp q hq hpq
                  | true =>
                    have := efflight m e' hem q hq
                    rcases effin j e hxj p hp with h | h | h <;> omega
              | pat id' off xs =>
                refine (XComm.patEff (fun q hq hqe => ?_) id0).symm
                have hhm := hpatheapy m _ _ _ _ hom hxm'
                cases hej : effOk (S.next + j) e with
                | true =>
                  have := efflight j e hej q hq
                  rcases (hpat m id' off xs hxm').1 with h | ⟨m', h1, h2, h3⟩
                  · omega
                  · obtain rfl : m' = j := by omega
                    exact nob h3
                | false =>
                  rcases (hpat m id' off xs hxm').2 j o ho (fun e => hmj e.symm) (hheapj e hxj hej) with hb | ⟨_, hb⟩
                  · rw [Nat.max_eq_right (by omega), Nat.min_eq_left (by omega)] at hb
                    exact nob hb
                  · rcases hb e hxj with hb | hb
                    · rw [hej] at hb; cases hb
                    · exact hb q hq hqe
            | pat id' off xs =>
              have hhj := hpatheapy j o _ _ _ ho hxj
              cases hxm' : (tr m).2 with
              | eff e' =>
                refine XComm.patEff (fun q hq hqe => ?_) id0
                cases hem : effOk (S.next + m) e' with
                | true =>
                  have := efflight m e' hem q hq
                  rcases (hpat j id' off xs hxj).1 with h | ⟨m', h1, h2, h3⟩ <;> omega
                | false =>
                  rcases (hpat j id' off xs hxj).2 m _ hom hmj (hheapm e' hxm' hem) with hb | ⟨_, hb⟩
                  · rw [Nat.max_eq_left (by omega), Nat.min_eq_right (by omega)] at hb
                    exact nob hb
                  · rcases hb e' hxm' with hb | hb
                    · rw [hem] at hb; cases hb
                    · exact hb q hq hqe
              | pat id2 off2 xs2 =>
                refine XComm.pat ?_ id0
                rcases (hpat j id' off xs hxj).2 m _ hom hmj (hpatheapy m _ _ _ _ hom hxm') with hb | ⟨hb, _⟩
                · rw [Nat.max_eq_left (by omega), Nat.min_eq_right (by omega)] at hb
                  exact (nob hb).elim
                · rw [(hpf m id2 off2 xs2 hxm').2] at hb
                  simp only [apartF, Bool.or_eq_true, Bool.not_eq_true', beq_eq_false_iff_ne, ne_eq, decide_eq_true_eq] at hb
                  rcases hb with (hb | hb) | hb
                  · exact .inl fun e => hb e.symm
                  · exact .inr (.inl hb)
                  · exact .inr (.inr hb)
          · simp only [AS.stepX]; rw [(stY_next _ _).1, (stY_next _ _).1]
          · simp only [AS.stepX]; rw [(stY_next _ _).2, (stY_next _ _).2]
        rw [hstep] at hR'
        refine ih (listed.setIfInBounds j true) C' a' w' (by simpa using hsz) ?_ ?_ ?_
        · intro j' o' ho' hx e he
          rw [hget] at hx ⊢
          by_cases hej : e = j
          · simp [hej]
          · rw [if_neg hej]
            by_cases hjj : j' = j
            · subst hjj; rw [ho] at ho'; injection ho' with ho'; subst ho'; exact hed e he
            · rw [if_neg hjj] at hx; exact hcl j' o' ho' hx e he
        · have hcount : ∀ (l : List Bool) (j : Nat), l[j]? = some false → ((l.set j true).filter (fun b => !b)).length + 1 = (l.filter (fun b => !b)).length := by
            intro l
            induction l with
            | nil => intro j h; simp at h
            | cons b l ihl =>
              intro j h
              cases j with
              | zero => simp at h; subst h; simp
              | succ j =>
                simp only [List.getElem?_cons_succ] at h
                have := ihl j h
                cases b <;> simp at this ⊢ <;> omega
          have := hcount listed.toList j (by simpa [Array.getD, hjl] using hjX)
          simp only [Array.toList_setIfInBounds]
          omega
        · refine ⟨hR'.ok, hR'.inv, hR'.below, hR'.new, hR'.ext, hR'.defers, hR'.size, fun id hl => ?_⟩
          rcases hR'.live id hl with (h | ⟨i, hi, hx, h⟩) | h
          · exact .inl h
          · exact .inr ⟨i, hi, by rw [hget]; split <;> simp_all, h⟩
          · rw [hnx] at h; exact .inr ⟨j, hjlt, by rw [hget]; simp, h⟩
end
end Go.Proofs.YtalfcmgcjdkolaaGreatDoor
namespace Go.Proofs.YtalfcmgcjdkolaaGreatDoor
open Go.RowKit
structure Seen where
  ft : Foot
  pt : Option (Nat × Nat × Nat)
  ei : List Nat
def apartN (a b : List Nat) : Bool := a.all fun x => !memN b x
def ordB (ops : Array Oper) (i j : Nat) : Bool := ((aheads ops).getD (max i j) 0).testBit (min i j)
def heapyAt (ops : Array Oper) (j : Nat) : Bool := match ops[j]? with
  | some o => heapy o.op
  | none => false
def patOk1 (ops : Array Oper) (n : Nat) (acc : List Seen) (i : Nat) (t : Nat × Nat × Nat) : Bool :=
  (decide (t.1 < n) || (decide (n ≤ t.1) && decide (t.1 - n < i) && ((aheads ops).getD i 0).testBit (t.1 - n))) &&
  acc.zipIdx.all fun q => q.2 == i || !heapyAt ops q.2 || ordB ops q.2 i || (apartF t.1 t.2.1 t.2.2 q.1.ft && !memN q.1.ei t.1)
def effOk1 (ops : Array Oper) (acc : List Seen) (i : Nat) (l : List Nat) : Bool :=
  acc.zipIdx.all fun q => q.2 == i || !heapyAt ops q.2 || ordB ops q.2 i || (apartL l q.1.ft && apartN l q.1.ei)
def patsOk (ops : Array Oper) (n : Nat) (acc : List Seen) : Bool := acc.zipIdx.all fun p => (match p.1.pt with
  | none => true
  | some t => patOk1 ops n acc p.2 t) && (match p.1.ei with
  | [] => true
  | _ :: _ => effOk1 ops acc p.2 p.1.ei)
def eiOf (n i : Nat) (e : Eff) : List Nat := if effOk (n + i) e = true then [] else e.map (·.1)
def seen (n i : Nat) (x : XE) (f : Foot) : Seen := match x with
  | .eff e => ⟨f, none, eiOf n i e⟩
  | .pat id off xs => ⟨f, some (id, off, xs.length), []⟩
def xOk (ops : Array Oper) (n i : Nat) (x : XE) (f : Foot) : Prop := match x with
  | .eff e => effOk (n + i) e = true ∨ effIn ops n i e = true
  | .pat id off xs => f = .cell id off xs.length
section
variable {P : Program} {I : World → Prop} {ops : Array Oper} {S : AS}
def awpLp (P : Program) (I : World → Prop) (ops : Array Oper) : List Oper → Nat → AS → List Seen → (AS → Prop) → Prop
  | [], i, S, acc, K => patsOk ops S.next acc = true ∧ K { S with next := S.next + i }
  | o :: l, i, S, acc, K => ∃ d x f, (StX P I ops i o S d x ∧ (heapy o.op = true → FootOK P I ops i S o d x f) ∧ xOk ops S.next i x f) ∧ awpLp P I ops l (i + 1) (S.stepX o d x) (acc ++ [seen S.next i x f]) K
theorem stY_tr {tr tr' : Nat → D × XE} {X : Nat → Bool} : ∀ m, (∀ i, i < m → tr i = tr' i) → stY ops S tr X m = stY ops S tr' X m
  | 0, _ => rfl
  | m + 1, h => by simp only [stY, stY_tr m (fun i hi => h i (by omega)), h m (by omega)]
theorem awpLp_trace {K : AS → Prop} : ∀ (l : List Oper) (i : Nat) (tr : Nat → D × XE) (ft : Nat → Foot) (acc : List Seen), i ≤ ops.size → ops.toList.drop i = l → acc.length = i → (∀ m, m < i → acc[m]? = some (seen S.next m (tr m).2 (ft m))) → (∀ m, i ≤ m → tr m = (.any, .eff [])) →
    (∀ m o, m < i → ops[m]? = some o → StX P I ops m o (stY ops S tr (fun _ => true) m) (tr m).1 (tr m).2 ∧ (heapy o.op = true → FootOK P I ops m (stY ops S tr (fun _ => true) m) o (tr m).1 (tr m).2 (ft m)) ∧ xOk ops S.next m (tr m).2 (ft m)) → awpLp P I ops l i (stY ops S tr (fun _ => true) i) acc K →
    ∃ (tr' : Nat → D × XE) (ft' : Nat → Foot) (acc' : List Seen), (acc'.length = ops.size ∧ (∀ m, m < ops.size → acc'[m]? = some (seen S.next m (tr' m).2 (ft' m))) ∧ ∀ m, ops.size ≤ m → tr' m = (.any, .eff [])) ∧
      (∀ m o, ops[m]? = some o → StX P I ops m o (stY ops S tr' (fun _ => true) m) (tr' m).1 (tr' m).2 ∧ (heapy o.op = true → FootOK P I ops m (stY ops S tr' (fun _ => true) m) o (tr' m).1 (tr' m).2 (ft' m)) ∧ xOk ops S.next m (tr' m).2 (ft' m)) ∧ patsOk ops S.next acc' = true ∧ K { stY ops S tr' (fun _ => true) ops.size with next := S.next + ops.size } := by
  intro l
  induction l with
  | nil =>
    intro i tr ft acc hi hd hal hacc htr hT h
    obtain rfl : i = ops.size := by have := congrArg List.length hd; simp at this; omega
    simp only [awpLp] at h
    rw [(stY_next _ _).1] at h
    refine ⟨tr, ft, acc, ⟨hal, hacc, htr⟩, fun m o ho => hT m o ?_ ho, h.1, h.2⟩
    rcases Nat.lt_or_ge m ops.size with h1 | h1
    · exact h1
    · rw [Array.getElem?_eq_none h1] at ho; cases ho
  | cons o l ih =>
    intro i tr ft acc hi hd hal hacc htr hT h
    have hoi : ops[i]? = some o := by
      have : (ops.toList.drop i)[0]? = some o := by rw [hd]; rfl
      simpa using this
    have hd' : ops.toList.drop (i + 1) = l := by rw [← List.drop_drop, hd]; rfl
    simp only [awpLp] at h
    obtain ⟨d, x, f, ⟨h1, h2, h2'⟩, h3⟩ := h
    rw [(stY_next _ _).1] at h2' h3
    have hsame : ∀ m, m ≤ i → stY ops S (upd tr i (d, x)) (fun _ => true) m = stY ops S tr (fun _ => true) m := fun m hm => stY_tr m fun i' hi' => by
      simp only [upd]; rw [if_neg (by omega)]
    have hst : stY ops S (upd tr i (d, x)) (fun _ => true) (i + 1) = (stY ops S tr (fun _ => true) i).stepX o d x := by
      simp [stY, hoi, hsame i (Nat.le_refl _), upd]
    refine ih (i + 1) (upd tr i (d, x)) (upd ft i f) (acc ++ [seen S.next i x f]) (by have := congrArg List.length hd; simp at this; omega) hd' (by simp [hal]) (fun m hm => ?_) (fun m hm => ?_) (fun m o' hm ho' => ?_) (by rw [hst]; exact h3)
    · by_cases he : m = i
      · subst he
        rw [List.getElem?_append_right (by omega), hal]
        simp [upd]
      · rw [List.getElem?_append_left (by omega), hacc m (by omega)]
        simp only [upd]; rw [if_neg he, if_neg he]
    · simp only [upd]; rw [if_neg (by omega)]; exact htr m (by omega)
    · rw [hsame m (by omega)]
      by_cases he : m = i
      · subst he
        rw [hoi] at ho'; injection ho' with ho'; subst ho'
        simpa [upd] using ⟨h1, h2, h2'⟩
      · simp only [upd]; rw [if_neg he, if_neg he]
        exact hT m o' (by omega) ho'
theorem awpD_of2 {K : AS → Prop} (hstab : Stab I) (hm : P.follows .mixedOrders = true) (hok : drawOk ops = true) (h : awpLp P I ops ops.toList 0 S [] K) : awpD P I ops S K := by
  intro hd G C a w hR Q rid hK
  obtain ⟨tr, ft, acc, ⟨hal, hacc, htr⟩, h2, hp, h3⟩ := awpLp_trace (S := S) (P := P) (I := I) ops.toList 0 (fun _ => (.any, .eff [])) (fun _ => .all) [] (Nat.zero_le _) (by simp) rfl (fun m hm => absurd hm (by omega)) (fun _ _ => rfl) (fun m o hm => absurd hm (by omega)) h
  refine wp_region_any hm ?_
  have hR' : Rel I G (fun id => id < S.next) S C a { w with drawn := w.drawn + 1 } := by
    have hcell : ∀ b o, C.F b o → ({ w with drawn := w.drawn + 1 } : World).heap[b]? = w.heap[b]? := fun _ _ _ => rfl
    have he : Ext C w C { w with drawn := w.drawn + 1 } := ⟨fun _ _ h => h, hcell, fun _ h => h, fun _ _ => rfl⟩
    refine ⟨⟨fun t => (hR.ok.env t).ext he, ⟨fun id b hb => ?_, hR.ok.heap.own, hR.ok.heap.pin, hR.ok.heap.apart⟩, hR.ok.fb, hR.ok.base⟩, hR.inv, ⟨hR.below.os, hR.below.tape, hR.below.output, hR.below.size, hR.below.block⟩, hR.new, hR.ext.trans he, hR.defers, hR.size, hR.live⟩
    obtain ⟨k1, k2⟩ := hR.ok.heap.rep id b hb
    exact ⟨k1, k2.keep k1 he (fun _ _ => rfl) (fun _ _ _ h => h)⟩
  have hnone : ∀ i, (Array.replicate ops.size false).getD i false = false := by
    intro i
    rw [Array.getD_eq_getD_getElem?, Array.getElem?_replicate]
    split <;> rfl
  have hst0 : ∀ m, stY ops S tr (fun i => (Array.replicate ops.size false).getD i false) m = S := by
    intro m
    rw [show (fun i => (Array.replicate ops.size false).getD i false) = fun _ => false from funext hnone]
    induction m with
    | zero => rfl
    | succ m ihm =>
      simp only [stY, ihm, Bool.false_eq_true, if_false]
      cases ops[m]? <;> rfl
  have inr : ∀ i id off xs, (tr i).2 = .pat id off xs → i < ops.size := by
    intro i id off xs hx
    rcases Nat.lt_or_ge i ops.size with h | h
    · exact h
    · rw [htr i h] at hx; cases hx
  have hpfx : ∀ i id off xs, (tr i).2 = .pat id off xs → i < ops.size ∧ ft i = .cell id off xs.length := by
    intro i id off xs hx
    have hi := inr i id off xs hx
    have := (h2 i ops[i] (Array.getElem?_eq_getElem hi)).2.2
    rw [hx] at this
    exact ⟨hi, this⟩
  refine draw_any2 (ft := ft) hstab hd hok (fun i e hx => ?_) (fun id b hb => hR'.live id (hR'.ok.heap.rep id b hb).1) (fun i o ho => (h2 i o ho).2.1) hpfx (fun i id off xs hx => ?_) (fun i o ho => (h2 i o ho).1) (fun C' a' w' hr => ?_) ops.size (Array.replicate ops.size false) C a _ (by simp) (fun j o _ hx => by rw [hnone] at hx; cases hx) (by simp [List.filter_replicate]) (by
    rw [hst0]
    exact ⟨hR'.ok, hR'.inv, hR'.below, hR'.new, hR'.ext, hR'.defers, hR'.size, fun id hl => .inl (hR'.live id hl)⟩)
  · rcases Nat.lt_or_ge i ops.size with h | h
    · cases hl : effOk (S.next + i) e with
      | true => exact .inl rfl
      | false =>
        right
        have hx2 := (h2 i ops[i] (Array.getElem?_eq_getElem h)).2.2
        rw [hx] at hx2
        have hai := hacc i h
        rw [hx] at hai
        have hei : eiOf S.next i e = e.map (·.1) := by unfold eiOf; rw [hl]; simp
        have hne : e.map (·.1) ≠ [] := by
          intro h0
          have : e = [] := List.map_eq_nil_iff.1 h0
          subst this
          simp [effOk] at hl
        refine ⟨?_, fun j oj hoj hne' hh => ?_⟩
        · rcases hx2 with h5 | h5
          · rw [hl] at h5; cases h5
          · exact h5
        · have hj : j < ops.size := by
            rcases Nat.lt_or_ge j ops.size with h | h
            · exact h
            · rw [Array.getElem?_eq_none h] at hoj; cases hoj
          have hmi : (seen S.next i (.eff e) (ft i), i) ∈ acc.zipIdx := by rw [List.mem_zipIdx_iff_getElem?]; exact hai
          have h5 := List.all_eq_true.1 hp _ hmi
          simp only [seen, hei, Bool.true_and] at h5
          have h6 : effOk1 ops acc i (e.map (·.1)) = true := by
            revert h5
            cases hc : e.map (·.1) with
            | nil => exact absurd hc hne
            | cons a l => exact fun h => h
          have hmj : (seen S.next j (tr j).2 (ft j), j) ∈ acc.zipIdx := by rw [List.mem_zipIdx_iff_getElem?]; exact hacc j hj
          have h10 := List.all_eq_true.1 h6 _ hmj
          simp only [heapyAt, hoj, hh, Bool.or_eq_true, beq_iff_eq, Bool.not_true, Bool.false_eq_true, or_false, Bool.and_eq_true] at h10
          rcases h10 with (h10 | h10) | h10
          · exact absurd h10 hne'
          · exact .inl h10
          · right
            have hsf : (seen S.next j (tr j).2 (ft j)).ft = ft j := by unfold seen; split <;> rfl
            rw [hsf] at h10
            refine ⟨h10.1, fun e' hx3 => ?_⟩
            have h11 := h10.2
            rw [hx3] at h11
            simp only [seen] at h11
            cases hl' : effOk (S.next + j) e' with
            | true => exact .inl rfl
            | false =>
              right
              have hei' : eiOf S.next j e' = e'.map (·.1) := by unfold eiOf; rw [hl']; simp
              rw [hei'] at h11
              intro p hp' q hq hpq
              have := List.all_eq_true.1 h11 p.1 (List.mem_map_of_mem hp')
              simp only [Bool.not_eq_true'] at this
              rw [memN_iff.2 (by rw [hpq]; exact List.mem_map_of_mem hq)] at this
              cases this
    · rw [htr i h] at hx; injection hx with hx; subst hx; exact .inl rfl
  · have hi := inr i id off xs hx
    have hai := hacc i hi
    rw [hx] at hai
    have hmi : (seen S.next i (.pat id off xs) (ft i), i) ∈ acc.zipIdx := by rw [List.mem_zipIdx_iff_getElem?]; exact hai
    have h5 := List.all_eq_true.1 hp _ hmi
    simp only [seen, patOk1, Bool.and_eq_true, Bool.or_eq_true, decide_eq_true_eq] at h5
    obtain ⟨⟨h6, h7⟩, _⟩ := h5
    refine ⟨?_, fun j oj hoj hne hh => ?_⟩
    · rcases h6 with h6 | ⟨⟨h6, h8⟩, h9⟩
      · exact .inl h6
      · exact .inr ⟨id - S.next, h8, by omega, h9⟩
    · have hj : j < ops.size := by
        rcases Nat.lt_or_ge j ops.size with h | h
        · exact h
        · rw [Array.getElem?_eq_none h] at hoj; cases hoj
      have hmj : (seen S.next j (tr j).2 (ft j), j) ∈ acc.zipIdx := by rw [List.mem_zipIdx_iff_getElem?]; exact hacc j hj
      have h10 := List.all_eq_true.1 h7 _ hmj
      simp only [heapyAt, hoj, hh, Bool.or_eq_true, beq_iff_eq, Bool.not_true, Bool.false_eq_true, or_false, Bool.and_eq_true] at h10
      rcases h10 with (h10 | h10) | h10
      · exact absurd h10 hne
      · exact .inl h10
      · right
        have hsf : (seen S.next j (tr j).2 (ft j)).ft = ft j := by unfold seen; split <;> rfl
        rw [hsf] at h10
        refine ⟨h10.1, fun e hx2 => ?_⟩
        have h11 := h10.2
        rw [hx2] at h11
        simp only [seen, Bool.not_eq_true'] at h11
        cases hl' : effOk (S.next + j) e with
        | true => exact .inl rfl
        | false =>
          right
          have hei' : eiOf S.next j e = e.map (·.1) := by unfold eiOf; rw [hl']; simp
          rw [hei'] at h11
          intro q hq hqe
          rw [memN_iff.2 (by rw [← hqe]; exact List.mem_map_of_mem hq)] at h11
          cases h11
  · refine hK _ C' a' w' h3 ?_ ?_
    · exact (stY_next (ops := ops) (S := S) (tr := tr) _ _).2
    · exact ⟨⟨hr.ok.env, hr.ok.heap, hr.ok.fb, hr.ok.base⟩, hr.inv, hr.below, hr.new, hr.ext, hr.defers, hr.size, hr.live⟩
end
section
variable (P : Program) (I : World → Prop)
def rgP (ops : Array Oper) (l : List Oper) (i : Nat) (S : AS) (acc : List Seen) (k : List Kont) (Q : BPost) : Prop := awpLp P I ops l i S acc (goB P I k Q .normal)
def sP (x : Option (D × Eff)) (o : Oper) (ops : Array Oper) (l : List Oper) (i : Nat) (S : AS) (acc : List Seen) (k : List Kont) (Q : BPost) : Prop := ∃ d eff, x = some (d, eff) ∧
  ((∃ f, (heapy o.op = true → St1N P I ops i o S d eff → FootOK P I ops i S o d (.eff eff) f) ∧ (effOk (S.next + i) eff = true ∨ effIn ops S.next i eff = true) ∧ rgP P I ops l (i + 1) (S.step o d eff) (acc ++ [⟨f, none, eiOf S.next i eff⟩]) k Q) ∨
   (∃ t a v id off n, o.op = .store t a v ∧ S.val a = .ptr id off ∧ (S.val v).cells.length = n ∧ rgP P I ops l (i + 1) (S.step o d eff) (acc ++ [⟨.cell id off n, some (id, off, n), []⟩]) k Q))
def eP (ds0 : List D) (f : FuncId) (o : Oper) (ops : Array Oper) (l : List Oper) (i : Nat) (S : AS) (acc : List Seen) (k : List Kont) (Q : BPost) : Prop := ∃ ds' ep d eff fo, ArgX S.heap ds0 ds' ep ∧ CallLoc P I f ds0 ds' ep S.heap (S.next + i) d eff ∧ (effOk (S.next + i) (ep ++ eff) = true ∨ effIn ops S.next i (ep ++ eff) = true) ∧ (St1N P I ops i o S d (ep ++ eff) → FootOK P I ops i S o d (.eff (ep ++ eff)) fo) ∧ rgP P I ops l (i + 1) (S.step o d (ep ++ eff)) (acc ++ [⟨fo, none, eiOf S.next i (ep ++ eff)⟩]) k Q
def cP (ds : List D) (eff : Eff) (ds0 : List D) (f : FuncId) (o : Oper) (ops : Array Oper) (l : List Oper) (i : Nat) (S : AS) (acc : List Seen) (k : List Kont) (Q : BPost) : Prop := eP P I ds0 f o ops l i S acc k Q ∨ (effOk (S.next + i) eff = true ∨ effIn ops S.next i eff = true) ∧ ∃ d fo, AFun P I f ds d ∧ (St1N P I ops i o S d eff → FootOK P I ops i S o d (.eff eff) fo) ∧ rgP P I ops l (i + 1) (S.step o d eff) (acc ++ [⟨fo, none, eiOf S.next i eff⟩]) k Q
def qP (x : Option (List D × Eff)) (ds0 : List D) (f : FuncId) (o : Oper) (ops : Array Oper) (l : List Oper) (i : Nat) (S : AS) (acc : List Seen) (k : List Kont) (Q : BPost) : Prop := match x with
  | some (ds, eff) => cP P I ds eff ds0 f o ops l i S acc k Q
  | none => eP P I ds0 f o ops l i S acc k Q
def lP (x : Option (FuncId × List D)) (o : Oper) (ops : Array Oper) (l : List Oper) (i : Nat) (S : AS) (acc : List Seen) (k : List Kont) (Q : BPost) : Prop := match x with
  | some (f, ds) => qP P I (purDs S.heap ds) ds f o ops l i S acc k Q
  | none => sP P I (aop P o.op (S.next + i) S) o ops l i S acc k Q
def wP (x : Option Bool) (o : Oper) (ops : Array Oper) (l : List Oper) (i : Nat) (S : AS) (acc : List Seen) (k : List Kont) (Q : BPost) : Prop := match x with
  | some true => lP P I (acallee S o.op) o ops l i S acc k Q
  | some false => rgP P I ops l (i + 1) (S.step o .undef []) (acc ++ [⟨.all, none, []⟩]) k Q
  | none => False
end
section
variable {P : Program} {I : World → Prop} {S : AS} {k : List Kont} {Q : BPost} {ops : Array Oper} {o : Oper} {l : List Oper} {i : Nat} {acc : List Seen}
theorem rb_drawP (hstab : Stab I) {id : Nat} (hm : P.follows .mixedOrders = true) (hok : drawOk ops = true) (h : ∀ K, K = k → rgP P I ops ops.toList 0 S [] K Q) : runB P I (.region id ops true) S k Q := by
  have h' := h k rfl
  unfold runB
  unfold rgP at h'
  exact awpD_of2 hstab hm hok h'
theorem rgP_nil (hp : patsOk ops S.next acc = true) (h : extB P I .normal { S with next := S.next + i } k Q) : rgP P I ops [] i S acc k Q := by
  unfold extB at h
  unfold rgP
  exact ⟨hp, h⟩
theorem stepX_eff {S : AS} {o : Oper} {d : D} {eff : Eff} {x : XE} (h : appX S.heap x = appEff S.heap eff) : S.stepX o d x = S.step o d eff := by
  unfold AS.stepX AS.step
  rw [h]
  rfl
theorem rgP_cons (h : wP P I (awant ops S.env o) o ops l i S acc k Q) : rgP P I ops (o :: l) i S acc k Q := by
  simp only [rgP, awpLp]
  cases hw : awant ops S.env o with
  | none => rw [hw] at h; exact h.elim
  | some r =>
    rw [hw] at h
    cases r with
    | false => exact ⟨.undef, .eff [], .all, ⟨.inl ⟨hw, rfl, rfl⟩, fun _ => trivial, .inl rfl⟩, h⟩
    | true =>
      simp only [wP] at h
      cases hc : acallee S o.op with
      | some p =>
        obtain ⟨f, ds⟩ := p
        rw [hc] at h
        simp only [lP] at h
        have eff_ : eP P I ds f o ops l i S acc k Q → ∃ d x f, (StX P I ops i o S d x ∧ (heapy o.op = true → FootOK P I ops i S o d x f) ∧ xOk ops S.next i x f) ∧ awpLp P I ops l (i + 1) (S.stepX o d x) (acc ++ [seen S.next i x f]) (goB P I k Q .normal) := by
          rintro ⟨ds', ep, d, eff, fo, h3, h4, h2, h5, h6⟩
          have hN : St1N P I ops i o S d (ep ++ eff) := .inr ⟨hw, .inr (.inr ⟨f, ds, ds', ep, eff, hc, h3, rfl, h4⟩)⟩
          exact ⟨d, .eff (ep ++ eff), fo, ⟨hN.to1, fun _ => h5 hN, h2⟩, h6⟩
        cases hp : purDs S.heap ds with
        | none => rw [hp] at h; exact eff_ h
        | some q =>
          obtain ⟨ds', eff⟩ := q
          rw [hp] at h
          rcases h with h | h
          · exact eff_ h
          obtain ⟨h2, d, fo, h3, h5, h4⟩ := h
          have hN : St1N P I ops i o S d eff := .inr ⟨hw, .inl ⟨f, ds, ds', hc, hp, h3⟩⟩
          exact ⟨d, .eff eff, fo, ⟨hN.to1, fun _ => h5 hN, h2⟩, h4⟩
      | none =>
        rw [hc] at h
        obtain ⟨d, eff, h1, h⟩ := h
        rcases h with ⟨f, h2, h3, h4⟩ | ⟨t, a, v, id, off, n, h2, h3, h4, h5⟩
        · have hN : St1N P I ops i o S d eff := .inr ⟨hw, .inr (.inl ⟨hc, h1⟩)⟩
          exact ⟨d, .eff eff, f, ⟨hN.to1, fun hh => h2 hh hN, h3⟩, h4⟩
        · simp only [h2, aop, h3] at h1
          cases hb : S.heap id with
          | none => rw [hb] at h1; simp at h1
          | some b =>
            rw [hb] at h1
            cases b <;> simp only [reduceCtorEq] at h1
            rename_i pn cs
            split at h1
            · rename_i hcnd
              injection h1 with h1
              injection h1 with e1 e2
              subst e1 e2
              refine ⟨.undef, .pat id off (S.val v).cells, .cell id off n, ⟨⟨hw, rfl, t, a, v, pn, cs, h2, h3, rfl, hb, hcnd.1, hcnd.2.1, hcnd.2.2⟩, fun _ => ⟨⟨_, hb⟩, .inr ⟨t, a, v, h2, h3, .inl ⟨_, rfl, h4⟩⟩⟩, by subst h4; rfl⟩, ?_⟩
              rw [stepX_eff (eff := [(id, some (.box pn (putD cs off (S.val v))))])]
              · subst h4; exact h5
              · simp only [appX, appEff, hb, patB]
                rw [if_pos hcnd.2.2]
                rfl
            · simp at h1
theorem sP.light {d : D} {eff : Eff} (hh : heapy o.op = false) (he : effOk (S.next + i) eff = true) (h : rgP P I ops l (i + 1) (S.step o d eff) (acc ++ [⟨.all, none, []⟩]) k Q) : sP P I (some (d, eff)) o ops l i S acc k Q :=
  ⟨d, eff, rfl, .inl ⟨.all, ⟨fun _ _ => trivial, .inl he, by unfold eiOf; rw [if_pos he]; exact h⟩⟩⟩
theorem sP.foot {d : D} {eff : Eff} {b : List Nat} (f : Foot) (hf : St1N P I ops i o S d eff → FootOK P I ops i S o d (.eff eff) f) (hb : eiOf S.next i eff = b) (he : effOk (S.next + i) eff = true ∨ effIn ops S.next i eff = true) (h : rgP P I ops l (i + 1) (S.step o d eff) (acc ++ [⟨f, none, b⟩]) k Q) : sP P I (some (d, eff)) o ops l i S acc k Q :=
  ⟨d, eff, rfl, .inl ⟨f, fun _ => hf, he, by rw [hb]; exact h⟩⟩
theorem sP.pat {d : D} {eff : Eff} {t : TypeId} {a v : Operand} (id off n : Nat) (ho : o.op = .store t a v) (ha : S.val a = .ptr id off) (hn : (S.val v).cells.length = n) (h : rgP P I ops l (i + 1) (S.step o d eff) (acc ++ [⟨.cell id off n, some (id, off, n), []⟩]) k Q) : sP P I (some (d, eff)) o ops l i S acc k Q :=
  ⟨d, eff, rfl, .inr ⟨t, a, v, id, off, n, ho, ha, hn, h⟩⟩
theorem eP.intro {ds0 ds' : List D} {ep eff : Eff} {f : FuncId} {d : D} {b : List Nat} {nid : Nat} (h : ∀ H', Sub S.heap H' (ds0.flatMap D.ids) → CallOK P I f ds' (appEff H' ep) nid d eff) (he' : purXs S.heap ds0 = some (ds', ep)) (hn : nid = S.next + i) (fo : Foot) (hf : St1N P I ops i o S d (ep ++ eff) → FootOK P I ops i S o d (.eff (ep ++ eff)) fo) (hb : eiOf S.next i (ep ++ eff) = b) (he : effOk (S.next + i) (ep ++ eff) = true ∨ effIn ops S.next i (ep ++ eff) = true) (hk : rgP P I ops l (i + 1) (S.step o d (ep ++ eff)) (acc ++ [⟨fo, none, b⟩]) k Q) : eP P I ds0 f o ops l i S acc k Q :=
  ⟨ds', ep, d, eff, fo, .inl he', by subst hn; exact h, he, hf, by rw [hb]; exact hk⟩
theorem cP.introE {ds0 ds ds' : List D} {ep eff eff0 : Eff} {f : FuncId} {d : D} {b : List Nat} {nid : Nat} (h : ∀ H', Sub S.heap H' (ds0.flatMap D.ids) → CallOK P I f ds' (appEff H' ep) nid d eff) (he' : purXs S.heap ds0 = some (ds', ep)) (hn : nid = S.next + i) (fo : Foot) (hf : St1N P I ops i o S d (ep ++ eff) → FootOK P I ops i S o d (.eff (ep ++ eff)) fo) (hb : eiOf S.next i (ep ++ eff) = b) (he : effOk (S.next + i) (ep ++ eff) = true ∨ effIn ops S.next i (ep ++ eff) = true) (hk : rgP P I ops l (i + 1) (S.step o d (ep ++ eff)) (acc ++ [⟨fo, none, b⟩]) k Q) : cP P I ds eff0 ds0 f o ops l i S acc k Q :=
  .inl (eP.intro h he' hn fo hf hb he hk)
theorem cP.intro {ds ds' ds0 : List D} {eff : Eff} {f : FuncId} {d : D} {b : List Nat} (h : AFun P I f ds' d) (he' : ds' = ds) (fo : Foot) (hf : St1N P I ops i o S d eff → FootOK P I ops i S o d (.eff eff) fo) (hb : eiOf S.next i eff = b) (he : effOk (S.next + i) eff = true ∨ effIn ops S.next i eff = true) (hk : rgP P I ops l (i + 1) (S.step o d eff) (acc ++ [⟨fo, none, b⟩]) k Q) : cP P I ds eff ds0 f o ops l i S acc k Q :=
  .inr ⟨he, d, fo, he' ▸ h, hf, by rw [hb]; exact hk⟩
def subN (a b : List Nat) : Bool := a.all fun x => memN b x
theorem FootOK.idsB {d : D} {eff : Eff} (ids : List Nat) (h : (o.op.operands.toList.all fun y => subN (S.val y).ids ids) = true) (hg : o.guard = none) (hN : St1N P I ops i o S d eff) : FootOK P I ops i S o d (.eff eff) (.ids ids) := by
  refine ⟨fun t ht id hid => ?_, eff, rfl, hN⟩
  unfold Oper.looksAt at ht
  rw [hg] at ht
  simp only [List.mem_append, List.mem_filterMap] at ht
  rcases ht with ⟨y, hy, hyt⟩ | ht
  · cases y <;> simp at hyt
    subst hyt
    have h1 := List.all_eq_true.1 h _ hy
    exact memN_iff.1 (List.all_eq_true.1 h1 id hid)
  · simp at ht
theorem FootOK.ld {d : D} {x : XE} {t : TypeId} {a : Operand} {id off n : Nat} {b : Blk} (ho : o.op = .load t a) (ha : S.val a = .ptr id off) (hb : S.heap id = some b) (hs : szT P t = some n) (hn : 0 < n) : FootOK P I ops i S o d x (.cell id off n) := ⟨⟨b, hb⟩, .inl ⟨t, a, ho, ha, fun _ => hs, hn⟩⟩
theorem wP_t : wP P I (some true) o ops l i S acc k Q = lP P I (acallee S o.op) o ops l i S acc k Q := rfl
theorem wP_f : wP P I (some false) o ops l i S acc k Q = rgP P I ops l (i + 1) (S.step o .undef []) (acc ++ [⟨.all, none, []⟩]) k Q := rfl
theorem lP_s {f : FuncId} {ds : List D} : lP P I (some (f, ds)) o ops l i S acc k Q = qP P I (purDs S.heap ds) ds f o ops l i S acc k Q := rfl
theorem qP_s {f : FuncId} {ds ds0 : List D} {eff : Eff} : qP P I (some (ds, eff)) ds0 f o ops l i S acc k Q = cP P I ds eff ds0 f o ops l i S acc k Q := rfl
theorem qP_n {f : FuncId} {ds0 : List D} : qP P I none ds0 f o ops l i S acc k Q = eP P I ds0 f o ops l i S acc k Q := rfl
theorem lP_n : lP P I none o ops l i S acc k Q = sP P I (aop P o.op (S.next + i) S) o ops l i S acc k Q := rfl
theorem vq : type_of% (And.intro @wP_t <| And.intro @wP_f <| And.intro @lP_s <| And.intro @qP_s <| And.intro @qP_n @lP_n) := And.intro @wP_t <| And.intro @wP_f <| And.intro @lP_s <| And.intro @qP_s <| And.intro @qP_n @lP_n
end
attribute [irreducible] rgP
end Go.Proofs.YtalfcmgcjdkolaaGreatDoor
namespace Go.Proofs.YtalfcmgcjdkolaaGreatDoor
open Go.RowKit
def rnR (is : List Nat) (j : Nat) : Option Nat := is[j]?
def lentR : Nat → List Blk → List (Nat × Blk)
  | _, [] => []
  | p, b :: r => (p, b) :: lentR (p + 1) r
theorem lentR_at : ∀ (bs : List Blk) (p id : Nat) (b : Blk), look (lentR p bs) id = some b → ∃ n : Nat, id = p + n ∧ bs[n]? = some b
  | [], _, _, _, h => by simp [lentR, look] at h
  | c :: bs, p, id, b, h => by
    simp only [lentR, look] at h
    split at h
    · rename_i e
      subst e
      injection h with h
      subst h
      exact ⟨0, rfl, rfl⟩
    · obtain ⟨n, h1, h2⟩ := lentR_at bs (p + 1) id b h
      exact ⟨n + 1, by omega, by simpa using h2⟩
def retV1 (x : Option (List D)) (H : Nat → Option Blk) (nid : Nat) (is : List Nat) (r : D) (eff : Eff) : Prop := match x with
  | some [.own j m] => match H j with
    | some (.vec e k ys false) => r = .own nid m ∧ eff = is.map (fun i => (i, none)) ++ [(nid, some (.vec e k ys false))]
    | _ => False
  | _ => False
def retV (P : Program) (fn : Func) (nid : Nat) (is : List Nat) (r : D) (eff : Eff) : BPost := fun e S => match e with
  | .exit _ => False
  | .goto _ => False
  | _ => retV1 (resD P S fn.results.toList) S.heap nid is r eff
section
variable {P : Program} {I : World → Prop}
def lentRs (H : Nat → Option Blk) : List Nat → List Blk → Prop
  | i :: is, b :: bs => (H i = some b ∧ ∃ e k xs, b = .vec e k xs false) ∧ lentRs H is bs
  | [], [] => True
  | _, _ => False
theorem lentRs_at {H : Nat → Option Blk} : ∀ {is : List Nat} {bs : List Blk}, lentRs H is bs → is.length = bs.length ∧ ∀ (n : Nat) (i : Nat) (b : Blk), is[n]? = some i → bs[n]? = some b → H i = some b ∧ ∃ e k xs, b = .vec e k xs false
  | [], [], _ => ⟨rfl, by simp⟩
  | i :: is, b :: bs, h => by
    obtain ⟨h1, h2⟩ := lentRs_at h.2
    refine ⟨by simp [h1], fun n j c hj hc => ?_⟩
    cases n with
    | zero => simp at hj hc; subst hj hc; exact h.1
    | succ n => exact h2 n j c (by simpa using hj) (by simpa using hc)
  | _ :: _, [], h => h.elim
  | [], _ :: _, h => h.elim
theorem CallOK.row (hstab : Stab I) {f : FuncId} {fn : Func} {c : Code} {is : List Nat} {bs : List Blk} {ds0 ds : List D} {H : Nat → Option Blk} {nid : Nat} {r : D} {eff : Eff}
    (hf : P.funcs[f]? = some fn) (hb : fn.body = some c) (hnm : fn.name ≠ "runtime.NumGoroutine") (hn : ds0.length ≤ fn.ntmps) (hok : codeOk fn.ntmps c = true)
    (hds : ds0.map (D.ren (rnR is)) = ds) (hdo : ds0.all (D.idOk (rnR is) is.length) = true)
    (hcs : lentRs H is bs) (hne : is.Nodup)
    (h : runB P I c ⟨argL ds0, heapL (lentR 0 bs), is.length, fn.ntmps⟩ [] (retV P fn nid is r eff)) : CallOK P I f ds H nid r eff := by
  refine ⟨by simp [enterable, hf, hb, hnm], fun i0 w C B args hI hb0 hM hH hF hbase hnid hal hrep => ?_⟩
  refine calls_of_wp hf hb ?_
  subst hds
  obtain ⟨hlen, hcs⟩ := lentRs_at hcs
  have lent : ∀ (n i : Nat), is[n]? = some i → ∃ b, bs[n]? = some b ∧ H i = some b ∧ ∃ e k xs, b = .vec e k xs false := by
    intro n i hi
    have hlt : n < bs.length := by rw [← hlen]; exact (List.getElem?_eq_some_iff.1 hi).1
    exact ⟨bs[n], List.getElem?_eq_getElem hlt, hcs n i bs[n] hi (List.getElem?_eq_getElem hlt)⟩
  let M' : Nat → Prop := fun k => (∃ (n i : Nat), is[n]? = some i ∧ blockOf (C.σ i) = some k) ∨ w.heap.size ≤ k
  let C0 : Cx := C.ren (rnR is) is.length
  let B' : Bx := ⟨M', fun p => C0.σ p⟩
  have hM'M : ∀ k, M' k → B.M k := by
    rintro k (⟨n, i, hi, hk⟩ | hk)
    · obtain ⟨b, _, h1, _⟩ := lent n i hi
      exact hH.own _ _ h1 k hk
    · exact hbase k hk
  let G : Gh := ⟨i0, w, C.F, B', fun k hk => hM k (hM'M k hk), hb0⟩
  have hrn : ∀ (n i : Nat), is[n]? = some i → rnR is n = some i := fun n i hi => hi
  have hσ0 : ∀ (n i : Nat), is[n]? = some i → C0.σ n = C.σ i := fun n i hi => by simp only [C0, Cx.ren, hrn n i hi]
  have hne' : ∀ (n n' i i' : Nat), is[n]? = some i → is[n']? = some i' → n ≠ n' → i ≠ i' := by
    intro n n' i i' hi hi' hnn he
    subst he
    have hlt : n < is.length := (List.getElem?_eq_some_iff.1 hi).1
    exact hnn ((List.getElem?_inj hlt hne).1 (hi.trans hi'.symm))
  have hget : ∀ id b, heapL (lentR 0 bs) id = some b → ∃ i : Nat, is[id]? = some i ∧ H i = some b ∧ ∃ e k xs, b = .vec e k xs false := by
    intro id b hb'
    obtain ⟨n, h1, h2⟩ := lentR_at bs 0 id b hb'
    rw [Nat.zero_add] at h1
    subst h1
    have hlt : id < is.length := by rw [hlen]; exact (List.getElem?_eq_some_iff.1 h2).1
    exact ⟨is[id], List.getElem?_eq_getElem hlt, hcs id is[id] b (List.getElem?_eq_getElem hlt) h2⟩
  have hheap0 : HOK C0 w B' (heapL (lentR 0 bs)) := by
    refine ⟨fun id b hb' => ?_, fun id b hb' g hg => ?_, fun id k cs hb' => ?_, fun id id' b b' hb' hb'' hne2 g hg hg' => ?_⟩
    · obtain ⟨i, h1, h2, e, k, xs, rfl⟩ := hget id b hb'
      obtain ⟨k1, k2⟩ := hH.rep _ _ h2
      refine ⟨⟨(List.getElem?_eq_some_iff.1 h1).1, by rw [hrn id i h1]; exact k1⟩, ?_⟩
      simp only [BRep] at k2 ⊢
      rw [hσ0 id i h1]
      exact k2
    · obtain ⟨i, h1, h2, _⟩ := hget id b hb'
      rw [hσ0 id i h1] at hg
      exact .inl ⟨id, i, h1, hg⟩
    · obtain ⟨i, h1, h2, e, k, xs, h3⟩ := hget id _ hb'
      cases h3
    · obtain ⟨i, h1, h2, _⟩ := hget id b hb'
      obtain ⟨i', h1', h2', _⟩ := hget id' b' hb''
      rw [hσ0 id i h1] at hg
      rw [hσ0 id' i' h1'] at hg'
      exact hH.apart _ _ _ _ h2 h2' (hne' id id' i i' h1 h1' hne2) g hg hg'
  have hR : Rel I G (fun id => id < is.length) ⟨argL ds0, heapL (lentR 0 bs), is.length, fn.ntmps⟩ C0 { tmps := args.toArray ++ Array.replicate (fn.ntmps - args.toArray.size) Go.undef, defers := [] } w := by
    refine ⟨⟨fun t => ?_, hheap0, hF, fun g hg => .inr hg⟩, hI, BelM.refl _ _, fun b o h => .inl h, ⟨fun _ _ h => h, fun _ _ _ => rfl, fun _ h => h.elim, fun _ h => h.elim⟩, rfl, ?_, fun id h => h.1⟩
    · simp only [argL_getD]
      by_cases ht : t < ds0.length
      · rw [show ds0.getD t .any = ds0[t] by simp [List.getD, ht]]
        have ha : t < args.length := by simpa [hal] using ht
        have : (args.toArray ++ Array.replicate (fn.ntmps - args.toArray.size) Go.undef).getD t Go.undef = args[t] := by
          simp [Array.getD_eq_getD_getElem?, Array.getElem?_append, ha]
        rw [this]
        have := hrep t _ (ds0[t].ren (rnR is)) (List.getElem?_eq_getElem ha) (by simp [ht])
        exact this.ren (List.all_eq_true.1 hdo _ (List.getElem_mem ht))
      · rw [show ds0.getD t .any = .any by simp [List.getD, ht]]
        exact .any _
    · simp only [List.length_map] at hal
      simp; omega
  refine wp_mono (bwp_sound hstab c _ _ G _ _ w hok (by unfold runB goB at h; exact h) hR) ?_
  rintro e a' w' ⟨S', C', hnt, hR', hq⟩
  have fin : retV1 (resD P S' fn.results.toList) S'.heap nid is r eff → a'.defers = [] ∧ ∃ v, (results fn a'.tmps).run P w' = .ok v w' ∧ ∃ v' C2, Ending.returned v = .returned v' ∧ BelM B.M w w' ∧ Ext C w C2 w' ∧ Rep w' C2 v' r ∧ HOK C2 w' B (appEff H eff) ∧ FB C2 w' ∧ (∀ id, C2.live id → C.live id ∨ id = nid) ∧ ∀ b o, C2.F b o → C.F b o ∨ B.M b := by
    intro hp
    refine ⟨hR'.defers, ?_⟩
    cases h1 : resD P S' fn.results.toList with
    | none => rw [h1] at hp; exact hp.elim
    | some rs =>
    rw [h1] at hp
    obtain ⟨vs, hr, hl, hv⟩ := resD_run (P := P) (G := G) hR'.ok _ _ h1
    have hrun : (results fn a'.tmps).run P w' = .ok (if h : vs.toArray.size = 1 then vs.toArray[0] else .tuple vs.toArray) w' := by
      rw [results_eq, Array.mapM_eq_mapM_toList]
      simp only [Sem.run_bind, Sem.run_map, hr]
      rfl
    refine ⟨_, hrun, ?_⟩
    unfold retV1 at hp
    split at hp
    rotate_left
    · exact hp.elim
    rename_i j m hrs
    injection hrs with hrs
    subst hrs
    split at hp
    rotate_left
    · exact hp.elim
    rename_i ve vk ys hj
    obtain ⟨rfl, rfl⟩ := hp
    obtain ⟨v, rfl⟩ : ∃ v, vs = [v] := by
      match vs, hl with
      | [v], _ => exact ⟨v, rfl⟩
    have hv0 : Rep w' C' v (.own j m) := hv 0 v _ rfl rfl
    obtain ⟨hjl, hjb⟩ := hR'.ok.heap.rep j _ hj
    let C2 : Cx := ⟨C'.F, fun id => if id = nid then C'.σ j else C.σ id, fun id => C.live id ∨ id = nid⟩
    have hσ2 : ∀ id, C.live id → C2.σ id = C.σ id := fun id hid => by
      have : id ≠ nid := fun e => hnid (e ▸ hid)
      simp only [C2, if_neg this]
    have hσn : C2.σ nid = C'.σ j := by simp only [C2, if_true]
    have he : Ext C w C2 w' := ⟨fun b o h => hR'.ext.F _ _ h, fun b o h => hR'.ext.blk b o h, fun _ h => .inl h, hσ2⟩
    have hnoid : H nid = none := by
      cases hn2 : H nid with
      | none => rfl
      | some b => exact absurd (hH.rep _ _ hn2).1 hnid
    -- what each block is behind the call
    have hcase : ∀ id b, appEff H (is.map (fun i => (i, none)) ++ [(nid, some (.vec ve vk ys false))]) id = some b → (id ≠ nid ∧ H id = some b ∧ ∀ (n i : Nat), is[n]? = some i → i ≠ id) ∨ (id = nid ∧ b = .vec ve vk ys false) := by
      intro id b hb'
      rcases appEff_cases _ _ _ _ hb' with ⟨h1, h2⟩ | h1
      · refine .inl ⟨fun e => ?_, h2, fun n i hi he' => ?_⟩
        · subst e; rw [hnoid] at h2; cases h2
        · exact h1 (i, none) (by simp only [List.mem_append, List.mem_map]; exact .inl ⟨i, List.mem_of_getElem? hi, rfl⟩) he'
      · simp only [List.mem_append, List.mem_map, Prod.mk.injEq, reduceCtorEq, and_false, exists_false, List.mem_singleton, Option.some.injEq, false_or] at h1
        exact .inr h1
    have hnewblk : ∀ g, blockOf (C'.σ j) = some g → M' g ∧ ∀ id b, H id = some b → (∀ (n i : Nat), is[n]? = some i → i ≠ id) → blockOf (C.σ id) ≠ some g := by
      intro g hg
      have hMg : M' g := hR'.ok.heap.own j _ hj g hg
      refine ⟨hMg, fun id b hid hni hgk => ?_⟩
      rcases hMg with ⟨n, i, hi, hik⟩ | hge
      · obtain ⟨b', _, h3, _⟩ := lent n i hi
        exact hH.apart _ _ _ _ h3 hid (hni n i hi) g hik hgk
      · have := ((hH.rep id b hid).2.lt g hgk).2; omega
    refine ⟨v, C2, by simp, hR'.below.mono (fun k' _ hk' => hM'M k' hk'), he, ?_, ?_, hR'.ok.fb, fun id hid => hid, fun b o hbo => ?_⟩
    · cases hv0 with
      | own _ _ cc A hl' hm' hs => exact .own nid m cc A (.inr rfl) hm' (by rw [hσn]; exact hs)
    · refine ⟨fun id b hb' => ?_, fun id b hb' g hg => ?_, fun id kk cs hb' => ?_, fun id id' b b' hb' hb'' hne2 g hg hg' => ?_⟩
      · rcases hcase id b hb' with ⟨h0, h1, hni⟩ | ⟨rfl, rfl⟩
        · obtain ⟨k1, k2⟩ := hH.rep id b h1
          refine ⟨.inl k1, k2.keep k1 he (fun g hg => ?_) (fun g o hg hgo => ?_)⟩
          · refine hR'.below.block g (k2.lt g hg).2 ?_
            rintro (⟨n, i, hi, hik⟩ | hge)
            · obtain ⟨b', _, h3, _⟩ := lent n i hi
              exact hH.apart _ _ _ _ h3 h1 (hni n i hi) g hik hg
            · have := (k2.lt g hg).2; omega
          · rcases hR'.new g o hgo with h6 | h6
            · exact h6
            · rcases h6 with ⟨n, i, hi, hik⟩ | hge
              · obtain ⟨b', _, h3, _⟩ := lent n i hi
                exact absurd hg (hH.apart _ _ _ _ h3 h1 (hni n i hi) g hik)
              · have := (k2.lt g hg).2; omega
        · refine ⟨.inr rfl, ?_⟩
          simp only [BRep] at hjb ⊢
          rw [hσn]
          exact hjb
      · rcases hcase id b hb' with ⟨h0, h1, hni⟩ | ⟨rfl, rfl⟩
        · rw [hσ2 id (hH.rep _ _ h1).1] at hg
          exact hH.own id b h1 g hg
        · rw [hσn] at hg
          exact hM'M _ (hnewblk g hg).1
      · rcases hcase id _ hb' with ⟨h0, h1, hni⟩ | ⟨rfl, h3⟩
        · rw [hσ2 id (hH.rep _ _ h1).1]
          exact hH.pin id kk cs h1
        · cases h3
      · rcases hcase id b hb' with ⟨h0, h1, hni⟩ | ⟨rfl, rfl⟩
        · rw [hσ2 id (hH.rep _ _ h1).1] at hg
          rcases hcase id' b' hb'' with ⟨h0', h1', hni'⟩ | ⟨rfl, rfl⟩
          · rw [hσ2 id' (hH.rep _ _ h1').1] at hg'
            exact hH.apart id id' b b' h1 h1' hne2 g hg hg'
          · rw [hσn] at hg'
            exact (hnewblk g hg').2 id b h1 hni hg
        · rcases hcase id' b' hb'' with ⟨h0', h1', hni'⟩ | ⟨rfl, rfl⟩
          · rw [hσ2 id' (hH.rep _ _ h1').1] at hg'
            rw [hσn] at hg
            exact (hnewblk g hg).2 id' b' h1' hni' hg'
          · exact hne2 rfl
    · rcases hR'.new b o hbo with h2 | h2
      · exact .inl h2
      · exact .inr (hM'M b h2)
  cases e with
  | normal => exact fin hq
  | ret => exact fin hq
  | exit id => exact hq.elim
  | goto l => exact hq.elim
  | panic ch => exact hq.elim
  | outgrown => exact hq.elim
end
end Go.Proofs.YtalfcmgcjdkolaaGreatDoor
namespace Go.Proofs.YtalfcmgcjdkolaaGreatDoor
open Go.RowKit
def fixN1 : D → D → D
  | .nils, _ => .nils
  | _, d => d
def fixN : D → D → D
  | .agg a, .agg b => .agg (List.zipWith fixN1 a b)
  | a, b => fixN1 a b
def nslD : List D → D
  | [] => .nils
  | xs => .sl xs
theorem nslD_nil : nslD [] = .nils := rfl
theorem nslD_cons {a : D} {l : List D} : nslD (a :: l) = .sl (a :: l) := rfl
section
variable {P : Program} {I : World → Prop}
theorem Rep.fixN1 {w : World} {C : Cx} {F : Nat → Nat → Prop} {v : Value} {a b : D} (h : Rep w C v a) (k : Rep w (cF F) v b) : Rep w (cF F) v (fixN1 a b) := by
  cases a
  case nils => cases h; exact .nils
  all_goals exact k
theorem Rep.fixN {w : World} {C : Cx} {F : Nat → Nat → Prop} {v : Value} {a b : D} (h : Rep w C v a) (k : Rep w (cF F) v b) : Rep w (cF F) v (fixN a b) := by
  cases a
  case agg ax =>
    cases b
    case agg bs =>
      cases h with
      | agg vs _ hl h1 hr =>
        generalize hx : Value.agg vs.toArray = x at k
        cases k with
        | agg vs' _ hl' h1' hr' =>
          have : vs = vs' := by simpa using hx
          subst this
          refine .agg vs _ (by rw [List.length_zipWith]; omega) h1 fun i v d hv hd => ?_
          rw [List.getElem?_zipWith] at hd
          cases ha : ax[i]? with
          | none => rw [ha] at hd; cases hd
          | some x =>
            cases hb : bs[i]? with
            | none => rw [ha, hb] at hd; cases hd
            | some y =>
              rw [ha, hb] at hd
              cases hd
              exact Rep.fixN1 (hr i v x hv ha) (hr' i v y hv hb)
    all_goals exact k
  case nils => cases h; cases b <;> exact .nils
  all_goals exact k
def retN2 (ds : List D) (x : Option (List D × Eff)) (r : D) : Prop := match x with
  | some p => mkRes (List.zipWith fixN ds p.1) = r
  | none => False
def retN1 (x : Option (List D)) (H : Nat → Option Blk) (r : D) : Prop := match x with
  | some ds => retN2 ds (purDs H ds) r
  | none => False
def retN (P : Program) (fn : Func) (r : D) : BPost := fun e S => match e with
  | .exit _ => False
  | .goto _ => False
  | _ => retN1 (resD P S fn.results.toList) S.heap r
theorem retN_n {fn : Func} {r : D} {S : AS} : retN P fn r .normal S = retN1 (resD P S fn.results.toList) S.heap r := rfl
theorem retN_r {fn : Func} {r : D} {S : AS} : retN P fn r .ret S = retN1 (resD P S fn.results.toList) S.heap r := rfl
end
end Go.Proofs.YtalfcmgcjdkolaaGreatDoor

namespace Go.Proofs.YtalfcmgcjdkolaaGreatDoor
open Go.RowKit
theorem om {α : Type} {f : α → D} {k : Nat} {l : List α} (h : ∀ x, (f x).okS = true ∧ (f x).cells.length = k) : (∀ y, y ∈ l.map f → y.okS = true ∧ y.cells.length = k) = True :=
  eq_true fun y hy => by obtain ⟨x, _, rfl⟩ := List.mem_map.1 hy; exact h x
theorem zz {A B : Prop} (h : B) (e : A = B := by (conv => lhs; (try simp -implicitDefEqProofs only [vt, vm, om, ↓atI_fold, forall_const, implies_true, false_implies, sevalprocAttr, dd, k, q]))) : A := e ▸ h
theorem zq {A B : Prop} (h : B) (e : A = B := by (conv => lhs; (try simp -implicitDefEqProofs only [vt, vq, vm, om, ↓atI_fold, forall_const, implies_true, false_implies, sevalprocAttr, dd, k, q]))) : A := e ▸ h
theorem fi {A : Prop} (e : A := by first | rfl | (simp [List.map_append, dd]; done) | (simp [List.map_append, dd, k]; done)) : A := e
theorem fz {A : Prop} (e : A := by first | rfl | (simp -implicitDefEqProofs only [vt, vm, om, ↓atI_fold, forall_const, implies_true, false_implies, sevalprocAttr, dd, k, q]; done) | (simp -implicitDefEqProofs only [vt, vm, om, ↓atI_fold, forall_const, implies_true, false_implies, sevalprocAttr, dd, k, q]; rfl) | (simp -implicitDefEqProofs only [vt, vm, om, ↓atI_fold, forall_const, implies_true, false_implies, sevalprocAttr, dd, k, q, List.map_append]; done)) : A := e
theorem fs {A : Prop} (e : A := by first | rfl | (simp; done)) : A := e
theorem fd {A : Prop} (e : A := by first | rfl | decide) : A := e
theorem fk {A : Prop} (e : A := by kernel_rfl) : A := e
theorem fr {A : Prop} (e : A := by simp -implicitDefEqProofs only [vt, vm, om, ↓atI_fold, forall_const, implies_true, false_implies, sevalprocAttr, retQ_r, retQ_n, rs, dd, k, q] <;> first | rfl | (simp [List.map_append, dd]; done) | (simp [List.map_append, dd, k]; done)) : A := e
theorem fp {A : Prop} (e : A := by simp -implicitDefEqProofs only [vt, vm, om, ↓atI_fold, forall_const, implies_true, false_implies, sevalprocAttr, vp, retP_r, retP_n, rs, dd, k, q] <;> first | exact ⟨rfl, rfl⟩ | (refine ⟨?_, ?_⟩ <;> first | rfl | (simp [List.map_append, dd]; done) | (simp [List.map_append, dd, k]; done))) : A := e
theorem fn {A : Prop} (e : A := by simp -implicitDefEqProofs only [vt, vm, om, ↓atI_fold, forall_const, implies_true, false_implies, sevalprocAttr, retN_r, retN_n, retN1, retN2, fixN, fixN1, nslD_nil, nslD_cons, List.zipWith_cons_cons, List.zipWith_nil_left, rs, dd, k, q] <;> first | rfl | (simp [List.map_append, dd]; done) | (simp [List.map_append, dd, k]; done)) : A := e
def ro : List (Nat × Option Nat) → Nat → Option Nat
  | [], i => some i
  | (a, b) :: l, i => if i = a then b else ro l i
theorem wk {S : AS} {l : List (Nat × D)} {h : List (Nat × Blk)} {n : Nat} (r : List (Nat × Option Nat)) (he : wkEnv S (ro r) n l := by first | (simp -implicitDefEqProofs [kv, km, ro, dd, k]; done) | (simp -implicitDefEqProofs [kv, km, ro, dd, k, Nat.add_assoc]; done) | (simp -implicitDefEqProofs [kv, km, ro, dd, k]; omega)) (hh : wkHeap S (ro r) n h := by first | (simp -implicitDefEqProofs [kv, km, ro, dd, k]; done) | (simp -implicitDefEqProofs [kv, km, ro, dd, k, Nat.add_assoc]; done) | (simp -implicitDefEqProofs [kv, km, ro, dd, k]; omega)) : Wk S ⟨envL l, heapL h, n, S.nt⟩ := Wk.of (ro r) l h n he hh
section
variable {P : Program} {I : World → Prop} {S S' : AS} {k : List Kont} {Q : BPost} {o : Oper} {ops : Array Oper} {l : List Oper} {i : Nat} {f : FuncId} {ds : List D} {d : D} {eff : Eff} {x y : Code}
theorem xk (h : extB P I .normal S k Q) : runB P I .skip S k Q := rb_skip h
theorem xx {id : Nat} (h : extB P I (.exit id) S k Q) : runB P I (.exit id) S k Q := rb_exit h
theorem xr (h : extB P I .ret S k Q) : runB P I .ret S k Q := rb_ret h
theorem xs (h : runB P I x S (.seq y :: k) Q) : runB P I (.seq x y) S k Q := rb_seq h
theorem xb {id : Nat} (h : runB P I x S (.blk id :: k) Q) : runB P I (.block id x) S k Q := rb_block h
theorem es (h : runB P I y S k Q) : extB P I .normal S (.seq y :: k) Q := eb_seq h
theorem ee {id : Nat} (h : extB P I (.exit id) S k Q) : extB P I (.exit id) S (.seq y :: k) Q := eb_seq_e h
theorem er (h : extB P I .ret S k Q) : extB P I .ret S (.seq y :: k) Q := eb_seq_r h
theorem eg {l : Nat} (h : extB P I (.goto l) S k Q) : extB P I (.goto l) S (.seq y :: k) Q := eb_seq_g h
theorem bn {id : Nat} (h : extB P I .normal S k Q) : extB P I .normal S (.blk id :: k) Q := eb_blk_n h
theorem bh {id : Nat} (h : extB P I .normal S k Q) : extB P I (.exit id) S (.blk id :: k) Q := eb_blk_hit h
theorem bm {id id' : Nat} (h : extB P I (.exit id') S k Q) (hne : id' ≠ id := by decide) : extB P I (.exit id') S (.blk id :: k) Q := eb_blk_miss hne h
theorem br {id : Nat} (h : extB P I .ret S k Q) : extB P I .ret S (.blk id :: k) Q := eb_blk_r h
theorem en {e : AExit} (h : Q e S) : extB P I e S [] Q := eb_nil h
theorem xt {c : Operand} (h : runB P I x S k Q) (hc : S.val c = .bool true := by first | rfl | exact congrArg D.bool k.1 | exact congrArg D.bool (congrArg Bool.not k.1) | (simp -implicitDefEqProofs only [vt, vm, om, dd, k]; done)) : runB P I (.cond c x y) S k Q := rb_true hc h
theorem xf {c : Operand} (h : runB P I y S k Q) (hc : S.val c = .bool false := by first | rfl | exact congrArg D.bool k.1 | exact congrArg D.bool (congrArg Bool.not k.1) | (simp -implicitDefEqProofs only [vt, vm, om, dd, k]; done)) : runB P I (.cond c x y) S k Q := rb_false hc h
theorem rz {id : Nat} (h : extB P I .normal S' k Q) (e : ∀ K R, rgL P I ops ops.toList 0 S K R = extB P I .normal S' K R := by (intro K R; conv => lhs; (try simp -implicitDefEqProofs only [vt, vm, om, ↓atI_fold, forall_const, implies_true, false_implies, sevalprocAttr, dd, k, q]))) : runB P I (.region id ops false) S k Q := rb_region (e k Q ▸ h)
theorem rd (hI : Stab I) {id : Nat} (h : extB P I .normal S' k Q) (e : ∀ K R, rgD P I ops ops.toList 0 S K R = extB P I .normal S' K R := by (intro K R; conv => lhs; (try simp -implicitDefEqProofs only [vt, vm, om, ↓atI_fold, forall_const, implies_true, false_implies, sevalprocAttr, dd, k, q]))) (hm : P.follows .mixedOrders = true := by kernel_rfl) (hok : drawOk ops = true := by kernel_rfl) : runB P I (.region id ops true) S k Q := rb_draw hI hm hok (e k Q ▸ h)
theorem rK {id : Nat} (h : ∀ K R, K = k → R = Q → rgL P I ops ops.toList 0 S K R) : runB P I (.region id ops false) S k Q := rb_region (h k Q rfl rfl)
theorem rD (hI : Stab I) {id : Nat} (h : ∀ K R, K = k → R = Q → rgD P I ops ops.toList 0 S K R) (hm : P.follows .mixedOrders = true := by kernel_rfl) (hok : drawOk ops = true := by kernel_rfl) : runB P I (.region id ops true) S k Q := rb_draw hI hm hok (h k Q rfl rfl)
theorem rP (hI : Stab I) {id : Nat} (h : ∀ K, K = k → rgP P I ops ops.toList 0 S [] K Q) (hm : P.follows .mixedOrders = true := by kernel_rfl) (hok : drawOk ops = true := by kernel_rfl) : runB P I (.region id ops true) S k Q := rb_drawP hI hm hok h
theorem hd (hk : rgD P I ops l (i + 1) (S.step o d eff) k Q) (he : effH ops S.next i eff = true := by kernel_rfl) : hD P I d eff o ops l i S k Q := hD.intro he hk
theorem cw {ds' ds0 : List D} {nid : Nat} (h : AFun P I f ds' d) (hk : rgL P I ops l i (S.step o d eff) k Q) (he : ds' = ds := by first | rfl | (simp [List.map_append, dd]; done) | (simp [List.map_append, dd, k]; done)) : cW P I f ds eff ds0 nid o ops l i S k Q := cW.intro h he hk
theorem cd {ds' ds0 : List D} {nid : Nat} (h : AFun P I f ds' d) (hk : rgD P I ops l (i + 1) (S.step o d eff) k Q) (he : ds' = ds := by first | rfl | (simp [List.map_append, dd]; done) | (simp [List.map_append, dd, k]; done)) (hf : effH ops S.next i eff = true := by kernel_rfl) : cD' P I f ds eff ds0 nid o ops l i S k Q := cD'.intro h he hf hk
theorem AFun.en (hI : Stab I) {r : D} {fn : Func} {nt : Nat} {c : Code} (hf : P.funcs[f]? = some fn) (hn : fn.ntmps = nt) (h : runB P I c ⟨argL ds, heapL [], 0, nt⟩ [] (retQ P fn r)) (hb : fn.body = some c := by exact rfl) (hnm : decide (fn.name ≠ "runtime.NumGoroutine") = true := by kernel_rfl) (hl : Nat.ble ds.length nt = true := by kernel_rfl) (hok : codeOk fn.ntmps c = true := by kernel_rfl) : AFun P I f ds r :=
  AFun.enterB hI hf hb (of_decide_eq_true hnm) (by subst hn; exact Nat.le_of_ble_eq_true hl) hok (by subst hn; exact h)
end
section
variable {P : Prop} {α β : Type} {z : α}
theorem iK {b : Bool} {x y : Option α} (k : P) (h : (if b = true then x else y) = some z) : ((b = true ∧ P) ∧ x = some z) ∨ ((b = false ∧ P) ∧ y = some z) := by
  rcases ite_or h with ⟨h1, h2⟩ | ⟨h1, h2⟩
  · exact .inl ⟨⟨h1, k⟩, h2⟩
  · exact .inr ⟨⟨h1, k⟩, h2⟩
theorem bs {o : Option β} {F : β → Option α} (h : o.bind F = some z) : ∃ x, o = some x ∧ F x = some z := bind_some h
theorem bK {o : Option β} {F : β → Option α} (q : P) (h : o.bind F = some z) : ∃ x, (o = some x ∧ P) ∧ F x = some z := by
  obtain ⟨x, h1, h2⟩ := bind_some h
  exact ⟨x, ⟨h1, q⟩, h2⟩
theorem oK {p : Prop} [Decidable p] {x : Option α} (q : P) (h : (if p then x else none) = some z) : (p ∧ P) ∧ x = some z := by
  obtain ⟨h1, h2⟩ := ite_on h
  exact ⟨⟨h1, q⟩, h2⟩
theorem oN {l : List β} {n : Int} {F : β → Option α} (q : P) (h : (atI l n).bind F = some z) : ∃ x, ((0 ≤ n ∧ n < (l.length : Int) ∧ ∀ {γ : Type} (f : β → γ), (l.map f)[n.toNat]? = some (f x)) ∧ P) ∧ F x = some z := by
  obtain ⟨x, h1, h2⟩ := bind_some h
  exact ⟨x, ⟨atI_own h1, q⟩, h2⟩
end
end Go.Proofs.YtalfcmgcjdkolaaGreatDoor

namespace Go.Proofs.YtalfcmgcjdkolaaGreatDoor
open Go.RowKit
def pureD : D → Bool
  | .sl _ | .nils | .int _ _ | .bool _ | .str _ => true
  | _ => false
theorem pureD_cells {x : D} (h : pureD x = true) : x.cells = [x] := by
  cases x <;> first | rfl | (simp [pureD] at h)
theorem flat_pure : ∀ (l : List D), (∀ x ∈ l, x.cells = [x]) → l.flatMap D.cells = l
  | [], _ => rfl
  | x :: l, h => by
    rw [List.flatMap_cons, h x (by simp), flat_pure l (fun y hy => h y (by simp [hy]))]
    rfl
theorem Rep.pureF {w : World} {C : Cx} {v : Value} {x : D} (h : Rep w C v x) (hp : pureD x = true) : Rep w (cF C.F) v x := by
  cases x with
  | sl xs => exact h.slF
  | nils => cases h; exact .nils
  | int k n => cases h; exact .int _ _ (by assumption)
  | bool b => cases h; exact .bool _
  | str s => cases h; exact .str _ (by assumption)
  | _ => simp [pureD] at hp
theorem Wk.trans {S S' S'' : AS} (h : Wk S S') (k : Wk S' S'') : Wk S S'' :=
  ⟨k.1.trans h.1, fun I G C a w hR => by
    obtain ⟨C', h'⟩ := h.2 I G C a w hR
    exact k.2 I G C' a w h'⟩
theorem Wk.close {S : AS} {id j n i : Nat} {e e2 : TypeId} {k2 : Nat} {xs ys : List D} {p : Bool} (h1 : S.heap id = some (.mat e 1 (xs.set i (.own j n)))) (hi : i < xs.length) (h2 : S.heap j = some (.vec e2 k2 ys p)) (hn : ys.length = n) (hj : j ≠ id) (hp : ∀ x ∈ xs, pureD x = true) :
    Wk S ⟨S.env, upd (upd S.heap j (some (.vec e2 k2 ys true))) id (some (.vec e 1 (xs.set i (.sl ys)) false)), S.next, S.nt⟩ := by
  subst hn
  refine ⟨rfl, fun I G C a w hR => ?_⟩
  have hH := hR.ok.heap
  obtain ⟨C', P1, hsl⟩ := pub_vec hH hR.ok.fb h2
  have hid : upd S.heap j (some (.vec e2 k2 ys true)) id = some (.mat e 1 (xs.set i (.own j ys.length))) := by
    simp [upd, Ne.symm hj, h1]
  obtain ⟨_, _, _, _, _, n4⟩ := P1.ok.rep id _ hid
  obtain ⟨_, vals, q1, q2, q3, q4⟩ := hH.rep id _ h1
  have hcell : ∀ x ∈ xs, x.cells = [x] := fun x hx => pureD_cells (hp x hx)
  have c1 : ∀ x ∈ xs.set i (.own j ys.length), x.cells = [x] := fun x hx => by
    rcases List.mem_or_eq_of_mem_set hx with h | rfl
    · exact hcell x h
    · rfl
  have c2 : ∀ x ∈ xs.set i (.sl ys), x.cells = [x] := fun x hx => by
    rcases List.mem_or_eq_of_mem_set hx with h | rfl
    · exact hcell x h
    · rfl
  rw [flat_pure _ c1] at q3
  have hnew : BRep C' w 0 id (.vec e 1 (xs.set i (.sl ys)) false) := by
    refine ⟨vals, ?_, fun x hx => by rw [c2 x hx]; rfl, ?_, fun g hg => ⟨fun o ho => absurd ho (n4 g hg o), fun h => by cases h⟩⟩
    · rw [P1.σ, List.length_set]
      rw [List.length_set] at q1
      exact q1
    · rw [flat_pure _ c2]
      refine ⟨by rw [List.length_set]; have := q3.len; rw [List.length_set] at this; exact this, q3.one, fun m v d hv hd => ?_⟩
      rw [List.getElem?_set] at hd
      by_cases hm : i = m
      · subst hm
        rw [if_pos rfl, if_pos hi] at hd
        injection hd with hd
        subst hd
        refine hsl v (q3.rep i v _ hv ?_)
        rw [List.getElem?_set, if_pos rfl, if_pos hi]
      · rw [if_neg hm] at hd
        have hr := q3.rep m v d hv (by rw [List.getElem?_set, if_neg hm]; exact hd)
        exact (hr.pureF (hp d (List.mem_of_getElem? hd))).ext P1.ext.cF
  have hok := HOK.change P1.ok hid (Ext.refl C' w) (fun _ _ _ => rfl) (fun k cs h => by cases h) hnew
  refine ⟨C', ⟨⟨fun t => (hR.ok.env t).ext P1.ext, hok, P1.fb, hR.ok.base⟩, hR.inv, hR.below, fun b o hF => (P1.new b o hF).elim (hR.new b o) .inr, hR.ext.trans P1.ext, hR.defers, hR.size, fun id hl => hR.live id (by rw [← P1.live]; exact hl)⟩⟩
theorem mat_at {α : Type} {f : α → D} {L : List α} {i : Nat} {x : D} (h : i < L.length) : ((L.map f).set i x)[i]? = some x := by
  rw [List.getElem?_set, if_pos rfl, if_pos (by simpa using h)]
theorem mat_ne {α : Type} {f : α → D} {L : List α} {i m : Nat} {x y : D} (h : (L.map f)[m]? = some y) (hne : i ≠ m) : ((L.map f).set i x)[m]? = some y := by
  rw [List.getElem?_set, if_neg hne]; exact h
@[simp] theorem renC_sl {r : Nat → Option Nat} {l : List D} : D.renC r (.sl l) = .sl l := rfl
@[simp] theorem renC_own {r : Nat → Option Nat} {i n : Nat} : D.renC r (.own i n) = D.ren1 r (.own i n) := rfl
@[simp] theorem renC_map {α : Type} {f : α → D} {r : Nat → Option Nat} {L : List α} (h : ∀ x, (f x).renC r = f x) : (L.map f).map (D.renC r) = L.map f := by
  rw [List.map_map]
  exact List.map_congr_left fun x _ => h x
@[simp] theorem all_mat {α : Type} {f : α → D} {L : List α} {i : Nat} {x : D} {p : D → Bool} (h : ∀ y, (f y).cells.all p = true) (hx : x.cells.all p = true) : (((L.map f).set i x).flatMap D.cells).all p = true := by
  rw [List.all_eq_true]
  intro d hd
  obtain ⟨z, hz, hdz⟩ := List.mem_flatMap.1 hd
  rcases List.mem_or_eq_of_mem_set hz with hz | hz
  · obtain ⟨y, _, rfl⟩ := List.mem_map.1 hz
    exact List.all_eq_true.1 (h y) d hdz
  · subst hz
    exact List.all_eq_true.1 hx d hdz
theorem pure_map {α : Type} {f : α → D} {L : List α} (h : ∀ x, pureD (f x) = true) : ∀ x ∈ L.map f, pureD x = true := fun x hx => by
  obtain ⟨y, _, rfl⟩ := List.mem_map.1 hx
  exact h y
theorem Wk.closeM {S : AS} {id j n i : Nat} {e e2 : TypeId} {k2 : Nat} {α : Type} {f : α → D} {L : List α} {ys : List D} {p : Bool} (h1 : S.heap id = some (.mat e 1 ((L.map f).set i (.own j n)))) (hi : i < L.length) (h2 : S.heap j = some (.vec e2 k2 ys p)) (hn : ys.length = n) (hj : j ≠ id) (hp : ∀ x, pureD (f x) = true) :
    Wk S ⟨S.env, upd (upd S.heap j (some (.vec e2 k2 ys true))) id (some (.vec e 1 ((L.map f).set i (.sl ys)) false)), S.next, S.nt⟩ := Wk.close h1 (by simpa using hi) h2 hn hj (pure_map hp)
end Go.Proofs.YtalfcmgcjdkolaaGreatDoor
namespace Go.Proofs.YtalfcmgcjdkolaaGreatDoor
open Go.RowKit
theorem CallOK.ro {P : Program} {I : World → Prop} {f : FuncId} {ds : List D} {H : Nat → Option Blk} {nid : Nat} {d : D} {eff : Eff} (h : CallOK P I f ds H nid d eff) (he : appEff H eff = H) : CallOK P I f ds H nid d [] := by
  unfold CallOK at h ⊢
  rw [he] at h
  exact h
theorem ro1 {H : Nat → Option Blk} {i : Nat} {b : Blk} (h : H i = some b) : appEff H [(i, some b)] = H := by
  funext j
  simp only [appEff, upd]
  split
  · rename_i e; rw [e, h]
  · rfl
theorem Wk.pubBox {S : AS} {id j n c : Nat} {pn : Option Nat} {cs : List D} {e2 : TypeId} {k2 : Nat} {ys : List D} {p : Bool} (h1 : S.heap id = some (.box pn cs)) (hc : cs[c]? = some (.own j n)) (h2 : S.heap j = some (.vec e2 k2 ys p)) (hn : ys.length = n) (hj : j ≠ id) :
    Wk S ⟨S.env, upd (upd S.heap j (some (.vec e2 k2 ys true))) id (some (.box pn (cs.set c (.sl ys)))), S.next, S.nt⟩ := by
  subst hn
  refine ⟨rfl, fun I G C a w hR => ?_⟩
  have hH := hR.ok.heap
  obtain ⟨C', P1, hsl⟩ := pub_vec hH hR.ok.fb h2
  have hid : upd S.heap j (some (.vec e2 k2 ys true)) id = some (.box pn cs) := by
    simp [upd, Ne.symm hj, h1]
  obtain ⟨_, g, t, vs, q1, q2, q3, q4, q5⟩ := P1.ok.rep id _ hid
  obtain ⟨_, g0, t0, vs0, z1, z2, z3, z4, z5⟩ := hH.rep id _ h1
  have hg : g = g0 := by
    rw [P1.σ] at q1
    rw [q1] at z1
    injection z1 with z1
    injection z1 with z1
    injection z1
  subst hg
  have hvs : vs = vs0 := by
    rw [z3] at q3
    injection q3 with q3
    injection q3 with q3 _ _
    exact q3.symm
  subst hvs
  have hnew : BRep C' w 0 id (.box pn (cs.set c (.sl ys))) := by
    refine ⟨g, t, vs, q1, q2, q3, ⟨by rw [List.length_set]; exact q4.len, q4.one, fun m v d hv hd => ?_⟩, q5⟩
    rw [List.getElem?_set] at hd
    have hlt : c < cs.length := (List.getElem?_eq_some_iff.1 hc).1
    by_cases hm : c = m
    · subst hm
      rw [if_pos rfl, if_pos hlt] at hd
      injection hd with hd
      subst hd
      exact (hsl v (z4.rep c v _ hv hc)).ext cF_ext
    · rw [if_neg hm] at hd
      exact q4.rep m v d hv hd
  have hok := HOK.change P1.ok hid (Ext.refl C' w) (fun _ _ _ => rfl) (fun k cs' h => by injection h with h1 h2; subst h1; exact P1.ok.pin id k cs hid) hnew
  refine ⟨C', ⟨⟨fun t => (hR.ok.env t).ext P1.ext, hok, P1.fb, hR.ok.base⟩, hR.inv, hR.below, fun b o hF => (P1.new b o hF).elim (hR.new b o) .inr, hR.ext.trans P1.ext, hR.defers, hR.size, fun id hl => hR.live id (by rw [← P1.live]; exact hl)⟩⟩
theorem Wk.openM {S : AS} {id i : Nat} {e e2 : TypeId} {k2 : Nat} {xs : List D} (h1 : S.heap id = some (.vec e 1 xs false)) (hi : xs[i]? = some .nils) :
    Wk S ⟨S.env, upd (upd S.heap S.next (some (.vec e2 k2 [] false))) id (some (.mat e 1 (xs.set i (.own S.next 0)))), S.next + 1, S.nt⟩ := by
  refine ⟨rfl, fun I G C a w hR => ?_⟩
  have hH := hR.ok.heap
  have hfr : ¬ C.live S.next := fun h => Nat.lt_irrefl _ (hR.live _ h)
  have hlt : i < xs.length := (List.getElem?_eq_some_iff.1 hi).1
  have hne : ∀ j, C.live j → j ≠ S.next := fun j hj e => hfr (e ▸ hj)
  let C' : Cx := ⟨C.F, fun j => if j = S.next then .slice none 0 0 else C.σ j, fun j => C.live j ∨ j = S.next⟩
  have hσ : ∀ j, C.live j → C'.σ j = C.σ j := fun j hj => if_neg (hne j hj)
  have ee : Ext C w C' w := ⟨fun _ _ h => h, fun _ _ _ => rfl, fun _ h => .inl h, fun j h => hσ j h⟩
  have hσn : C'.σ S.next = .slice none 0 0 := if_pos rfl
  obtain ⟨hlid, vals, q1, q2, q3, q4⟩ := hH.rep id _ h1
  have hid : id ≠ S.next := hne id hlid
  have hfalse : ∀ g, (C.σ id).ownBlock = some g → ∀ o, ¬ C.F g o := fun g hg o ho => by
    have := ((q4 g hg).1 o ho).1
    cases this
  have hpure : RepL C w vals (xs.flatMap D.cells) := q3.ext cF_ext
  have hc1 : ∀ (l : List D), (∀ x ∈ l, x.cells.length = 1) → ∀ (m : Nat) (d : D), (l.flatMap D.cells)[m]? = some d → ∃ y, l[m]? = some y ∧ y.cells = [d] := by
    intro l
    induction l with
    | nil => intro _ m d h; simp at h
    | cons y l ih =>
      intro hl m d h
      rw [List.flatMap_cons] at h
      have hy := hl y (by simp)
      obtain ⟨c, hyc⟩ := List.length_eq_one_iff.1 hy
      rw [hyc] at h
      cases m with
      | zero => simp at h; subst h; exact ⟨y, rfl, hyc⟩
      | succ m =>
        simp at h
        obtain ⟨z, hz, hz2⟩ := ih (fun x hx => hl x (by simp [hx])) m d h
        exact ⟨z, by simpa using hz, hz2⟩
  have q2' : ∀ x ∈ xs.set i (.own S.next 0), x.cells.length = 1 := fun x hx => by
    rcases List.mem_or_eq_of_mem_set hx with h | rfl
    · exact q2 x h
    · rfl
  have flen : ∀ (l : List D), (∀ x ∈ l, x.cells.length = 1) → (l.flatMap D.cells).length = l.length := by
    intro l
    induction l with
    | nil => intro _; rfl
    | cons y l ih => intro hl; rw [List.flatMap_cons, List.length_append, hl y (by simp), ih (fun x hx => hl x (by simp [hx])), List.length_cons]; omega
  have hnewM : BRep C' w 0 id (.mat e 1 (xs.set i (.own S.next 0))) := by
    refine ⟨vals, by rw [hσ id hlid, List.length_set]; exact q1, q2', ⟨by rw [flen _ q2', List.length_set, q3.len, flen _ q2], q3.one, fun m v d hv hd => ?_⟩, fun g hg => by rw [hσ id hlid] at hg; exact hfalse g hg⟩
    obtain ⟨y, hy, hy2⟩ := hc1 _ q2' m d hd
    rw [List.getElem?_set] at hy
    by_cases hm : i = m
    · subst hm
      rw [if_pos rfl, if_pos hlt] at hy
      injection hy with hy
      subst hy
      have hd' : d = .own S.next 0 := by simp [D.cells] at hy2; exact hy2.symm
      subst hd'
      have hv0 : Rep w C v .nils := by
        have hfl : (xs.flatMap D.cells)[i]? = some .nils := by
          have hl : i < (xs.flatMap D.cells).length := by rw [flen _ q2]; exact hlt
          obtain ⟨y, hy, hy2⟩ := hc1 _ q2 i _ (List.getElem?_eq_getElem hl)
          rw [hi] at hy
          injection hy with hy
          subst hy
          simp [D.cells] at hy2
          rw [List.getElem?_eq_getElem hl, ← hy2]
        exact (hpure.rep i v _ hv hfl)
      cases hv0
      exact .own S.next 0 0 none (.inr rfl) (Nat.zero_le _) hσn
    · rw [if_neg hm] at hy
      have hx : (xs.flatMap D.cells)[m]? = some d := by
        have hl : m < (xs.flatMap D.cells).length := by rw [flen _ q2]; exact (List.getElem?_eq_some_iff.1 hy).1
        obtain ⟨z, hz, hz2⟩ := hc1 _ q2 m _ (List.getElem?_eq_getElem hl)
        rw [hy] at hz
        injection hz with hz
        subst hz
        rw [hy2] at hz2
        injection hz2 with hz2
        rw [List.getElem?_eq_getElem hl, ← hz2]
      exact (hpure.rep m v d hv hx).ext ee
  have hok : HOK C' w G.B (upd (upd S.heap S.next (some (.vec e2 k2 [] false))) id (some (.mat e 1 (xs.set i (.own S.next 0))))) := by
    have hlive : ∀ j b, S.heap j = some b → C.live j := fun j b h => (hH.rep j b h).1
    refine ⟨fun j b h => ?_, fun j b h g hg => ?_, fun j k cs h => ?_, fun j j' b1 b2 h1' h2' hne' g hg hg' => ?_⟩
    · by_cases hj : j = id
      · subst hj
        simp [upd] at h
        subst h
        exact ⟨.inl hlid, hnewM⟩
      · by_cases hj2 : j = S.next
        · subst hj2
          simp [upd, hj] at h
          subst h
          exact ⟨.inr rfl, [], by rw [hσn]; exact World.ownsRow_nil _ _ _ _, by simp, RepL.nil, by rw [hσn]; intro g hg; simp [Value.ownBlock] at hg⟩
        · simp [upd, hj, hj2] at h
          obtain ⟨k1, k2⟩ := hH.rep j b h
          exact ⟨.inl k1, k2.keep k1 ee (fun _ _ => rfl) (fun g o _ h => h)⟩
    · by_cases hj : j = id
      · subst hj; rw [hσ j hlid] at hg; exact hH.own j _ h1 g hg
      · by_cases hj2 : j = S.next
        · subst hj2; rw [hσn] at hg; simp [blockOf] at hg
        · simp [upd, hj, hj2] at h
          rw [hσ j (hlive j b h)] at hg
          exact hH.own j b h g hg
    · by_cases hj : j = id
      · subst hj; simp [upd] at h
      · by_cases hj2 : j = S.next
        · subst hj2; simp [upd, hj] at h
        · simp [upd, hj, hj2] at h
          rw [hσ j (hlive j _ h)]
          exact hH.pin j k cs h
    · have key : ∀ j b, upd (upd S.heap S.next (some (.vec e2 k2 [] false))) id (some (.mat e 1 (xs.set i (.own S.next 0)))) j = some b → ∀ g, blockOf (C'.σ j) = some g → blockOf (C.σ j) = some g ∧ ∃ b', S.heap j = some b' := by
        intro j b h g hg
        by_cases hj : j = id
        · subst hj; rw [hσ j hlid] at hg; exact ⟨hg, _, h1⟩
        · by_cases hj2 : j = S.next
          · subst hj2; rw [hσn] at hg; simp [blockOf] at hg
          · simp [upd, hj, hj2] at h
            rw [hσ j (hlive j b h)] at hg
            exact ⟨hg, b, h⟩
      obtain ⟨g1, b1', e1⟩ := key j b1 h1' g hg
      obtain ⟨g2, b2', e2'⟩ := key j' b2 h2' g hg'
      exact hH.apart j j' b1' b2' e1 e2' hne' g g1 g2
  refine ⟨C', ⟨⟨fun t => (hR.ok.env t).ext ee, hok, fun b o h => hR.ok.fb b o h, hR.ok.base⟩, hR.inv, hR.below, hR.new, hR.ext.trans ee, hR.defers, hR.size, fun j hl => ?_⟩⟩
  rcases hl with hl | rfl
  · exact Nat.lt_succ_of_lt (hR.live j hl)
  · exact Nat.lt_succ_self _
def emD {α : Type} (f : α → D) (L : List α) (N : Nat) : List D := L.map f ++ replL (N - L.length) .nils
theorem emD_0 {α : Type} (f : α → D) (N : Nat) : emD f [] N = replL N .nils := rfl
theorem emD_length {α : Type} {f : α → D} {L : List α} {N : Nat} (h : L.length ≤ N) : (emD f L N).length = N := by
  simp [emD, replL]; omega
theorem emD_at {α : Type} {f : α → D} {L : List α} {N : Nat} (h : L.length < N) : (emD f L N)[L.length]? = some .nils := by
  unfold emD replL
  obtain ⟨m, hm⟩ : ∃ m, N - L.length = m + 1 := ⟨N - L.length - 1, by omega⟩
  rw [List.getElem?_append_right (by simp), List.length_map, Nat.sub_self, hm]
  rfl
theorem emD_set {α : Type} {f : α → D} {L : List α} {N : Nat} (y : α) (h : L.length < N) : (emD f L N).set L.length (f y) = emD f (L ++ [y]) N := by
  unfold emD replL
  rw [List.set_append_right _ _ (by simp)]
  obtain ⟨m, hm⟩ : ∃ m, N - L.length = m + 1 := ⟨N - L.length - 1, by omega⟩
  have hm2 : N - (L ++ [y]).length = m := by simp; omega
  rw [hm, hm2]
  simp [List.replicate_succ]
theorem emD_full {α : Type} {f : α → D} {L : List α} {N : Nat} (h : L.length = N) : emD f L N = L.map f := by
  subst h
  simp [emD, replL]
theorem emD_own {α : Type} {f : α → D} {L : List α} {N : Nat} {x : D} (h : L.length < N) : ((emD f L N).set L.length x)[L.length]? = some x := by
  rw [List.getElem?_set, if_pos rfl, if_pos (by rw [emD_length (Nat.le_of_lt h)]; exact h)]
theorem pure_emD {α : Type} {f : α → D} {L : List α} {N : Nat} (h : ∀ x, pureD (f x) = true) : ∀ x ∈ emD f L N, pureD x = true := fun x hx => by
  unfold emD replL at hx
  rcases List.mem_append.1 hx with hx | hx
  · exact pure_map h x hx
  · rw [List.eq_of_mem_replicate hx]; rfl
theorem em_facts {α : Type} {f : α → D} {L : List α} {N : Nat} {n : Int} (h : n = (L.length : Int) ∧ L.length < N) : 0 ≤ n ∧ n < (N : Int) ∧ n.toNat = L.length ∧ L.length < N ∧ (emD f L N).length = N ∧ (∀ x : D, ((emD f L N).set L.length x).length = N) ∧ (∀ x, ((emD f L N).set L.length x)[L.length]? = some x) ∧ ∀ x y, ((emD f L N).set L.length x).set L.length y = (emD f L N).set L.length y :=
  ⟨by omega, by omega, by omega, h.2, emD_length (by omega), fun x => by rw [List.length_set]; exact emD_length (by omega), fun x => emD_own h.2, fun x y => List.set_set ..⟩
attribute [simp] emD_0
@[simp] theorem all_emD {α : Type} {f : α → D} {L : List α} {N i : Nat} {x : D} {p : D → Bool} (h : ∀ y, (f y).cells.all p = true) (h0 : p .nils = true) (hx : x.cells.all p = true) : (((emD f L N).set i x).flatMap D.cells).all p = true := by
  rw [List.all_eq_true]
  intro d hd
  obtain ⟨z, hz, hdz⟩ := List.mem_flatMap.1 hd
  rcases List.mem_or_eq_of_mem_set hz with hz | hz
  · unfold emD replL at hz
    rcases List.mem_append.1 hz with hz | hz
    · obtain ⟨y, _, rfl⟩ := List.mem_map.1 hz
      exact List.all_eq_true.1 (h y) d hdz
    · rw [List.eq_of_mem_replicate hz] at hdz
      simp [D.cells] at hdz
      subst hdz
      exact h0
  · subst hz
    exact List.all_eq_true.1 hx d hdz
@[simp] theorem renC_emD {α : Type} {f : α → D} {r : Nat → Option Nat} {L : List α} {N : Nat} (h : ∀ x, (f x).renC r = f x) : (emD f L N).map (D.renC r) = emD f L N := by
  unfold emD replL
  rw [List.map_append, renC_map h, List.map_replicate]
  rfl
theorem Wk.closeE {S : AS} {id j n : Nat} {e e2 : TypeId} {k2 : Nat} {α : Type} {f : α → D} {L : List α} {ys : α} {yl : List D} {N : Nat} {p : Bool} (h1 : S.heap id = some (.mat e 1 ((emD f L N).set L.length (.own j n)))) (hi : L.length < N) (h2 : S.heap j = some (.vec e2 k2 yl p)) (hn : yl.length = n) (hj : j ≠ id) (hp : ∀ x, pureD (f x) = true) (hy : f ys = .sl yl) :
    Wk S ⟨S.env, upd (upd S.heap j (some (.vec e2 k2 yl true))) id (some (.vec e 1 (emD f (L ++ [ys]) N) false)), S.next, S.nt⟩ := by
  have := Wk.close (xs := emD f L N) h1 (by rw [emD_length (Nat.le_of_lt hi)]; exact hi) h2 hn hj (pure_emD hp)
  rw [← hy, emD_set ys hi] at this
  exact this
theorem mat_at0 {α : Type} {f : α → D} {L : List α} {i : Int} {m : Nat} {x : D} (h0 : i = (m : Int)) (h : m < L.length) : ((L.map f).set i.toNat x)[m]? = some x := by
  rw [List.getElem?_set, if_pos (by omega), if_pos (by rw [List.length_map]; omega)]
@[simp] theorem renC_comp {α : Type} {f : α → D} {r : Nat → Option Nat} {L : List α} (h : ∀ x, (f x).renC r = f x) : L.map (D.renC r ∘ f) = L.map f := List.map_congr_left fun x _ => h x
@[simp high] theorem all_matB {α : Type} {f : α → D} {L : List α} {i : Nat} {x : D} {p : D → Bool} (h : ∀ y, (f y).cells.all p = true) (hx : x.cells.all p = true) : (((L.map f).set i x).flatMap D.cells).all p = true := by
  rw [List.all_eq_true]
  intro d hd
  obtain ⟨z, hz, hdz⟩ := List.mem_flatMap.1 hd
  rcases List.mem_or_eq_of_mem_set hz with hz | hz
  · obtain ⟨y, _, rfl⟩ := List.mem_map.1 hz
    exact List.all_eq_true.1 (h y) d hdz
  · subst hz
    exact List.all_eq_true.1 hx d hdz
@[simp high] theorem all_emB {α : Type} {f : α → D} {L : List α} {N i : Nat} {x : D} {p : D → Bool} (h : ∀ y, (f y).cells.all p = true) (h0 : p .nils = true) (hx : x.cells.all p = true) : (((emD f L N).set i x).flatMap D.cells).all p = true := all_emD h h0 hx
@[simp] theorem cells_sl (l : List D) : (D.sl l).cells = [.sl l] := rfl
@[simp] theorem cells_own (i n : Nat) : (D.own i n).cells = [.own i n] := rfl
end Go.Proofs.YtalfcmgcjdkolaaGreatDoor
