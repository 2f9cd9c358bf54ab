/- Regions that draw their order, and store into cells of boxes while other cells are read or written: every order comes to the state of the order of the text. -/
import Derived.Test.YtipdmcpmedmicaaDoorFwPf
set_option linter.unusedSimpArgs false
set_option linter.unusedVariables false
namespace Go.Proofs.YtipdmcpmedmicaaDoor
open Go.RowKit

/-- What an operation does to blocks: whole blocks, or cells of a box. -/
inductive XE where
  | eff (e : Eff)
  | pat (id off : Nat) (xs : List D)
def patB (off : Nat) (xs : List D) : Option Blk → Option Blk
  | some (.box pn cs) => if off + xs.length ≤ cs.length then some (.box pn (cs.take off ++ xs ++ cs.drop (off + xs.length))) else some (.box pn cs)
  | b => b
def appX (H : Nat → Option Blk) : XE → Nat → Option Blk
  | .eff e => appEff H e
  | .pat id off xs => upd H id (patB off xs (H id))
def AS.stepX (S : AS) (o : Oper) (d : D) (x : XE) : AS := { S with env := (match o.dst with | some t => upd S.env t d | none => S.env), heap := appX S.heap x }
/-- Two blocks are alike, a box at least in some cells. -/
def SimB (lo n : Nat) (b b' : Option Blk) : Prop := b = b' ∨ ∃ pn cs cs', b = some (.box pn cs) ∧ b' = some (.box pn cs') ∧ cs.length = cs'.length ∧ ∀ i, lo ≤ i → i < lo + n → cs[i]? = cs'[i]?
theorem pat_get {cs xs : List D} {off : Nat} (h : off + xs.length ≤ cs.length) (i : Nat) : (cs.take off ++ xs ++ cs.drop (off + xs.length))[i]? = if i < off then cs[i]? else if i < off + xs.length then xs[i - off]? else cs[i]? := by
  have h1 : (cs.take off).length = off := by rw [List.length_take]; omega
  by_cases hi : i < off
  · rw [if_pos hi, List.append_assoc, List.getElem?_append_left (by omega), List.getElem?_take, if_pos hi]
  · rw [if_neg hi, List.append_assoc, List.getElem?_append_right (by omega), h1]
    by_cases hk : i < off + xs.length
    · rw [if_pos hk, List.getElem?_append_left (by omega)]
    · rw [if_neg hk, List.getElem?_append_right (by omega), List.getElem?_drop]
      congr 1; omega
theorem pat_len {cs xs : List D} {off : Nat} (h : off + xs.length ≤ cs.length) : (cs.take off ++ xs ++ cs.drop (off + xs.length)).length = cs.length := by
  simp only [List.length_append, List.length_take, List.length_drop]; omega
theorem patB_sim {lo n off : Nat} {xs : List D} {b b' : Option Blk} (h : SimB lo n b b') : SimB lo n (patB off xs b) (patB off xs b') := by
  rcases h with rfl | ⟨pn, cs, cs', rfl, rfl, hl, hg⟩
  · exact .inl rfl
  · simp only [patB]
    by_cases hc : off + xs.length ≤ cs.length
    · rw [if_pos hc, if_pos (by omega)]
      refine .inr ⟨pn, _, _, rfl, rfl, by rw [pat_len hc, pat_len (by omega), hl], fun i h1 h2 => ?_⟩
      rw [pat_get hc, pat_get (by omega)]
      split
      · exact hg i h1 h2
      · split
        · rfl
        · exact hg i h1 h2
    · rw [if_neg hc, if_neg (by omega)]
      exact .inr ⟨pn, cs, cs', rfl, rfl, hl, hg⟩
theorem patB_out {lo n off : Nat} {xs : List D} {b b' : Option Blk} (ho : off + xs.length ≤ lo ∨ lo + n ≤ off) (h : SimB lo n b b') : SimB lo n (patB off xs b) b' := by
  have key : ∀ pn (cs cs' : List D), cs.length = cs'.length → (∀ i, lo ≤ i → i < lo + n → cs[i]? = cs'[i]?) → SimB lo n (patB off xs (some (.box pn cs))) (some (.box pn cs')) := by
    intro pn cs cs' hl hg
    simp only [patB]
    by_cases hc : off + xs.length ≤ cs.length
    · rw [if_pos hc]
      refine .inr ⟨pn, _, _, rfl, rfl, by rw [pat_len hc, hl], fun i h1 h2 => ?_⟩
      rw [pat_get hc]
      split
      · exact hg i h1 h2
      · rw [if_neg (by omega)]; exact hg i h1 h2
    · rw [if_neg hc]; exact .inr ⟨pn, cs, cs', rfl, rfl, hl, hg⟩
  rcases h with rfl | ⟨pn, cs, cs', rfl, rfl, hl, hg⟩
  · cases b with
    | none => exact .inl rfl
    | some bb =>
      cases bb with
      | box pn cs => exact key pn cs cs rfl (fun _ _ _ => rfl)
      | _ => exact .inl rfl
  · exact key pn cs cs' hl hg
theorem SimB.symm {lo n : Nat} {b b' : Option Blk} (h : SimB lo n b b') : SimB lo n b' b := by
  rcases h with rfl | ⟨pn, cs, cs', rfl, rfl, hl, hg⟩
  · exact .inl rfl
  · exact .inr ⟨pn, cs', cs, rfl, rfl, hl.symm, fun i h1 h2 => (hg i h1 h2).symm⟩
theorem patB_comm {off off' : Nat} {xs xs' : List D} {b : Option Blk} (h : off + xs.length ≤ off' ∨ off' + xs'.length ≤ off) : patB off xs (patB off' xs' b) = patB off' xs' (patB off xs b) := by
  cases b with
  | none => rfl
  | some bb =>
    cases bb with
    | box pn cs =>
      simp only [patB]
      by_cases hc : off + xs.length ≤ cs.length <;> by_cases hc' : off' + xs'.length ≤ cs.length
      · rw [if_pos hc, if_pos hc']
        simp only [patB]
        rw [if_pos (by rw [pat_len hc']; exact hc), if_pos (by rw [pat_len hc]; exact hc')]
        congr 2
        apply List.ext_getElem?
        intro i
        rw [pat_get (by rw [pat_len hc']; exact hc), pat_get hc', pat_get (by rw [pat_len hc]; exact hc'), pat_get hc]
        by_cases h1 : i < off <;> by_cases h2 : i < off + xs.length <;> by_cases h3 : i < off' <;> by_cases h4 : i < off' + xs'.length <;> simp only [h1, h2, h3, h4, if_true, if_false] <;> omega
      · rw [if_pos hc, if_neg hc']
        simp only [patB]
        rw [if_pos hc, if_neg (by rw [pat_len hc]; exact hc')]
      · rw [if_neg hc, if_pos hc']
        simp only [patB]
        rw [if_neg (by rw [pat_len hc']; exact hc), if_pos hc']
      · rw [if_neg hc, if_neg hc']
        simp only [patB]
        rw [if_neg hc, if_neg hc']
    | _ => rfl

section
variable {P : Program} {I : World → Prop} {ops : Array Oper} {S : AS} {tr : Nat → D × XE}
def stY (ops : Array Oper) (S : AS) (tr : Nat → D × XE) (X : Nat → Bool) : Nat → AS
  | 0 => S
  | m + 1 => match ops[m]? with
    | some o => if X m then (stY ops S tr X m).stepX o (tr m).1 (tr m).2 else stY ops S tr X m
    | none => stY ops S tr X m
theorem stY_next (X : Nat → Bool) : ∀ m, (stY ops S tr X m).next = S.next ∧ (stY ops S tr X m).nt = S.nt
  | 0 => ⟨rfl, rfl⟩
  | m + 1 => by
    simp only [stY]
    split
    · split
      · exact stY_next X m
      · exact stY_next X m
    · exact stY_next X m
theorem stY_env {X Y : Nat → Bool} {t : Nat} : ∀ m, (∀ i o, i < m → ops[i]? = some o → o.dst = some t → X i = Y i) → (stY ops S tr X m).env t = (stY ops S tr Y m).env t
  | 0, _ => rfl
  | m + 1, h => by
    have ih := stY_env (X := X) (Y := Y) m fun i o hi => h i o (by omega)
    simp only [stY]
    cases ho : ops[m]? with
    | none => exact ih
    | some o =>
      simp only
      by_cases hd : o.dst = some t
      · have hxy := h m o (by omega) ho hd
        rw [hxy]
        split
        · simp [AS.stepX, hd, upd]
        · exact ih
      · have hstep : ∀ S1 : AS, (S1.stepX o (tr m).1 (tr m).2).env t = S1.env t := by
          intro S1
          simp only [AS.stepX]
          cases hdst : o.dst with
          | none => rfl
          | some t' => simp only [upd]; rw [if_neg (fun e => hd (by rw [hdst, e]))]
        split <;> split <;> simp only [hstep, ih]
theorem stY_cut (j : Nat) : ∀ m, j ≤ m → stY ops S tr (fun i => decide (i < j)) m = stY ops S tr (fun _ => true) j := by
  intro m
  induction m with
  | zero => intro h; obtain rfl : j = 0 := (by omega); rfl
  | succ m ih =>
    intro h
    by_cases hj : j = m + 1
    · subst hj
      have : ∀ m', m' ≤ m + 1 → stY ops S tr (fun i => decide (i < m + 1)) m' = stY ops S tr (fun _ => true) m' := by
        intro m'
        induction m' with
        | zero => intro _; rfl
        | succ m' ih' =>
          intro h'
          have hm : decide (m' < m + 1) = true := decide_eq_true (by omega)
          simp only [stY, ih' (by omega), hm]
      exact this _ (Nat.le_refl _)
    · have hm : decide (m < j) = false := decide_eq_false (by omega)
      have ihm := ih (by omega)
      simp only [stY]
      cases ops[m]? with
      | none => exact ihm
      | some o => simp only [hm, Bool.false_eq_true, if_false]; exact ihm
theorem light_out {nid : Nat} {e : Eff} {id : Nat} (h : effOk nid e = true) (hne : id ≠ nid) (H : Nat → Option Blk) : appEff H e id = H id := by
  refine appEff_notin _ _ _ fun p hp hpe => hne ?_
  unfold effOk at h
  split at h
  · cases hp
  · simp at hp h
    subst hp
    rw [← hpe, h]
  · simp at h
/-- Two sets of operations leave a block alike. -/
theorem stY_sim {X Y : Nat → Bool} {id lo n : Nat} : ∀ m, (∀ i e, i < m → (tr i).2 = .eff e → effOk (S.next + i) e = false → X i = Y i ∨ ∀ p ∈ e, p.1 ≠ id) → (∀ i, i < m → id = S.next + i → X i = Y i) →
    (∀ i off xs, i < m → (tr i).2 = .pat id off xs → X i = Y i ∨ off + xs.length ≤ lo ∨ lo + n ≤ off) → SimB lo n ((stY ops S tr X m).heap id) ((stY ops S tr Y m).heap id)
  | 0, _, _, _ => .inl rfl
  | m + 1, hv, h, hp => by
    have ih := stY_sim (X := X) (Y := Y) (id := id) (lo := lo) (n := n) m (fun i e hi => hv i e (by omega)) (fun i hi => h i (by omega)) (fun i off xs hi => hp i off xs (by omega))
    simp only [stY]
    cases ho : ops[m]? with
    | none => exact ih
    | some o =>
      simp only
      have both : ∀ (S1 S2 : AS), SimB lo n (S1.heap id) (S2.heap id) → SimB lo n ((S1.stepX o (tr m).1 (tr m).2).heap id) ((S2.stepX o (tr m).1 (tr m).2).heap id) := by
        intro S1 S2 hs
        simp only [AS.stepX]
        cases hx : (tr m).2 with
        | eff e =>
          simp only [appX]
          by_cases h1 : ∃ p ∈ e, p.1 = id
          · exact .inl (appEff_in e _ _ id h1)
          · have h1' : ∀ p ∈ e, p.1 ≠ id := fun p hp he => h1 ⟨p, hp, he⟩
            rw [appEff_notin e _ id h1', appEff_notin e _ id h1']; exact hs
        | pat id' off xs =>
          simp only [appX, upd]
          by_cases he : id = id'
          · subst he; simp only [if_true]; exact patB_sim hs
          · rw [if_neg he, if_neg he]; exact hs
      have same : X m = Y m → SimB lo n ((if X m = true then (stY ops S tr X m).stepX o (tr m).1 (tr m).2 else stY ops S tr X m).heap id) ((if Y m = true then (stY ops S tr Y m).stepX o (tr m).1 (tr m).2 else stY ops S tr Y m).heap id) := by
        intro hxy
        rw [hxy]
        split
        · exact both _ _ ih
        · exact ih
      cases hx : (tr m).2 with
      | eff e =>
        rw [← hx]
        cases he : effOk (S.next + m) e with
        | false =>
          rcases hv m e (by omega) hx he with hxy | hni
          · exact same hxy
          · have hstep : ∀ S1 : AS, (S1.stepX o (tr m).1 (tr m).2).heap id = S1.heap id := by
              intro S1
              simp only [AS.stepX, hx, appX]
              exact appEff_notin _ _ _ hni
            split <;> split <;> (try simp only [hstep]) <;> exact ih
        | true =>
          by_cases hid : id = S.next + m
          · exact same (h m (by omega) hid)
          · have hstep : ∀ S1 : AS, (S1.stepX o (tr m).1 (tr m).2).heap id = S1.heap id := by
              intro S1
              simp only [AS.stepX, hx, appX]
              exact light_out he hid _
            split <;> split <;> (try simp only [hstep]) <;> exact ih
      | pat id' off xs =>
        rw [← hx]
        by_cases hid : id' = id
        · subst hid
          rcases hp m off xs (by omega) hx with h1 | h1
          · exact same h1
          · have out1 : ∀ (S1 : AS) b', SimB lo n (S1.heap id') b' → SimB lo n ((S1.stepX o (tr m).1 (tr m).2).heap id') b' := by
              intro S1 b' hs
              simp only [AS.stepX, hx, appX, upd, if_true]
              exact patB_out h1 hs
            split <;> split
            · exact both _ _ ih
            · exact out1 _ _ ih
            · exact (out1 _ _ ih.symm).symm
            · exact ih
        · have hstep : ∀ S1 : AS, (S1.stepX o (tr m).1 (tr m).2).heap id = S1.heap id := by
            intro S1
            simp only [AS.stepX, hx, appX, upd]
            rw [if_neg (fun e => hid e.symm)]
          split <;> split <;> (try simp only [hstep]) <;> exact ih
theorem stY_heap {X Y : Nat → Bool} {id : Nat} : ∀ m, (∀ i e, i < m → (tr i).2 = .eff e → effOk (S.next + i) e = false → X i = Y i ∨ ∀ p ∈ e, p.1 ≠ id) → (∀ i, i < m → id = S.next + i → X i = Y i) →
    (∀ i off xs, i < m → (tr i).2 = .pat id off xs → X i = Y i) → (stY ops S tr X m).heap id = (stY ops S tr Y m).heap id
  | 0, _, _, _ => rfl
  | m + 1, hv, h, hp => by
    have ih := stY_heap (X := X) (Y := Y) (id := id) m (fun i e hi => hv i e (by omega)) (fun i hi => h i (by omega)) (fun i off xs hi => hp i off xs (by omega))
    simp only [stY]
    cases ho : ops[m]? with
    | none => exact ih
    | some o =>
      simp only
      have same : X m = Y m → (if X m = true then (stY ops S tr X m).stepX o (tr m).1 (tr m).2 else stY ops S tr X m).heap id = (if Y m = true then (stY ops S tr Y m).stepX o (tr m).1 (tr m).2 else stY ops S tr Y m).heap id := by
        intro hxy
        rw [hxy]
        split
        · simp only [AS.stepX]
          cases hx : (tr m).2 with
          | eff e => simp only [appX]; exact appEff_congr _ _ _ id ih
          | pat id' off xs =>
            simp only [appX, upd]
            by_cases he : id = id'
            · subst he; simp only [if_true, ih]
            · rw [if_neg he, if_neg he]; exact ih
        · exact ih
      cases hx : (tr m).2 with
      | eff e =>
        rw [← hx]
        cases he : effOk (S.next + m) e with
        | false =>
          rcases hv m e (by omega) hx he with hxy | hni
          · exact same hxy
          · have hstep : ∀ S1 : AS, (S1.stepX o (tr m).1 (tr m).2).heap id = S1.heap id := by
              intro S1
              simp only [AS.stepX, hx, appX]
              exact appEff_notin _ _ _ hni
            split <;> split <;> simp only [hstep, ih]
        | true =>
          by_cases hid : id = S.next + m
          · exact same (h m (by omega) hid)
          · have hstep : ∀ S1 : AS, (S1.stepX o (tr m).1 (tr m).2).heap id = S1.heap id := by
              intro S1
              simp only [AS.stepX, hx, appX]
              exact light_out he hid _
            split <;> split <;> simp only [hstep, ih]
      | pat id' off xs =>
        rw [← hx]
        by_cases hid : id' = id
        · subst hid; exact same (hp m off xs (by omega) hx)
        · have hstep : ∀ S1 : AS, (S1.stepX o (tr m).1 (tr m).2).heap id = S1.heap id := by
            intro S1
            simp only [AS.stepX, hx, appX, upd]
            rw [if_neg (fun e => hid e.symm)]
          split <;> split <;> simp only [hstep, ih]
/-- Two effects commute at a block. -/
def XComm (x y : XE) (id : Nat) : Prop := ∀ H, appX (appX H x) y id = appX (appX H y) x id
theorem appX_congr {x : XE} {H H' : Nat → Option Blk} {id : Nat} (h : H id = H' id) : appX H x id = appX H' x id := by
  cases x with
  | eff e => exact appEff_congr _ _ _ id h
  | pat id' off xs =>
    simp only [appX, upd]
    split
    · rename_i he; subst he; rw [h]
    · exact h
theorem stY_comm {X X' : Nat → Bool} {j : Nat} {o : Oper} (hX : ∀ i, X' i = if i = j then true else X i) (hj : X j = false) (ho : ops[j]? = some o) (hc : ∀ m, j < m → m < ops.size → X m = true → ∀ id, XComm (tr j).2 (tr m).2 id) (id : Nat) :
    ∀ m, j < m → m ≤ ops.size → (stY ops S tr X' m).heap id = appX (stY ops S tr X m).heap (tr j).2 id := by
  have hsame : ∀ m, m ≤ j → stY ops S tr X' m = stY ops S tr X m := by
    intro m
    induction m with
    | zero => intro _; rfl
    | succ m ihm =>
      intro hm
      have hXm : X' m = X m := by rw [hX, if_neg (by omega)]
      simp only [stY, ihm (by omega), hXm]
  intro m
  induction m with
  | zero => intro h; omega
  | succ m ihm =>
    intro hjm hms
    by_cases hmj : m = j
    · subst hmj
      have hXm : X' m = true := by rw [hX, if_pos rfl]
      simp only [stY, ho, hsame m (Nat.le_refl _), hXm, if_true, hj, Bool.false_eq_true, if_false, AS.stepX]
    · have ih2 := ihm (by omega) (by omega)
      have hom : ops[m]? = some ops[m] := Array.getElem?_eq_getElem (by omega)
      have hXm : X' m = X m := by rw [hX, if_neg hmj]
      simp only [stY, hom, hXm]
      cases hxm : X m with
      | false => simp only [Bool.false_eq_true, if_false]; exact ih2
      | true =>
        simp only [if_true, AS.stepX]
        rw [appX_congr ih2]
        exact hc m (by omega) (by omega) hxm id _

/-- What an operation looks at. -/
inductive Foot where
  | all
  | cell (id off n : Nat)
  | ids (l : List Nat)
def apartF (id off k : Nat) : Foot → Bool
  | .all => false
  | .cell id' off' n => !(id' == id) || decide (off + k ≤ off') || decide (off' + n ≤ off)
  | .ids l => !memN l id
/-- Blocks that are not looked at. -/
def apartL (l : List Nat) : Foot → Bool
  | .all => false
  | .cell id _ _ => !memN l id
  | .ids l' => l.all fun a => !memN l' a
def FootOK (P : Program) (I : World → Prop) (ops : Array Oper) (i : Nat) (S : AS) (o : Oper) (d : D) (x : XE) : Foot → Prop
  | .all => True
  | .cell id off n => (∃ b, S.heap id = some b) ∧ ((∃ t a, o.op = .load t a ∧ S.val a = .ptr id off ∧ (aggT P t = some true → szT P t = some n) ∧ 0 < n) ∨ (∃ t a v, o.op = .store t a v ∧ S.val a = .ptr id off ∧ ((∃ xs, x = .pat id off xs ∧ xs.length = n) ∨ awant ops S.env o = some false)))
  | .ids l => (∀ t ∈ o.looksAt ops, ∀ id ∈ (S.env t).ids, id ∈ l) ∧ ∃ e, x = .eff e ∧ St1N P I ops i o S d e
/-- One operation, whole blocks or cells. -/
def StX (P : Program) (I : World → Prop) (ops : Array Oper) (i : Nat) (o : Oper) (S : AS) (d : D) : XE → Prop
  | .eff e => St1 P I ops i o S d e
  | .pat id off xs => awant ops S.env o = some true ∧ d = .undef ∧ ∃ t a v pn cs, o.op = .store t a v ∧ S.val a = .ptr id off ∧ xs = (S.val v).cells ∧ S.heap id = some (.box pn cs) ∧ (S.val v).okS = true ∧ szT P t = some xs.length ∧ off + xs.length ≤ cs.length
theorem StX.toO {i : Nat} {o : Oper} {d : D} {x : XE} (h : StX P I ops i o S d x) : awpO P I ops i o S (· = S.stepX o d x) := by
  cases x with
  | eff e => exact St1.toO h
  | pat id off xs =>
    obtain ⟨h1, rfl, t, a, v, pn, cs, h2, h3, rfl, h4, h5, h6, h7⟩ := h
    unfold awpO
    simp only [h1, if_true]
    have hc : acallee S o.op = none := by rw [h2]; rfl
    simp only [hc, h2, aop, h3, h4]
    rw [if_pos ⟨h5, h6, h7⟩]
    simp only [AS.step, AS.stepX, appX, appEff, patB, h4]
    rw [if_pos h7]
    rfl
theorem loadD_cells {P : Program} {t : TypeId} {ds ds' : List D} {n : Nat} {d : D} (hl : ds.length = ds'.length) (hg : ∀ i, i < n → ds[i]? = ds'[i]?) (hz : aggT P t = some true → szT P t = some n) (hn : 0 < n) (h : loadD P t ds = some d) : loadD P t ds' = some d := by
  unfold loadD at h ⊢
  cases ha : aggT P t with
  | none => rw [ha] at h; simp at h
  | some b =>
    rw [ha] at h
    cases b with
    | true =>
      simp only [hz ha] at h ⊢
      split at h
      · rename_i hle
        rw [if_pos (by omega)]
        rw [← h]
        congr 2
        apply List.ext_getElem?
        intro i
        rw [List.getElem?_take, List.getElem?_take]
        split
        · rename_i hi; exact (hg i hi).symm
        · rfl
      · simp at h
    | false =>
      simp only at h ⊢
      rw [List.head?_eq_getElem?] at h ⊢
      rw [← hg 0 hn]
      exact h
theorem StX.mono {S' : AS} {i : Nat} {o : Oper} {d : D} {x : XE} {f : Foot} (hq : quietOp o.op = true) (hn : S'.next = S.next) (he : ∀ t ∈ o.looksAt ops, S'.env t = S.env t) (hf : heapy o.op = true → FootOK P I ops i S o d x f)
    (hcell : heapy o.op = true → ∀ id off n, f = .cell id off n → SimB off n (S.heap id) (S'.heap id)) (hids : heapy o.op = true → ∀ l, f = .ids l → ∀ id ∈ l, ∀ t ∈ o.looksAt ops, id ∈ (S.env t).ids → ∀ b, S.heap id = some b → S'.heap id = some b)
    (hall : heapy o.op = true → f = .all → (∀ t ∈ o.looksAt ops, Sub S.heap S'.heap (S.env t).ids) ∧ ∀ id b, id < S.next → S.heap id = some b → S'.heap id = some b)
    (hpf : ∀ id off xs, x = .pat id off xs → f = .cell id off xs.length) (h : StX P I ops i o S d x) : StX P I ops i o S' d x := by
  have hops : ∀ y ∈ o.op.operands.toList, S'.val y = S.val y := by
    intro y hy
    cases y with
    | tmp t => exact he t (by unfold Oper.looksAt; exact List.mem_append_left _ (List.mem_filterMap.2 ⟨_, hy, rfl⟩))
    | _ => rfl
  have hw : awant ops S'.env o = awant ops S.env o := by
    unfold awant
    cases hg : o.guard with
    | none => rfl
    | some jw =>
      obtain ⟨j, want⟩ := jw
      simp only
      cases hj : gdst ops j with
      | none => rfl
      | some t =>
        simp only
        rw [he t]
        unfold Oper.looksAt
        refine List.mem_append_right _ ?_
        rw [hg]
        unfold gdst at hj
        cases ho : ops[j]? with
        | none => rw [ho] at hj; simp at hj
        | some oj => rw [ho] at hj; simp [ho]; simpa using hj
  cases hhp : heapy o.op with
  | false =>
    cases x with
    | eff e => exact St1.mono hq hn he (fun h => by rw [hhp] at h; cases h) (fun h => by rw [hhp] at h; cases h) h
    | pat id off xs => obtain ⟨_, _, t, a, v, pn, cs, h2, _⟩ := h; rw [h2] at hhp; simp [heapy] at hhp
  | true =>
    cases f with
    | all =>
      cases x with
      | eff e => exact St1.mono hq hn he (fun _ => (hall hhp rfl).1) (fun _ _ => (hall hhp rfl).2) h
      | pat id off xs => have := hpf id off xs rfl; cases this
    | ids l =>
      cases x with
      | eff e =>
        obtain ⟨h1, e', h2, h3⟩ := hf hhp
        injection h2 with h2
        subst h2
        exact (St1N.mono hq hn he (fun _ t ht id hid b hb => hids hhp l rfl id (h1 t ht id hid) t ht hid b hb) h3).to1
      | pat id off xs => have := hpf id off xs rfl; cases this
    | cell id off n =>
      have hs := hcell hhp id off n rfl
      rcases (hf hhp).2 with ⟨t, a, ho, ha, hz, hn0⟩ | ⟨t, a, v, ho, ha, hvx⟩
      · -- a load
        cases x with
        | pat id' off' xs => obtain ⟨_, _, t', a', v, pn, cs, h2, _⟩ := h; rw [ho] at h2; cases h2
        | eff e =>
          rcases h with ⟨h1, h2, h3⟩ | ⟨h1, h2⟩
          · exact .inl ⟨by rw [hw]; exact h1, h2, h3⟩
          · refine .inr ⟨by rw [hw]; exact h1, ?_⟩
            have hac : ∀ S : AS, acallee S o.op = none := fun S => by rw [ho]; rfl
            rcases h2 with ⟨f', ds, ds', h3, _⟩ | ⟨h3, h4⟩ | ⟨f', ds, _, _, _, h3, _⟩
            · rw [hac] at h3; cases h3
            · refine .inr (.inl ⟨hac S', ?_⟩)
              have ha' : S'.val a = .ptr id off := by rw [hops a (by rw [ho]; simp [Op.operands])]; exact ha
              simp only [ho, aop, ha] at h4
              simp only [ho, aop, ha']
              rcases hs with hs | ⟨pn, cs, cs', e1, e2, e3, e4⟩
              · rw [← hs]; exact h4
              · rw [e1] at h4
                rw [e2]
                simp only [Option.map_eq_some_iff] at h4 ⊢
                obtain ⟨d', h5, h6⟩ := h4
                refine ⟨d', loadD_cells (by simp [e3]) (fun i hi => ?_) hz hn0 h5, h6⟩
                rw [List.getElem?_drop, List.getElem?_drop]
                exact e4 _ (by omega) (by omega)
            · rw [hac] at h3; cases h3
      · -- a store
        have hav : S'.val a = .ptr id off := by rw [hops a (by rw [ho]; simp [Op.operands])]; exact ha
        have hvv : S'.val v = S.val v := hops v (by rw [ho]; simp [Op.operands])
        cases x with
        | eff e =>
          rcases h with ⟨h1, h2, h3⟩ | ⟨h1, h2⟩
          · exact .inl ⟨by rw [hw]; exact h1, h2, h3⟩
          · rcases hvx with ⟨xs, hxs, _⟩ | hvx
            · cases hxs
            · rw [h1] at hvx; cases hvx
        | pat id' off' xs =>
          obtain ⟨h1, rfl, t', a', v', pn, cs, h2, h3, rfl, h4, h5, h6, h7⟩ := h
          rw [ho] at h2
          injection h2 with e1 e2 e3
          subst e1 e2 e3
          rw [ha] at h3
          injection h3 with e1 e2
          subst e1 e2
          rcases hs with hs | ⟨pn', cs1, cs', e1, e2, e3, e4⟩
          · exact ⟨by rw [hw]; exact h1, rfl, t, a, v, pn, cs, ho, hav, by rw [hvv], by rw [← hs]; exact h4, by rw [hvv]; exact h5, h6, h7⟩
          · rw [h4] at e1
            injection e1 with e1; injection e1 with e1 e5
            subst e1 e5
            exact ⟨by rw [hw]; exact h1, rfl, t, a, v, pn, cs', ho, hav, by rw [hvv], e2, by rw [hvv]; exact h5, h6, by omega⟩

theorem XComm.eff {e e' : Eff} (h : ∀ p ∈ e, ∀ q ∈ e', p.1 ≠ q.1) (id : Nat) : XComm (.eff e) (.eff e') id := fun H => appEff_comm e e' H id h
theorem XComm.patEff {pid off : Nat} {xs : List D} {e : Eff} (h : ∀ q ∈ e, q.1 ≠ pid) (id : Nat) : XComm (.pat pid off xs) (.eff e) id := by
  intro H
  simp only [appX]
  by_cases hid : id = pid
  · subst hid
    rw [appEff_notin e _ id h]
    simp only [upd, if_true]
    rw [appEff_notin e _ id h]
  · rw [show upd (appEff H e) pid (patB off xs (appEff H e pid)) id = appEff H e id by simp only [upd]; rw [if_neg hid]]
    refine appEff_congr e _ _ id ?_
    simp only [upd]; rw [if_neg hid]
theorem XComm.symm {x y : XE} {id : Nat} (h : XComm x y id) : XComm y x id := fun H => (h H).symm
theorem XComm.pat {a b off off' : Nat} {xs xs' : List D} (h : a ≠ b ∨ off + xs.length ≤ off' ∨ off' + xs'.length ≤ off) (id : Nat) : XComm (.pat a off xs) (.pat b off' xs') id := by
  intro H
  simp only [appX, upd]
  by_cases hab : a = b
  · subst hab
    by_cases hid : id = a
    · subst hid
      simp only [if_true]
      rcases h with h | h
      · exact absurd rfl h
      · exact (patB_comm (h.symm)).symm ▸ rfl
    · simp only [if_neg hid]
  · by_cases h1 : id = a
    · subst h1
      simp only [if_true, if_neg hab]
    · by_cases h2 : id = b
      · subst h2
        simp only [if_true, if_neg h1]
      · simp only [if_neg h1, if_neg h2]

set_option maxHeartbeats 2000000 in
/-- Every order comes to the state of the order of the text. -/
theorem draw_any2 {ft : Nat → Foot} {G : Gh} {Q : Exit → Act → World → Prop} (hstab : Stab I) (hd : dstsOk ops S.nt = true) (hok : drawOk ops = true) (heff : ∀ i e, (tr i).2 = .eff e → effOk (S.next + i) e = true ∨ (effIn ops S.next i e = true ∧ ∀ j oj, ops[j]? = some oj → j ≠ i → heapy oj.op = true → ((aheads ops).getD (max j i) 0).testBit (min j i) = true ∨ (apartL (e.map (·.1)) (ft j) = true ∧ ∀ e', (tr j).2 = .eff e' → effOk (S.next + j) e' = true ∨ ∀ p ∈ e, ∀ q ∈ e', p.1 ≠ q.1))) (hS : ∀ id b, S.heap id = some b → id < S.next)
    (hft : ∀ i o, ops[i]? = some o → heapy o.op = true → FootOK P I ops i (stY ops S tr (fun _ => true) i) o (tr i).1 (tr i).2 (ft i))
    (hpf : ∀ i id off xs, (tr i).2 = .pat id off xs → i < ops.size ∧ ft i = .cell id off xs.length)
    (hpat : ∀ i id off xs, (tr i).2 = .pat id off xs → (id < S.next ∨ ∃ m, m < i ∧ id = S.next + m ∧ ((aheads ops).getD i 0).testBit m = true) ∧
      ∀ j oj, ops[j]? = some oj → j ≠ i → heapy oj.op = true → ((aheads ops).getD (max j i) 0).testBit (min j i) = true ∨ (apartF id off xs.length (ft j) = true ∧ ∀ e, (tr j).2 = .eff e → effOk (S.next + j) e = true ∨ ∀ q ∈ e, q.1 ≠ id))
    (hT : ∀ i o, ops[i]? = some o → StX P I ops i o (stY ops S tr (fun _ => true) i) (tr i).1 (tr i).2)
    (hQ : ∀ C a w, Rel I G (fun id => id < S.next + ops.size) (stY ops S tr (fun _ => true) ops.size) C a w → Q .normal a w) :
    ∀ (fuel : Nat) (listed : Array Bool) (C : Cx) (a : Act) (w : World), listed.size = ops.size → (∀ j o, ops[j]? = some o → listed.getD j false = true → ∀ e ∈ edgesOf o, listed.getD e false = true) → (listed.toList.filter (fun b => !b)).length ≤ fuel →
      Rel I G (fun id => id < S.next ∨ ∃ i, i < ops.size ∧ listed.getD i false = true ∧ id = S.next + i) (stY ops S tr (fun i => listed.getD i false) ops.size) C a w → wpAny P .any ops Q fuel listed a w := by
  -- the static conditions
  simp only [drawOk, Bool.and_eq_true] at hok
  obtain ⟨hok1, hok2⟩ := hok
  have quiet : ∀ j o, ops[j]? = some o → quietOp o.op = true ∧ ∀ e ∈ edgesOf o, e < j := by
    intro j o ho
    have hm : (o, j) ∈ ops.toList.zipIdx := by
      rw [List.mem_zipIdx_iff_getElem?]; simpa using ho
    have := List.all_eq_true.1 hok1 (o, j) hm
    simp only [Bool.and_eq_true, List.all_eq_true, decide_eq_true_eq] at this
    exact this
  have order : ∀ i j oi oj t, ops[i]? = some oi → ops[j]? = some oj → i ≠ j → oi.dst = some t → (t ∈ oj.looksAt ops ∨ oj.dst = some t) → ((aheads ops).getD (max i j) 0).testBit (min i j) = true := by
    intro i j oi oj t hi hj hne hdst ht
    have hm : (oj, j) ∈ ops.toList.zipIdx := by rw [List.mem_zipIdx_iff_getElem?]; simpa using hj
    have hm' : (oi, i) ∈ ops.toList.zipIdx := by rw [List.mem_zipIdx_iff_getElem?]; simpa using hi
    have := List.all_eq_true.1 (List.all_eq_true.1 hok2 (oj, j) hm) (oi, i) hm'
    simp only [hdst, Bool.or_eq_true, Bool.and_eq_true, beq_iff_eq, Bool.not_eq_true', bne_iff_ne, ne_eq] at this
    rcases this with h | h | h
    · exact absurd h hne
    · rcases ht with ht | ht
      · have : (oj.looksAt ops).contains t = true := by simpa using ht
        rw [this] at h; simp at h
      · exact absurd ht h.2
    · exact h
  have T_dst : ∀ j o, ops[j]? = some o → j < ops.size := by
    intro j o ho
    rcases Nat.lt_or_ge j ops.size with h | h
    · exact h
    · rw [Array.getElem?_eq_none h] at ho; cases ho
  have heavy : ∀ i e, (tr i).2 = .eff e → effOk (S.next + i) e = false → effIn ops S.next i e = true ∧ ∀ j oj, ops[j]? = some oj → j ≠ i → heapy oj.op = true → ((aheads ops).getD (max j i) 0).testBit (min j i) = true ∨ (apartL (e.map (·.1)) (ft j) = true ∧ ∀ e', (tr j).2 = .eff e' → effOk (S.next + j) e' = true ∨ ∀ p ∈ e, ∀ q ∈ e', p.1 ≠ q.1) := by
    intro i e hx hi
    rcases heff i e hx with h | h
    · rw [hi] at h; cases h
    · exact h
  have efflight : ∀ i e, effOk (S.next + i) e = true → ∀ p ∈ e, p.1 = S.next + i := by
    intro i e he p hp
    unfold effOk at he
    split at he
    · cases hp
    · simp at hp he
      subst hp
      exact he
    · simp at he
  have effin : ∀ i e, (tr i).2 = .eff e → ∀ p ∈ e, p.1 < S.next ∨ p.1 = S.next + i ∨ (p.1 < S.next + i ∧ ((aheads ops).getD i 0).testBit (p.1 - S.next) = true) := by
    intro i e hx p hp
    cases he : effOk (S.next + i) e with
    | false =>
      have := List.all_eq_true.1 (heavy i e hx he).1 p hp
      simp only [Bool.or_eq_true, decide_eq_true_eq, beq_iff_eq, Bool.and_eq_true] at this
      rcases this with (h | h) | h
      · exact .inl h
      · exact .inr (.inl h)
      · exact .inr (.inr h)
    | true => exact .inr (.inl (efflight i e he p hp))
  have fresh : ∀ j i, j ≤ i → ∀ m, (stY ops S tr (fun i => decide (i < j)) m).heap (S.next + i) = S.heap (S.next + i) := by
    intro j i hji m
    induction m with
    | zero => rfl
    | succ m ihm =>
      simp only [stY]
      cases hom : ops[m]? with
      | none => exact ihm
      | some om =>
        simp only
        split
        · rename_i hm
          have hm' : m < j := by simpa using hm
          simp only [AS.stepX]
          cases hx : (tr m).2 with
          | eff e =>
            simp only [appX]
            rw [appEff_notin _ _ _ (fun p hp => by rcases effin m e hx p hp with h | h | h <;> omega)]
            exact ihm
          | pat id off xs =>
            simp only [appX, upd]
            rw [if_neg (fun e => by rcases (hpat m id off xs hx).1 with h | ⟨m', h1, h2, _⟩ <;> omega)]
            exact ihm
        · exact ihm
  have endst : ∀ (listed : Array Bool), (∀ i, i < ops.size → listed.getD i false = true) → stY ops S tr (fun i => listed.getD i false) ops.size = stY ops S tr (fun _ => true) ops.size := by
    intro listed hall
    exact AS.ext2 (fun t => stY_env _ fun i o hi _ _ => hall i hi) (fun id => stY_heap _ (fun i e hi _ _ => .inl (hall i hi)) (fun i hi _ => hall i hi) (fun i off xs hi _ => hall i hi)) (by rw [(stY_next _ _).1, (stY_next _ _).1]) (by rw [(stY_next _ _).2, (stY_next _ _).2])
  intro fuel
  induction fuel with
  | zero =>
    intro listed C a w hsz hcl hfu hR
    have hall : ∀ i, i < ops.size → listed.getD i false = true := by
      intro i hi
      have hnil : listed.toList.filter (fun b => !b) = [] := List.eq_nil_of_length_eq_zero (by omega)
      rw [List.filter_eq_nil_iff] at hnil
      have hlt : i < listed.size := by omega
      have := hnil listed[i] (by simp)
      simpa [Array.getD, hlt] using this
    refine ⟨?_, ?_⟩
    · cases hr : Region.ready .any ops listed with
      | nil => rfl
      | cons j rest =>
        have hj : j ∈ Region.ready .any ops listed := by rw [hr]; simp
        obtain ⟨o, ho, h1, _⟩ := mem_ready'.1 hj
        have h2 := hall j (T_dst j o ho)
        have hlt : j < listed.size := by have := T_dst j o ho; omega
        simp [Array.getD, hlt] at h1 h2
        rw [h1] at h2; cases h2
    · refine hQ C a w ?_
      rw [endst listed hall] at hR
      exact ⟨hR.ok, hR.inv, hR.below, hR.new, hR.ext, hR.defers, hR.size, fun id hl => by rcases hR.live id hl with h | ⟨i, hi, _, h⟩ <;> omega⟩
  | succ fuel ih =>
    intro listed C a w hsz hcl hfu hR
    refine ⟨fun hr => ?_, fun j hj => ?_⟩
    · -- nothing is ready: all are done
      have hall : ∀ i, i < ops.size → listed.getD i false = true := by
        intro i
        induction i using Nat.strongRecOn with
        | _ i ihi =>
          intro hi
          cases hb : listed.getD i false with
          | true => rfl
          | false =>
            exfalso
            have ho : ops[i]? = some ops[i] := Array.getElem?_eq_getElem hi
            have hlt : i < listed.size := by omega
            have : i ∈ Region.ready .any ops listed := mem_ready'.2 ⟨_, ho, by simpa [Array.getD, hlt] using hb, fun e he => ihi e ((quiet i _ ho).2 e he) (by have := (quiet i _ ho).2 e he; omega)⟩
            rw [hr] at this
            cases this
      refine hQ C a w ?_
      rw [endst listed hall] at hR
      exact ⟨hR.ok, hR.inv, hR.below, hR.new, hR.ext, hR.defers, hR.size, fun id hl => by rcases hR.live id hl with h | ⟨i, hi, _, h⟩ <;> omega⟩
    · obtain ⟨o, ho, hl0, hed⟩ := mem_ready'.1 hj
      have hjlt := T_dst j o ho
      have hjl : j < listed.size := by omega
      have hjX : listed.getD j false = false := by simpa [Array.getD, hjl] using hl0
      have XX : ∀ j' o', ops[j']? = some o' → listed.getD j' false = true → ∀ e ∈ edgesOf o', listed.getD e false = true := hcl
      have done : ∀ i, ((aheads ops).getD j 0).testBit i = true → listed.getD i false = true := fun i hb => aheads_spec (fun i => listed.getD i false = true) XX j o ho hed i hb
      have notdone : ∀ i oi, ops[i]? = some oi → ((aheads ops).getD i 0).testBit j = true → listed.getD i false = false := by
        intro i oi hi hb
        cases hx : listed.getD i false with
        | false => rfl
        | true =>
          have := aheads_spec (fun i => listed.getD i false = true) XX i oi hi (XX i oi hi hx) j hb
          rw [hjX] at this; cases this
      -- what is ordered against j stands as in the text
      have byord : ∀ i, i < ops.size → i ≠ j → ((aheads ops).getD (max i j) 0).testBit (min i j) = true → listed.getD i false = decide (i < j) := by
        intro i hi hne hb
        have hoi : ops[i]? = some ops[i] := Array.getElem?_eq_getElem hi
        by_cases hij : i < j
        · rw [Nat.max_eq_right (by omega), Nat.min_eq_left (by omega)] at hb
          rw [done i hb, decide_eq_true hij]
        · rw [Nat.max_eq_left (by omega), Nat.min_eq_right (by omega)] at hb
          rw [notdone i _ hoi hb, decide_eq_false hij]
      have agree : ∀ t, (t ∈ o.looksAt ops ∨ o.dst = some t) → ∀ i oi, ops[i]? = some oi → oi.dst = some t → i ≠ j → listed.getD i false = decide (i < j) := by
        intro t ht i oi hi hdst hne
        exact byord i (T_dst i oi hi) hne (order i j oi o t hi ho hne hdst ht)
      have hcut := stY_cut (ops := ops) (S := S) (tr := tr) j ops.size (by omega)
      have henv : ∀ t ∈ o.looksAt ops, (stY ops S tr (fun i => listed.getD i false) ops.size).env t = (stY ops S tr (fun _ => true) j).env t := by
        intro t ht
        rw [← hcut]
        refine stY_env _ fun i oi _ hi hdst => ?_
        by_cases hne : i = j
        · subst hne; rw [hjX, decide_eq_false (by omega)]
        · exact agree t (.inl ht) i oi hi hdst hne
      have hvj : heapy o.op = true → ∀ i e, i < ops.size → (tr i).2 = .eff e → effOk (S.next + i) e = false → listed.getD i false = decide (i < j) ∨ apartL (e.map (·.1)) (ft j) = true := by
        intro hp i e hi hx he
        by_cases hne : i = j
        · subst hne; left; rw [hjX, decide_eq_false (by omega)]
        · rcases (heavy i e hx he).2 j o ho (fun e => hne e.symm) hp with hb | hb
          · left; rw [Nat.max_comm, Nat.min_comm] at hb; exact byord i hi hne hb
          · exact .inr hb.1
      have apc : ∀ (e : Eff) id off n, ft j = .cell id off n → apartL (e.map (·.1)) (ft j) = true → ∀ p ∈ e, p.1 ≠ id := by
        intro e id off n hfe h p hp hpe
        rw [hfe] at h
        simp only [apartL, Bool.not_eq_true'] at h
        rw [memN_iff.2 (by rw [← hpe]; exact List.mem_map_of_mem hp)] at h
        cases h
      have api : ∀ (e : Eff) l id, ft j = .ids l → id ∈ l → apartL (e.map (·.1)) (ft j) = true → ∀ p ∈ e, p.1 ≠ id := by
        intro e l id hfe hil h p hp hpe
        rw [hfe] at h
        have := List.all_eq_true.1 h p.1 (List.mem_map_of_mem hp)
        simp only [Bool.not_eq_true'] at this
        rw [hpe, memN_iff.2 hil] at this
        cases this
      -- a patch that is not ordered against j is apart from what j looks at
      have hpj : heapy o.op = true → ∀ i id off xs, i < ops.size → (tr i).2 = .pat id off xs → listed.getD i false = decide (i < j) ∨ apartF id off xs.length (ft j) = true := by
        intro hp i id off xs hi hx
        by_cases hne : i = j
        · subst hne; left; rw [hjX, decide_eq_false (by omega)]
        · rcases (hpat i id off xs hx).2 j o ho (fun e => hne e.symm) hp with hb | hb
          · left; rw [Nat.max_comm, Nat.min_comm] at hb; exact byord i hi hne hb
          · exact .inr hb.1
      have hrepj : ∀ t ∈ o.looksAt ops, ∀ id ∈ ((stY ops S tr (fun _ => true) j).env t).ids, id < S.next ∨ ∃ i, i < ops.size ∧ listed.getD i false = true ∧ id = S.next + i := by
        intro t ht id hid
        have hrep := hR.ok.env t
        rw [henv t ht] at hrep
        exact hR.live id (hrep.liveS hid)
      have hown : ∀ id b, (stY ops S tr (fun _ => true) j).heap id = some b → (id < S.next ∨ ∃ i, i < ops.size ∧ listed.getD i false = true ∧ id = S.next + i) → ∀ i, i < ops.size → id = S.next + i → listed.getD i false = decide (i < j) := by
        intro id b hb hlive i hi hidi
        rcases hlive with h | ⟨i', hi', hx, h⟩
        · omega
        · obtain rfl : i = i' := by omega
          rw [hx]
          by_cases hij : i < j
          · rw [decide_eq_true hij]
          · exfalso
            rw [← hcut, h, fresh j i (by omega)] at hb
            have := hS _ b hb
            omega
      have hst1 := (hT j o ho).mono (f := ft j) (S' := stY ops S tr (fun i => listed.getD i false) ops.size) (quiet j o ho).1 (by rw [(stY_next _ _).1, (stY_next _ _).1]) henv (hft j o ho)
        (fun hp id off n hfe => by
          -- the block that a load or store looks at
          have hval : (∃ t ∈ o.looksAt ops, id ∈ ((stY ops S tr (fun _ => true) j).env t).ids) ∨ False := by
            have hfo := hft j o ho hp
            rw [hfe] at hfo
            have look : ∀ a, a ∈ o.op.operands.toList → (stY ops S tr (fun _ => true) j).val a = .ptr id off → ∃ t ∈ o.looksAt ops, id ∈ ((stY ops S tr (fun _ => true) j).env t).ids := by
              intro a ha hav
              cases a with
              | tmp t => exact ⟨t, by unfold Oper.looksAt; exact List.mem_append_left _ (List.mem_filterMap.2 ⟨_, ha, rfl⟩), by simp only [AS.val] at hav; rw [hav]; simp [D.ids, D.ids1]⟩
              | const v =>
                exfalso
                simp only [AS.val] at hav
                unfold cD cD1 at hav
                repeat' split at hav
                all_goals cases hav
              | global g => simp [AS.val] at hav
              | func f => simp [AS.val] at hav
            rcases hfo.2 with ⟨t, a', h1, h2, _⟩ | ⟨t, a', v, h1, h2, _⟩
            · exact .inl (look a' (by rw [h1]; simp [Op.operands]) h2)
            · exact .inl (look a' (by rw [h1]; simp [Op.operands]) h2)
          rcases hval with ⟨t, ht, hid⟩ | h
          · cases hbk : (stY ops S tr (fun _ => true) j).heap id with
            | none =>
              have hfo := hft j o ho hp
              rw [hfe] at hfo
              obtain ⟨b, hb⟩ := hfo.1
              rw [hbk] at hb; cases hb
            | some b =>
              have : SimB off n ((stY ops S tr (fun i => decide (i < j)) ops.size).heap id) ((stY ops S tr (fun i => listed.getD i false) ops.size).heap id) := by
                refine stY_sim _ (fun i e hi hx he => (hvj hp i e hi hx he).elim (fun h => .inl h.symm) (fun h => .inr (apc e id off n hfe h))) (fun i hi hidi => (hown id b hbk (hrepj t ht id hid) i hi hidi).symm) (fun i off' xs hi hx => ?_)
                rcases hpj hp i id off' xs hi hx with h | h
                · exact .inl h.symm
                · rw [hfe] at h
                  simp only [apartF, beq_self_eq_true, Bool.not_true, Bool.false_or, Bool.or_eq_true, decide_eq_true_eq] at h
                  exact .inr h
              rw [hcut, hbk] at this
              exact this
          · exact h.elim)
        (fun hp l hfe id hil t ht hid b hb => by
          have hlv := hrepj t ht id hid
          have hb' := hb
          rw [← hcut] at hb'
          rw [← hb']
          refine (stY_heap _ (fun i e hi hx he => (hvj hp i e hi hx he).elim .inl (fun h => .inr (api e l id hfe hil h))) (fun i hi hidi => ?_) (fun i off xs hi hx => ?_))
          · exact hown id b hb hlv i hi hidi
          · rcases hpj hp i id off xs hi hx with h | h
            · exact h
            · rw [hfe] at h
              simp only [apartF, Bool.not_eq_true'] at h
              rw [memN_iff.2 hil] at h; cases h)
        (fun hp hfe => by
          have key : ∀ id b, (id < S.next ∨ ∃ i, i < ops.size ∧ listed.getD i false = true ∧ id = S.next + i) → (stY ops S tr (fun _ => true) j).heap id = some b → (stY ops S tr (fun i => listed.getD i false) ops.size).heap id = some b := by
            intro id b hlv hb
            have hb' := hb
            rw [← hcut] at hb'
            rw [← hb']
            refine stY_heap _ (fun i e hi hx he => (hvj hp i e hi hx he).elim .inl (fun h => by rw [hfe] at h; cases h)) (fun i hi hidi => hown id b hb hlv i hi hidi) (fun i off xs hi hx => ?_)
            rcases hpj hp i id off xs hi hx with h | h
            · exact h
            · rw [hfe] at h; cases h
          exact ⟨fun t ht id hid b hb => key id b (hrepj t ht id hid) hb, fun id b hlt hb => key id b (.inl (by rw [(stY_next _ _).1] at hlt; exact hlt)) hb⟩)
        (fun id off xs hx => (hpf j id off xs hx).2)
      have hnx := (stY_next (ops := ops) (S := S) (tr := tr) (fun i => listed.getD i false) ops.size).1
      have hnt := (stY_next (ops := ops) (S := S) (tr := tr) (fun i => listed.getD i false) ops.size).2
      refine awpO_sound hstab hR (by rw [hnt]; exact hd) ho ?_ hst1.toO ?_
      · rw [hnx]
        rintro (h | ⟨i, hi, hx, h⟩)
        · omega
        · obtain rfl : i = j := by omega
          rw [hjX] at hx; cases hx
      · intro S' C' a' w' hS' _ _ hR'
        subst hS'
        have hget : ∀ i, (listed.setIfInBounds j true).getD i false = if i = j then true else listed.getD i false := by
          intro i
          by_cases hij : i = j
          · subst hij; simp [Array.getD, hjl]
          · rw [if_neg hij]; exact getD_set_ne false (fun e => hij e.symm)
        have hstep : (stY ops S tr (fun i => listed.getD i false) ops.size).stepX o (tr j).1 (tr j).2 = stY ops S tr (fun i => (listed.setIfInBounds j true).getD i false) ops.size := by
          have hcut' := stY_cut (ops := ops) (S := S) (tr := tr) (j + 1) ops.size (by omega)
          refine AS.ext2 (fun t => ?_) (fun id => ?_) ?_ ?_
          · by_cases hdt : o.dst = some t
            · have h1 : (stY ops S tr (fun i => (listed.setIfInBounds j true).getD i false) ops.size).env t = (stY ops S tr (fun i => decide (i < j + 1)) ops.size).env t := by
                refine stY_env _ fun i oi _ hi hdst => ?_
                rw [hget]
                by_cases hij : i = j
                · subst hij; simp
                · rw [if_neg hij, agree t (.inr hdt) i oi hi hdst hij]
                  by_cases h : i < j
                  · rw [decide_eq_true h, decide_eq_true (by omega)]
                  · rw [decide_eq_false h, decide_eq_false (by omega)]
              rw [h1, hcut']
              simp [stY, ho, AS.stepX, hdt, upd]
            · have h1 : (stY ops S tr (fun i => (listed.setIfInBounds j true).getD i false) ops.size).env t = (stY ops S tr (fun i => listed.getD i false) ops.size).env t := by
                refine stY_env _ fun i oi _ hi hdst => ?_
                rw [hget]
                by_cases hij : i = j
                · subst hij; rw [ho] at hi; injection hi with hi; subst hi; exact absurd hdst hdt
                · rw [if_neg hij]
              rw [h1]
              simp only [AS.stepX]
              cases hdst : o.dst with
              | none => rfl
              | some t' => simp only [upd]; rw [if_neg (fun e => hdt (by rw [hdst, e]))]
          · -- what j does to blocks commutes with what was done ahead of it
            simp only [AS.stepX]
            refine (stY_comm (X := fun i => listed.getD i false) (X' := fun i => (listed.setIfInBounds j true).getD i false) hget hjX ho ?_ id ops.size (by omega) (Nat.le_refl _)).symm
            intro m hjm hms hxm id0
            have hmj : m ≠ j := by omega
            have hom : ops[m]? = some ops[m] := Array.getElem?_eq_getElem hms
            have nob : ((aheads ops).getD m 0).testBit j = true → False := fun hb => by
              have := notdone m _ hom hb
              rw [hxm] at this; cases this
            have hheapj : ∀ e, (tr j).2 = .eff e → effOk (S.next + j) e = false → heapy o.op = true := by
              intro e hx he
              cases hhe : heapy o.op with
              | true => rfl
              | false =>
                have hTj := hT j o ho
                rw [hx] at hTj
                have := St1.light (quiet j o ho).1 hhe hTj
                rw [(stY_next _ _).1, he] at this; cases this
            have hheapm : ∀ e, (tr m).2 = .eff e → effOk (S.next + m) e = false → heapy (ops[m]).op = true := by
              intro e hx he
              cases hhe : heapy (ops[m]).op with
              | true => rfl
              | false =>
                have hTm := hT m _ hom
                rw [hx] at hTm
                have := St1.light (quiet m _ hom).1 hhe hTm
                rw [(stY_next _ _).1, he] at this; cases this
            have hpatheapy : ∀ i oi id off xs, ops[i]? = some oi → (tr i).2 = .pat id off xs → heapy oi.op = true := by
              intro i oi id off xs hoi hx
              have hTi := hT i oi hoi
              rw [hx] at hTi
              obtain ⟨_, _, t, a, v, pn, cs, h2, _⟩ := hTi
              rw [h2]; rfl
            cases hxj : (tr j).2 with
            | eff e =>
              cases hxm' : (tr m).2 with
              | eff e' =>
                refine XComm.eff (fun p hp q hq hpq => ?_) id0
                cases hej : effOk (S.next + j) e with
                | true =>
                  have hpj' := efflight j e hej p hp
                  cases hem : effOk (S.next + m) e' with
                  | true => have := efflight m e' hem q hq; omega
                  | false =>
                    rcases effin m e' hxm' q hq with h | h | ⟨h, hb⟩
                    · omega
                    · omega
                    · rw [← hpq, hpj', Nat.add_sub_cancel_left] at hb
                      exact nob hb
                | false =>
                  have hhj := hheapj e hxj hej
                  cases hem : effOk (S.next + m) e' with
                  | false =>
                    rcases (heavy j e hxj hej).2 m _ hom hmj (hheapm e' hxm' hem) with hb | ⟨_, hb⟩
                    · rw [Nat.max_eq_left (by omega), Nat.min_eq_right (by omega)] at hb
                      exact nob hb
                    · rcases hb e' hxm' with hb | hb
                      · rw [hem] at hb; cases hb
                      · exact hb p hp q hq hpq
                  | true =>
                    have := efflight m e' hem q hq
                    rcases effin j e hxj p hp with h | h | h <;> omega
              | pat id' off xs =>
                refine (XComm.patEff (fun q hq hqe => ?_) id0).symm
                have hhm := hpatheapy m _ _ _ _ hom hxm'
                cases hej : effOk (S.next + j) e with
                | true =>
                  have := efflight j e hej q hq
                  rcases (hpat m id' off xs hxm').1 with h | ⟨m', h1, h2, h3⟩
                  · omega
                  · obtain rfl : m' = j := by omega
                    exact nob h3
                | false =>
                  rcases (hpat m id' off xs hxm').2 j o ho (fun e => hmj e.symm) (hheapj e hxj hej) with hb | ⟨_, hb⟩
                  · rw [Nat.max_eq_right (by omega), Nat.min_eq_left (by omega)] at hb
                    exact nob hb
                  · rcases hb e hxj with hb | hb
                    · rw [hej] at hb; cases hb
                    · exact hb q hq hqe
            | pat id' off xs =>
              have hhj := hpatheapy j o _ _ _ ho hxj
              cases hxm' : (tr m).2 with
              | eff e' =>
                refine XComm.patEff (fun q hq hqe => ?_) id0
                cases hem : effOk (S.next + m) e' with
                | true =>
                  have := efflight m e' hem q hq
                  rcases (hpat j id' off xs hxj).1 with h | ⟨m', h1, h2, h3⟩ <;> omega
                | false =>
                  rcases (hpat j id' off xs hxj).2 m _ hom hmj (hheapm e' hxm' hem) with hb | ⟨_, hb⟩
                  · rw [Nat.max_eq_left (by omega), Nat.min_eq_right (by omega)] at hb
                    exact nob hb
                  · rcases hb e' hxm' with hb | hb
                    · rw [hem] at hb; cases hb
                    · exact hb q hq hqe
              | pat id2 off2 xs2 =>
                refine XComm.pat ?_ id0
                rcases (hpat j id' off xs hxj).2 m _ hom hmj (hpatheapy m _ _ _ _ hom hxm') with hb | ⟨hb, _⟩
                · rw [Nat.max_eq_left (by omega), Nat.min_eq_right (by omega)] at hb
                  exact (nob hb).elim
                · rw [(hpf m id2 off2 xs2 hxm').2] at hb
                  simp only [apartF, Bool.or_eq_true, Bool.not_eq_true', beq_eq_false_iff_ne, ne_eq, decide_eq_true_eq] at hb
                  rcases hb with (hb | hb) | hb
                  · exact .inl fun e => hb e.symm
                  · exact .inr (.inl hb)
                  · exact .inr (.inr hb)
          · simp only [AS.stepX]; rw [(stY_next _ _).1, (stY_next _ _).1]
          · simp only [AS.stepX]; rw [(stY_next _ _).2, (stY_next _ _).2]
        rw [hstep] at hR'
        refine ih (listed.setIfInBounds j true) C' a' w' (by simpa using hsz) ?_ ?_ ?_
        · intro j' o' ho' hx e he
          rw [hget] at hx ⊢
          by_cases hej : e = j
          · simp [hej]
          · rw [if_neg hej]
            by_cases hjj : j' = j
            · subst hjj; rw [ho] at ho'; injection ho' with ho'; subst ho'; exact hed e he
            · rw [if_neg hjj] at hx; exact hcl j' o' ho' hx e he
        · have hcount : ∀ (l : List Bool) (j : Nat), l[j]? = some false → ((l.set j true).filter (fun b => !b)).length + 1 = (l.filter (fun b => !b)).length := by
            intro l
            induction l with
            | nil => intro j h; simp at h
            | cons b l ihl =>
              intro j h
              cases j with
              | zero => simp at h; subst h; simp
              | succ j =>
                simp only [List.getElem?_cons_succ] at h
                have := ihl j h
                cases b <;> simp at this ⊢ <;> omega
          have := hcount listed.toList j (by simpa [Array.getD, hjl] using hjX)
          simp only [Array.toList_setIfInBounds]
          omega
        · refine ⟨hR'.ok, hR'.inv, hR'.below, hR'.new, hR'.ext, hR'.defers, hR'.size, fun id hl => ?_⟩
          rcases hR'.live id hl with (h | ⟨i, hi, hx, h⟩) | h
          · exact .inl h
          · exact .inr ⟨i, hi, by rw [hget]; split <;> simp_all, h⟩
          · rw [hnx] at h; exact .inr ⟨j, hjlt, by rw [hget]; simp, h⟩
end
end Go.Proofs.YtipdmcpmedmicaaDoor
