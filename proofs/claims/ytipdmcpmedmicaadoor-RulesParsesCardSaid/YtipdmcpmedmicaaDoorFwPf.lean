/- Functions that get pointers to boxes of the caller, or return a pointer to a box of their own: what becomes of the boxes. -/
import Derived.Test.YtipdmcpmedmicaaDoorFwX
set_option linter.unusedSimpArgs false
set_option linter.unusedVariables false
namespace Go.Proofs.YtipdmcpmedmicaaDoor
open Go.RowKit

section
variable {P : Program} {I : World → Prop} {w : World} {C C' : Cx} {B : Bx} {H : Nat → Option Blk}
/-- A value as the caller sees it: pointers to lent boxes are renamed, the rest is free of own blocks. -/
def out1 (ρ : List (Nat × Nat)) (H : Nat → Option Blk) : D → Option (D × Eff)
  | .ptr id off => match look ρ id with
    | some j => some (.ptr j off, [])
    | none => none
  | d => purD H d
def outL (ρ : List (Nat × Nat)) (H : Nat → Option Blk) : List D → Option (List D × Eff)
  | [] => some ([], [])
  | d :: ds => match out1 ρ H d with
    | some (d', e) => match outL ρ (appEff H e) ds with
      | some (ds', e') => some (d' :: ds', e ++ e')
      | none => none
    | none => none
/-- What a value stands for, as the caller sees it. -/
def RepO (w : World) (C : Cx) (ρ : List (Nat × Nat)) (v : Value) (d : D) : Prop :=
  (∃ id j off, look ρ id = some j ∧ d = .ptr j off ∧ Rep w C v (.ptr id off)) ∨ (Rep w (cF C.F) v d ∧ d.okS = true)
theorem RepO.ext {w' : World} {ρ : List (Nat × Nat)} {v : Value} {d : D} (h : RepO w C ρ v d) (e : Ext C w C' w') : RepO w' C' ρ v d := by
  rcases h with ⟨id, j, off, h1, h2, h3⟩ | ⟨h1, h2⟩
  · exact .inl ⟨id, j, off, h1, h2, h3.ext e⟩
  · exact .inr ⟨h1.ext e.cF, h2⟩
theorem out1_sound {ρ : List (Nat × Nat)} {v : Value} {d d' : D} {ep : Eff} (hH : HOK C w B H) (hF : FB C w) (h : out1 ρ H d = some (d', ep)) (hv : Rep w C v d) : ∃ C', Pub C w B H C' (appEff H ep) ∧ RepO w C' ρ v d' := by
  unfold out1 at h
  split at h
  · rename_i id off
    cases hl : look ρ id with
    | none => rw [hl] at h; simp at h
    | some j =>
      rw [hl] at h
      simp at h
      obtain ⟨rfl, rfl⟩ := h
      exact ⟨C, Pub.refl hH hF, .inl ⟨id, j, off, hl, rfl, hv⟩⟩
  · obtain ⟨C', h1, h2, h3⟩ := purD_sound hH hF h hv
    exact ⟨C', h1, .inr ⟨h2, h3⟩⟩
theorem outL_sound {ρ : List (Nat × Nat)} : ∀ (ds : List D) (vs : List Value) (C : Cx) (H : Nat → Option Blk) (ds' : List D) (ep : Eff), HOK C w B H → FB C w → vs.length = ds.length → (∀ (i : Nat) v d, vs[i]? = some v → ds[i]? = some d → Rep w C v d) → outL ρ H ds = some (ds', ep) →
    ∃ C', Pub C w B H C' (appEff H ep) ∧ vs.length = ds'.length ∧ ∀ (i : Nat) v d, vs[i]? = some v → ds'[i]? = some d → RepO w C' ρ v d := by
  intro ds
  induction ds with
  | nil =>
    intro vs C H ds' ep hH hF hl _ h
    simp [outL] at h
    obtain ⟨rfl, rfl⟩ := h
    exact ⟨C, Pub.refl hH hF, hl, by simp⟩
  | cons d ds ih =>
    intro vs C H ds' ep hH hF hl hR h
    cases vs with
    | nil => simp at hl
    | cons v vs =>
      simp only [outL] at h
      cases h1 : out1 ρ H d with
      | none => rw [h1] at h; simp at h
      | some p =>
        obtain ⟨d', e1⟩ := p
        rw [h1] at h
        simp only at h
        cases h2 : outL ρ (appEff H e1) ds with
        | none => rw [h2] at h; simp at h
        | some q =>
          obtain ⟨ds'', e2⟩ := q
          rw [h2] at h
          simp at h
          obtain ⟨rfl, rfl⟩ := h
          obtain ⟨C1, p1, p2⟩ := out1_sound hH hF h1 (hR 0 v d rfl rfl)
          obtain ⟨C2, p3, p4, p5⟩ := ih vs C1 _ _ _ p1.ok p1.fb (by simpa using hl) (fun i u x hu hx => (hR (i + 1) u x (by simpa using hu) (by simpa using hx)).ext p1.ext) h2
          rw [appEff_append]
          refine ⟨C2, p1.trans p3, by simpa using p4, fun i u x hu hx => ?_⟩
          cases i with
          | zero => simp at hu hx; subst hu hx; exact p2.ext p3.ext
          | succ i => exact p5 i u x (by simpa using hu) (by simpa using hx)
/-- Boxes stay. -/
theorem pur1_box {d d' : D} {ep : Eff} {id : Nat} {pn : Option Nat} {cs : List D} (h : pur1 H d = some (d', ep)) (hi : H id = some (.box pn cs)) : appEff H ep id = some (.box pn cs) := by
  unfold pur1 at h
  split at h <;> (try split at h) <;> (try split at h) <;> simp at h
  all_goals obtain ⟨_, rfl⟩ := h
  all_goals first
    | exact hi
    | (simp only [appEff, upd]
       split
       · rename_i he; subst he; simp_all
       · exact hi)
theorem purL_box {id : Nat} {pn : Option Nat} {cs : List D} : ∀ (ds : List D) (H : Nat → Option Blk) (ds' : List D) (ep : Eff), purL H ds = some (ds', ep) → H id = some (.box pn cs) → appEff H ep id = some (.box pn cs) := by
  intro ds
  induction ds with
  | nil => intro H ds' ep h hi; simp [purL] at h; obtain ⟨rfl, rfl⟩ := h; exact hi
  | cons d ds ih =>
    intro H ds' ep h hi
    simp only [purL] at h
    cases h1 : pur1 H d with
    | none => rw [h1] at h; simp at h
    | some p =>
      obtain ⟨d', e1⟩ := p
      rw [h1] at h
      simp only at h
      cases h2 : purL (appEff H e1) ds with
      | none => rw [h2] at h; simp at h
      | some q =>
        obtain ⟨ds'', e2⟩ := q
        rw [h2] at h
        simp at h
        obtain ⟨rfl, rfl⟩ := h
        rw [appEff_append]
        exact ih _ _ _ h2 (pur1_box h1 hi)
theorem out1_box {ρ : List (Nat × Nat)} {d d' : D} {ep : Eff} {id : Nat} {pn : Option Nat} {cs : List D} (h : out1 ρ H d = some (d', ep)) (hi : H id = some (.box pn cs)) : appEff H ep id = some (.box pn cs) := by
  unfold out1 at h
  split at h
  · split at h
    · simp at h; obtain ⟨_, rfl⟩ := h; exact hi
    · simp at h
  · unfold purD at h
    split at h
    · rename_i ds _
      cases h1 : purL H ds with
      | none => rw [h1] at h; simp at h
      | some p =>
        obtain ⟨ds', e1⟩ := p
        rw [h1] at h
        simp at h
        obtain ⟨_, rfl⟩ := h
        exact purL_box _ _ _ _ h1 hi
    · exact pur1_box h hi
theorem outL_box {ρ : List (Nat × Nat)} {id : Nat} {pn : Option Nat} {cs : List D} : ∀ (ds : List D) (H : Nat → Option Blk) (ds' : List D) (ep : Eff), outL ρ H ds = some (ds', ep) → H id = some (.box pn cs) → appEff H ep id = some (.box pn cs) := by
  intro ds
  induction ds with
  | nil => intro H ds' ep h hi; simp [outL] at h; obtain ⟨rfl, rfl⟩ := h; exact hi
  | cons d ds ih =>
    intro H ds' ep h hi
    simp only [outL] at h
    cases h1 : out1 ρ H d with
    | none => rw [h1] at h; simp at h
    | some p =>
      obtain ⟨d', e1⟩ := p
      rw [h1] at h
      simp only at h
      cases h2 : outL ρ (appEff H e1) ds with
      | none => rw [h2] at h; simp at h
      | some q =>
        obtain ⟨ds'', e2⟩ := q
        rw [h2] at h
        simp at h
        obtain ⟨rfl, rfl⟩ := h
        rw [appEff_append]
        exact ih _ _ _ h2 (out1_box h1 hi)

/-- The caller's names of lent boxes. -/
def rn (is : List (Nat × Option Nat)) (j : Nat) : Option Nat := (is[j]?).map (·.1)
/-- The lent boxes, as the callee sees them. -/
def lentH : Nat → List (List D) → List (Nat × Blk)
  | _, [] => []
  | p, cs :: r => (p, .box (some p) cs) :: lentH (p + 1) r
/-- Where a lent box is found at the end: the box with the number p. -/
def fnd (H : Nat → Option Blk) (p : Nat) : D → Option (Nat × List D)
  | .ptr q 0 => match H q with
    | some (.box (some p') cs) => if p' = p then some (q, cs) else none
    | _ => none
  | _ => none
/-- The lent boxes at the end: each is found by a slot, or by a cell of one that was found ahead. -/
def lentD (S : AS) : List (Nat × Option Nat) → Nat → List (Nat × List D) → Option (List (Nat × List D))
  | [], _, acc => some acc
  | (t, none) :: r, p, acc => match fnd S.heap p (S.env t) with
    | some x => lentD S r (p + 1) (acc ++ [x])
    | none => none
  | (k, some c) :: r, p, acc => match acc[k]? with
    | some y => match y.2[c]? with
      | some d => match fnd S.heap p d with
        | some x => lentD S r (p + 1) (acc ++ [x])
        | none => none
      | none => none
    | none => none
def memN : List Nat → Nat → Bool
  | [], _ => false
  | a :: l, k => if k = a then true else memN l k
theorem memN_iff : ∀ {l : List Nat} {k : Nat}, memN l k = true ↔ k ∈ l
  | [], k => by simp [memN]
  | a :: l, k => by
    simp only [memN, List.mem_cons]
    split
    · rename_i h; simp [h]
    · rename_i h; simp [h, memN_iff]
/-- A pointer that is returned and is not to a lent box. -/
def newD (fs : List Nat) : List D → Option Nat
  | [] => none
  | .ptr k 0 :: r => if memN fs k = true then newD fs r else some k
  | _ :: r => newD fs r
def zipI : List (Nat × List D) → List (Nat × Option Nat) → List (Nat × Nat)
  | [], _ => []
  | _ :: _, [] => []
  | x :: fl, i :: is => (x.1, i.1) :: zipI fl is
/-- What becomes of the boxes. -/
def effs (nw : Bool) (nid : Nat) : List (Nat × Option Nat) → List (Nat × List D) → List D → Eff
  | [], _, all => if nw = true then [(nid, some (.box none all))] else []
  | _ :: _, [], all => if nw = true then [(nid, some (.box none all))] else []
  | i :: is, x :: fl, all => (i.1, some (.box i.2 (all.take x.2.length))) :: effs nw nid is fl (all.drop x.2.length)
def retP3 (x : Option (List D × Eff)) (n : Nat) (nw : Bool) (nid : Nat) (is : List (Nat × Option Nat)) (fl : List (Nat × List D)) (r : D) (eff : Eff) : Prop := match x with
  | some p => mkRes (p.1.take n) = r ∧ effs nw nid is fl (p.1.drop n) = eff
  | none => False
def retP2 (k : Option Nat) (ds : List D) (fl : List (Nat × List D)) (H : Nat → Option Blk) (nid : Nat) (is : List (Nat × Option Nat)) (r : D) (eff : Eff) : Prop := match k with
  | none => retP3 (outL (zipI fl is) H (ds ++ fl.flatMap (·.2))) ds.length false nid is fl r eff
  | some k => match H k with
    | some (.box none cs) => retP3 (outL ((k, nid) :: zipI fl is) H (ds ++ (fl.flatMap (·.2) ++ cs))) ds.length true nid is fl r eff
    | _ => False
def retP1 (x : Option (List D)) (y : Option (List (Nat × List D))) (H : Nat → Option Blk) (nid : Nat) (is : List (Nat × Option Nat)) (r : D) (eff : Eff) : Prop := match x with
  | some ds => match y with
    | some fl => retP2 (newD (fl.map (·.1)) ds) ds fl H nid is r eff
    | none => False
  | none => False
/-- The end of a function that has lent boxes. -/
def retP (P : Program) (fn : Func) (pl : List (Nat × Option Nat)) (nid : Nat) (is : List (Nat × Option Nat)) (r : D) (eff : Eff) : BPost := fun e S => match e with
  | .exit _ => False
  | .goto _ => False
  | _ => retP1 (resD P S fn.results.toList) (lentD S pl 0 []) S.heap nid is r eff

theorem fnd_ok {p q : Nat} {d : D} {cs : List D} (h : fnd H p d = some (q, cs)) : H q = some (.box (some p) cs) := by
  unfold fnd at h
  split at h
  · split at h
    · rename_i hh
      split at h
      · rename_i hp; subst hp; simp at h; obtain ⟨rfl, rfl⟩ := h; exact hh
      · simp at h
    · simp at h
  · simp at h
theorem lentD_ok {S : AS} : ∀ (pl : List (Nat × Option Nat)) (p : Nat) (acc fl : List (Nat × List D)), acc.length = p → (∀ (n q : Nat) (cs : List D), acc[n]? = some (q, cs) → S.heap q = some (.box (some n) cs)) → lentD S pl p acc = some fl →
    fl.length = p + pl.length ∧ ∀ (n q : Nat) (cs : List D), fl[n]? = some (q, cs) → S.heap q = some (.box (some n) cs) := by
  intro pl
  induction pl with
  | nil => intro p acc fl hl ha h; simp [lentD] at h; subst h; exact ⟨by simpa using hl, ha⟩
  | cons x pl ih =>
    intro p acc fl hl ha h
    have step : ∀ y, fnd S.heap p y = fnd S.heap p y → ∀ z, fnd S.heap p y = some z → lentD S pl (p + 1) (acc ++ [z]) = some fl → fl.length = p + (x :: pl).length ∧ ∀ (n q : Nat) (cs : List D), fl[n]? = some (q, cs) → S.heap q = some (.box (some n) cs) := by
      intro y _ z hz h
      obtain ⟨h1, h2⟩ := ih (p + 1) (acc ++ [z]) fl (by simp [hl]) (fun n q cs hn => by
        by_cases hlt : n < acc.length
        · rw [List.getElem?_append_left hlt] at hn; exact ha n q cs hn
        · rw [List.getElem?_append_right (by omega)] at hn
          have h0 : n - acc.length = 0 := by
            have := (List.getElem?_eq_some_iff.1 hn).1
            simp at this; omega
          rw [h0] at hn
          simp at hn
          subst hn
          have : n = p := by omega
          subst this
          exact fnd_ok hz) h
      exact ⟨by simp; omega, h2⟩
    obtain ⟨t, o⟩ := x
    cases o with
    | none =>
      simp only [lentD] at h
      cases h1 : fnd S.heap p (S.env t) with
      | none => rw [h1] at h; simp at h
      | some z => rw [h1] at h; exact step _ rfl z h1 h
    | some c =>
      simp only [lentD] at h
      cases h1 : acc[t]? with
      | none => rw [h1] at h; simp at h
      | some y =>
        rw [h1] at h
        simp only at h
        cases h2 : y.2[c]? with
        | none => rw [h2] at h; simp at h
        | some d =>
          rw [h2] at h
          simp only at h
          cases h3 : fnd S.heap p d with
          | none => rw [h3] at h; simp at h
          | some z => rw [h3] at h; exact step _ rfl z h3 h
theorem lentH_at : ∀ (css : List (List D)) (p id : Nat) (b : Blk), look (lentH p css) id = some b → ∃ (n : Nat) (cs : List D), id = p + n ∧ css[n]? = some cs ∧ b = .box (some id) cs
  | [], _, _, _, h => by simp [lentH, look] at h
  | c :: css, p, id, b, h => by
    simp only [lentH, look] at h
    split at h
    · rename_i e
      subst e
      injection h with h
      subst h
      exact ⟨0, c, rfl, rfl, rfl⟩
    · obtain ⟨n, cs, h1, h2, h3⟩ := lentH_at css (p + 1) id b h
      exact ⟨n + 1, cs, by omega, by simpa using h2, h3⟩
theorem zipI_look : ∀ (fl : List (Nat × List D)) (is : List (Nat × Option Nat)) (id j : Nat), look (zipI fl is) id = some j → ∃ (n : Nat) (x : Nat × List D) (i : Nat × Option Nat), fl[n]? = some x ∧ is[n]? = some i ∧ x.1 = id ∧ i.1 = j
  | [], _, _, _, h => by simp [zipI, look] at h
  | _ :: _, [], _, _, h => by simp [zipI, look] at h
  | x :: fl, i :: is, id, j, h => by
    simp only [zipI, look] at h
    split at h
    · rename_i e
      injection h with h
      exact ⟨0, x, i, rfl, rfl, e.symm, h⟩
    · obtain ⟨n, x', i', h1, h2, h3, h4⟩ := zipI_look fl is id j h
      exact ⟨n + 1, x', i', by simpa using h1, by simpa using h2, h3, h4⟩
theorem appEff_cases : ∀ (e : Eff) (H : Nat → Option Blk) (id : Nat) (b : Blk), appEff H e id = some b → ((∀ p ∈ e, p.1 ≠ id) ∧ H id = some b) ∨ (id, some b) ∈ e
  | [], _, _, _, h => .inl ⟨by simp, h⟩
  | (i, ob) :: e, H, id, b, h => by
    simp only [appEff] at h
    rcases appEff_cases e _ id b h with ⟨h1, h2⟩ | h1
    · simp only [upd] at h2
      split at h2
      · rename_i he; subst he; subst h2; exact .inr (by simp)
      · rename_i he
        refine .inl ⟨fun p hp => ?_, h2⟩
        rcases List.mem_cons.1 hp with rfl | hp
        · exact fun e => he e.symm
        · exact h1 p hp
    · exact .inr (List.mem_cons_of_mem _ h1)
theorem newD_notin {fs : List Nat} : ∀ {ds : List D} {k : Nat}, newD fs ds = some k → k ∉ fs
  | [], k, h => by simp [newD] at h
  | d :: ds, k, h => by
    unfold newD at h
    split at h
    · simp at *
    · rename_i k' r e
      injection e with e1 e2
      subst e1 e2
      split at h
      · exact newD_notin h
      · rename_i hc; injection h with h; subst h; exact fun hm => hc (memN_iff.2 hm)
    · rename_i d' r _ e
      injection e with e1 e2
      subst e1 e2
      exact newD_notin h
/-- The boxes' cells, one list behind the other. -/
theorem RepL.flat {w : World} {C : Cx} : ∀ (vss : List (List Value)) (fl : List (Nat × List D)), vss.length = fl.length → (∀ (n : Nat) (vs : List Value) (x : Nat × List D), vss[n]? = some vs → fl[n]? = some x → RepL C w vs x.2) → RepL C w vss.flatten (fl.flatMap (·.2))
  | [], [], _, _ => RepL.nil
  | [], _ :: _, h, _ => by simp at h
  | _ :: _, [], h, _ => by simp at h
  | vs :: vss, x :: fl, h, k => by
    simp only [List.flatten_cons, List.flatMap_cons]
    exact (k 0 vs x rfl rfl).append (RepL.flat vss fl (by simpa using h) fun n a b ha hb => k (n + 1) a b (by simpa using ha) (by simpa using hb))
theorem effs_mem {w : World} {C : Cx} {nw : Bool} {nid : Nat} {nv : List Value} : ∀ (is : List (Nat × Option Nat)) (fl : List (Nat × List D)) (vss : List (List Value)) (all : List D), is.length = fl.length → vss.length = fl.length → (∀ (n : Nat) (vs : List Value) (x : Nat × List D), vss[n]? = some vs → fl[n]? = some x → vs.length = x.2.length) → RepL C w (vss.flatten ++ nv) all → ∀ i ob, (i, ob) ∈ effs nw nid is fl all →
    (∃ (n : Nat) (pn : Option Nat) (x : Nat × List D) (vs : List Value) (seg : List D), is[n]? = some (i, pn) ∧ fl[n]? = some x ∧ vss[n]? = some vs ∧ ob = some (.box pn seg) ∧ RepL C w vs seg) ∨ (nw = true ∧ i = nid ∧ ∃ seg, ob = some (.box none seg) ∧ RepL C w nv seg)
  | [], [], [], all, _, _, _, hR, i, ob, h => by
    simp only [effs] at h
    split at h
    · rename_i hn
      simp at h
      obtain ⟨rfl, rfl⟩ := h
      exact .inr ⟨hn, rfl, all, rfl, by simpa using hR⟩
    · cases h
  | [], _ :: _, _, _, h, _, _, _, _, _, _ => by simp at h
  | _ :: _, [], _, _, h, _, _, _, _, _, _ => by simp at h
  | [], [], _ :: _, _, _, h, _, _, _, _, _ => by simp at h
  | _ :: _, _ :: _, [], _, _, h, _, _, _, _, _ => by simp at h
  | a :: is, x :: fl, vs :: vss, all, h1, h2, h3, hR, i, ob, h => by
    have hl := h3 0 vs x rfl rfl
    simp only [effs, List.mem_cons, Prod.mk.injEq] at h
    rcases h with ⟨rfl, rfl⟩ | h
    · refine .inl ⟨0, a.2, x, vs, all.take x.2.length, rfl, rfl, rfl, rfl, ?_⟩
      have := hR.take x.2.length
      rw [List.flatten_cons, List.append_assoc, List.take_append_of_le_length (by omega), ← hl, List.take_length] at this
      rw [← hl]; exact this
    · have := hR.drop x.2.length
      rw [List.flatten_cons, List.append_assoc, ← hl, List.drop_left] at this
      rw [← hl] at h
      rcases effs_mem is fl vss _ (by simpa using h1) (by simpa using h2) (fun n a b ha hb => h3 (n + 1) a b (by simpa using ha) (by simpa using hb)) this i ob h with ⟨n, pn, x', vs', seg, q1, q2, q3, q4, q5⟩ | h
      · exact .inl ⟨n + 1, pn, x', vs', seg, by simpa using q1, by simpa using q2, by simpa using q3, q4, q5⟩
      · exact .inr h
theorem effs_keys {nw : Bool} {nid : Nat} : ∀ (is : List (Nat × Option Nat)) (fl : List (Nat × List D)) (all : List D), is.length = fl.length → ∀ (n : Nat) (i : Nat × Option Nat), is[n]? = some i → ∃ ob, (i.1, ob) ∈ effs nw nid is fl all
  | [], _, _, _, n, i, h => by simp at h
  | _ :: _, [], _, h, _, _, _ => by simp at h
  | a :: is, x :: fl, all, h, n, i, hn => by
    cases n with
    | zero => simp at hn; subst hn; exact ⟨_, by simp only [effs]; exact List.mem_cons_self⟩
    | succ n =>
      obtain ⟨ob, hob⟩ := effs_keys (nw := nw) (nid := nid) is fl (all.drop x.2.length) (by simpa using h) n i (by simpa using hn)
      exact ⟨ob, by simp only [effs]; exact List.mem_cons_of_mem _ hob⟩
end

/-- The caller's boxes are as the function is told. -/
def lentAll (H : Nat → Option Blk) (r : Nat → Option Nat) (m : Nat) : List (Nat × Option Nat) → List (List D) → Prop
  | [], [] => True
  | i :: is, cs :: css => (H i.1 = some (.box i.2 (cs.map (D.ren1 r))) ∧ cs.all (D.idOk1 r m) = true) ∧ lentAll H r m is css
  | _, _ => False
theorem lentAll_of {H : Nat → Option Blk} {r : Nat → Option Nat} {m : Nat} : ∀ {is : List (Nat × Option Nat)} {css : List (List D)}, lentAll H r m is css → ∀ (n : Nat) (i : Nat × Option Nat) (cs : List D), is[n]? = some i → css[n]? = some cs → H i.1 = some (.box i.2 (cs.map (D.ren1 r))) ∧ cs.all (D.idOk1 r m) = true
  | [], [], _, n, i, cs, h, _ => by simp at h
  | [], _ :: _, h, _, _, _, _, _ => h.elim
  | _ :: _, [], h, _, _, _, _, _ => h.elim
  | i0 :: is, c0 :: css, h, n, i, cs, h1, h2 => by
    cases n with
    | zero => simp at h1 h2; subst h1 h2; exact h.1
    | succ n => exact lentAll_of h.2 n i cs (by simpa using h1) (by simpa using h2)
theorem retP_n {P : Program} {fn : Func} {pl : List (Nat × Option Nat)} {nid : Nat} {is : List (Nat × Option Nat)} {r : D} {eff : Eff} {S : AS} : retP P fn pl nid is r eff .normal S = retP1 (resD P S fn.results.toList) (lentD S pl 0 []) S.heap nid is r eff := rfl
theorem retP_r {P : Program} {fn : Func} {pl : List (Nat × Option Nat)} {nid : Nat} {is : List (Nat × Option Nat)} {r : D} {eff : Eff} {S : AS} : retP P fn pl nid is r eff .ret S = retP1 (resD P S fn.results.toList) (lentD S pl 0 []) S.heap nid is r eff := rfl
section
variable {P : Program} {I : World → Prop}
theorem BelM.mono {M M' : Nat → Prop} {w w' : World} (h : BelM M w w') (hm : ∀ k, k < w.heap.size → M k → M' k) : BelM M' w w' :=
  ⟨h.os, h.tape, h.output, h.size, fun k hk hn => h.block k hk fun hx => hn (hm k hk hx)⟩
/-- A function that gets pointers to boxes of the caller. -/
theorem CallOK.intro (hstab : Stab I) {f : FuncId} {fn : Func} {c : Code} {is : List (Nat × Option Nat)} {css : List (List D)} {ds0 ds : List D} {H : Nat → Option Blk} {nid : Nat} {pl : List (Nat × Option Nat)} {r : D} {eff : Eff}
    (hf : P.funcs[f]? = some fn) (hb : fn.body = some c) (hnm : fn.name ≠ "runtime.NumGoroutine") (hn : ds0.length ≤ fn.ntmps) (hok : codeOk fn.ntmps c = true)
    (hlen : is.length = css.length) (hpl : pl.length = is.length) (hds : ds0.map (D.ren (rn is)) = ds) (hdo : ds0.all (D.idOk (rn is) is.length) = true)
    (hcs : ∀ (n : Nat) (i : Nat × Option Nat) (cs : List D), is[n]? = some i → css[n]? = some cs → H i.1 = some (.box i.2 (cs.map (D.ren1 (rn is)))) ∧ cs.all (D.idOk1 (rn is) is.length) = true)
    (hne : (is.map (·.1)).Nodup)
    (h : runB P I c ⟨argL ds0, heapL (lentH 0 css), is.length, fn.ntmps⟩ [] (retP P fn pl nid is r eff)) : CallOK P I f ds H nid r eff := by
  refine ⟨by simp [enterable, hf, hb, hnm], fun i0 w C B args hI hb0 hM hH hF hbase hnid hal hrep => ?_⟩
  refine calls_of_wp hf hb ?_
  subst hds
  -- the lent boxes, by their names in the caller
  have lent : ∀ (n : Nat) (i : Nat × Option Nat), is[n]? = some i → ∃ cs : List D, css[n]? = some cs ∧ H i.1 = some (.box i.2 (cs.map (D.ren1 (rn is)))) ∧ cs.all (D.idOk1 (rn is) is.length) = true := by
    intro n i hi
    have hlt : n < css.length := by rw [← hlen]; exact (List.getElem?_eq_some_iff.1 hi).1
    obtain ⟨h1, h2⟩ := hcs n i css[n] hi (List.getElem?_eq_getElem hlt)
    exact ⟨css[n], List.getElem?_eq_getElem hlt, h1, h2⟩
  have lentBlk : ∀ (n : Nat) (i : Nat × Option Nat), is[n]? = some i → ∃ g, C.σ i.1 = .pointer (some ⟨g, 0, none⟩) ∧ B.M g ∧ g < w.heap.size := by
    intro n i hi
    obtain ⟨cs, _, h1, _⟩ := lent n i hi
    obtain ⟨k1, k2⟩ := hH.rep _ _ h1
    have hlt := k2.lt
    obtain ⟨g, t, vs, q1, q2, q3, q4, q5⟩ := k2
    exact ⟨g, q1, hH.own _ _ h1 g (by rw [q1]; rfl), (hlt g (by rw [q1]; rfl)).2⟩
  let M' : Nat → Prop := fun k => (∃ (n : Nat) (i : Nat × Option Nat), is[n]? = some i ∧ blockOf (C.σ i.1) = some k) ∨ w.heap.size ≤ k
  let C0 : Cx := C.ren (rn is) is.length
  let B' : Bx := ⟨M', fun p => C0.σ p⟩
  have hM'M : ∀ k, M' k → B.M k := by
    rintro k (⟨n, i, hi, hk⟩ | hk)
    · obtain ⟨cs, _, h1, _⟩ := lent n i hi
      exact hH.own _ _ h1 k hk
    · exact hbase k hk
  let G : Gh := ⟨i0, w, C.F, B', fun k hk => hM k (hM'M k hk), hb0⟩
  have hrn : ∀ (n : Nat) (i : Nat × Option Nat), is[n]? = some i → rn is n = some i.1 := fun n i hi => by simp [rn, hi]
  have hσ0 : ∀ (n : Nat) (i : Nat × Option Nat), is[n]? = some i → C0.σ n = C.σ i.1 := fun n i hi => by simp only [C0, Cx.ren, hrn n i hi]
  have hne' : ∀ (n n' : Nat) (i i' : Nat × Option Nat), is[n]? = some i → is[n']? = some i' → n ≠ n' → i.1 ≠ i'.1 := by
    intro n n' i i' hi hi' hnn he
    have h1 : (is.map (·.1))[n]? = some i.1 := by simp [hi]
    have h2 : (is.map (·.1))[n']? = some i.1 := by simp [hi', he]
    have hlt : n < (is.map (·.1)).length := (List.getElem?_eq_some_iff.1 h1).1
    exact hnn ((List.getElem?_inj hlt hne).1 (h1.trans h2.symm))
  have hget : ∀ id b, heapL (lentH 0 css) id = some b → ∃ (i : Nat × Option Nat) (cs : List D), is[id]? = some i ∧ css[id]? = some cs ∧ b = .box (some id) cs ∧ H i.1 = some (.box i.2 (cs.map (D.ren1 (rn is)))) ∧ cs.all (D.idOk1 (rn is) is.length) = true := by
    intro id b hb'
    obtain ⟨n, cs, h1, h2, h3⟩ := lentH_at css 0 id b hb'
    rw [Nat.zero_add] at h1
    subst h1
    have hlt : id < is.length := by rw [hlen]; exact (List.getElem?_eq_some_iff.1 h2).1
    obtain ⟨k1, k2⟩ := hcs id is[id] cs (List.getElem?_eq_getElem hlt) h2
    exact ⟨is[id], cs, List.getElem?_eq_getElem hlt, h2, h3, k1, k2⟩
  have hheap0 : HOK C0 w B' (heapL (lentH 0 css)) := by
    refine ⟨fun id b hb' => ?_, fun id b hb' g hg => ?_, fun id k cs hb' => ?_, fun id id' b b' hb' hb'' hne2 g hg hg' => ?_⟩
    · obtain ⟨i, cs, h1, h2, rfl, h3, h4⟩ := hget id b hb'
      obtain ⟨k1, k2⟩ := hH.rep _ _ h3
      refine ⟨⟨(List.getElem?_eq_some_iff.1 h1).1, by rw [hrn id i h1]; exact k1⟩, ?_⟩
      obtain ⟨g, t, vs, q1, q2, q3, q4, q5⟩ := k2
      exact ⟨g, t, vs, (hσ0 id i h1).trans q1, q2, q3, ⟨by simpa using q4.len, q4.one, ren_list h4 q4.rep⟩, q5⟩
    · obtain ⟨i, cs, h1, h2, rfl, h3, h4⟩ := hget id b hb'
      rw [hσ0 id i h1] at hg
      exact .inl ⟨id, i, h1, hg⟩
    · obtain ⟨i, cs', h1, h2, h5, h3, h4⟩ := hget id _ hb'
      injection h5 with h5 _
      injection h5 with h5
      subst h5
      rfl
    · obtain ⟨i, cs, h1, h2, rfl, h3, h4⟩ := hget id b hb'
      obtain ⟨i', cs', h1', h2', rfl, h3', h4'⟩ := hget id' b' hb''
      rw [hσ0 id i h1] at hg
      rw [hσ0 id' i' h1'] at hg'
      exact hH.apart _ _ _ _ h3 h3' (hne' id id' i i' h1 h1' hne2) g hg hg'
  have hR : Rel I G (fun id => id < is.length) ⟨argL ds0, heapL (lentH 0 css), is.length, fn.ntmps⟩ C0 { tmps := args.toArray ++ Array.replicate (fn.ntmps - args.toArray.size) Go.undef, defers := [] } w := by
    refine ⟨⟨fun t => ?_, hheap0, hF, fun g hg => .inr hg⟩, hI, BelM.refl _ _, fun b o h => .inl h, ⟨fun _ _ h => h, fun _ _ _ => rfl, fun _ h => h.elim, fun _ h => h.elim⟩, rfl, ?_, fun id h => h.1⟩
    · simp only [argL_getD]
      by_cases ht : t < ds0.length
      · rw [show ds0.getD t .any = ds0[t] by simp [List.getD, ht]]
        have ha : t < args.length := by simpa [hal] using ht
        have : (args.toArray ++ Array.replicate (fn.ntmps - args.toArray.size) Go.undef).getD t Go.undef = args[t] := by
          simp [Array.getD_eq_getD_getElem?, Array.getElem?_append, ha]
        rw [this]
        have := hrep t _ (ds0[t].ren (rn is)) (List.getElem?_eq_getElem ha) (by simp [ht])
        exact this.ren (List.all_eq_true.1 hdo _ (List.getElem_mem ht))
      · rw [show ds0.getD t .any = .any by simp [List.getD, ht]]
        exact .any _
    · simp only [List.length_map] at hal
      simp; omega
  refine wp_mono (bwp_sound hstab c _ _ G _ _ w hok (by unfold runB goB at h; exact h) hR) ?_
  rintro e a' w' ⟨S', C', hnt, hR', hq⟩
  have fin : retP1 (resD P S' fn.results.toList) (lentD S' pl 0 []) S'.heap nid is r eff → a'.defers = [] ∧ ∃ v, (results fn a'.tmps).run P w' = .ok v w' ∧ ∃ v' C2, Ending.returned v = .returned v' ∧ BelM B.M w w' ∧ Ext C w C2 w' ∧ Rep w' C2 v' r ∧ HOK C2 w' B (appEff H eff) ∧ FB C2 w' ∧ (∀ id, C2.live id → C.live id ∨ id = nid) ∧ ∀ b o, C2.F b o → C.F b o ∨ B.M b := by
    intro hp
    refine ⟨hR'.defers, ?_⟩
    cases h1 : resD P S' fn.results.toList with
    | none => rw [h1] at hp; exact hp.elim
    | some rs =>
    cases h2 : lentD S' pl 0 [] with
    | none => rw [h1, h2] at hp; exact hp.elim
    | some fl =>
    rw [h1, h2] at hp
    simp only [retP1] at hp
    obtain ⟨vs, hr, hl, hv⟩ := resD_run (P := P) (G := G) hR'.ok _ _ h1
    obtain ⟨hfl, hfb⟩ := lentD_ok pl 0 [] fl rfl (by simp) h2
    have hlf : is.length = fl.length := by omega
    -- the values in the lent boxes
    have hbox : ∀ (n : Nat) (x : Nat × List D), fl[n]? = some x → ∃ g t vs, C'.σ x.1 = .pointer (some ⟨g, 0, none⟩) ∧ w'.heap[g]? = some (.cells vs t (0, 0)) ∧ RepL C' w' vs.toList x.2 := by
      intro n x hx
      obtain ⟨k1, k2⟩ := hR'.ok.heap.rep _ _ (hfb n x.1 x.2 hx)
      obtain ⟨g, t, vs, q1, q2, q3, q4, q5⟩ := k2
      exact ⟨g, t, vs, q1, q3, q4⟩
    have hvss : ∃ vss : List (List Value), vss.length = fl.length ∧ ∀ (n : Nat) (vs : List Value) (x : Nat × List D), vss[n]? = some vs → fl[n]? = some x → ∃ g t, C'.σ x.1 = .pointer (some ⟨g, 0, none⟩) ∧ w'.heap[g]? = some (.cells vs.toArray t (0, 0)) ∧ RepL C' w' vs x.2 := by
      have key : ∀ l : List (Nat × List D), (∀ (n : Nat) (x : Nat × List D), l[n]? = some x → ∃ g t vs, C'.σ x.1 = .pointer (some ⟨g, 0, none⟩) ∧ w'.heap[g]? = some (.cells vs t (0, 0)) ∧ RepL C' w' vs.toList x.2) → ∃ vss : List (List Value), vss.length = l.length ∧ ∀ (n : Nat) (vs : List Value) (x : Nat × List D), vss[n]? = some vs → l[n]? = some x → ∃ g t, C'.σ x.1 = .pointer (some ⟨g, 0, none⟩) ∧ w'.heap[g]? = some (.cells vs.toArray t (0, 0)) ∧ RepL C' w' vs x.2 := by
        intro l
        induction l with
        | nil => intro _; exact ⟨[], rfl, by simp⟩
        | cons x l ih =>
          intro h
          obtain ⟨vss, k1, k2⟩ := ih fun n y hy => h (n + 1) y (by simpa using hy)
          obtain ⟨g, t, vs, q1, q2, q3⟩ := h 0 x rfl
          refine ⟨vs.toList :: vss, by simp [k1], fun n us y hu hy => ?_⟩
          cases n with
          | zero => simp at hu hy; subst hu hy; exact ⟨g, t, q1, by simpa using q2, q3⟩
          | succ n => exact k2 n us y (by simpa using hu) (by simpa using hy)
      exact key fl hbox
    obtain ⟨vss, hvl, hvs⟩ := hvss
    have hflat : RepL C' w' vss.flatten (fl.flatMap (·.2)) := RepL.flat vss fl hvl fun n vs x h1 h2 => (hvs n vs x h1 h2).choose_spec.choose_spec.2.2
    have hpin : ∀ (n : Nat) (i : Nat × Option Nat) (x : Nat × List D), is[n]? = some i → fl[n]? = some x → C'.σ x.1 = C.σ i.1 := by
      intro n i x hi hx
      exact (hR'.ok.heap.pin _ _ _ (hfb n x.1 x.2 hx)).trans (hσ0 n i hi)
    have hrun : (results fn a'.tmps).run P w' = .ok (if h : vs.toArray.size = 1 then vs.toArray[0] else .tuple vs.toArray) w' := by
      rw [results_eq, Array.mapM_eq_mapM_toList]
      simp only [Sem.run_bind, Sem.run_map, hr]
      rfl
    -- the end, whether or not there is a box of its own
    have final : ∀ (nw : Bool) (k : Nat) (nv : List Value) (ncs : List D) (gk : Nat) (tk : TypeId) (ρ : List (Nat × Nat)),
        (∀ id j, look ρ id = some j → (nw = true ∧ id = k ∧ j = nid) ∨ look (zipI fl is) id = some j) → (nw = false → nv = [] ∧ ncs = []) →
        (nw = true → k ∉ fl.map (·.1) ∧ S'.heap k = some (.box none ncs) ∧ C'.σ k = .pointer (some ⟨gk, 0, none⟩) ∧ w'.heap[gk]? = some (.cells nv.toArray tk (0, 0))) → RepL C' w' nv ncs →
        retP3 (outL ρ S'.heap (rs ++ (fl.flatMap (·.2) ++ ncs))) rs.length nw nid is fl r eff →
        ∃ v' C2, (if h : vs.toArray.size = 1 then vs.toArray[0] else Value.tuple vs.toArray) = v' ∧ BelM B.M w w' ∧ Ext C w C2 w' ∧ Rep w' C2 v' r ∧ HOK C2 w' B (appEff H eff) ∧ FB C2 w' ∧ (∀ id, C2.live id → C.live id ∨ id = nid) ∧ ∀ b o, C2.F b o → C.F b o ∨ B.M b := by
      intro nw k nv ncs gk tk ρ hρ hnw0 hnw hnv hq3
      cases ho : outL ρ S'.heap (rs ++ (fl.flatMap (·.2) ++ ncs)) with
      | none => rw [ho] at hq3; exact hq3.elim
      | some p =>
      obtain ⟨all, ep⟩ := p
      rw [ho] at hq3
      obtain ⟨hmk, heff⟩ := hq3
      simp only at hmk heff
      have hcells := hflat.append hnv
      have hrepA : ∀ (i : Nat) v d, (vs ++ (vss.flatten ++ nv))[i]? = some v → (rs ++ (fl.flatMap (·.2) ++ ncs))[i]? = some d → Rep w' C' v d := by
        intro i v d hi hd
        by_cases hlt : i < vs.length
        · rw [List.getElem?_append_left hlt] at hi
          rw [List.getElem?_append_left (by omega)] at hd
          exact hv i v d hi hd
        · rw [List.getElem?_append_right (by omega)] at hi
          rw [List.getElem?_append_right (by omega), ← hl] at hd
          exact hcells.rep _ v d hi hd
      obtain ⟨C1, hP, hal1, hO⟩ := outL_sound (w := w') (B := B') _ (vs ++ (vss.flatten ++ nv)) C' S'.heap all ep hR'.ok.heap hR'.ok.fb (by have := hcells.len; simp only [List.length_append] at this ⊢; omega) hrepA ho
      let C2 : Cx := ⟨C1.F, fun id => if id = nid then C1.σ k else C.σ id, fun id => C.live id ∨ (nw = true ∧ id = nid)⟩
      have hσ2 : ∀ id, C.live id → C2.σ id = C.σ id := fun id hid => by
        have : id ≠ nid := fun e => hnid (e ▸ hid)
        simp only [C2, if_neg this]
      have he : Ext C w C2 w' := ⟨fun b o h => hP.ext.F _ _ (hR'.ext.F _ _ h), fun b o h => hR'.ext.blk b o h, fun _ h => .inl h, hσ2⟩
      have toC2 : ∀ v d, RepO w' C1 ρ v d → Rep w' C2 v d := by
        rintro v d (⟨id, j, off, hl1, rfl, hr1⟩ | ⟨hr1, _⟩)
        · cases hr1 with
          | ptr _ _ g hlv hs =>
            rcases hρ id j hl1 with ⟨hnw1, rfl, rfl⟩ | hz
            · refine .ptr _ off g (.inr ⟨hnw1, rfl⟩) ?_
              simp only [C2, if_true]; exact hs
            · obtain ⟨n, x, i, hx, hi, rfl, rfl⟩ := zipI_look _ _ _ _ hz
              obtain ⟨cs, _, h3, _⟩ := lent n i hi
              have hli := (hH.rep _ _ h3).1
              refine .ptr _ off g (.inl hli) ?_
              rw [hσ2 _ hli, ← hpin n i x hi hx, ← hP.σ]; exact hs
        · exact hr1.ext ⟨fun _ _ h => h, fun _ _ _ => rfl, fun _ h => h.elim, fun _ h => h.elim⟩
      have hall : ∀ (i : Nat) v d, (vs ++ (vss.flatten ++ nv))[i]? = some v → all[i]? = some d → Rep w' C2 v d := fun i v d h1 h2 => toC2 v d (hO i v d h1 h2)
      have hRL : RepL C2 w' (vss.flatten ++ nv) (all.drop rs.length) := by
        refine ⟨by simp only [List.length_drop, ← hal1, List.length_append]; omega, hcells.one, fun i v d h1 h2 => ?_⟩
        refine hall (vs.length + i) v d ?_ ?_
        · rw [List.getElem?_append_right (by omega)]; simpa using h1
        · rw [hl]; simpa using h2
      have hem : ∀ i ob, (i, ob) ∈ eff → (∃ (n : Nat) (pn : Option Nat) (x : Nat × List D) (vs : List Value) (seg : List D), is[n]? = some (i, pn) ∧ fl[n]? = some x ∧ vss[n]? = some vs ∧ ob = some (.box pn seg) ∧ RepL C2 w' vs seg) ∨ (nw = true ∧ i = nid ∧ ∃ seg, ob = some (.box none seg) ∧ RepL C2 w' nv seg) := by
        rw [← heff]
        exact effs_mem is fl vss _ hlf hvl (fun n us x h1 h2 => by obtain ⟨g, t, q1, q2, q3⟩ := hvs n us x h1 h2; exact q3.len) hRL
      have hkeys : ∀ (n : Nat) (i : Nat × Option Nat), is[n]? = some i → ∃ ob, (i.1, ob) ∈ eff := by rw [← heff]; exact effs_keys is fl _ hlf
      have noF1 : ∀ q pn cs g, S'.heap q = some (.box pn cs) → C'.σ q = .pointer (some ⟨g, 0, none⟩) → ∀ o, ¬ C1.F g o := by
        intro q pn cs g h1 h2 o
        obtain ⟨k1, k2⟩ := hP.ok.rep q _ (outL_box _ _ _ _ ho h1)
        obtain ⟨g', t, us, q1, q2, q3, q4, q5⟩ := k2
        rw [hP.σ, h2] at q1
        injection q1 with q1; injection q1 with q1; injection q1 with q1
        subst q1
        exact q5 o
      have hnoid : H nid = none := by
        cases hn2 : H nid with
        | none => rfl
        | some b => exact absurd (hH.rep _ _ hn2).1 hnid
      -- what each block is behind the call
      have hcase : ∀ id b, appEff H eff id = some b → (H id = some b ∧ (∀ (n : Nat) (i : Nat × Option Nat), is[n]? = some i → i.1 ≠ id)) ∨ (∃ (n : Nat) (pn : Option Nat) (x : Nat × List D) (us : List Value) (seg : List D), is[n]? = some (id, pn) ∧ fl[n]? = some x ∧ vss[n]? = some us ∧ b = .box pn seg ∧ RepL C2 w' us seg) ∨ (nw = true ∧ id = nid ∧ ∃ seg, b = .box none seg ∧ RepL C2 w' nv seg) := by
        intro id b hb'
        rcases appEff_cases _ _ _ _ hb' with ⟨h1, h2⟩ | h1
        · refine .inl ⟨h2, fun n i hi he' => ?_⟩
          obtain ⟨ob, hob⟩ := hkeys n i hi
          exact h1 _ hob he'
        · rcases hem _ _ h1 with ⟨n, pn, x, us, seg, q1, q2, q3, q4, q5⟩ | ⟨q1, q2, seg, q3, q4⟩
          · injection q4 with q4; exact .inr (.inl ⟨n, pn, x, us, seg, q1, q2, q3, q4, q5⟩)
          · injection q3 with q3; exact .inr (.inr ⟨q1, q2, seg, q3, q4⟩)
      have hold : ∀ id b, appEff H eff id = some b → id ≠ nid → ∃ b', H id = some b' := by
        intro id b hb' hidn
        rcases hcase id b hb' with ⟨h1, _⟩ | ⟨n, pn, x, us, seg, q1, _⟩ | ⟨_, q2, _⟩
        · exact ⟨b, h1⟩
        · obtain ⟨cs, _, h3, _⟩ := lent n _ q1; exact ⟨_, h3⟩
        · exact absurd q2 hidn
      have hnwid : ∀ b, appEff H eff nid = some b → nw = true := by
        intro b hb'
        rcases hcase nid b hb' with ⟨h1, _⟩ | ⟨n, pn, x, us, seg, q1, _⟩ | ⟨q1, _⟩
        · rw [hnoid] at h1; cases h1
        · obtain ⟨cs, _, h3, _⟩ := lent n _ q1; rw [hnoid] at h3; cases h3
        · exact q1
      have hσn : C2.σ nid = C1.σ k := by simp only [C2, if_true]
      have hnewblk : nw = true → blockOf (C2.σ nid) = some gk ∧ M' gk ∧ ∀ id b g, H id = some b → blockOf (C.σ id) = some g → g ≠ gk := by
        intro hn1
        obtain ⟨h1, h2, h3, h4⟩ := hnw hn1
        have hMg : M' gk := hR'.ok.heap.own k _ h2 gk (by rw [h3]; rfl)
        refine ⟨by rw [hσn, hP.σ, h3]; rfl, hMg, fun id b g hid hg hgk => ?_⟩
        subst hgk
        rcases hMg with ⟨n, i, hi, hik⟩ | hge
        · have hnl : n < fl.length := by have := (List.getElem?_eq_some_iff.1 hi).1; omega
          obtain ⟨x, hx⟩ : ∃ x, fl[n]? = some x := ⟨_, List.getElem?_eq_getElem hnl⟩
          have hne3 : x.1 ≠ k := fun e => h1 (by rw [← e]; exact List.mem_map_of_mem (List.mem_of_getElem? hx))
          refine hR'.ok.heap.apart _ _ _ _ (hfb n x.1 x.2 hx) h2 hne3 g ?_ (by rw [h3]; rfl)
          rw [hpin n i x hi hx]; exact hik
        · have := ((hH.rep id b hid).2.lt g hg).2; omega
      refine ⟨_, C2, rfl, hR'.below.mono (fun k' _ hk' => hM'M k' hk'), he, ?_, ?_, hP.fb, fun id hid => hid.elim .inl fun h => .inr h.2, fun b o hbo => ?_⟩
      · rw [← hmk]
        refine mkRes_rep (by rw [List.length_take, ← hal1]; simp [hl]) fun i v d h1 h2 => ?_
        have hlt : i < vs.length := (List.getElem?_eq_some_iff.1 h1).1
        refine hall i v d (by rw [List.getElem?_append_left hlt]; exact h1) ?_
        rw [List.getElem?_take] at h2
        rw [if_pos (by omega)] at h2
        exact h2
      · refine ⟨fun id b hb' => ?_, fun id b hb' g hg => ?_, fun id kk cs hb' => ?_, fun id id' b b' hb' hb'' hne2 g hg hg' => ?_⟩
        · rcases hcase id b hb' with ⟨h1, hni⟩ | ⟨n, pn, x, us, seg, q1, q2, q3, rfl, q5⟩ | ⟨hn1, rfl, seg, rfl, q4⟩
          · obtain ⟨k1, k2⟩ := hH.rep id b h1
            refine ⟨.inl k1, k2.keep k1 he (fun g hg => ?_) (fun g o hg hgo => ?_)⟩
            · refine hR'.below.block g (k2.lt g hg).2 ?_
              rintro (⟨n, i, hi, hik⟩ | hge)
              · obtain ⟨cs, _, h3, _⟩ := lent n i hi
                exact hH.apart _ _ _ _ h3 h1 (hni n i hi) g hik hg
              · have := (k2.lt g hg).2; omega
            · rcases hP.new g o hgo with h5 | h5
              · rcases hR'.new g o h5 with h6 | h6
                · exact h6
                · rcases h6 with ⟨n, i, hi, hik⟩ | hge
                  · obtain ⟨cs, _, h3, _⟩ := lent n i hi
                    exact absurd hg (hH.apart _ _ _ _ h3 h1 (hni n i hi) g hik)
                  · have := (k2.lt g hg).2; omega
              · rcases h5 with ⟨n, i, hi, hik⟩ | hge
                · obtain ⟨cs, _, h3, _⟩ := lent n i hi
                  exact absurd hg (hH.apart _ _ _ _ h3 h1 (hni n i hi) g hik)
                · have := (k2.lt g hg).2; omega
          · obtain ⟨cs, _, h3, _⟩ := lent n _ q1
            have hli := (hH.rep _ _ h3).1
            obtain ⟨g, t, p1, p2, p3⟩ := hvs n us x q3 q2
            refine ⟨.inl hli, g, t, us.toArray, ?_, Nat.zero_le _, p2, by simpa using q5, noF1 _ _ _ g (hfb n x.1 x.2 q2) p1⟩
            rw [hσ2 _ hli, ← hpin n _ x q1 q2]; exact p1
          · obtain ⟨h1, h2, h3, h4⟩ := hnw hn1
            refine ⟨.inr ⟨hn1, rfl⟩, gk, tk, nv.toArray, by rw [hσn, hP.σ]; exact h3, Nat.zero_le _, h4, by simpa using q4, noF1 _ _ _ gk h2 h3⟩
        · by_cases hidn : id = nid
          · subst hidn
            obtain ⟨h1, h2, _⟩ := hnewblk (hnwid b hb')
            rw [h1] at hg
            injection hg with hg
            subst hg
            exact hM'M _ h2
          · obtain ⟨b0, hb0'⟩ := hold id b hb' hidn
            rw [hσ2 id (hH.rep _ _ hb0').1] at hg
            exact hH.own id b0 hb0' g hg
        · rcases hcase id _ hb' with ⟨h1, hni⟩ | ⟨n, pn, x, us, seg, q1, q2, q3, q4, q5⟩ | ⟨hn1, rfl, seg, q3, q4⟩
          · rw [hσ2 id (hH.rep _ _ h1).1]
            exact hH.pin id kk cs h1
          · obtain ⟨cs', _, h3, _⟩ := lent n _ q1
            injection q4 with q4 _
            subst q4
            rw [hσ2 id (hH.rep _ _ h3).1]
            exact hH.pin id kk _ h3
          · injection q3 with q3 _
            cases q3
        · by_cases hidn : id = nid
          · subst hidn
            obtain ⟨h1, _, h2⟩ := hnewblk (hnwid b hb')
            obtain ⟨b0, hb0'⟩ := hold id' b' hb'' (fun e => hne2 e.symm)
            rw [hσ2 id' (hH.rep _ _ hb0').1] at hg'
            rw [h1] at hg
            injection hg with hg
            exact h2 id' b0 g hb0' hg' hg.symm
          · obtain ⟨b0, hb0'⟩ := hold id b hb' hidn
            rw [hσ2 id (hH.rep _ _ hb0').1] at hg
            by_cases hidn' : id' = nid
            · subst hidn'
              obtain ⟨h1, _, h2⟩ := hnewblk (hnwid b' hb'')
              rw [h1] at hg'
              injection hg' with hg'
              exact h2 id b0 g hb0' hg hg'.symm
            · obtain ⟨b1, hb1⟩ := hold id' b' hb'' hidn'
              rw [hσ2 id' (hH.rep _ _ hb1).1] at hg'
              exact hH.apart id id' b0 b1 hb0' hb1 hne2 g hg hg'
      · rcases hP.new b o hbo with h1 | h1
        · rcases hR'.new b o h1 with h2 | h2
          · exact .inl h2
          · exact .inr (hM'M b h2)
        · exact .inr (hM'M b h1)
    refine ⟨_, hrun, ?_⟩
    cases hk : newD (fl.map (·.1)) rs with
    | none =>
      rw [hk] at hp
      simp only [retP2] at hp
      obtain ⟨v', C2, e1, rest⟩ := final false 0 [] [] 0 0 (zipI fl is) (fun id j h => .inr h) (fun _ => ⟨rfl, rfl⟩) (fun h => by cases h) RepL.nil (by rw [List.append_nil]; exact hp)
      exact ⟨v', C2, by rw [e1], rest⟩
    | some k =>
      rw [hk] at hp
      simp only [retP2] at hp
      cases hkb : S'.heap k with
      | none => rw [hkb] at hp; exact hp.elim
      | some bk =>
        rw [hkb] at hp
        split at hp
        · rename_i ncs hbk
          injection hbk with hbk
          subst hbk
          obtain ⟨k1, k2⟩ := hR'.ok.heap.rep _ _ hkb
          obtain ⟨gk, tk, nv, q1, q2, q3, q4, q5⟩ := k2
          obtain ⟨v', C2, e1, rest⟩ := final true k nv.toList ncs gk tk ((k, nid) :: zipI fl is) (fun id j h => by
            simp only [look] at h
            split at h
            · rename_i he; injection h with h; exact .inl ⟨rfl, he, h.symm⟩
            · exact .inr h) (fun h => by cases h) (fun _ => ⟨newD_notin hk, hkb, q1, by simpa using q3⟩) q4 hp
          exact ⟨v', C2, by rw [e1], rest⟩
        · exact hp.elim
  cases e with
  | normal => exact fin hq
  | ret => exact fin hq
  | exit id => exact hq.elim
  | goto l => exact hq.elim
  | panic ch => exact hq.elim
  | outgrown => exact hq.elim
end
theorem vp : type_of% (And.intro @retP1.eq_1 <| And.intro @retP2.eq_1 <| And.intro @retP2.eq_2 <| And.intro @retP3.eq_1 <| And.intro @lentD.eq_1 <| And.intro @lentD.eq_2 <| And.intro @lentD.eq_3 <| And.intro @fnd.eq_1 <| And.intro @newD.eq_1 <| And.intro @newD.eq_2 <| And.intro @newD.eq_3 <| And.intro @memN.eq_1 <| And.intro @memN.eq_2 <| And.intro @zipI.eq_1 <| And.intro @zipI.eq_2 <| And.intro @zipI.eq_3 <| And.intro @effs.eq_1 <| And.intro @effs.eq_2 <| And.intro @effs.eq_3 <| And.intro @outL.eq_1 <| And.intro @outL.eq_2 <| And.intro @out1.eq_1 <| And.intro @out1.eq_2 <| And.intro @List.flatMap_cons <| And.intro @List.flatMap_nil <| And.intro @List.map_cons <| And.intro @List.map_nil <| And.intro @List.cons_append <| And.intro @List.nil_append <| And.intro @List.append_nil <| And.intro @List.length_cons <| And.intro @List.length_nil <| And.intro @List.take_succ_cons <| And.intro @List.take_zero <| And.intro @List.drop_succ_cons <| And.intro @List.drop_zero <| And.intro @List.getElem?_cons_zero @List.getElem?_cons_succ) := And.intro @retP1.eq_1 <| And.intro @retP2.eq_1 <| And.intro @retP2.eq_2 <| And.intro @retP3.eq_1 <| And.intro @lentD.eq_1 <| And.intro @lentD.eq_2 <| And.intro @lentD.eq_3 <| And.intro @fnd.eq_1 <| And.intro @newD.eq_1 <| And.intro @newD.eq_2 <| And.intro @newD.eq_3 <| And.intro @memN.eq_1 <| And.intro @memN.eq_2 <| And.intro @zipI.eq_1 <| And.intro @zipI.eq_2 <| And.intro @zipI.eq_3 <| And.intro @effs.eq_1 <| And.intro @effs.eq_2 <| And.intro @effs.eq_3 <| And.intro @outL.eq_1 <| And.intro @outL.eq_2 <| And.intro @out1.eq_1 <| And.intro @out1.eq_2 <| And.intro @List.flatMap_cons <| And.intro @List.flatMap_nil <| And.intro @List.map_cons <| And.intro @List.map_nil <| And.intro @List.cons_append <| And.intro @List.nil_append <| And.intro @List.append_nil <| And.intro @List.length_cons <| And.intro @List.length_nil <| And.intro @List.take_succ_cons <| And.intro @List.take_zero <| And.intro @List.drop_succ_cons <| And.intro @List.drop_zero <| And.intro @List.getElem?_cons_zero @List.getElem?_cons_succ
end Go.Proofs.YtipdmcpmedmicaaDoor
