/- Regions that draw their order, second part. -/
import Derived.Test.YtipdmcpmedmicaaDoorFwQ
set_option linter.unusedSimpArgs false
set_option linter.unusedVariables false
namespace Go.Proofs.YtipdmcpmedmicaaDoor
open Go.RowKit

/-- The edges that bind every order, of an operation. -/
def edgesOf (o : Oper) : List Nat := (o.after.toList.filter (Region.binds .any)).map (·.on)
/-- What lies ahead of each operation, in whatever order. -/
def aheadL : List (List Nat) → List Nat → List Nat
  | [], acc => acc
  | es :: rest, acc => aheadL rest (acc ++ [es.foldl (fun s e => s ||| 2 ^ e ||| acc.getD e 0) 0])
def aheads (ops : Array Oper) : List Nat := aheadL (ops.toList.map edgesOf) []
/-- The static conditions on a region that draws. -/
def drawOk (ops : Array Oper) : Bool :=
  let b := aheads ops
  (ops.toList.zipIdx.all fun p => quietOp p.1.op && (edgesOf p.1).all (fun e => decide (e < p.2))) &&
  (ops.toList.zipIdx.all fun p => ops.toList.zipIdx.all fun q => q.2 == p.2 || match q.1.dst with
    | none => true
    | some t => (!(p.1.looksAt ops).contains t && p.1.dst != some t) || (b.getD (max q.2 p.2) 0).testBit (min q.2 p.2))

/-- An operation that changes blocks is ordered against all others that touch some. -/
def hvOk (ops : Array Oper) (i : Nat) : Bool := ops.toList.zipIdx.all fun q => q.2 == i || !heapy q.1.op || ((aheads ops).getD (max q.2 i) 0).testBit (min q.2 i)
/-- It touches old blocks, its own, and those of operations ahead of it. -/
def effIn (ops : Array Oper) (n i : Nat) (eff : Eff) : Bool := eff.all fun p => decide (p.1 < n) || p.1 == n + i || (decide (p.1 < n + i) && ((aheads ops).getD i 0).testBit (p.1 - n))
def effH (ops : Array Oper) (n i : Nat) (eff : Eff) : Bool := effOk (n + i) eff || (hvOk ops i && effIn ops n i eff)
theorem appEff_notin : ∀ (e : Eff) (H : Nat → Option Blk) (id : Nat), (∀ p ∈ e, p.1 ≠ id) → appEff H e id = H id
  | [], _, _, _ => rfl
  | (i, b) :: e, H, id, h => by
    simp only [appEff]
    rw [appEff_notin e _ id (fun p hp => h p (by simp [hp]))]
    simp only [upd]
    rw [if_neg (fun he => h (i, b) (by simp) he.symm)]
theorem appEff_congr : ∀ (e : Eff) (H H' : Nat → Option Blk) (id : Nat), H id = H' id → appEff H e id = appEff H' e id
  | [], _, _, _, h => h
  | (i, b) :: e, H, H', id, h => by
    simp only [appEff]
    refine appEff_congr e _ _ id ?_
    simp only [upd]
    split
    · rfl
    · exact h
theorem appEff_in : ∀ (e : Eff) (H H' : Nat → Option Blk) (id : Nat), (∃ p ∈ e, p.1 = id) → appEff H e id = appEff H' e id
  | [], _, _, _, h => by obtain ⟨_, h, _⟩ := h; cases h
  | (i, b) :: e, H, H', id, h => by
    simp only [appEff]
    by_cases he : i = id
    · refine appEff_congr e _ _ id ?_
      simp only [upd]
      rw [if_pos he.symm, if_pos he.symm]
    · refine appEff_in e _ _ id ?_
      obtain ⟨p, hp, hpe⟩ := h
      rcases List.mem_cons.1 hp with rfl | hp
      · exact absurd hpe he
      · exact ⟨p, hp, hpe⟩
theorem appEff_comm (E e : Eff) (H : Nat → Option Blk) (id : Nat) (h : ∀ p ∈ E, ∀ q ∈ e, p.1 ≠ q.1) : appEff (appEff H E) e id = appEff (appEff H e) E id := by
  by_cases h1 : ∃ p ∈ e, p.1 = id
  · rw [appEff_in e (appEff H E) H id h1, appEff_notin E (appEff H e) id]
    intro p hp hpe
    obtain ⟨q, hq, hqe⟩ := h1
    exact h p hp q hq (hpe.trans hqe.symm)
  · have h1' : ∀ p ∈ e, p.1 ≠ id := fun p hp he => h1 ⟨p, hp, he⟩
    rw [appEff_notin e _ id h1']
    exact appEff_congr E _ _ id (appEff_notin e H id h1').symm

theorem fold_bit (acc : List Nat) (i : Nat) : ∀ (es : List Nat) (s : Nat), (es.foldl (fun s e => s ||| 2 ^ e ||| acc.getD e 0) s).testBit i = true → s.testBit i = true ∨ ∃ e ∈ es, e = i ∨ (acc.getD e 0).testBit i = true
  | [], s, h => .inl h
  | e :: es, s, h => by
    rcases fold_bit acc i es _ h with h1 | ⟨e', he', h1⟩
    · simp only [Nat.testBit_or, Bool.or_eq_true] at h1
      rcases h1 with (h1 | h1) | h1
      · exact .inl h1
      · rw [Nat.testBit_two_pow] at h1
        exact .inr ⟨e, by simp, .inl (by simpa using h1)⟩
      · exact .inr ⟨e, by simp, .inr h1⟩
    · exact .inr ⟨e', by simp [he'], h1⟩
theorem aheadL_spec (X : Nat → Prop) : ∀ (ess : List (List Nat)) (acc : List Nat) (all : List (List Nat)), all.drop acc.length = ess → (∀ j es, all[j]? = some es → X j → ∀ e ∈ es, X e) →
    (∀ j es, all[j]? = some es → j < acc.length → (∀ e ∈ es, X e) → ∀ i, (acc.getD j 0).testBit i = true → X i) →
    ∀ j es, all[j]? = some es → (∀ e ∈ es, X e) → ∀ i, ((aheadL ess acc).getD j 0).testBit i = true → X i := by
  intro ess
  induction ess with
  | nil =>
    intro acc all hd hX hacc j es hj hes i hb
    simp only [aheadL] at hb
    refine hacc j es hj ?_ hes i hb
    have h1 := (List.getElem?_eq_some_iff.1 hj).1
    have := congrArg List.length hd
    simp at this
    omega
  | cons e0 ess ih =>
    intro acc all hd hX hacc j es hj hes i hb
    simp only [aheadL] at hb
    have h0 : all[acc.length]? = some e0 := by
      have : (all.drop acc.length)[0]? = some e0 := by rw [hd]; rfl
      simpa using this
    refine ih _ all ?_ hX ?_ j es hj hes i hb
    · rw [List.length_append, List.length_singleton, ← List.drop_drop, hd]; rfl
    · intro j' es' hj' hlt hes' i' hb'
      rw [List.length_append, List.length_singleton] at hlt
      by_cases hj0 : j' < acc.length
      · refine hacc j' es' hj' hj0 hes' i' ?_
        simpa [List.getD, List.getElem?_append_left hj0] using hb'
      · have hje : j' = acc.length := by omega
        subst hje
        rw [h0] at hj'
        injection hj' with hj'
        subst hj'
        have hb2 : (e0.foldl (fun s e => s ||| 2 ^ e ||| acc.getD e 0) 0).testBit i' = true := by simpa [List.getD] using hb'
        rcases fold_bit acc i' e0 0 hb2 with h1 | ⟨e, he, h1⟩
        · simp at h1
        · rcases h1 with rfl | h1
          · exact hes' _ he
          · have hlt' : e < acc.length := by
              rcases Nat.lt_or_ge e acc.length with h | h
              · exact h
              · simp [List.getD, List.getElem?_eq_none h] at h1
            have hXe := hes' e he
            have hall : e < all.length := by have := (List.getElem?_eq_some_iff.1 h0).1; omega
            exact hacc e _ (List.getElem?_eq_getElem hall) hlt' (hX e _ (List.getElem?_eq_getElem hall) hXe) i' h1

/-- A set of operations that is closed holds what lies ahead of each. -/
theorem aheads_spec {ops : Array Oper} (X : Nat → Prop) (hX : ∀ j o, ops[j]? = some o → X j → ∀ e ∈ edgesOf o, X e) (j : Nat) (o : Oper) (ho : ops[j]? = some o) (he : ∀ e ∈ edgesOf o, X e) (i : Nat) (hb : ((aheads ops).getD j 0).testBit i = true) : X i := by
  have get : ∀ (j : Nat) es, (ops.toList.map edgesOf)[j]? = some es → ∃ o, ops[j]? = some o ∧ edgesOf o = es := by
    intro j es h
    simp only [List.getElem?_map] at h
    cases hj : ops.toList[j]? with
    | none => rw [hj] at h; simp at h
    | some o => rw [hj] at h; simp at h; exact ⟨o, by simpa using hj, h⟩
  refine aheadL_spec X (ops.toList.map edgesOf) [] (ops.toList.map edgesOf) (by simp) ?_ (by simp) j (edgesOf o) (by simp [ho]) he i hb
  intro j es h hj
  obtain ⟨o, h1, rfl⟩ := get j es h
  exact hX j o h1 hj

section
variable {P : Program} {I : World → Prop} {ops : Array Oper} {S : AS} {tr : Nat → D × Eff}
/-- The state when the operations of a set are done. -/
def stX (ops : Array Oper) (S : AS) (tr : Nat → D × Eff) (X : Nat → Bool) : Nat → AS
  | 0 => S
  | m + 1 => match ops[m]? with
    | some o => if X m then (stX ops S tr X m).step o (tr m).1 (tr m).2 else stX ops S tr X m
    | none => stX ops S tr X m
theorem stX_next (X : Nat → Bool) : ∀ m, (stX ops S tr X m).next = S.next ∧ (stX ops S tr X m).nt = S.nt
  | 0 => ⟨rfl, rfl⟩
  | m + 1 => by
    simp only [stX]
    split
    · split
      · exact stX_next X m
      · exact stX_next X m
    · exact stX_next X m
theorem stX_env {X Y : Nat → Bool} {t : Nat} : ∀ m, (∀ i o, i < m → ops[i]? = some o → o.dst = some t → X i = Y i) → (stX ops S tr X m).env t = (stX ops S tr Y m).env t
  | 0, _ => rfl
  | m + 1, h => by
    have ih := stX_env (X := X) (Y := Y) m fun i o hi => h i o (by omega)
    simp only [stX]
    cases ho : ops[m]? with
    | none => exact ih
    | some o =>
      simp only
      by_cases hd : o.dst = some t
      · have hxy := h m o (by omega) ho hd
        rw [hxy]
        split
        · simp [AS.step, hd, upd]
        · exact ih
      · have hstep : ∀ S1 : AS, (S1.step o (tr m).1 (tr m).2).env t = S1.env t := by
          intro S1
          simp only [AS.step]
          cases hdst : o.dst with
          | none => rfl
          | some t' => simp only [upd]; rw [if_neg (fun e => hd (by rw [hdst, e]))]
        split <;> split <;> simp only [hstep, ih]
theorem stX_heap {X Y : Nat → Bool} {id : Nat} : ∀ m, (∀ i, i < m → effOk (S.next + i) (tr i).2 = false → X i = Y i) → (∀ i, i < m → id = S.next + i → X i = Y i) → (stX ops S tr X m).heap id = (stX ops S tr Y m).heap id
  | 0, _, _ => rfl
  | m + 1, hv, h => by
    have ih := stX_heap (X := X) (Y := Y) m (fun i hi => hv i (by omega)) (fun i hi => h i (by omega))
    simp only [stX]
    cases ho : ops[m]? with
    | none => exact ih
    | some o =>
      simp only
      have both : X m = Y m → (if X m = true then (stX ops S tr X m).step o (tr m).1 (tr m).2 else stX ops S tr X m).heap id = (if Y m = true then (stX ops S tr Y m).step o (tr m).1 (tr m).2 else stX ops S tr Y m).heap id := by
        intro hxy
        rw [hxy]
        split
        · simp only [AS.step]; exact appEff_congr _ _ _ id ih
        · exact ih
      cases he : effOk (S.next + m) (tr m).2 with
      | false => exact both (hv m (by omega) he)
      | true =>
        by_cases hid : id = S.next + m
        · exact both (h m (by omega) hid)
        · have hstep : ∀ S1 : AS, (S1.step o (tr m).1 (tr m).2).heap id = S1.heap id := by
            intro S1
            simp only [AS.step]
            refine appEff_notin _ _ id fun p hp hpe => hid ?_
            unfold effOk at he
            split at he
            · rename_i e0; rw [e0] at hp; cases hp
            · rename_i i0 b0 e0
              rw [e0] at hp
              simp at hp he
              subst hp
              rw [← hpe, he]
            · simp at he
          split <;> split <;> simp only [hstep, ih]
theorem stX_cut (j : Nat) : ∀ m, j ≤ m → stX ops S tr (fun i => decide (i < j)) m = stX ops S tr (fun _ => true) j := by
  intro m
  induction m with
  | zero => intro h; obtain rfl : j = 0 := (by omega); rfl
  | succ m ih =>
    intro h
    by_cases hj : j = m + 1
    · subst hj
      have : ∀ m', m' ≤ m + 1 → stX ops S tr (fun i => decide (i < m + 1)) m' = stX ops S tr (fun _ => true) m' := by
        intro m'
        induction m' with
        | zero => intro _; rfl
        | succ m' ih' =>
          intro h'
          have hm : decide (m' < m + 1) = true := decide_eq_true (by omega)
          simp only [stX, ih' (by omega), hm]
      exact this _ (Nat.le_refl _)
    · have hm : decide (m < j) = false := decide_eq_false (by omega)
      have ihm := ih (by omega)
      simp only [stX]
      cases ops[m]? with
      | none => exact ihm
      | some o => simp only [hm, Bool.false_eq_true, if_false]; exact ihm
theorem AS.ext2 {S1 S2 : AS} (h1 : ∀ t, S1.env t = S2.env t) (h2 : ∀ id, S1.heap id = S2.heap id) (h3 : S1.next = S2.next) (h4 : S1.nt = S2.nt) : S1 = S2 := by
  obtain ⟨e1, p1, n1, m1⟩ := S1
  obtain ⟨e2, p2, n2, m2⟩ := S2
  simp only at *
  subst h3 h4
  obtain rfl : e1 = e2 := funext h1
  obtain rfl : p1 = p2 := funext h2
  rfl

theorem mem_ready' {listed : Array Bool} {j : Nat} : j ∈ Region.ready .any ops listed ↔ ∃ o, ops[j]? = some o ∧ listed.getD j true = false ∧ ∀ e ∈ edgesOf o, listed.getD e false = true := by
  unfold Region.ready edgesOf
  rw [List.mem_filter, List.mem_range]
  constructor
  · rintro ⟨h1, h2⟩
    have ho : ops[j]? = some ops[j] := Array.getElem?_eq_getElem h1
    rw [ho] at h2
    simp only [Option.map_some, Option.getD_some, Bool.and_eq_true, Bool.not_eq_true'] at h2
    refine ⟨_, ho, h2.1, fun e he => ?_⟩
    obtain ⟨ed, hed, rfl⟩ := List.mem_map.1 he
    obtain ⟨hm, hb⟩ := List.mem_filter.1 hed
    have := Array.all_eq_true'.1 h2.2 ed (by simpa using hm)
    rw [hb] at this
    simpa using this
  · rintro ⟨o, ho, h1, h2⟩
    have hlt : j < ops.size := by
      rcases Nat.lt_or_ge j ops.size with h | h
      · exact h
      · rw [Array.getElem?_eq_none h] at ho; cases ho
    refine ⟨hlt, ?_⟩
    rw [ho]
    simp only [Option.map_some, Option.getD_some, Bool.and_eq_true, Bool.not_eq_true']
    refine ⟨h1, Array.all_eq_true'.2 fun ed hed => ?_⟩
    cases hb : Region.binds .any ed with
    | false => rfl
    | true => simpa using h2 ed.on (List.mem_map.2 ⟨ed, List.mem_filter.2 ⟨by simpa using hed, hb⟩, rfl⟩)

theorem stX_comm {X X' : Nat → Bool} {j : Nat} {o : Oper} (hX : ∀ i, X' i = if i = j then true else X i) (hj : X j = false) (ho : ops[j]? = some o) (hc : ∀ m, j < m → m < ops.size → X m = true → ∀ p ∈ (tr j).2, ∀ q ∈ (tr m).2, p.1 ≠ q.1) (id : Nat) :
    ∀ m, j < m → m ≤ ops.size → (stX ops S tr X' m).heap id = appEff (stX ops S tr X m).heap (tr j).2 id := by
  have hsame : ∀ m, m ≤ j → stX ops S tr X' m = stX ops S tr X m := by
    intro m
    induction m with
    | zero => intro _; rfl
    | succ m ihm =>
      intro hm
      have hXm : X' m = X m := by rw [hX, if_neg (by omega)]
      simp only [stX, ihm (by omega), hXm]
  intro m
  induction m with
  | zero => intro h; omega
  | succ m ihm =>
    intro hjm hms
    by_cases hmj : m = j
    · subst hmj
      have hXm : X' m = true := by rw [hX, if_pos rfl]
      simp only [stX, ho, hsame m (Nat.le_refl _), hXm, if_true, hj, Bool.false_eq_true, if_false, AS.step]
    · have ih2 := ihm (by omega) (by omega)
      have hom : ops[m]? = some ops[m] := Array.getElem?_eq_getElem (by omega)
      have hXm : X' m = X m := by rw [hX, if_neg hmj]
      simp only [stX, hom, hXm]
      cases hxm : X m with
      | false => simp only [Bool.false_eq_true, if_false]; exact ih2
      | true =>
        simp only [if_true, AS.step]
        rw [appEff_congr _ _ _ id ih2]
        exact appEff_comm _ _ _ id (hc m (by omega) (by omega) hxm)

set_option maxHeartbeats 2000000 in
/-- Every order comes to the state of the order of the text. -/
theorem draw_any {G : Gh} {Q : Exit → Act → World → Prop} (hstab : Stab I) (hd : dstsOk ops S.nt = true) (hok : drawOk ops = true) (heff : ∀ i, effH ops S.next i (tr i).2 = true) (hS : ∀ id b, S.heap id = some b → id < S.next)
    (hT : ∀ i o, ops[i]? = some o → St1 P I ops i o (stX ops S tr (fun _ => true) i) (tr i).1 (tr i).2)
    (hQ : ∀ C a w, Rel I G (fun id => id < S.next + ops.size) (stX ops S tr (fun _ => true) ops.size) C a w → Q .normal a w) :
    ∀ (fuel : Nat) (listed : Array Bool) (C : Cx) (a : Act) (w : World), listed.size = ops.size → (∀ j o, ops[j]? = some o → listed.getD j false = true → ∀ e ∈ edgesOf o, listed.getD e false = true) → (listed.toList.filter (fun b => !b)).length ≤ fuel →
      Rel I G (fun id => id < S.next ∨ ∃ i, i < ops.size ∧ listed.getD i false = true ∧ id = S.next + i) (stX ops S tr (fun i => listed.getD i false) ops.size) C a w → wpAny P .any ops Q fuel listed a w := by
  -- the static conditions
  simp only [drawOk, Bool.and_eq_true] at hok
  obtain ⟨hok1, hok2⟩ := hok
  have quiet : ∀ j o, ops[j]? = some o → quietOp o.op = true ∧ ∀ e ∈ edgesOf o, e < j := by
    intro j o ho
    have hm : (o, j) ∈ ops.toList.zipIdx := by
      rw [List.mem_zipIdx_iff_getElem?]; simpa using ho
    have := List.all_eq_true.1 hok1 (o, j) hm
    simp only [Bool.and_eq_true, List.all_eq_true, decide_eq_true_eq] at this
    exact this
  have order : ∀ i j oi oj t, ops[i]? = some oi → ops[j]? = some oj → i ≠ j → oi.dst = some t → (t ∈ oj.looksAt ops ∨ oj.dst = some t) → ((aheads ops).getD (max i j) 0).testBit (min i j) = true := by
    intro i j oi oj t hi hj hne hdst ht
    have hm : (oj, j) ∈ ops.toList.zipIdx := by rw [List.mem_zipIdx_iff_getElem?]; simpa using hj
    have hm' : (oi, i) ∈ ops.toList.zipIdx := by rw [List.mem_zipIdx_iff_getElem?]; simpa using hi
    have := List.all_eq_true.1 (List.all_eq_true.1 hok2 (oj, j) hm) (oi, i) hm'
    simp only [hdst, Bool.or_eq_true, Bool.and_eq_true, beq_iff_eq, Bool.not_eq_true', bne_iff_ne, ne_eq] at this
    rcases this with h | h | h
    · exact absurd h hne
    · rcases ht with ht | ht
      · have : (oj.looksAt ops).contains t = true := by simpa using ht
        rw [this] at h; simp at h
      · exact absurd ht h.2
    · exact h
  have T_dst : ∀ j o, ops[j]? = some o → j < ops.size := by
    intro j o ho
    rcases Nat.lt_or_ge j ops.size with h | h
    · exact h
    · rw [Array.getElem?_eq_none h] at ho; cases ho
  have heavy : ∀ i, effOk (S.next + i) (tr i).2 = false → hvOk ops i = true ∧ effIn ops S.next i (tr i).2 = true := by
    intro i hi
    have := heff i
    unfold effH at this
    rw [hi] at this
    simpa using this
  have hvord : ∀ i j oj, hvOk ops i = true → ops[j]? = some oj → i ≠ j → heapy oj.op = true → ((aheads ops).getD (max j i) 0).testBit (min j i) = true := by
    intro i j oj hi hj hne hp
    have hm : (oj, j) ∈ ops.toList.zipIdx := by rw [List.mem_zipIdx_iff_getElem?]; simpa using hj
    have := List.all_eq_true.1 hi (oj, j) hm
    simp only [hp, Bool.or_eq_true, beq_iff_eq, Bool.not_true, Bool.false_eq_true, or_false] at this
    rcases this with h | h
    · exact absurd h.symm hne
    · exact h
  have effin : ∀ i, ∀ p ∈ (tr i).2, p.1 < S.next ∨ p.1 = S.next + i ∨ (p.1 < S.next + i ∧ ((aheads ops).getD i 0).testBit (p.1 - S.next) = true) := by
    intro i p hp
    cases he : effOk (S.next + i) (tr i).2 with
    | false =>
      have := List.all_eq_true.1 (heavy i he).2 p hp
      simp only [Bool.or_eq_true, decide_eq_true_eq, beq_iff_eq, Bool.and_eq_true] at this
      rcases this with (h | h) | h
      · exact .inl h
      · exact .inr (.inl h)
      · exact .inr (.inr h)
    | true =>
      unfold effOk at he
      split at he
      · rename_i e0; rw [e0] at hp; cases hp
      · rename_i i0 b0 e0
        rw [e0] at hp
        simp at hp he
        subst hp
        exact .inr (.inl he)
      · simp at he
  have efflight : ∀ i, effOk (S.next + i) (tr i).2 = true → ∀ p ∈ (tr i).2, p.1 = S.next + i := by
    intro i he p hp
    unfold effOk at he
    split at he
    · rename_i e0; rw [e0] at hp; cases hp
    · rename_i i0 b0 e0
      rw [e0] at hp
      simp at hp he
      subst hp
      exact he
    · simp at he
  have fresh : ∀ j i, j ≤ i → ∀ m, (stX ops S tr (fun i => decide (i < j)) m).heap (S.next + i) = S.heap (S.next + i) := by
    intro j i hji m
    induction m with
    | zero => rfl
    | succ m ihm =>
      simp only [stX]
      cases hom : ops[m]? with
      | none => exact ihm
      | some om =>
        simp only
        split
        · rename_i hm
          have hm' : m < j := by simpa using hm
          simp only [AS.step]
          rw [appEff_notin _ _ _ (fun p hp => by rcases effin m p hp with h | h | h <;> omega)]
          exact ihm
        · exact ihm
  intro fuel
  induction fuel with
  | zero =>
    intro listed C a w hsz hcl hfu hR
    have hall : ∀ i, i < ops.size → listed.getD i false = true := by
      intro i hi
      have hnil : listed.toList.filter (fun b => !b) = [] := List.eq_nil_of_length_eq_zero (by omega)
      rw [List.filter_eq_nil_iff] at hnil
      have hlt : i < listed.size := by omega
      have := hnil listed[i] (by simp)
      simpa [Array.getD, hlt] using this
    have hst : stX ops S tr (fun i => listed.getD i false) ops.size = stX ops S tr (fun _ => true) ops.size :=
      AS.ext2 (fun t => stX_env _ fun i o hi _ _ => hall i hi) (fun id => stX_heap _ (fun i hi _ => hall i hi) (fun i hi _ => hall i hi)) (by rw [(stX_next _ _).1, (stX_next _ _).1]) (by rw [(stX_next _ _).2, (stX_next _ _).2])
    refine ⟨?_, ?_⟩
    · cases hr : Region.ready .any ops listed with
      | nil => rfl
      | cons j rest =>
        have hj : j ∈ Region.ready .any ops listed := by rw [hr]; simp
        obtain ⟨o, ho, h1, _⟩ := mem_ready'.1 hj
        have h2 := hall j (T_dst j o ho)
        have hlt : j < listed.size := by have := T_dst j o ho; omega
        simp [Array.getD, hlt] at h1 h2
        rw [h1] at h2; cases h2
    · refine hQ C a w ?_
      rw [hst] at hR
      exact ⟨hR.ok, hR.inv, hR.below, hR.new, hR.ext, hR.defers, hR.size, fun id hl => by rcases hR.live id hl with h | ⟨i, hi, _, h⟩ <;> omega⟩
  | succ fuel ih =>
    intro listed C a w hsz hcl hfu hR
    refine ⟨fun hr => ?_, fun j hj => ?_⟩
    · -- nothing is ready: all are done
      have hall : ∀ i, i < ops.size → listed.getD i false = true := by
        intro i
        induction i using Nat.strongRecOn with
        | _ i ihi =>
          intro hi
          cases hb : listed.getD i false with
          | true => rfl
          | false =>
            exfalso
            have ho : ops[i]? = some ops[i] := Array.getElem?_eq_getElem hi
            have hlt : i < listed.size := by omega
            have : i ∈ Region.ready .any ops listed := mem_ready'.2 ⟨_, ho, by simpa [Array.getD, hlt] using hb, fun e he => ihi e ((quiet i _ ho).2 e he) (by have := (quiet i _ ho).2 e he; omega)⟩
            rw [hr] at this
            cases this
      have hst : stX ops S tr (fun i => listed.getD i false) ops.size = stX ops S tr (fun _ => true) ops.size :=
        AS.ext2 (fun t => stX_env _ fun i o hi _ _ => hall i hi) (fun id => stX_heap _ (fun i hi _ => hall i hi) (fun i hi _ => hall i hi)) (by rw [(stX_next _ _).1, (stX_next _ _).1]) (by rw [(stX_next _ _).2, (stX_next _ _).2])
      refine hQ C a w ?_
      rw [hst] at hR
      exact ⟨hR.ok, hR.inv, hR.below, hR.new, hR.ext, hR.defers, hR.size, fun id hl => by rcases hR.live id hl with h | ⟨i, hi, _, h⟩ <;> omega⟩
    · obtain ⟨o, ho, hl0, hed⟩ := mem_ready'.1 hj
      have hjlt := T_dst j o ho
      have hjl : j < listed.size := by omega
      have hjX : listed.getD j false = false := by simpa [Array.getD, hjl] using hl0
      have XX : ∀ j' o', ops[j']? = some o' → listed.getD j' false = true → ∀ e ∈ edgesOf o', listed.getD e false = true := hcl
      -- what lies ahead of j is done; what lies behind it is not
      have done : ∀ i, ((aheads ops).getD j 0).testBit i = true → listed.getD i false = true := fun i hb => aheads_spec (fun i => listed.getD i false = true) XX j o ho hed i hb
      have notdone : ∀ i oi, ops[i]? = some oi → ((aheads ops).getD i 0).testBit j = true → listed.getD i false = false := by
        intro i oi hi hb
        cases hx : listed.getD i false with
        | false => rfl
        | true =>
          have := aheads_spec (fun i => listed.getD i false = true) XX i oi hi (XX i oi hi hx) j hb
          rw [hjX] at this; cases this
      have agree : ∀ t, (t ∈ o.looksAt ops ∨ o.dst = some t) → ∀ i oi, ops[i]? = some oi → oi.dst = some t → i ≠ j → listed.getD i false = decide (i < j) := by
        intro t ht i oi hi hdst hne
        have hb := order i j oi o t hi ho hne hdst ht
        by_cases hij : i < j
        · rw [Nat.max_eq_right (by omega), Nat.min_eq_left (by omega)] at hb
          rw [done i hb, decide_eq_true hij]
        · rw [Nat.max_eq_left (by omega), Nat.min_eq_right (by omega)] at hb
          rw [notdone i oi hi hb, decide_eq_false hij]
      have hcut := stX_cut (ops := ops) (S := S) (tr := tr) j ops.size (by omega)
      have henv : ∀ t ∈ o.looksAt ops, (stX ops S tr (fun i => listed.getD i false) ops.size).env t = (stX ops S tr (fun _ => true) j).env t := by
        intro t ht
        rw [← hcut]
        refine stX_env _ fun i oi _ hi hdst => ?_
        by_cases hne : i = j
        · subst hne; rw [hjX, decide_eq_false (by omega)]
        · exact agree t (.inl ht) i oi hi hdst hne
      have hvj : heapy o.op = true → ∀ i, i < ops.size → effOk (S.next + i) (tr i).2 = false → listed.getD i false = decide (i < j) := by
        intro hp i hi he
        by_cases hne : i = j
        · subst hne; rw [hjX, decide_eq_false (by omega)]
        · have hb := hvord i j o (heavy i he).1 ho hne hp
          have hoi : ops[i]? = some ops[i] := Array.getElem?_eq_getElem hi
          by_cases hij : i < j
          · rw [Nat.max_eq_left (by omega), Nat.min_eq_right (by omega)] at hb
            rw [done i hb, decide_eq_true hij]
          · rw [Nat.max_eq_right (by omega), Nat.min_eq_left (by omega)] at hb
            rw [notdone i _ hoi hb, decide_eq_false hij]
      have hheap : heapy o.op = true → ∀ t ∈ o.looksAt ops, Sub (stX ops S tr (fun _ => true) j).heap (stX ops S tr (fun i => listed.getD i false) ops.size).heap ((stX ops S tr (fun _ => true) j).env t).ids := by
        intro hp t ht id hid b hb
        have hrep := hR.ok.env t
        rw [henv t ht] at hrep
        have hlive := hR.live id (hrep.liveS hid)
        rw [← hcut] at hb
        rw [← hb]
        refine stX_heap _ (fun i hi he => hvj hp i hi he) fun i hi hidi => ?_
        rcases hlive with h | ⟨i', hi', hx, h⟩
        · omega
        · obtain rfl : i = i' := by omega
          rw [hx]
          by_cases hij : i < j
          · rw [decide_eq_true hij]
          · exfalso
            rw [h, fresh j i (by omega)] at hb
            have := hS _ b hb
            omega
      have hst1 := (hT j o ho).mono (S' := stX ops S tr (fun i => listed.getD i false) ops.size) (quiet j o ho).1 (by rw [(stX_next _ _).1, (stX_next _ _).1]) henv hheap (fun hp _ id b hlt hb => by
        rw [(stX_next _ _).1] at hlt
        rw [← hcut] at hb
        rw [← hb]
        exact stX_heap _ (fun i hi he => hvj hp i hi he) (fun i hi hid => by omega))
      have hnx := (stX_next (ops := ops) (S := S) (tr := tr) (fun i => listed.getD i false) ops.size).1
      have hnt := (stX_next (ops := ops) (S := S) (tr := tr) (fun i => listed.getD i false) ops.size).2
      refine awpO_sound hstab hR (by rw [hnt]; exact hd) ho ?_ hst1.toO ?_
      · rw [hnx]
        rintro (h | ⟨i, hi, hx, h⟩)
        · omega
        · obtain rfl : i = j := by omega
          rw [hjX] at hx; cases hx
      · intro S' C' a' w' hS' _ _ hR'
        subst hS'
        have hget : ∀ i, (listed.setIfInBounds j true).getD i false = if i = j then true else listed.getD i false := by
          intro i
          by_cases hij : i = j
          · subst hij; simp [Array.getD, hjl]
          · rw [if_neg hij]; exact getD_set_ne false (fun e => hij e.symm)
        have hstep : (stX ops S tr (fun i => listed.getD i false) ops.size).step o (tr j).1 (tr j).2 = stX ops S tr (fun i => (listed.setIfInBounds j true).getD i false) ops.size := by
          have hcut' := stX_cut (ops := ops) (S := S) (tr := tr) (j + 1) ops.size (by omega)
          refine AS.ext2 (fun t => ?_) (fun id => ?_) ?_ ?_
          · by_cases hdt : o.dst = some t
            · have h1 : (stX ops S tr (fun i => (listed.setIfInBounds j true).getD i false) ops.size).env t = (stX ops S tr (fun i => decide (i < j + 1)) ops.size).env t := by
                refine stX_env _ fun i oi _ hi hdst => ?_
                rw [hget]
                by_cases hij : i = j
                · subst hij; simp
                · rw [if_neg hij, agree t (.inr hdt) i oi hi hdst hij]
                  by_cases h : i < j
                  · rw [decide_eq_true h, decide_eq_true (by omega)]
                  · rw [decide_eq_false h, decide_eq_false (by omega)]
              rw [h1, hcut']
              simp [stX, ho, AS.step, hdt, upd]
            · have h1 : (stX ops S tr (fun i => (listed.setIfInBounds j true).getD i false) ops.size).env t = (stX ops S tr (fun i => listed.getD i false) ops.size).env t := by
                refine stX_env _ fun i oi _ hi hdst => ?_
                rw [hget]
                by_cases hij : i = j
                · subst hij; rw [ho] at hi; injection hi with hi; subst hi; exact absurd hdst hdt
                · rw [if_neg hij]
              rw [h1]
              simp only [AS.step]
              cases hdst : o.dst with
              | none => rfl
              | some t' => simp only [upd]; rw [if_neg (fun e => hdt (by rw [hdst, e]))]
          · -- what j does to blocks commutes with what was done ahead of it
            simp only [AS.step]
            refine (stX_comm (X := fun i => listed.getD i false) (X' := fun i => (listed.setIfInBounds j true).getD i false) hget hjX ho ?_ id ops.size (by omega) (Nat.le_refl _)).symm
            intro m hjm hms hxm p hp q hq hpq
            have hmj : m ≠ j := by omega
            have hom : ops[m]? = some ops[m] := Array.getElem?_eq_getElem hms
            have nob : ((aheads ops).getD m 0).testBit j = true → False := fun hb => by
              have := notdone m _ hom hb
              rw [hxm] at this; cases this
            have noth : heapy o.op = true → effOk (S.next + m) (tr m).2 = false → False := by
              intro h1 h2
              have hb := hvord m j o (heavy m h2).1 ho hmj h1
              rw [Nat.max_eq_right (by omega), Nat.min_eq_left (by omega)] at hb
              exact nob hb
            cases hej : effOk (S.next + j) (tr j).2 with
            | true =>
              have hpj := efflight j hej p hp
              cases hem : effOk (S.next + m) (tr m).2 with
              | true => have := efflight m hem q hq; omega
              | false =>
                rcases effin m q hq with h | h | ⟨h, hb⟩
                · omega
                · omega
                · rw [← hpq, hpj, Nat.add_sub_cancel_left] at hb
                  exact nob hb
            | false =>
              have hhj : heapy o.op = true := by
                cases hhe : heapy o.op with
                | true => rfl
                | false =>
                  have := (hT j o ho).light (quiet j o ho).1 hhe
                  rw [(stX_next _ _).1, hej] at this; cases this
              cases hem : effOk (S.next + m) (tr m).2 with
              | false => exact noth hhj hem
              | true =>
                have := efflight m hem q hq
                rcases effin j p hp with h | h | h <;> omega
          · simp only [AS.step]; rw [(stX_next _ _).1, (stX_next _ _).1]
          · simp only [AS.step]; rw [(stX_next _ _).2, (stX_next _ _).2]
        rw [hstep] at hR'
        refine ih (listed.setIfInBounds j true) C' a' w' (by simpa using hsz) ?_ ?_ ?_
        · intro j' o' ho' hx e he
          rw [hget] at hx ⊢
          by_cases hej : e = j
          · simp [hej]
          · rw [if_neg hej]
            by_cases hjj : j' = j
            · subst hjj; rw [ho] at ho'; injection ho' with ho'; subst ho'; exact hed e he
            · rw [if_neg hjj] at hx; exact hcl j' o' ho' hx e he
        · -- one fewer is left
          have hcount : ∀ (l : List Bool) (j : Nat), l[j]? = some false → ((l.set j true).filter (fun b => !b)).length + 1 = (l.filter (fun b => !b)).length := by
            intro l
            induction l with
            | nil => intro j h; simp at h
            | cons b l ihl =>
              intro j h
              cases j with
              | zero => simp at h; subst h; simp
              | succ j =>
                simp only [List.getElem?_cons_succ] at h
                have := ihl j h
                cases b <;> simp at this ⊢ <;> omega
          have := hcount listed.toList j (by simpa [Array.getD, hjl] using hjX)
          simp only [Array.toList_setIfInBounds]
          omega
        · refine ⟨hR'.ok, hR'.inv, hR'.below, hR'.new, hR'.ext, hR'.defers, hR'.size, fun id hl => ?_⟩
          rcases hR'.live id hl with (h | ⟨i, hi, hx, h⟩) | h
          · exact .inl h
          · exact .inr ⟨i, hi, by rw [hget]; split <;> simp_all, h⟩
          · rw [hnx] at h; exact .inr ⟨j, hjlt, by rw [hget]; simp, h⟩
end
end Go.Proofs.YtipdmcpmedmicaaDoor
