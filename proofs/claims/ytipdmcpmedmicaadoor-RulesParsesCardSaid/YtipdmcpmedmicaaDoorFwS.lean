/- Regions that draw their order, third part: the rule, and the reading step by step. -/
import Derived.Test.YtipdmcpmedmicaaDoorFwR
set_option linter.unusedSimpArgs false
set_option linter.unusedVariables false
namespace Go.Proofs.YtipdmcpmedmicaaDoor
open Go.RowKit

section
variable {P : Program} {I : World → Prop} {ops : Array Oper} {S : AS}
/-- Operations one behind the other, none of which changes what was there. -/
def awpLq (P : Program) (I : World → Prop) (ops : Array Oper) : List Oper → Nat → AS → (AS → Prop) → Prop
  | [], i, S, K => K { S with next := S.next + i }
  | o :: l, i, S, K => ∃ d eff, (St1 P I ops i o S d eff ∧ effH ops S.next i eff = true) ∧ awpLq P I ops l (i + 1) (S.step o d eff) K
theorem stX_tr {tr tr' : Nat → D × Eff} {X : Nat → Bool} : ∀ m, (∀ i, i < m → tr i = tr' i) → stX ops S tr X m = stX ops S tr' X m
  | 0, _ => rfl
  | m + 1, h => by simp only [stX, stX_tr m (fun i hi => h i (by omega)), h m (by omega)]
theorem awpLq_trace {K : AS → Prop} : ∀ (l : List Oper) (i : Nat) (tr : Nat → D × Eff), i ≤ ops.size → ops.toList.drop i = l → (∀ i', effH ops S.next i' (tr i').2 = true) →
    (∀ i' o, i' < i → ops[i']? = some o → St1 P I ops i' o (stX ops S tr (fun _ => true) i') (tr i').1 (tr i').2) → awpLq P I ops l i (stX ops S tr (fun _ => true) i) K →
    ∃ tr', (∀ i', effH ops S.next i' (tr' i').2 = true) ∧ (∀ i' o, ops[i']? = some o → St1 P I ops i' o (stX ops S tr' (fun _ => true) i') (tr' i').1 (tr' i').2) ∧ K { stX ops S tr' (fun _ => true) ops.size with next := S.next + ops.size } := by
  intro l
  induction l with
  | nil =>
    intro i tr hi hd heff hT h
    obtain rfl : i = ops.size := by have := congrArg List.length hd; simp at this; omega
    refine ⟨tr, heff, fun i' o ho => hT i' o ?_ ho, ?_⟩
    · rcases Nat.lt_or_ge i' ops.size with h1 | h1
      · exact h1
      · rw [Array.getElem?_eq_none h1] at ho; cases ho
    · simp only [awpLq] at h
      rw [(stX_next _ _).1] at h
      exact h
  | cons o l ih =>
    intro i tr hi hd heff hT h
    have hoi : ops[i]? = some o := by
      have : (ops.toList.drop i)[0]? = some o := by rw [hd]; rfl
      simpa using this
    have hd' : ops.toList.drop (i + 1) = l := by rw [← List.drop_drop, hd]; rfl
    simp only [awpLq] at h
    obtain ⟨d, eff, ⟨h1, h2⟩, h3⟩ := h
    rw [(stX_next _ _).1] at h2
    have hsame : ∀ m, m ≤ i → stX ops S (upd tr i (d, eff)) (fun _ => true) m = stX ops S tr (fun _ => true) m := fun m hm => stX_tr m fun i' hi' => by
      simp only [upd]; rw [if_neg (by omega)]
    have hst : stX ops S (upd tr i (d, eff)) (fun _ => true) (i + 1) = (stX ops S tr (fun _ => true) i).step o d eff := by
      simp [stX, hoi, hsame i (Nat.le_refl _), upd]
    refine ih (i + 1) (upd tr i (d, eff)) (by have := congrArg List.length hd; simp at this; omega) hd' (fun i' => ?_) (fun i' o' hi' ho' => ?_) (by rw [hst]; exact h3)
    · simp only [upd]
      split
      · rename_i e; subst e; exact h2
      · exact heff i'
    · rw [hsame i' (by omega)]
      by_cases he : i' = i
      · subst he
        rw [hoi] at ho'; injection ho' with ho'; subst ho'
        simpa [upd] using h1
      · simp only [upd]; rw [if_neg he]
        exact hT i' o' (by omega) ho'

theorem awpD_of {K : AS → Prop} (hstab : Stab I) (hm : P.follows .mixedOrders = true) (hok : drawOk ops = true) (h : awpLq P I ops ops.toList 0 S K) : awpD P I ops S K := by
  intro hd G C a w hR Q rid hK
  obtain ⟨tr, h1, h2, h3⟩ := awpLq_trace (S := S) (P := P) (I := I) ops.toList 0 (fun _ => (.any, [])) (Nat.zero_le _) (by simp) (fun _ => rfl) (fun i' o hi' => absurd hi' (by omega)) h
  refine wp_region_any hm ?_
  have hR' : Rel I G (fun id => id < S.next) S C a { w with drawn := w.drawn + 1 } := by
    have hcell : ∀ b o, C.F b o → ({ w with drawn := w.drawn + 1 } : World).heap[b]? = w.heap[b]? := fun _ _ _ => rfl
    have he : Ext C w C { w with drawn := w.drawn + 1 } := ⟨fun _ _ h => h, hcell, fun _ h => h, fun _ _ => rfl⟩
    refine ⟨⟨fun t => (hR.ok.env t).ext he, ⟨fun id b hb => ?_, hR.ok.heap.own, hR.ok.heap.pin, hR.ok.heap.apart⟩, hR.ok.fb, hR.ok.base⟩, hR.inv, ⟨hR.below.os, hR.below.tape, hR.below.output, hR.below.size, hR.below.block⟩, hR.new, hR.ext.trans he, hR.defers, hR.size, hR.live⟩
    obtain ⟨k1, k2⟩ := hR.ok.heap.rep id b hb
    exact ⟨k1, k2.keep k1 he (fun _ _ => rfl) (fun _ _ _ h => h)⟩
  have hnone : ∀ i, (Array.replicate ops.size false).getD i false = false := by
    intro i
    rw [Array.getD_eq_getD_getElem?, Array.getElem?_replicate]
    split <;> rfl
  have hst0 : ∀ m, stX ops S tr (fun i => (Array.replicate ops.size false).getD i false) m = S := by
    intro m
    rw [show (fun i => (Array.replicate ops.size false).getD i false) = fun _ => false from funext hnone]
    induction m with
    | zero => rfl
    | succ m ihm =>
      simp only [stX, ihm, Bool.false_eq_true, if_false]
      cases ops[m]? <;> rfl
  refine draw_any hstab hd hok h1 (fun id b hb => hR'.live id (hR'.ok.heap.rep id b hb).1) h2 (fun C' a' w' hr => ?_) ops.size (Array.replicate ops.size false) C a _ (by simp) (fun j o _ hx => by rw [hnone] at hx; cases hx) (by simp [List.filter_replicate]) (by
    rw [hst0]
    exact ⟨hR'.ok, hR'.inv, hR'.below, hR'.new, hR'.ext, hR'.defers, hR'.size, fun id hl => .inl (hR'.live id hl)⟩)
  refine hK _ C' a' w' h3 ?_ ?_
  · exact (stX_next (ops := ops) (S := S) (tr := tr) _ _).2
  · exact ⟨⟨hr.ok.env, hr.ok.heap, hr.ok.fb, hr.ok.base⟩, hr.inv, hr.below, hr.new, hr.ext, hr.defers, hr.size, hr.live⟩
end

section
variable (P : Program) (I : World → Prop)
def runD (ops : Array Oper) (l : List Oper) (i : Nat) (S : AS) (k : List Kont) (Q : APost) : Prop := awpLq P I ops l i S (goK P I k Q .normal)
/-- A call in a region that draws: it waits for a contract. -/
def callD (f : FuncId) (ds : List D) (eff : Eff) (o : Oper) (ops : Array Oper) (l : List Oper) (i : Nat) (S : AS) (k : List Kont) (Q : APost) : Prop := effH ops S.next i eff = true ∧ ∃ d, AFun P I f ds d ∧ runD P I ops l (i + 1) (S.step o d eff) k Q
/-- An operation that changes blocks, in a region that draws: it waits for the order. -/
def heavyD (d : D) (eff : Eff) (o : Oper) (ops : Array Oper) (l : List Oper) (i : Nat) (S : AS) (k : List Kont) (Q : APost) : Prop := effH ops S.next i eff = true ∧ runD P I ops l (i + 1) (S.step o d eff) k Q
def stepD (x : Option (D × Eff)) (o : Oper) (ops : Array Oper) (l : List Oper) (i : Nat) (S : AS) (k : List Kont) (Q : APost) : Prop := match x with
  | some (d, eff) => if effOk (S.next + i) eff = true then runD P I ops l (i + 1) (S.step o d eff) k Q else heavyD P I d eff o ops l i S k Q
  | none => False
/-- A call with effects, in a region that draws. -/
def callE (f : FuncId) (ds : List D) (o : Oper) (ops : Array Oper) (l : List Oper) (i : Nat) (S : AS) (k : List Kont) (Q : APost) : Prop := ∃ d ds' ep eff, purXs S.heap ds = some (ds', ep) ∧ CallAny P I f ds ds' ep S.heap S.next (S.next + i) d eff ∧ effH ops S.next i (ep ++ eff) = true ∧ runD P I ops l (i + 1) (S.step o d (ep ++ eff)) k Q
def purKD (x : Option (List D × Eff)) (f : FuncId) (o : Oper) (ops : Array Oper) (l : List Oper) (i : Nat) (S : AS) (k : List Kont) (Q : APost) : Prop := match x with
  | some (ds, eff) => callD P I f ds eff o ops l i S k Q
  | none => False
def calD (x : Option (FuncId × List D)) (o : Oper) (ops : Array Oper) (l : List Oper) (i : Nat) (S : AS) (k : List Kont) (Q : APost) : Prop := match x with
  | some (f, ds) => purKD P I (purDs S.heap ds) f o ops l i S k Q ∨ callE P I f ds o ops l i S k Q
  | none => stepD P I (aop P o.op (S.next + i) S) o ops l i S k Q
def wantD (x : Option Bool) (o : Oper) (ops : Array Oper) (l : List Oper) (i : Nat) (S : AS) (k : List Kont) (Q : APost) : Prop := match x with
  | some true => calD P I (acallee S o.op) o ops l i S k Q
  | some false => runD P I ops l (i + 1) (S.step o .undef []) k Q
  | none => False
end
section
variable {P : Program} {I : World → Prop} {S : AS} {k : List Kont} {Q : APost} {ops : Array Oper}
theorem runD_nil {i : Nat} : runD P I ops [] i S k Q = ext P I .normal { S with next := S.next + i } k Q := rfl
section
variable {o : Oper} {l : List Oper} {i : Nat} {f : FuncId} {ds : List D} {d : D} {eff : Eff}
theorem wantD_t : wantD P I (some true) o ops l i S k Q = calD P I (acallee S o.op) o ops l i S k Q := rfl
theorem wantD_f : wantD P I (some false) o ops l i S k Q = runD P I ops l (i + 1) (S.step o .undef []) k Q := rfl
theorem calD_s : calD P I (some (f, ds)) o ops l i S k Q = (purKD P I (purDs S.heap ds) f o ops l i S k Q ∨ callE P I f ds o ops l i S k Q) := rfl
theorem calD_n : calD P I none o ops l i S k Q = stepD P I (aop P o.op (S.next + i) S) o ops l i S k Q := rfl
theorem purKD_s : purKD P I (some (ds, eff)) f o ops l i S k Q = callD P I f ds eff o ops l i S k Q := rfl
theorem stepD_s : stepD P I (some (d, eff)) o ops l i S k Q = if effOk (S.next + i) eff = true then runD P I ops l (i + 1) (S.step o d eff) k Q else heavyD P I d eff o ops l i S k Q := rfl
end
theorem runD_cons {o : Oper} {l : List Oper} {i : Nat} : runD P I ops (o :: l) i S k Q = wantD P I (awant ops S.env o) o ops l i S k Q := by
  refine propext ⟨fun h => ?_, fun h => ?_⟩
  · obtain ⟨d, eff, ⟨hst, he⟩, hk⟩ := h
    rcases hst with ⟨h1, rfl, rfl⟩ | ⟨h1, h2⟩
    · rw [h1]; exact hk
    · rw [h1]
      simp only [wantD]
      rcases h2 with ⟨f, ds, ds', h3, h4, h5⟩ | ⟨h3, h4⟩ | ⟨f, ds, ds', ep, eff', h3, h4, rfl, h5⟩
      · rw [h3]; simp only [calD, h4, purKD]; exact .inl ⟨he, d, h5, hk⟩
      · rw [h3]; simp only [calD, h4, stepD]
        split
        · exact hk
        · exact ⟨he, hk⟩
      · rw [h3]; exact .inr ⟨d, ds', ep, eff', h4, h5, he, hk⟩
  · simp only [runD, awpLq]
    cases hw : awant ops S.env o with
    | none => rw [hw] at h; exact h.elim
    | some r =>
      rw [hw] at h
      cases r with
      | false => exact ⟨.undef, [], ⟨.inl ⟨hw, rfl, rfl⟩, rfl⟩, h⟩
      | true =>
        simp only [wantD] at h
        cases hc : acallee S o.op with
        | some p =>
          obtain ⟨f, ds⟩ := p
          rw [hc] at h
          simp only [calD] at h
          rcases h with h | ⟨d, ds', ep, e, h0, h1, he, h2⟩
          rotate_left
          · exact ⟨d, ep ++ e, ⟨.inr ⟨hw, .inr (.inr ⟨f, ds, ds', ep, e, hc, h0, rfl, h1⟩)⟩, he⟩, h2⟩
          cases hp : purDs S.heap ds with
          | none => rw [hp] at h; exact h.elim
          | some q =>
            obtain ⟨ds', e⟩ := q
            rw [hp] at h
            obtain ⟨he, d, h1, h2⟩ := h
            exact ⟨d, e, ⟨.inr ⟨hw, .inl ⟨f, ds, ds', hc, hp, h1⟩⟩, he⟩, h2⟩
        | none =>
          rw [hc] at h
          simp only [calD, stepD] at h
          cases hp : aop P o.op (S.next + i) S with
          | none => rw [hp] at h; exact h.elim
          | some q =>
            obtain ⟨d, e⟩ := q
            rw [hp] at h
            simp only at h
            split at h
            · rename_i he
              exact ⟨d, e, ⟨.inr ⟨hw, .inr (.inl ⟨hc, hp⟩)⟩, by simp [effH, he]⟩, h⟩
            · exact ⟨d, e, ⟨.inr ⟨hw, .inr (.inl ⟨hc, hp⟩)⟩, h.1⟩, h.2⟩
theorem callD.intro {f : FuncId} {ds : List D} {eff : Eff} {o : Oper} {l : List Oper} {i : Nat} {d : D} (h : AFun P I f ds d) (he : effH ops S.next i eff = true) (hk : runD P I ops l (i + 1) (S.step o d eff) k Q) : callD P I f ds eff o ops l i S k Q := ⟨he, d, h, hk⟩
theorem heavyD.intro {d : D} {eff : Eff} {o : Oper} {l : List Oper} {i : Nat} (he : effH ops S.next i eff = true) (hk : runD P I ops l (i + 1) (S.step o d eff) k Q) : heavyD P I d eff o ops l i S k Q := ⟨he, hk⟩
theorem wantD.splitN {b : Bool} {o : Oper} {l : List Oper} {i : Nat} (h1 : b = true → wantD P I (some false) o ops l i S k Q) (h2 : b = false → wantD P I (some true) o ops l i S k Q) : wantD P I (some (!b)) o ops l i S k Q := by
  cases b
  · exact h2 rfl
  · exact h1 rfl
theorem wantD.split {b : Bool} {o : Oper} {l : List Oper} {i : Nat} (h1 : b = true → wantD P I (some true) o ops l i S k Q) (h2 : b = false → wantD P I (some false) o ops l i S k Q) : wantD P I (some b) o ops l i S k Q := by
  cases b
  · exact h2 rfl
  · exact h1 rfl
theorem drawW.intro (hstab : Stab I) (hm : P.follows .mixedOrders = true) (hok : drawOk ops = true) (h : runD P I ops ops.toList 0 S k Q) : drawW P I ops S k Q := awpD_of hstab hm hok h
end
end Go.Proofs.YtipdmcpmedmicaaDoor
