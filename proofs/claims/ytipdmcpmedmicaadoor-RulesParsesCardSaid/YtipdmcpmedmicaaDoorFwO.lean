/- Weaker abstract states: slots forgotten, blocks forgotten and renamed. -/
import Derived.Test.YtipdmcpmedmicaaDoorFwN
set_option linter.unusedSimpArgs false
set_option linter.unusedVariables false
namespace Go.Proofs.YtipdmcpmedmicaaDoor
open Go.RowKit

def D.ren1 (r : Nat → Option Nat) : D → D
  | .ptr id off => match r id with
    | some j => .ptr j off
    | none => .undef
  | .vptr id k i off => match r id with
    | some j => .vptr j k i off
    | none => .undef
  | .own id n => match r id with
    | some j => .own j n
    | none => if n = 0 then .nils else .undef
  | .omp id => match r id with
    | some j => .omp j
    | none => .undef
  | .sp id => match r id with
    | some j => .sp j
    | none => .undef
  | d => d
def D.ren (r : Nat → Option Nat) : D → D
  | .agg ds => .agg (ds.map (D.ren1 r))
  | .tup ds => .tup (ds.map (D.ren1 r))
  | .fn f ds => .fn f (ds.map (D.ren1 r))
  | d => d.ren1 r
def D.idOk1 (r : Nat → Option Nat) (n : Nat) : D → Bool
  | .ptr id _ => decide (id < n) && (r id).isSome
  | .vptr id _ _ _ => decide (id < n) && (r id).isSome
  | .own id m => decide (id < n) && ((r id).isSome || decide (m = 0))
  | .omp id => decide (id < n) && (r id).isSome
  | .sp id => decide (id < n) && (r id).isSome
  | .agg _ | .tup _ | .fn _ _ | .undef => false
  | _ => true
def D.idOk (r : Nat → Option Nat) (n : Nat) : D → Bool
  | .agg ds => ds.all (D.idOk1 r n)
  | .tup ds => ds.all (D.idOk1 r n)
  | .fn _ ds => ds.all (D.idOk1 r n)
  | .undef => true
  | d => d.idOk1 r n
def Blk.ren (r : Nat → Option Nat) : Blk → Blk
  | .box pn ds => .box pn (ds.map (D.ren1 r))
  | .bbox T ds => .bbox T (ds.map (D.ren1 r))
  | b => b
def Blk.idOk (r : Nat → Option Nat) (n : Nat) : Blk → Bool
  | .box _ ds => ds.all (D.idOk1 r n)
  | .bbox _ ds => ds.all (D.idOk1 r n)
  | _ => true

/-- The context behind a renaming. -/
def Cx.ren (C : Cx) (r : Nat → Option Nat) (n : Nat) : Cx :=
  ⟨C.F, fun id => match r id with | some j => C.σ j | none => .slice none 0 0, fun id => id < n ∧ match r id with | some j => C.live j | none => True⟩

section
variable {C : Cx} {w : World} {r : Nat → Option Nat} {n : Nat}
theorem Rep.ren1 {v : Value} {d : D} (hok : d.idOk1 r n = true) (h : Rep w C v (d.ren1 r)) : Rep w (C.ren r n) v d := by
  cases d with
  | any => exact .any _
  | undef => simp [D.idOk1] at hok
  | agg ds => simp [D.idOk1] at hok
  | tup ds => simp [D.idOk1] at hok
  | fn f ds => simp [D.idOk1] at hok
  | int k m => simp only [D.ren1] at h; cases h; exact .int _ _ (by assumption)
  | bool b => simp only [D.ren1] at h; cases h; exact .bool _
  | str s => simp only [D.ren1] at h; cases h; exact .str _ (by assumption)
  | nilp => simp only [D.ren1] at h; cases h; exact .nilp
  | err b => simp only [D.ren1] at h; cases h; exact .err0; exact .err1 _ _
  | nils => simp only [D.ren1] at h; cases h; exact .nils
  | sl xs =>
    simp only [D.ren1] at h
    cases h with
    | sl0 A c hm => exact .sl0 A c hm
    | sl b off k c _ vals hc hm hk hl h1 hF hcell h => exact .sl b off k c _ vals hc hm hk hl h1 hF hcell h
  | iptr ds =>
    simp only [D.ren1] at h
    cases h with
    | iptr b off _ vals hl h1 hF hcell h => exact .iptr b off _ vals hl h1 hF hcell h
  | ptr id off =>
    simp only [D.idOk1, Bool.and_eq_true, Bool.or_eq_true, decide_eq_true_eq] at hok
    obtain ⟨hok, hok2⟩ := hok
    simp only [D.ren1] at h
    cases hr : r id with
    | none => rw [hr] at hok2; simp at hok2
    | some j =>
      rw [hr] at h
      cases h with
      | ptr _ _ g hl hs => exact .ptr id off g ⟨hok, by rw [hr]; exact hl⟩ (by simp only [Cx.ren, hr]; exact hs)
  | vptr id k i off =>
    simp only [D.idOk1, Bool.and_eq_true, Bool.or_eq_true, decide_eq_true_eq] at hok
    obtain ⟨hok, hok2⟩ := hok
    simp only [D.ren1] at h
    cases hr : r id with
    | none => rw [hr] at hok2; simp at hok2
    | some j =>
      rw [hr] at h
      cases h with
      | vptr _ _ _ _ g m c hl hs => exact .vptr id k i off g m c ⟨hok, by rw [hr]; exact hl⟩ (by simp only [Cx.ren, hr]; exact hs)
  | own id m =>
    simp only [D.idOk1, Bool.and_eq_true, Bool.or_eq_true, decide_eq_true_eq] at hok
    obtain ⟨hok, hok2⟩ := hok
    simp only [D.ren1] at h
    cases hr : r id with
    | none =>
      rw [hr] at h hok2
      simp at hok2
      subst hok2
      cases h
      exact .own id 0 0 none ⟨hok, by rw [hr]; trivial⟩ (Nat.zero_le _) (by simp only [Cx.ren, hr])
    | some j =>
      rw [hr] at h
      cases h with
      | own _ _ c A hl hm hs => exact .own id m c A ⟨hok, by rw [hr]; exact hl⟩ hm (by simp only [Cx.ren, hr]; exact hs)
  | omp id =>
    simp only [D.idOk1, Bool.and_eq_true, decide_eq_true_eq] at hok
    obtain ⟨hok, hok2⟩ := hok
    simp only [D.ren1] at h
    cases hr : r id with
    | none => rw [hr] at hok2; simp at hok2
    | some j =>
      rw [hr] at h
      cases h with
      | omp _ g hl hs => exact .omp id g ⟨hok, by rw [hr]; exact hl⟩ (by simp only [Cx.ren, hr]; exact hs)
  | sp id =>
    simp only [D.idOk1, Bool.and_eq_true, decide_eq_true_eq] at hok
    obtain ⟨hok, hok2⟩ := hok
    simp only [D.ren1] at h
    cases hr : r id with
    | none => rw [hr] at hok2; simp at hok2
    | some j =>
      rw [hr] at h
      cases h with
      | sp0 _ hl => exact .sp0 id ⟨hok, by rw [hr]; exact hl⟩
      | sp1 _ g hl hs => exact .sp1 id g ⟨hok, by rw [hr]; exact hl⟩ (by simp only [Cx.ren, hr]; exact hs)
  | mp k ks vs =>
    simp only [D.ren1] at h
    cases h with
    | mp g clock _ _ es _ hF hh hk hl h6 => exact .mp g clock k ks es vs hF hh hk hl h6
theorem ren_list {vs : List Value} {ds : List D} (hok : ds.all (D.idOk1 r n) = true) (h : ∀ (i : Nat) v d, vs[i]? = some v → (ds.map (D.ren1 r))[i]? = some d → Rep w C v d) : ∀ (i : Nat) v d, vs[i]? = some v → ds[i]? = some d → Rep w (C.ren r n) v d := by
  intro i v d hv hd
  refine Rep.ren1 (List.all_eq_true.1 hok d (List.mem_of_getElem? hd)) (h i v _ hv ?_)
  simp [hd]
theorem Rep.ren {v : Value} {d : D} (hok : d.idOk r n = true) (h : Rep w C v (d.ren r)) : Rep w (C.ren r n) v d := by
  cases d with
  | agg ds =>
    simp only [D.ren] at h
    generalize he : ds.map (D.ren1 r) = es at h
    cases h with
    | agg vs _ hl h1 h => subst he; exact .agg vs ds (by simpa using hl) h1 (ren_list hok h)
  | tup ds =>
    simp only [D.ren] at h
    generalize he : ds.map (D.ren1 r) = es at h
    cases h with
    | tup vs _ hl h => subst he; exact .tup vs ds (by simpa using hl) (ren_list hok h)
  | fn f ds =>
    simp only [D.ren] at h
    generalize he : ds.map (D.ren1 r) = es at h
    cases h with
    | fn _ vs _ hl h => subst he; exact .fn f vs ds (by simpa using hl) (ren_list hok h)
  | undef => simp only [D.ren, D.ren1] at h; cases h; exact .undef
  | _ => exact Rep.ren1 hok h

theorem look_mem {α : Type} : ∀ (l : List (Nat × α)) (t : Nat) (d : α), look l t = some d → (t, d) ∈ l
  | [], _, _, h => by simp [look] at h
  | (i, x) :: l, t, d, h => by
    simp only [look] at h
    split at h
    · rename_i e; subst e; injection h with h; subst h; simp
    · exact List.mem_cons_of_mem _ (look_mem l t d h)

/-- What must be shown for a weaker state. -/
def wkEnv (S : AS) (r : Nat → Option Nat) (n : Nat) : List (Nat × D) → Prop
  | [] => True
  | (t, d) :: l => (S.env t = d.ren r ∧ d.idOk r n = true) ∧ wkEnv S r n l
def wkHeap (S : AS) (r : Nat → Option Nat) (n : Nat) : List (Nat × Blk) → Prop
  | [] => True
  | (id, b) :: h => (id < n ∧ b.idOk r n = true ∧ (match r id with
    | some j => S.heap j = some (b.ren r) ∧ ∀ p ∈ h, r p.1 ≠ some j
    | none => ∃ e k, b = .vec e k [] false)) ∧ wkHeap S r n h
theorem wkEnv_at {S : AS} : ∀ {l : List (Nat × D)}, wkEnv S r n l → ∀ t d, (t, d) ∈ l → S.env t = d.ren r ∧ d.idOk r n = true
  | (t', d') :: l, h, t, d, hm => by
    rcases List.mem_cons.1 hm with e | e
    · injection e with e1 e2; subst e1 e2; exact h.1
    · exact wkEnv_at h.2 t d e
theorem wkHeap_at {S : AS} : ∀ {l : List (Nat × Blk)}, wkHeap S r n l → ∀ id b, (id, b) ∈ l → id < n ∧ b.idOk r n = true ∧ (match r id with | some j => S.heap j = some (b.ren r) | none => ∃ e k, b = .vec e k [] false)
  | (id', b') :: l, h, id, b, hm => by
    rcases List.mem_cons.1 hm with e | e
    · injection e with e1 e2; subst e1 e2
      refine ⟨h.1.1, h.1.2.1, ?_⟩
      have := h.1.2.2
      split at this
      · rename_i j hj; exact this.1
      · exact this
    · exact wkHeap_at h.2 id b e
theorem wkHeap_inj {S : AS} : ∀ {l : List (Nat × Blk)}, wkHeap S r n l → ∀ id id' b b' j, (id, b) ∈ l → (id', b') ∈ l → id ≠ id' → r id = some j → r id' ≠ some j
  | (i0, b0) :: l, h, id, id', b, b', j, hm, hm', hne, hj => by
    rcases List.mem_cons.1 hm with e | e
    · injection e with e1 e2; subst e1 e2
      rcases List.mem_cons.1 hm' with e' | e'
      · injection e' with e1 e2; exact absurd e1.symm hne
      · have := h.1.2.2
        rw [hj] at this
        exact this.2 (id', b') e'
    · rcases List.mem_cons.1 hm' with e' | e'
      · injection e' with e1 e2; subst e1 e2
        intro hj'
        have := h.1.2.2
        rw [hj'] at this
        exact this.2 (id, b) e hj
      · exact wkHeap_inj h.2 id id' b b' j e e' hne hj

theorem Wk.of {S : AS} (r : Nat → Option Nat) (l : List (Nat × D)) (h : List (Nat × Blk)) (n : Nat) (he : wkEnv S r n l) (hh : wkHeap S r n h) : Wk S ⟨envL l, heapL h, n, S.nt⟩ := by
  refine ⟨rfl, fun I G C a w hR => ⟨C.ren r n, ?_⟩⟩
  have henv : EnvOK (C.ren r n) w a (envL l) := by
    intro t
    unfold envL
    cases hl : look l t with
    | none => exact .any _
    | some d =>
      obtain ⟨h1, h2⟩ := wkEnv_at he t d (look_mem l t d hl)
      have := hR.ok.env t
      rw [h1] at this
      exact this.ren h2
  have hσ : ∀ id j, r id = some j → (C.ren r n).σ id = C.σ j := fun id j hj => by simp only [Cx.ren, hj]
  have hheap : HOK (C.ren r n) w G.B (heapL h) := by
    refine ⟨fun id b hb => ?_, fun id b hb g hg => ?_, fun id k cs hb => ?_, fun id id' b b' hb hb' hne g hg hg' => ?_⟩
    · obtain ⟨h1, h2, h3⟩ := wkHeap_at hh id b (look_mem h id b hb)
      cases hr : r id with
      | none =>
        rw [hr] at h3
        obtain ⟨e, k, rfl⟩ := h3
        have hs : (C.ren r n).σ id = .slice none 0 0 := by simp only [Cx.ren, hr]
        exact ⟨⟨h1, by rw [hr]; trivial⟩, [], by rw [hs]; exact World.ownsRow_nil _ _ _ _, by simp, RepL.nil, by rw [hs]; intro g hg; simp [Value.ownBlock] at hg⟩
      | some j =>
        rw [hr] at h3
        obtain ⟨k1, k2⟩ := hR.ok.heap.rep j _ h3
        refine ⟨⟨h1, by rw [hr]; exact k1⟩, ?_⟩
        have hs := hσ id j hr
        cases b with
        | box pn ds =>
          obtain ⟨g, t, vs, q1, q2, q3, q4, q5⟩ := k2
          exact ⟨g, t, vs, hs.trans q1, q2, q3, ⟨by simpa using q4.len, q4.one, ren_list h2 q4.rep⟩, q5⟩
        | bbox T ds =>
          obtain ⟨g, vs, q1, q2, q3, q4, q5⟩ := k2
          exact ⟨g, vs, hs.trans q1, q2, q3, ⟨by simpa using q4.len, q4.one, ren_list h2 q4.rep⟩, q5⟩
        | vec e k xs pub =>
          obtain ⟨vals, q1, q2, q3, q4⟩ := k2
          exact ⟨vals, by rw [hs]; exact q1, q2, q3, by rw [hs]; exact q4⟩
        | iter s pos =>
          obtain ⟨g, q1, q2, q3, q4, q5⟩ := k2
          exact ⟨g, hs.trans q1, q2, q3, q4, q5⟩
        | mp k ks vs pub =>
          obtain ⟨g, clock, es, q1, q2⟩ := k2
          exact ⟨g, clock, es, hs.trans q1, q2⟩
    · obtain ⟨_, _, h3⟩ := wkHeap_at hh id b (look_mem h id b hb)
      cases hr : r id with
      | none => simp only [Cx.ren, hr, blockOf] at hg; cases hg
      | some j => rw [hr] at h3; rw [hσ id j hr] at hg; exact hR.ok.heap.own j _ h3 g hg
    · obtain ⟨_, _, h3⟩ := wkHeap_at hh id _ (look_mem h id _ hb)
      cases hr : r id with
      | none => rw [hr] at h3; obtain ⟨e, k, h3⟩ := h3; cases h3
      | some j => rw [hr] at h3; rw [hσ id j hr]; exact hR.ok.heap.pin j k _ h3
    · obtain ⟨_, _, h3⟩ := wkHeap_at hh id b (look_mem h id b hb)
      obtain ⟨_, _, h3'⟩ := wkHeap_at hh id' b' (look_mem h id' b' hb')
      cases hr : r id with
      | none => simp only [Cx.ren, hr, blockOf] at hg; cases hg
      | some j =>
        cases hr' : r id' with
        | none => simp only [Cx.ren, hr', blockOf] at hg'; cases hg'
        | some j' =>
          rw [hr] at h3
          rw [hr'] at h3'
          rw [hσ id j hr] at hg
          rw [hσ id' j' hr'] at hg'
          have hjj : j ≠ j' := fun e => wkHeap_inj hh id id' b b' j (look_mem h id b hb) (look_mem h id' b' hb') hne hr (e ▸ hr')
          exact hR.ok.heap.apart j j' _ _ h3 h3' hjj g hg hg'
  exact ⟨⟨henv, hheap, hR.ok.fb, hR.ok.base⟩, hR.inv, hR.below, hR.new, ⟨hR.ext.F, hR.ext.blk, fun _ h => h.elim, fun _ h => h.elim⟩, hR.defers, hR.size, fun id hl => hl.1⟩
end
end Go.Proofs.YtipdmcpmedmicaaDoor
