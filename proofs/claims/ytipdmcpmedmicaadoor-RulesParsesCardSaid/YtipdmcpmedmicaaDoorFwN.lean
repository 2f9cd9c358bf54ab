/- From the abstract reading of a function's text to its contract; weaker abstract states. -/
import Derived.Test.YtipdmcpmedmicaaDoorFwM
set_option linter.unusedSimpArgs false
set_option linter.unusedVariables false
namespace Go.Proofs.YtipdmcpmedmicaaDoor
open Go.RowKit

section
variable {P : Program} {I : World → Prop} {G : Gh} {S : AS} {C : Cx} {a : Act} {w : World}

def resF (tmps : Array Value) : ResultVar → Sem Value
  | .tmp t => pure (tmps.getD t Go.undef)
  | .cell x t => do loadVar t (← asAddr (tmps.getD x Go.undef))
theorem results_eq (fn : Func) (tmps : Array Value) : results fn tmps = (do let vs ← fn.results.mapM (resF tmps); pure (if h : vs.size = 1 then vs[0] else .tuple vs)) := by
  unfold results
  congr 2
theorem resD_run (hS : StOK C w a G.B S) : ∀ (rs : List ResultVar) (ds : List D), resD P S rs = some ds →
    ∃ vs, (rs.mapM (m := Sem) (resF a.tmps)).run P w = .ok vs w ∧ vs.length = ds.length ∧ ∀ (i : Nat) v d, vs[i]? = some v → ds[i]? = some d → Rep w C v d := by
  intro rs
  induction rs with
  | nil => intro ds h; simp [resD] at h; subst h; exact ⟨[], rfl, rfl, by simp⟩
  | cons r rs ih =>
    intro ds h
    cases r with
    | tmp t =>
      simp only [resD] at h
      cases h1 : resD P S rs with
      | none => rw [h1] at h; simp at h
      | some ds' =>
        rw [h1] at h
        simp at h
        subst h
        obtain ⟨vs, hr, hl, hv⟩ := ih ds' h1
        refine ⟨a.tmps.getD t Go.undef :: vs, ?_, by simp [hl], fun i v d hi hd => ?_⟩
        · simp only [List.mapM_cons, resF, Sem.run_bind, Sem.run_pure, Result.andThen_ok, hr]
        · cases i with
          | zero => simp only [List.getElem?_cons_zero, Option.some.injEq] at hi hd; subst hi hd; exact hS.env t
          | succ i => exact hv i v d (by simpa using hi) (by simpa using hd)
    | cell x ty =>
      simp only [resD] at h
      cases h0 : S.env x <;> rw [h0] at h <;> try (simp at h; done)
      rename_i id off
      cases h1 : resD P S rs with
      | none => rw [h1] at h; simp at h
      | some ds' =>
        rw [h1] at h
        simp only at h
        cases hb : S.heap id with
        | none => rw [hb] at h; simp at h
        | some b =>
          rw [hb] at h
          cases b <;> simp only [reduceCtorEq] at h
          rename_i cs
          cases hl : loadD P ty (cs.drop off) with
          | none => rw [hl] at h; simp at h
          | some d =>
            rw [hl] at h
            simp at h
            subst h
            have hx := hS.env x
            rw [h0] at hx
            generalize hv : a.tmps.getD x Go.undef = v at hx
            cases hx with
            | ptr _ _ g hlv hσ =>
              obtain ⟨_, g', t', vs', q1, q2, q3, q4, q5⟩ := hS.heap.rep id _ hb
              rw [hσ] at q1
              injection q1 with q1; injection q1 with q1; injection q1 with q1
              subst q1
              obtain ⟨u, hr, hR⟩ := loadD_run (P := P) (b := g) (off := off) (q4.drop off) (fun i v hi => by
                rw [cell_of_row w g (off + i) vs' t' (0, 0) q3]; simpa using hi) hl
              obtain ⟨vs, hr2, hl2, hv2⟩ := ih ds' h1
              refine ⟨u :: vs, ?_, by simp [hl2], fun i v d hi hd => ?_⟩
              · simp only [Instr.loadAt, Instr.sureAddr, Sem.run_bind, Sem.run_pure, Result.andThen_ok] at hr
                simp only [List.mapM_cons, resF, Sem.run_bind, hv, asAddr, Sem.run_pure, Result.andThen_ok, hr, hr2]
              · cases i with
                | zero => simp only [List.getElem?_cons_zero, Option.some.injEq] at hi hd; subst hi hd; exact hR
                | succ i => exact hv2 i v d (by simpa using hi) (by simpa using hd)

/-- The slots that are known, the rest unknown. -/
def look {α : Type} : List (Nat × α) → Nat → Option α
  | [], _ => none
  | (i, x) :: rest, j => if j = i then some x else look rest j
def envL (l : List (Nat × D)) : Nat → D := fun t => match look l t with
  | some d => d
  | none => .any
def heapL (h : List (Nat × Blk)) : Nat → Option Blk := look h
/-- Where a function begins. -/
def argL : List D → Nat → D
  | [], _ => .any
  | d :: ds, t => if t = 0 then d else argL ds (t - 1)
def S0 (ds : List D) (nt : Nat) : AS := ⟨argL ds, heapL [], 0, nt⟩
theorem argL_getD : ∀ (ds : List D) (t : Nat), argL ds t = ds.getD t .any
  | [], _ => rfl
  | d :: ds, 0 => rfl
  | d :: ds, t + 1 => by simp only [argL]; rw [if_neg (by omega), Nat.add_sub_cancel, argL_getD ds t]; rfl

theorem mkRes_rep {vs : List Value} {ds : List D} {C : Cx} (hl : vs.length = ds.length) (h : ∀ (i : Nat) v d, vs[i]? = some v → ds[i]? = some d → Rep w C v d) : Rep w C (if h : vs.toArray.size = 1 then vs.toArray[0] else .tuple vs.toArray) (mkRes ds) := by
  match vs, ds, hl with
  | [v], [d], _ => exact h 0 v d rfl rfl
  | [], [], _ => exact .tup [] [] rfl (by simp)
  | v :: v' :: vs, d :: d' :: ds, hl => exact .tup _ _ hl h

/-- A function's contract out of the reading of its text. -/
theorem AFun.intro (hstab : Stab I) {f : FuncId} {fn : Func} {c : Code} {ds : List D} {r : D} (hf : P.funcs[f]? = some fn) (hb : fn.body = some c) (hnm : fn.name ≠ "runtime.NumGoroutine") (hn : ds.length ≤ fn.ntmps) (hok : codeOk fn.ntmps c = true)
    (h : awp P I c (S0 ds fn.ntmps) fun e S => match e with
      | .exit _ => False
      | .goto _ => False
      | _ => aret P fn S r) : AFun P I f ds r := by
  refine ⟨by simp [enterable, hf, hb, hnm], fun w F args hI hfb hlen hrep => ?_⟩
  refine calls_of_wp hf hb ?_
  have hsz : args.toArray.size = ds.length := by simpa using hlen
  have hR : Rel I (Gh.top w F) (fun id => id < (S0 ds fn.ntmps).next) (S0 ds fn.ntmps) (cF F) { tmps := args.toArray ++ Array.replicate (fn.ntmps - args.toArray.size) Go.undef, defers := [] } w := by
    refine ⟨⟨fun t => ?_, ⟨fun id b h => by simp [S0, heapL, look] at h, fun id b h => by simp [S0, heapL, look] at h, fun id k cs h => by simp [S0, heapL, look] at h, fun id id' b b' h => by simp [S0, heapL, look] at h⟩, hfb, fun _ h => h⟩, hI, BelM.refl _ _, fun b o h => .inl h, Ext.refl _ _, rfl, ?_, fun id h => h.elim⟩
    · simp only [S0, argL_getD]
      by_cases ht : t < ds.length
      · rw [show ds.getD t .any = ds[t] by simp [List.getD, ht]]
        have ha : t < args.length := by omega
        have : (args.toArray ++ Array.replicate (fn.ntmps - args.toArray.size) Go.undef).getD t Go.undef = args[t] := by
          simp [Array.getD_eq_getD_getElem?, Array.getElem?_append, ha]
        rw [this]
        exact hrep t _ _ (List.getElem?_eq_getElem ha) (List.getElem?_eq_getElem ht)
      · rw [show ds.getD t .any = .any by simp [List.getD, ht]]
        exact .any _
    · simp [S0]; omega
  refine wp_mono (awp_sound hstab c _ _ (Gh.top w F) _ _ w hok h hR) ?_
  rintro e a' w' ⟨S', C', hnt, hR', hq⟩
  have fin : aret P fn S' r → a'.defers = [] ∧ ∃ v, (results fn a'.tmps).run P w' = .ok v w' ∧ (∃ v' F', Ending.returned v = .returned v' ∧ Below w.heap.size w w' ∧ Ext (cF F) w (cF F') w' ∧ FB (cF F') w' ∧ (∀ b o, F' b o → F b o ∨ w.heap.size ≤ b) ∧ Rep w' (cF F') v' r) := by
    rintro ⟨rs, rs', ep, h1, h2, h3⟩
    refine ⟨hR'.defers, ?_⟩
    obtain ⟨vs, hr, hl, hv⟩ := resD_run (P := P) (G := Gh.top w F) hR'.ok _ _ h1
    obtain ⟨C1, hP, hl', hv'⟩ := purDs_sound (w := w') (B := (Gh.top w F).B) rs vs C' S'.heap rs' ep hR'.ok.heap hR'.ok.fb hl hv h2
    refine ⟨if h : vs.toArray.size = 1 then vs.toArray[0] else .tuple vs.toArray, ?_, _, C1.F, rfl, hR'.below.to, (hR'.ext.trans hP.ext).cF, hP.fb, fun b o h => ?_, ?_⟩
    · rw [results_eq, Array.mapM_eq_mapM_toList]
      simp only [Sem.run_bind, Sem.run_map, hr]
      rfl
    · rcases hP.new b o h with h | h
      · exact hR'.new b o h
      · exact .inr h
    · rw [← h3]
      exact mkRes_rep hl' (fun i v d hi hd => (hv' i v d hi hd).1)
  cases e with
  | normal => exact fin hq
  | ret => exact fin hq
  | exit id => exact hq.elim
  | goto l => exact hq.elim
  | panic ch => exact hq.elim
  | outgrown => exact hq.elim
end
end Go.Proofs.YtipdmcpmedmicaaDoor
