/- Contracts, and the abstract reading of a function's text: regions in order, branches, blocks, loops, calls. -/
import Derived.Test.YtipdmcpmedmicaaDoorFwK
set_option linter.unusedSimpArgs false
set_option linter.unusedVariables false
namespace Go.Proofs.YtipdmcpmedmicaaDoor
open Go.RowKit

/-- The function has a text and is entered by a call. -/
def enterable (P : Program) (f : FuncId) : Bool := match P.funcs[f]? with
  | some fn => fn.name != "runtime.NumGoroutine" && fn.body.isSome
  | none => false
/-- A contract: called with values that stand for ds, the function returns a value that stands for r, and changes nothing that was there. I: what the world must hold. -/
def AFun (P : Program) (I : World → Prop) (f : FuncId) (ds : List D) (r : D) : Prop :=
  enterable P f = true ∧ ∀ (w : World) (F : Nat → Nat → Prop) (args : List Value), I w → FB (cF F) w → args.length = ds.length → (∀ (i : Nat) v d, args[i]? = some v → ds[i]? = some d → Rep w (cF F) v d) →
    Calls P f args.toArray w fun e w' => ∃ v F', e = .returned v ∧ Below w.heap.size w w' ∧ Ext (cF F) w (cF F') w' ∧ FB (cF F') w' ∧ (∀ b o, F' b o → F b o ∨ w.heap.size ≤ b) ∧ Rep w' (cF F') v r
/-- What a world must hold lies in blocks that are there. -/
def Stab (I : World → Prop) : Prop := ∀ w w', I w → Below w.heap.size w w' → I w'

/-- Where a call began. -/
structure Gh where
  i0 : World
  w0 : World
  F0 : Nat → Nat → Prop
  B : Bx
  hM : ∀ k, B.M k → i0.heap.size ≤ k
  bI : Below i0.heap.size i0 w0
/-- A call of a function that may write nothing that was there. -/
def Gh.top (w : World) (F : Nat → Nat → Prop) : Gh := ⟨w, w, F, ⟨fun k => w.heap.size ≤ k, fun _ => Go.undef⟩, fun _ h => h, Below.refl _ _⟩

/-- The abstract state stands for the machine's. L: the ids that may have been made. -/
structure Rel (I : World → Prop) (G : Gh) (L : Nat → Prop) (S : AS) (C : Cx) (a : Act) (w : World) : Prop where
  ok : StOK C w a G.B S
  inv : I G.i0
  below : BelM G.B.M G.w0 w
  new : ∀ b o, C.F b o → G.F0 b o ∨ G.B.M b
  ext : Ext (cF G.F0) G.w0 C w
  defers : a.defers = []
  size : a.tmps.size = S.nt
  live : ∀ id, C.live id → L id

theorem Rel.belI {I : World → Prop} {G : Gh} {L : Nat → Prop} {S : AS} {C : Cx} {a : Act} {w : World} (h : Rel I G L S C a w) : Below G.i0.heap.size G.i0 w :=
  ⟨h.below.os.trans G.bI.os, h.below.tape.trans G.bI.tape, h.below.output.trans G.bI.output, Nat.le_trans G.bI.size h.below.size, fun k hk =>
    (h.below.block k (Nat.lt_of_lt_of_le hk G.bI.size) (fun hm => by have := G.hM k hm; omega)).trans (G.bI.block k hk)⟩
def AS.step (S : AS) (o : Oper) (d : D) (eff : Eff) : AS :=
  { S with env := (match o.dst with | some t => upd S.env t d | none => S.env), heap := appEff S.heap eff }
/-- Is an operation wanted? -/
def gdst (ops : Array Oper) (j : Nat) : Option Tmp := match ops[j]? with
  | some o => o.dst
  | none => none
def awant (ops : Array Oper) (env : Nat → D) (o : Oper) : Option Bool :=
  match o.guard with
  | none => some true
  | some (j, want) => match gdst ops j with
    | none => some false
    | some t => match env t with
      | .bool b => some (if want then b else !b)
      | .undef => some false
      | _ => none
/-- What a function may have captured. -/
def capOk : D → Bool
  | .agg _ | .tup _ | .fn _ _ => false
  | _ => true
/-- The function that an operation calls, and its arguments. -/
def acallee (S : AS) : Op → Option (FuncId × List D)
  | .call c => match c.callee with
    | .value f => match S.val f with
      | .fn g cs => if cs.all capOk = true then some (g, c.args.toList.map S.val ++ cs) else none
      | _ => none
    | _ => none
  | _ => none
/-- The slots that a region writes are there. -/
def dstsOk (ops : Array Oper) (nt : Nat) : Bool := ops.toList.all fun o => match o.dst with
  | some t => decide (t < nt)
  | none => true
/-- A contract that tells what becomes of the blocks. -/
def CallOK (P : Program) (I : World → Prop) (f : FuncId) (ds : List D) (H : Nat → Option Blk) (nid : Nat) (d : D) (eff : Eff) : Prop :=
  enterable P f = true ∧ ∀ (i0 w : World) (C : Cx) (B : Bx) (args : List Value), I i0 → Below i0.heap.size i0 w → (∀ k, B.M k → i0.heap.size ≤ k) → HOK C w B H → FB C w → (∀ g, w.heap.size ≤ g → B.M g) → ¬ C.live nid → args.length = ds.length →
    (∀ (i : Nat) v d, args[i]? = some v → ds[i]? = some d → Rep w C v d) →
    Calls P f args.toArray w fun e w' => ∃ v C', e = .returned v ∧ BelM B.M w w' ∧ Ext C w C' w' ∧ Rep w' C' v d ∧ HOK C' w' B (appEff H eff) ∧ FB C' w' ∧ (∀ id, C'.live id → C.live id ∨ id = nid) ∧ ∀ b o, C'.F b o → C.F b o ∨ B.M b
/-- One operation. -/
def awpO (P : Program) (I : World → Prop) (ops : Array Oper) (i : Nat) (o : Oper) (S : AS) (K : AS → Prop) : Prop :=
  match awant ops S.env o with
    | some r => if r = true then (match acallee S o.op with
      | some (f, ds) => (match purDs S.heap ds with
        | some (ds', eff) => ∃ d, AFun P I f ds' d ∧ K (S.step o d eff)
        | none => False) ∨ (match purXs S.heap ds with
        | some (ds', ep) => ∃ d eff, CallOK P I f ds' (appEff S.heap ep) (S.next + i) d eff ∧ K (S.step o d (ep ++ eff))
        | none => False)
      | none => match aop P o.op (S.next + i) S with
        | some (d, eff) => K (S.step o d eff)
        | none => False) else K (S.step o .undef [])
    | none => False
/-- Operations one behind the other. -/
def awpL (P : Program) (I : World → Prop) (ops : Array Oper) : List Oper → Nat → AS → (AS → Prop) → Prop
  | [], i, S, K => K { S with next := S.next + i }
  | o :: rest, i, S, K => awpO P I ops i o S fun S' => awpL P I ops rest (i + 1) S' K

section
variable {P : Program} {I : World → Prop} {G : Gh} {L : Nat → Prop} {S : AS} {C : Cx} {a : Act} {w : World} {ops : Array Oper} {Q : Exit → Act → World → Prop}

theorem dstsOk_at {nt j t : Nat} (hd : dstsOk ops nt = true) (hj : (ops[j]?).bind (fun o : Oper => o.dst) = some t) : t < nt := by
  cases ho : ops[j]? with
  | none => rw [ho] at hj; simp at hj
  | some o =>
    rw [ho] at hj
    simp at hj
    have hm : o ∈ ops.toList := by simpa using Array.mem_of_getElem? ho
    have := List.all_eq_true.1 hd o hm
    rw [hj] at this
    simpa using this
theorem yielded_rep {t : Nat} {env : Nat → D} (hE : EnvOK C w a env) (hs : t < a.tmps.size) {want r : Bool} (h : (match env t with | .bool b => some (if want then b else !b) | .undef => some false | _ => none) = some r) :
    ((match a.tmps[t]? with | some (.bool b) => some b | _ => none : Option Bool) == some want) = r := by
  have hr := hE t
  have hv : a.tmps[t]? = some (a.tmps.getD t Go.undef) := by simp [Array.getD, hs]
  rw [hv]
  generalize a.tmps.getD t Go.undef = v at hr
  generalize env t = d at hr h
  cases hr <;> simp at h
  · subst h; rfl
  · subst h; cases want <;> rename_i b <;> cases b <;> rfl
theorem wanted_rep (hR : Rel I G L S C a w) {o : Oper} {r : Bool} (hd : dstsOk ops S.nt = true) (h : awant ops S.env o = some r) : Region.wanted o (yielded ops a.tmps) = r := by
  unfold awant at h
  unfold Region.wanted
  cases hg : o.guard with
  | none => rw [hg] at h; simpa using h
  | some jw =>
    obtain ⟨j, want⟩ := jw
    rw [hg] at h
    simp only at h ⊢
    unfold yielded
    have hgd : gdst ops j = (ops[j]?).bind (fun o : Oper => o.dst) := by unfold gdst; cases ops[j]? <;> rfl
    rw [hgd] at h
    cases hj : (ops[j]?).bind (fun o : Oper => o.dst) with
    | none => rw [hj] at h; simp at h; subst h; simp
    | some t =>
      rw [hj] at h
      simp only [Option.bind_some] at h ⊢
      exact yielded_rep hR.ok.env (by rw [hR.size]; exact dstsOk_at hd hj) h

theorem EnvOK.put {C' : Cx} {w' : World} {o : Oper} {v : Value} {d : D} {env : Nat → D} (hE : EnvOK C w a env) (e : Ext C w C' w') (hr : Rep w' C' v d) (hd : ∀ t, o.dst = some t → t < a.tmps.size) : EnvOK C' w' (a.put o.dst v) (match o.dst with | some t => upd env t d | none => env) := by
  intro t
  cases hdst : o.dst with
  | none => exact (hE t).ext e
  | some t' =>
    have hlt := hd t' hdst
    simp only [Act.put, upd]
    by_cases ht : t = t'
    · subst ht
      simp only [if_true]
      simpa [Array.getD, hlt] using hr
    · simp only [ht, if_false]
      have : (a.tmps.setIfInBounds t' v).getD t Go.undef = a.tmps.getD t Go.undef := by
        simp [Array.getD_eq_getD_getElem?, Array.getElem?_setIfInBounds, Ne.symm ht]
      rw [this]
      exact (hE t).ext e
theorem put_size {o : Oper} {v : Value} : (a.put o.dst v).tmps.size = a.tmps.size := by cases h : o.dst <;> simp [Act.put]
theorem put_defers {o : Oper} {v : Value} : (a.put o.dst v).defers = a.defers := by cases h : o.dst <;> simp [Act.put]

/-- After a step. -/
theorem Rel.next {C' : Cx} {w' : World} {o : Oper} {v : Value} {d : D} {eff : Eff} {L' : Nat → Prop} (hR : Rel I G L S C a w) (hb : BelM G.B.M w w') (e : Ext C w C' w') (hr : Rep w' C' v d) (hH : HOK C' w' G.B (appEff S.heap eff)) (hF : FB C' w')
    (hn : ∀ b o, C'.F b o → C.F b o ∨ G.B.M b) (hl : ∀ id, C'.live id → L' id) (hd : ∀ t, o.dst = some t → t < a.tmps.size) : Rel I G L' (S.step o d eff) C' (a.put o.dst v) w' where
  ok := ⟨hR.ok.env.put e hr hd, hH, hF, fun g hg => hR.ok.base g (Nat.le_trans hb.size hg)⟩
  inv := hR.inv
  below := hR.below.trans hb
  new := fun b o h => (hn b o h).elim (hR.new b o) .inr
  ext := hR.ext.trans e
  defers := by rw [put_defers]; exact hR.defers
  size := by rw [put_size]; exact hR.size
  live := hl

theorem rep_args {ds : List D} {C : Cx} {xs : List Operand} (hE : EnvOK C w a S.env) (h : xs.map S.val = ds) : ∀ (i : Nat) v d, (xs.map a.eval)[i]? = some v → ds[i]? = some d → Rep w C v d := by
  subst h
  intro i v d hv hd
  simp only [List.getElem?_map] at hv hd
  cases hi : xs[i]? with
  | none => rw [hi] at hv; simp at hv
  | some r => rw [hi] at hv hd; simp at hv hd; subst hv hd; exact hE.val _

theorem callee_run {o : Oper} {f : FuncId} {ds : List D} (hE : EnvOK C w a S.env) (hc : acallee S o.op = some (f, ds)) (he : enterable P f = true) :
    ∃ vs : List Value, (execOp a.eval o).run P w = .ok (.enter f vs.toArray) w ∧ vs.length = ds.length ∧ ∀ (i : Nat) v d, vs[i]? = some v → ds[i]? = some d → Rep w C v d := by
  unfold acallee at hc
  split at hc
  · rename_i c hop
    split at hc
    · rename_i x hcal
      split at hc
      · rename_i g cs hx
        split at hc
        case isFalse => simp at hc
        simp only [Option.some.injEq, Prod.mk.injEq] at hc
        obtain ⟨rfl, hds⟩ := hc
        have hxr := hE.val x
        rw [hx] at hxr
        generalize hv : a.eval x = v at hxr
        cases hxr with
        | fn _ vs _ hl hcs =>
          refine ⟨c.args.toList.map a.eval ++ vs, ?_, ?_, ?_⟩
          · unfold enterable at he
            cases hf : P.funcs[g]? with
            | none => rw [hf] at he; simp at he
            | some fn =>
              rw [hf] at he
              simp at he
              have hb : fn.body.isNone = false := by cases h : fn.body <;> simp_all
              have harr : (c.args.toList.map a.eval ++ vs).toArray = c.args.map a.eval ++ vs.toArray := by apply Array.ext'; simp
              rw [harr]
              simp [execOp, hop, resolve, hcal, hv, Deferred.ofValue, invoke, callFunc, hf, he.1]
              intro h
              simp [h] at hb
          · rw [← hds]; simp [hl]
          · subst hds
            intro i v d hv hd
            by_cases hi : i < (c.args.toList.map a.eval).length
            · rw [List.getElem?_append_left hi] at hv
              rw [List.getElem?_append_left (by simpa using hi)] at hd
              exact rep_args hE rfl i v d hv hd
            · rw [List.getElem?_append_right (by omega)] at hv
              rw [List.getElem?_append_right (by simpa using hi)] at hd
              simp only [List.length_map] at hv hd
              exact hcs _ v d hv hd
      · simp at hc
    · simp at hc
  · simp at hc

/-- One operation is sound. -/
theorem awpO_sound (hstab : Stab I) (hR : Rel I G L S C a w) (hd : dstsOk ops S.nt = true) {i : Nat} {o : Oper} (ho : ops[i]? = some o) (hn : ¬ L (S.next + i)) {K : AS → Prop} (h : awpO P I ops i o S K) {K' : Act → World → Prop}
    (hK : ∀ S' C' a' w', K S' → S'.nt = S.nt → S'.next = S.next → Rel I G (fun id => L id ∨ id = S.next + i) S' C' a' w' → K' a' w') : wpOp P ops Q i K' a w := by
  have hdst : ∀ t, o.dst = some t → t < a.tmps.size := fun t ht => by rw [hR.size]; exact dstsOk_at hd (j := i) (by rw [ho]; simpa using ht)
  unfold awpO at h
  unfold wpOp
  rw [ho]
  simp only
  cases hw : awant ops S.env o with
  | none => rw [hw] at h; exact h.elim
  | some r =>
    rw [hw] at h
    rw [wanted_rep hR hd hw]
    cases r with
    | false =>
      simp only [Bool.false_eq_true, if_false] at h ⊢
      exact hK _ C _ w h rfl rfl (hR.next (BelM.refl _ _) (Ext.refl _ _) .undef hR.ok.heap hR.ok.fb (fun _ _ h => .inl h) (fun id h => .inl (hR.live id h)) hdst)
    | true =>
      simp only [if_true] at h ⊢
      left
      cases hc : acallee S o.op with
      | some fds =>
        obtain ⟨f, ds⟩ := fds
        rw [hc] at h
        simp only at h
        rcases h with h | h
        case inr =>
          cases hx : purXs S.heap ds with
          | none => rw [hx] at h; exact h.elim
          | some p =>
          obtain ⟨ds', ep⟩ := p
          rw [hx] at h
          obtain ⟨d, eff, ⟨hent, hA⟩, hk⟩ := h
          obtain ⟨vs, hrun, hvl0, hvr0⟩ := callee_run (w := w) hR.ok.env hc hent
          obtain ⟨C1, hP, hvl, hvr⟩ := purXs_sound (w := w) (B := G.B) ds vs C S.heap ds' ep hR.ok.heap hR.ok.fb hvl0 hvr0 hx
          unfold Oper.wp
          rw [hrun]
          simp only [Oper.upon]
          refine (hA G.i0 w C1 G.B vs hR.inv hR.belI G.hM hP.ok hP.fb hR.ok.base (fun hl => hn (hR.live _ (by rw [← hP.live]; exact hl))) hvl hvr).mono ?_
          rintro e w' ⟨v, C', rfl, hb, hext, hrep, hH, hfb, hl, hnew⟩
          refine hK _ C' _ w' hk rfl rfl (hR.next (o := o) (L' := fun id => L id ∨ id = S.next + i) hb (hP.ext.trans hext) hrep (by rw [appEff_append]; exact hH) hfb (fun b o h => (hnew b o h).elim (hP.new b o) .inr) (fun id h => (hl id h).elim (fun h => .inl (hR.live id (by rw [← hP.live]; exact h))) .inr) hdst)
        cases hp : purDs S.heap ds with
        | none => rw [hp] at h; exact h.elim
        | some p =>
          obtain ⟨ds', eff⟩ := p
          rw [hp] at h
          obtain ⟨d, ⟨hent, hA⟩, hk⟩ := h
          obtain ⟨vs, hrun, hvl0, hvr0⟩ := callee_run (w := w) hR.ok.env hc hent
          obtain ⟨C1, hP, hvl, hvr⟩ := purDs_sound (w := w) (B := G.B) ds vs C S.heap ds' eff hR.ok.heap hR.ok.fb hvl0 hvr0 hp
          have hI : I w := hstab _ _ hR.inv hR.belI
          unfold Oper.wp
          rw [hrun]
          simp only [Oper.upon]
          refine (hA w C1.F vs hI hP.fb hvl (fun i v d hv hd => (hvr i v d hv hd).1)).mono ?_
          rintro e w' ⟨v, F', rfl, hb, hext, hfb, hnew, hrep⟩
          -- the context behind the call
          let C2 : Cx := ⟨F', C1.σ, C1.live⟩
          have he2 : Ext C1 w C2 w' := ⟨hext.F, hext.blk, fun _ h => h, fun _ _ => rfl⟩
          have hH2 : HOK C2 w' G.B (appEff S.heap eff) := by
            refine ⟨fun id b h => ?_, hP.ok.own, hP.ok.pin, fun id id' b b' h h' hne g hg hg' => hP.ok.apart id id' b b' h h' hne g hg hg'⟩
            obtain ⟨k1, k2⟩ := hP.ok.rep id b h
            refine ⟨k1, k2.keep k1 he2 (fun g hg => hb.block g (k2.lt g hg).2) (fun g o hg ho => ?_)⟩
            rcases hnew g o ho with h1 | h1
            · exact h1
            · have := (k2.lt g hg).2; omega
          refine hK _ C2 _ w' hk rfl rfl (hR.next (BelM.of hb) (hP.ext.trans he2) (hrep.ext ⟨fun _ _ h => h, fun _ _ _ => rfl, fun _ h => h.elim, fun _ h => h.elim⟩) hH2 hfb (fun b o h => ?_) (fun id h => .inl (hR.live id (by have : C1.live id := h; rwa [hP.live] at this))) hdst)
          rcases hnew b o h with h1 | h1
          · exact hP.new b o h1
          · exact .inr (hR.ok.base b h1)
      | none =>
        rw [hc] at h
        cases hp : aop P o.op (S.next + i) S with
        | none => rw [hp] at h; exact h.elim
        | some p =>
          obtain ⟨d, eff⟩ := p
          rw [hp] at h
          obtain ⟨nx, v, w', C', hrun, hnx, hb, hext, hrep, hH, hfb, hl, hnew⟩ := aop_sound (P := P) hR.ok (fun hl => hn (hR.live _ hl)) hp
          unfold Oper.wp
          rw [hrun]
          have hrel := hR.next (o := o) (L' := fun id => L id ∨ id = S.next + i) hb hext hrep hH hfb hnew (fun id h => (hl id h).elim (fun h => .inl (hR.live id h)) .inr) hdst
          rcases hnx with rfl | ⟨rfl, rfl⟩
          · exact hK _ C' _ w' h rfl rfl hrel
          · exact hK _ C' _ w' h rfl rfl hrel

theorem awpL_sound (hstab : Stab I) (hd : dstsOk ops S.nt = true) (n0 nt : Nat) : ∀ (rest : List Oper) (i : Nat) (S : AS) (C : Cx) (a : Act) (w : World) (K : AS → Prop), ops.toList.drop i = rest → S.nt = nt → dstsOk ops nt = true → S.next = n0 → Rel I G (fun id => id < n0 + i) S C a w → awpL P I ops rest i S K →
    (∀ S' C' a' w', K S' → S'.nt = nt → Rel I G (fun id => id < S'.next) S' C' a' w' → Q .normal a' w') → wpOps P ops Q (List.range' i rest.length) a w := by
  intro rest
  induction rest with
  | nil =>
    intro i S C a w K _ hnt _ hn0 hR h hK
    simp only [awpL] at h
    simp only [List.length_nil, List.range'_zero, wpOps]
    refine hK _ C a w h hnt ?_
    rw [hn0]
    exact ⟨⟨hR.ok.env, hR.ok.heap, hR.ok.fb, hR.ok.base⟩, hR.inv, hR.below, hR.new, hR.ext, hR.defers, hR.size, hR.live⟩
  | cons o rest ih =>
    intro i S C a w K hdrop hnt hdk hn0 hR h hK
    have hoi : ops[i]? = some o := by
      have : (ops.toList.drop i)[0]? = some o := by rw [hdrop]; rfl
      simpa using this
    have hdrop' : ops.toList.drop (i + 1) = rest := by
      rw [← List.drop_drop, hdrop]; rfl
    simp only [awpL] at h
    rw [List.length_cons, List.range'_succ, wpOps_cons]
    refine awpO_sound hstab hR (by rw [hnt]; exact hdk) hoi (by rw [hn0]; omega) h ?_
    intro S' C' a' w' hk hnt' hnx hR'
    refine ih (i + 1) S' C' a' w' K hdrop' (hnt'.trans hnt) hdk (hnx.trans hn0) ⟨hR'.ok, hR'.inv, hR'.below, hR'.new, hR'.ext, hR'.defers, hR'.size, fun id hl => ?_⟩ hk hK
    have := hR'.live id hl
    rw [hn0] at this
    omega
end
end Go.Proofs.YtipdmcpmedmicaaDoor
