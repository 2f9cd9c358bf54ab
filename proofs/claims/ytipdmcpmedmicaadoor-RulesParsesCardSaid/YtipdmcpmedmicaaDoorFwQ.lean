/- Regions that draw their order: one reading in the order of the text serves for every order. -/
import Derived.Test.YtipdmcpmedmicaaDoorFwP
set_option linter.unusedSimpArgs false
set_option linter.unusedVariables false
namespace Go.Proofs.YtipdmcpmedmicaaDoor
open Go.RowKit

/-- Operations that may stand in a region that draws. -/
def quietOp : Op → Bool
  | .move _ | .assign _ | .pick .. | .alloc _ | .box .. | .build .. | .buildSlice .. | .load .. | .store .. | .nilCheck _ | .binOp .. | .unOp .. | .convert .. | .slice .. | .makeSlice .. | .fieldAddr .. | .field .. | .indexAddr .. | .index .. | .extract .. | .lookup .. | .mapUpdate .. => true
  | .call c => match c.callee with
    | .builtin .len | .builtin .min | .builtin .max | .builtin .append => true
    | .value _ => true
    | _ => false
  | _ => false
/-- Operations that read or change blocks that are there. -/
def heapy : Op → Bool
  | .load .. | .store .. | .indexAddr .. | .buildSlice .. | .convert .. | .slice .. | .lookup .. | .mapUpdate .. => true
  | .call c => match c.callee with
    | .builtin .len | .builtin .min | .builtin .max => false
    | _ => true
  | _ => false
def D.ids1 : D → List Nat
  | .ptr id _ => [id]
  | .vptr id _ _ _ => [id]
  | .own id _ => [id]
  | .omp id => [id]
  | .sp id => [id]
  | _ => []
def D.ids : D → List Nat
  | .agg ds => ds.flatMap D.ids1
  | .fn _ ds => ds.flatMap D.ids1
  | d => d.ids1
section
variable {P : Program} {I : World → Prop} {S S' : AS} {nid : Nat} {d : D} {eff : Eff}
theorem Rep.live1 {w : World} {C : Cx} {v : Value} (h : Rep w C v d) {id : Nat} (hi : id ∈ d.ids1) : C.live id := by
  cases h <;> simp [D.ids1] at hi <;> subst hi <;> assumption
theorem Rep.liveS {w : World} {C : Cx} {v : Value} (h : Rep w C v d) {id : Nat} (hi : id ∈ d.ids) : C.live id := by
  cases d with
  | agg ds =>
    simp only [D.ids, List.mem_flatMap] at hi
    obtain ⟨x, hx, hi⟩ := hi
    cases h with
    | agg vs _ hl h1 h =>
      obtain ⟨j, hj⟩ := List.getElem?_of_mem hx
      have hlt : j < vs.length := by rw [hl]; exact (List.getElem?_eq_some_iff.1 hj).1
      exact (h j _ x (List.getElem?_eq_getElem hlt) hj).live1 hi
  | fn f ds =>
    simp only [D.ids, List.mem_flatMap] at hi
    obtain ⟨x, hx, hi⟩ := hi
    cases h with
    | fn _ vs _ hl h =>
      obtain ⟨j, hj⟩ := List.getElem?_of_mem hx
      have hlt : j < vs.length := by rw [hl]; exact (List.getElem?_eq_some_iff.1 hj).1
      exact (h j _ x (List.getElem?_eq_getElem hlt) hj).live1 hi
  | _ => exact h.live1 hi
/-- What a value reads of the blocks. -/
def Sub (H H' : Nat → Option Blk) (ids : List Nat) : Prop := ∀ id ∈ ids, ∀ b, H id = some b → H' id = some b
theorem Sub.app {H H' : Nat → Option Blk} {ids : List Nat} (h : Sub H H' ids) : ∀ (e : Eff), Sub (appEff H e) (appEff H' e) ids
  | [] => h
  | (id0, b0) :: e => by
    simp only [appEff]
    refine Sub.app (ids := ids) ?_ e
    intro id hid b hb
    simp only [upd] at hb ⊢
    split
    · rename_i he; rw [if_pos he] at hb; exact hb
    · rename_i he; rw [if_neg he] at hb; exact h id hid b hb
theorem pur1_sub {H H' : Nat → Option Blk} {d' : D} {e : Eff} (hs : Sub H H' d.ids1) (h : pur1 H d = some (d', e)) : pur1 H' d = some (d', e) := by
  cases d
  case own id n =>
    simp only [pur1] at h ⊢
    cases hH : H id with
    | none => rw [hH] at h; simp at h
    | some b => rw [hs id (by simp [D.ids1]) b hH]; rw [hH] at h; exact h
  case omp id =>
    simp only [pur1] at h ⊢
    cases hH : H id with
    | none => rw [hH] at h; simp at h
    | some b => rw [hs id (by simp [D.ids1]) b hH]; rw [hH] at h; exact h
  case fn f caps => cases caps <;> exact h
  all_goals exact h
theorem purL_sub : ∀ (ds : List D) (H H' : Nat → Option Blk) (ds' : List D) (e : Eff), Sub H H' (ds.flatMap D.ids1) → purL H ds = some (ds', e) → purL H' ds = some (ds', e)
  | [], H, H', ds', e, _, h => by simpa [purL] using h
  | d :: ds, H, H', ds', e, hs, h => by
    simp only [purL] at h ⊢
    cases h1 : pur1 H d with
    | none => rw [h1] at h; simp at h
    | some p =>
      obtain ⟨d1, e1⟩ := p
      rw [h1] at h
      rw [pur1_sub (fun id hid => hs id (by simp [hid])) h1]
      simp only at h ⊢
      cases h2 : purL (appEff H e1) ds with
      | none => rw [h2] at h; simp at h
      | some q =>
        obtain ⟨d2, e2⟩ := q
        rw [h2] at h
        rw [purL_sub ds _ (appEff H' e1) d2 e2 (Sub.app (fun id hid => hs id (by simp only [List.flatMap_cons, List.mem_append]; exact .inr hid)) e1) h2]
        exact h
theorem purD_sub {H H' : Nat → Option Blk} {d' : D} {e : Eff} (hs : Sub H H' d.ids) (h : purD H d = some (d', e)) : purD H' d = some (d', e) := by
  unfold purD at h ⊢
  split at h
  · rename_i ds
    cases h1 : purL H ds with
    | none => rw [h1] at h; simp at h
    | some p =>
      obtain ⟨d1, e1⟩ := p
      rw [h1] at h
      simp only [purL_sub ds H H' d1 e1 hs h1]
      exact h
  · rename_i hd
    refine pur1_sub (fun id hid => hs id ?_) h
    cases d <;> first | exact hid | exact absurd rfl (hd _) | (simp [D.ids1] at hid)
theorem purDs_sub : ∀ (ds : List D) (H H' : Nat → Option Blk) (ds' : List D) (e : Eff), Sub H H' (ds.flatMap D.ids) → purDs H ds = some (ds', e) → purDs H' ds = some (ds', e)
  | [], H, H', ds', e, _, h => by simpa [purDs] using h
  | d :: ds, H, H', ds', e, hs, h => by
    simp only [purDs] at h ⊢
    cases h1 : purD H d with
    | none => rw [h1] at h; simp at h
    | some p =>
      obtain ⟨d1, e1⟩ := p
      rw [h1] at h
      rw [purD_sub (fun id hid => hs id (by simp [hid])) h1]
      simp only at h ⊢
      cases h2 : purDs (appEff H e1) ds with
      | none => rw [h2] at h; simp at h
      | some q =>
        obtain ⟨d2, e2⟩ := q
        rw [h2] at h
        rw [purDs_sub ds _ (appEff H' e1) d2 e2 (Sub.app (fun id hid => hs id (by simp only [List.flatMap_cons, List.mem_append]; exact .inr hid)) e1) h2]
        exact h
theorem purX_sub {H H' : Nat → Option Blk} {d' : D} {e : Eff} (hs : Sub H H' d.ids) (h : purX H d = some (d', e)) : purX H' d = some (d', e) := by
  unfold purX at h ⊢
  split at h
  · exact h
  · exact purD_sub hs h
theorem purXs_sub : ∀ (ds : List D) (H H' : Nat → Option Blk) (ds' : List D) (e : Eff), Sub H H' (ds.flatMap D.ids) → purXs H ds = some (ds', e) → purXs H' ds = some (ds', e)
  | [], H, H', ds', e, _, h => by simpa [purXs] using h
  | d :: ds, H, H', ds', e, hs, h => by
    simp only [purXs] at h ⊢
    cases h1 : purX H d with
    | none => rw [h1] at h; simp at h
    | some p =>
      obtain ⟨d1, e1⟩ := p
      rw [h1] at h
      rw [purX_sub (fun id hid => hs id (by simp [hid])) h1]
      simp only at h ⊢
      cases h2 : purXs (appEff H e1) ds with
      | none => rw [h2] at h; simp at h
      | some q =>
        obtain ⟨d2, e2⟩ := q
        rw [h2] at h
        rw [purXs_sub ds _ (appEff H' e1) d2 e2 (Sub.app (fun id hid => hs id (by simp only [List.flatMap_cons, List.mem_append]; exact .inr hid)) e1) h2]
        exact h
theorem elemsD_sub {H H' : Nat → Option Blk} {xs : List D} (hs : Sub H H' d.ids1) (h : elemsD H d = some xs) : elemsD H' d = some xs := by
  cases d <;> simp [elemsD] at h ⊢ <;> try exact h
  rename_i id n
  cases hH : H id with
  | none => rw [hH] at h; simp at h
  | some b => rw [hs id (by simp [D.ids1]) b hH]; rw [hH] at h; exact h

theorem mapD_sub {H H' : Nat → Option Blk} {q : IntKind × List Int × List D} (hs : Sub H H' d.ids1) (h : mapD H d = some q) : mapD H' d = some q := by
  cases d <;> simp [mapD] at h ⊢ <;> try exact h
  rename_i id
  cases hH : H id with
  | none => rw [hH] at h; simp at h
  | some b => rw [hs id (by simp [D.ids1]) b hH]; rw [hH] at h; exact h
theorem ids1_sub {H H' : Nat → Option Blk} (hd : Sub H H' d.ids) : Sub H H' d.ids1 := by
  intro id hid
  refine hd id ?_
  cases d <;> first | exact hid | (simp [D.ids1] at hid)

theorem map_val {xs : List Operand} (h : ∀ x ∈ xs, S'.val x = S.val x) : xs.map S'.val = xs.map S.val := List.map_congr_left h
theorem opt_val {x : Option Operand} (h : ∀ y ∈ x.toList, S'.val y = S.val y) : x.map S'.val = x.map S.val := by
  cases x with
  | none => rfl
  | some y => simp [h y (by simp)]

theorem aop_mono {op : Op} (hq : quietOp op = true) (hv : ∀ x ∈ op.operands.toList, S'.val x = S.val x) (hh : heapy op = true → ∀ x ∈ op.operands.toList, Sub S.heap S'.heap (S.val x).ids) (h : aop P op nid S = some (d, eff)) : aop P op nid S' = some (d, eff) := by
  cases op <;> simp only [quietOp, Bool.false_eq_true] at hq <;> simp only [Op.operands] at hv hh
  case move x => simp only [aop, hv x (by simp)] at h ⊢; exact h
  case assign x => simp only [aop, hv x (by simp)] at h ⊢; exact h
  case pick c x y => simp only [aop, hv c (by simp), hv x (by simp), hv y (by simp)] at h ⊢; exact h
  case alloc e => exact h
  case box e x => simp only [aop, hv x (by simp)] at h ⊢; exact h
  case build t ps =>
    have e1 : (ps.toList.map fun p => (p.1, S'.val p.2)) = ps.toList.map fun p => (p.1, S.val p.2) := by
      apply List.map_congr_left
      intro p hp
      rw [hv p.2 (by simp; exact ⟨p.1, by simpa using hp⟩)]
    simp only [aop, e1] at h ⊢; exact h
  case buildSlice t len ps =>
    have hmem : ∀ p ∈ ps.toList, p.2 ∈ (ps.toList.map (·.2)).toArray.toList := fun p hp => by simp; exact ⟨p.1, by simpa using hp⟩
    have e1 : (ps.toList.map fun p => S'.val p.2) = ps.toList.map fun p => S.val p.2 := List.map_congr_left fun p hp => hv p.2 (hmem p hp)
    simp only [aop, e1] at h ⊢
    cases h1 : sliceT P t with
    | none => rw [h1] at h; simp at h
    | some e =>
      simp only [h1] at h ⊢
      cases h2 : szT P e with
      | none => rw [h2] at h; simp at h
      | some k =>
        simp only [h2] at h ⊢
        cases h3 : purDs S.heap (ps.toList.map fun p => S.val p.2) with
        | none => rw [h3] at h; simp at h
        | some q =>
          obtain ⟨xs, ep⟩ := q
          rw [purDs_sub _ _ S'.heap xs ep (fun id hid => by
            simp only [List.mem_flatMap, List.mem_map] at hid
            obtain ⟨dd, ⟨p, hp, rfl⟩, hid⟩ := hid
            exact hh rfl p.2 (hmem p hp) id hid) h3]
          rw [h3] at h
          exact h
  case load t x =>
    have hx := hv x (by simp)
    have hb := hh rfl x (by simp)
    simp only [aop, hx] at h ⊢
    cases hd : S.val x <;> rw [hd] at h hb <;> simp only [reduceCtorEq] at h ⊢
    case ptr id off =>
      cases hH : S.heap id with
      | none => rw [hH] at h; simp at h
      | some b => rw [hb id (by simp [D.ids, D.ids1]) b hH]; rw [hH] at h; exact h
    case vptr id k i off =>
      cases hH : S.heap id with
      | none => rw [hH] at h; simp at h
      | some b => rw [hb id (by simp [D.ids, D.ids1]) b hH]; rw [hH] at h; exact h
    case iptr ds => exact h
  case store t x y =>
    have hb := hh rfl x (by simp)
    have hb' := hh rfl y (by simp)
    simp only [aop, hv x (by simp), hv y (by simp)] at h ⊢
    cases hd : S.val x <;> rw [hd] at h hb <;> simp only [reduceCtorEq] at h ⊢
    case ptr id off =>
      cases hH : S.heap id with
      | none => rw [hH] at h; simp at h
      | some b => rw [hb id (by simp [D.ids, D.ids1]) b hH]; rw [hH] at h; exact h
    case vptr id k i off =>
      cases h3 : purD S.heap (S.val y) with
      | none => rw [h3] at h; simp at h
      | some q =>
        obtain ⟨x', ep⟩ := q
        rw [purD_sub hb' h3]
        rw [h3] at h
        simp only at h ⊢
        have hsub := Sub.app hb ep
        cases hH : appEff S.heap ep id with
        | none => rw [hH] at h; simp at h
        | some b => rw [hsub id (by simp [D.ids, D.ids1]) b hH]; rw [hH] at h; exact h
  case nilCheck x => simp only [aop, hv x (by simp)] at h ⊢; exact h
  case binOp op t x y t' => simp only [aop, hv x (by simp), hv y (by simp)] at h ⊢; exact h
  case unOp op t x => simp only [aop, hv x (by simp)] at h ⊢; exact h
  case convert s t x =>
    have hb := hh rfl x (by simp)
    simp only [aop, hv x (by simp)] at h ⊢
    cases hd : S.val x <;> rw [hd] at h hb <;> simp only [elemsD] at h ⊢ <;> try exact h
    rename_i id n
    cases hH : S.heap id with
    | none => rw [hH] at h; simp at h
    | some b => rw [hb id (by simp [D.ids, D.ids1]) b hH]; rw [hH] at h; exact h
  case slice t x lo hi mx =>
    cases mx with
    | some m => simp only [aop, reduceCtorEq] at h
    | none =>
      have e1 : lo.map S'.val = lo.map S.val := opt_val fun y hy => hv y (by simp at hy ⊢; simp [hy])
      have e2 : hi.map S'.val = hi.map S.val := opt_val fun y hy => hv y (by simp at hy ⊢; simp [hy])
      have hb := hh rfl x (by simp)
      simp only [aop, hv x (by simp), e1, e2] at h ⊢
      cases hd : S.val x <;> rw [hd] at h hb <;> simp only [reduceCtorEq] at h ⊢
      case own id m =>
        cases hH : S.heap id with
        | none => rw [hH] at h; simp at h
        | some b => rw [hb id (by simp [D.ids, D.ids1]) b hH]; rw [hH] at h; exact h
      all_goals exact h
  case makeSlice t l c => simp only [aop, hv l (by simp), hv c (by simp)] at h ⊢; exact h
  case fieldAddr s x f => simp only [aop, hv x (by simp)] at h ⊢; exact h
  case field s x f => simp only [aop, hv x (by simp)] at h ⊢; exact h
  case indexAddr t x i =>
    have hb := hh rfl x (by simp)
    simp only [aop, hv x (by simp), hv i (by simp)] at h ⊢
    cases hi : S.val i <;> rw [hi] at h <;> simp only [reduceCtorEq] at h ⊢
    cases hd : S.val x <;> rw [hd] at h hb <;> simp only [reduceCtorEq] at h ⊢
    case own id m =>
      cases hH : S.heap id with
      | none => rw [hH] at h; cases hs : sliceT P t <;> rw [hs] at h <;> simp at h
      | some b => rw [hb id (by simp [D.ids, D.ids1]) b hH]; rw [hH] at h; exact h
    all_goals exact h
  case index t x i => simp only [aop, hv x (by simp), hv i (by simp)] at h ⊢; exact h
  case extract t i => simp only [aop, hv t (by simp)] at h ⊢; exact h
  case lookup t x i ok =>
    have hb := ids1_sub (hh rfl x (by simp))
    simp only [aop, hv x (by simp), hv i (by simp)] at h ⊢
    split at h
    · rename_i k e k' n k'' ks vs e1 e2 e3
      simp only [e1, e2, mapD_sub hb e3]
      exact h
    · simp at h
  case mapUpdate t m i x =>
    have hb := hh rfl m (by simp)
    have hb' := hh rfl x (by simp)
    simp only [aop, hv x (by simp), hv i (by simp), hv m (by simp)] at h ⊢
    split at h
    · rename_i k e id k' n v' ep e1 e2 e3 e4
      simp only [e1, e2, e3, purD_sub hb' e4]
      have hsub := Sub.app hb ep
      cases hH : appEff S.heap ep id with
      | none => rw [hH] at h; simp at h
      | some b => rw [hsub id (by rw [e2]; simp [D.ids, D.ids1]) b hH]; rw [hH] at h; exact h
    · simp at h
  case call c =>
    obtain ⟨callee, args, argTypes⟩ := c
    obtain ⟨args⟩ := args
    simp only [aop, abuiltin] at h ⊢
    simp only [Call.operands] at hv hh
    cases callee with
    | value f => simp at h
    | invoke r m => simp at h
    | builtin b =>
      cases b <;> simp only [Bool.false_eq_true] at hq
      case len =>
        match args, argTypes, h with
        | [x], ⟨[t]⟩, h => simp only [hv x (by simp)] at h ⊢; exact h
      case min =>
        match args, h with
        | [x, y], h => simp only [hv x (by simp), hv y (by simp)] at h ⊢; exact h
      case max =>
        match args, h with
        | [x, y], h => simp only [hv x (by simp), hv y (by simp)] at h ⊢; exact h
      case append =>
        match args, argTypes, h with
        | [s, x], ⟨[t, t']⟩, h =>
          have hs := hh rfl s (by simp)
          have hx := hh rfl x (by simp)
          have ids1_sub : ∀ dd : D, Sub S.heap S'.heap dd.ids → Sub S.heap S'.heap dd.ids1 := by
            intro dd hd id hid
            refine hd id ?_
            cases dd <;> first | exact hid | (simp [D.ids1] at hid)
          simp only [hv s (by simp), hv x (by simp)] at h ⊢
          cases h1 : sliceT P t with
          | none => rw [h1] at h; simp at h
          | some e =>
            simp only [h1] at h ⊢
            cases h2 : szT P e with
            | none => rw [h2] at h; simp at h
            | some k =>
              cases h3 : bytesT P e with
              | none => rw [h2, h3] at h; simp at h
              | some by_ =>
                cases h4 : elemsD S.heap (S.val s) with
                | none => rw [h2, h3, h4] at h; simp at h
                | some xs =>
                  cases h5 : elemsD S.heap (S.val x) with
                  | none => rw [h2, h3, h4, h5] at h; simp at h
                  | some ys =>
                    rw [elemsD_sub (ids1_sub _ hs) h4, elemsD_sub (ids1_sub _ hx) h5]
                    rw [h4, h5] at h
                    simp only [h2, h3] at h ⊢
                    split at h
                    · rename_i hc
                      rw [if_pos hc]
                      cases hsv : S.val s <;> rw [hsv] at h hs <;> simp only [reduceCtorEq] at h ⊢
                      case nils => exact h
                      case own id n =>
                        cases hH : S.heap id with
                        | none => rw [hH] at h; simp at h
                        | some b => rw [hs id (by simp [D.ids, D.ids1]) b hH]; rw [hH] at h; exact h
                    · simp at h
/-- An operation makes one block at most, under its own number. -/
def effOk (nid : Nat) : Eff → Bool
  | [] => true
  | [(id, some _)] => id == nid
  | _ => false
/-- A pointer, which is never free of own blocks. -/
def isPtr : D → Bool
  | .ptr _ _ => true
  | _ => false
theorem purDs_ptr {H : Nat → Option Blk} : ∀ {ds : List D}, ds.any isPtr = true → purDs H ds = none
  | [], h => by simp at h
  | d :: ds, h => by
    simp only [List.any_cons, Bool.or_eq_true] at h
    simp only [purDs]
    cases h1 : purD H d with
    | none => rfl
    | some p =>
      rcases h with h | h
      · cases d <;> simp [isPtr] at h
        simp [purD, pur1] at h1
      · simp only [purDs_ptr h]
/-- A contract with effects that does not look at what else is there. -/
def CallAny (P : Program) (I : World → Prop) (f : FuncId) (ds ds' : List D) (ep : Eff) (H : Nat → Option Blk) (n nid : Nat) (d : D) (eff : Eff) : Prop := ∀ H', (∀ id b, id < n → H id = some b → H' id = some b) → Sub H H' (ds.flatMap D.ids) → CallOK P I f ds' (appEff H' ep) nid d eff
/-- One operation, as a relation. -/
def St1 (P : Program) (I : World → Prop) (ops : Array Oper) (i : Nat) (o : Oper) (S : AS) (d : D) (eff : Eff) : Prop :=
  (awant ops S.env o = some false ∧ d = .undef ∧ eff = []) ∨
  (awant ops S.env o = some true ∧ ((∃ f ds ds', acallee S o.op = some (f, ds) ∧ purDs S.heap ds = some (ds', eff) ∧ AFun P I f ds' d) ∨ (acallee S o.op = none ∧ aop P o.op (S.next + i) S = some (d, eff)) ∨ ∃ f ds ds' ep eff', acallee S o.op = some (f, ds) ∧ purXs S.heap ds = some (ds', ep) ∧ eff = ep ++ eff' ∧ CallAny P I f ds ds' ep S.heap S.next (S.next + i) d eff'))
theorem St1.toO {ops : Array Oper} {i : Nat} {o : Oper} (h : St1 P I ops i o S d eff) : awpO P I ops i o S (· = S.step o d eff) := by
  unfold awpO
  rcases h with ⟨h1, rfl, rfl⟩ | ⟨h1, h2⟩
  · simp only [h1, Bool.false_eq_true, if_false]
  · simp only [h1, if_true]
    rcases h2 with ⟨f, ds, ds', h3, h4, h5⟩ | ⟨h3, h4⟩ | ⟨f, ds, ds', ep, eff', h3, h4, rfl, h5⟩
    · simp only [h3, h4]; exact .inl ⟨d, h5, rfl⟩
    · simp only [h3, h4]
    · simp only [h3, h4]; exact .inr ⟨d, eff', h5 _ (fun _ _ _ h => h) (fun _ _ _ h => h), rfl⟩
/-- What an operation sees is the same in two states. -/
theorem same_seen {ops : Array Oper} {o : Oper} (hq : quietOp o.op = true) (he : ∀ t ∈ o.looksAt ops, S'.env t = S.env t) (hh : heapy o.op = true → ∀ t ∈ o.looksAt ops, Sub S.heap S'.heap (S.env t).ids) :
    awant ops S'.env o = awant ops S.env o ∧ acallee S' o.op = acallee S o.op ∧ (∀ f ds, acallee S o.op = some (f, ds) → heapy o.op = true ∧ Sub S.heap S'.heap (ds.flatMap D.ids)) ∧ ∀ nid d eff, aop P o.op nid S = some (d, eff) → aop P o.op nid S' = some (d, eff) := by
  have hops : ∀ x ∈ o.op.operands.toList, S'.val x = S.val x := by
    intro x hx
    cases x with
    | tmp t => exact he t (by unfold Oper.looksAt; exact List.mem_append_left _ (List.mem_filterMap.2 ⟨_, hx, rfl⟩))
    | _ => rfl
  have hops2 : heapy o.op = true → ∀ x ∈ o.op.operands.toList, Sub S.heap S'.heap (S.val x).ids := by
    intro hp x hx id hid
    cases x with
    | tmp t => exact hh hp t (by unfold Oper.looksAt; exact List.mem_append_left _ (List.mem_filterMap.2 ⟨_, hx, rfl⟩)) id hid
    | const v =>
      exfalso
      have c1 : ∀ v, (cD1 v).ids1 = [] := by
        intro v; unfold cD1; split <;> (try split) <;> rfl
      simp only [AS.val] at hid
      unfold cD at hid
      split at hid
      · split at hid
        · simp only [D.ids, List.mem_flatMap, List.mem_map] at hid
          obtain ⟨_, ⟨v', _, rfl⟩, hid⟩ := hid
          rw [c1] at hid; cases hid
        · simp [D.ids, D.ids1] at hid
      · have : (cD1 v).ids = [] := by
          have := c1 v
          unfold cD1 at this ⊢
          split <;> (try split) <;> rfl
        rw [this] at hid; cases hid
    | global g => simp [AS.val, D.ids, D.ids1] at hid
    | func f => simp [AS.val, D.ids, D.ids1] at hid
  have hw : awant ops S'.env o = awant ops S.env o := by
    unfold awant
    cases hg : o.guard with
    | none => rfl
    | some jw =>
      obtain ⟨j, want⟩ := jw
      simp only
      cases hj : gdst ops j with
      | none => rfl
      | some t =>
        simp only
        rw [he t]
        unfold Oper.looksAt
        refine List.mem_append_right _ ?_
        rw [hg]
        unfold gdst at hj
        cases ho : ops[j]? with
        | none => rw [ho] at hj; simp at hj
        | some oj => rw [ho] at hj; simp [ho]; simpa using hj
  have hc : acallee S' o.op = acallee S o.op := by
    unfold acallee
    cases hop : o.op <;> try rfl
    rename_i c
    simp only
    cases hcal : c.callee <;> try rfl
    rename_i f
    simp only
    rw [hop] at hops
    have h1 := hops f (by simp [Op.operands, Call.operands, hcal])
    have h2 : c.args.toList.map S'.val = c.args.toList.map S.val := map_val fun x hx => hops x (by simp [Op.operands, Call.operands, hcal]; exact .inr (by simpa using hx))
    rw [h1, h2]
  have hcall : ∀ f ds, acallee S o.op = some (f, ds) → heapy o.op = true := by
    intro f ds h3
    unfold acallee at h3
    split at h3
    · rename_i c hop
      split at h3
      · rename_i x hcal
        rw [hop]
        simp [heapy, hcal]
      · simp at h3
    · simp at h3
  have hsub : ∀ f ds, acallee S o.op = some (f, ds) → Sub S.heap S'.heap (ds.flatMap D.ids) := by
    intro f ds h3
    unfold acallee at h3
    split at h3
    · rename_i c hop
      split at h3
      · rename_i x hcal
        split at h3
        · rename_i g cs hx
          split at h3
          case isFalse => simp at h3
          rename_i hcap
          simp only [Option.some.injEq, Prod.mk.injEq] at h3
          obtain ⟨_, rfl⟩ := h3
          rw [hop] at hops2
          intro id hid
          simp only [List.flatMap_append, List.mem_append] at hid
          rcases hid with hid | hid
          · simp only [List.mem_flatMap, List.mem_map] at hid
            obtain ⟨dd, ⟨y, hy, rfl⟩, hid⟩ := hid
            exact hops2 (by simp [heapy, hcal]) y (by simp [Op.operands, Call.operands, hcal]; exact .inr (by simpa using hy)) id hid
          · refine hops2 (by simp [heapy, hcal]) x (by simp [Op.operands, Call.operands, hcal]) id ?_
            rw [hx]
            simp only [D.ids, List.mem_flatMap] at hid ⊢
            obtain ⟨dd, h1, h2⟩ := hid
            refine ⟨dd, h1, ?_⟩
            have := List.all_eq_true.1 hcap dd h1
            cases dd <;> first | exact h2 | (simp [capOk] at this)
        · simp at h3
      · simp at h3
    · simp at h3
  exact ⟨hw, hc, fun f ds h => ⟨hcall f ds h, hsub f ds h⟩, fun nid d eff h => aop_mono hq hops hops2 h⟩
/-- One operation, no call with effects. -/
def St1N (P : Program) (I : World → Prop) (ops : Array Oper) (i : Nat) (o : Oper) (S : AS) (d : D) (eff : Eff) : Prop :=
  (awant ops S.env o = some false ∧ d = .undef ∧ eff = []) ∨
  (awant ops S.env o = some true ∧ ((∃ f ds ds', acallee S o.op = some (f, ds) ∧ purDs S.heap ds = some (ds', eff) ∧ AFun P I f ds' d) ∨ (acallee S o.op = none ∧ aop P o.op (S.next + i) S = some (d, eff))))
theorem St1N.to1 {ops : Array Oper} {i : Nat} {o : Oper} (h : St1N P I ops i o S d eff) : St1 P I ops i o S d eff := by
  rcases h with h | ⟨h1, h2 | h2⟩
  · exact .inl h
  · exact .inr ⟨h1, .inl h2⟩
  · exact .inr ⟨h1, .inr (.inl h2)⟩
theorem St1N.mono {ops : Array Oper} {i : Nat} {o : Oper} (hq : quietOp o.op = true) (hn : S'.next = S.next) (he : ∀ t ∈ o.looksAt ops, S'.env t = S.env t) (hh : heapy o.op = true → ∀ t ∈ o.looksAt ops, Sub S.heap S'.heap (S.env t).ids)
    (h : St1N P I ops i o S d eff) : St1N P I ops i o S' d eff := by
  obtain ⟨hw, hc, hs, ha⟩ := same_seen (P := P) hq he hh
  unfold St1N
  rw [hw, hc, hn]
  rcases h with h | ⟨h1, h2⟩
  · exact .inl h
  · refine .inr ⟨h1, ?_⟩
    rcases h2 with ⟨f, ds, ds', h3, h4, h5⟩ | ⟨h3, h4⟩
    · exact .inl ⟨f, ds, ds', h3, purDs_sub ds _ _ ds' eff (hs f ds h3).2 h4, h5⟩
    · exact .inr ⟨h3, ha _ _ _ h4⟩
theorem St1.mono {ops : Array Oper} {i : Nat} {o : Oper} (hq : quietOp o.op = true) (hn : S'.next = S.next) (he : ∀ t ∈ o.looksAt ops, S'.env t = S.env t) (hh : heapy o.op = true → ∀ t ∈ o.looksAt ops, Sub S.heap S'.heap (S.env t).ids)
    (hold : heapy o.op = true → acallee S o.op ≠ none → ∀ id b, id < S.next → S.heap id = some b → S'.heap id = some b) (h : St1 P I ops i o S d eff) : St1 P I ops i o S' d eff := by
  obtain ⟨hw, hc, hs, ha⟩ := same_seen (P := P) hq he hh
  rcases h with h | ⟨h1, h2⟩
  · exact (St1N.mono hq hn he hh (.inl h)).to1
  · rcases h2 with h2 | h2 | ⟨f, ds, ds', ep, eff', h3, h4, rfl, h5⟩
    · exact (St1N.mono hq hn he hh (.inr ⟨h1, .inl h2⟩)).to1
    · exact (St1N.mono hq hn he hh (.inr ⟨h1, .inr h2⟩)).to1
    · unfold St1
      rw [hw, hc, hn]
      obtain ⟨k1, k2⟩ := hs f ds h3
      exact .inr ⟨h1, .inr (.inr ⟨f, ds, ds', ep, eff', h3, purXs_sub ds _ _ ds' ep k2 h4, rfl, fun H' hn' hs' => h5 H' (fun id b hlt hb => hn' id b hlt (hold k1 (by rw [h3]; simp) id b hlt hb)) fun id hid b hb => hs' id hid b (k2 id hid b hb)⟩)⟩
/-- What touches no block makes one at most. -/
theorem St1.light {ops : Array Oper} {i : Nat} {o : Oper} (hq : quietOp o.op = true) (hp : heapy o.op = false) (h : St1 P I ops i o S d eff) : effOk (S.next + i) eff = true := by
  rcases h with ⟨_, _, rfl⟩ | ⟨_, h2⟩
  · rfl
  · have nocall : ∀ f ds, acallee S o.op = some (f, ds) → False := by
      intro f ds h3
      unfold acallee at h3
      split at h3
      · rename_i c hop
        rw [hop] at hp
        split at h3
        · rename_i x hcal
          simp [heapy, hcal] at hp
        · simp at h3
      · simp at h3
    rcases h2 with ⟨f, ds, ds', h3, _, _⟩ | ⟨hacc, h4⟩ | ⟨f, ds, _, _, _, h3, _⟩
    · exact (nocall f ds h3).elim
    rotate_left
    · exact (nocall f ds h3).elim
    · clear hacc
      generalize o.op = op at *
      cases op <;> simp only [quietOp, heapy, Bool.false_eq_true, Bool.true_eq_false] at hq hp <;> simp only [aop] at h4
      case alloc e =>
        split at h4
        · split at h4
          · simp at h4; obtain ⟨_, rfl⟩ := h4; simp [effOk]
          · simp at h4
        · simp at h4
      case box e x =>
        split at h4
        · simp at h4; obtain ⟨_, rfl⟩ := h4; simp [effOk]
        · simp at h4
      case makeSlice t l c =>
        repeat' split at h4
        all_goals first | (simp at h4; done) | (simp at h4; obtain ⟨_, rfl⟩ := h4; simp [effOk])
      case call c =>
        obtain ⟨callee, args, argTypes⟩ := c
        cases callee <;> simp only [Bool.false_eq_true, Bool.true_eq_false] at hq hp
        rename_i b
        have he : eff = [] := by
          unfold abuiltin at h4
          cases b <;> simp only [Bool.false_eq_true, Bool.true_eq_false] at hq hp <;> (repeat' split at h4) <;> simp_all
        subst he; rfl
      all_goals
        have he : eff = [] := by
          (repeat' split at h4) <;> simp_all <;> (obtain ⟨_, _, _, h5⟩ := h4; exact h5)
        subst he
        rfl
end
end Go.Proofs.YtipdmcpmedmicaaDoor
