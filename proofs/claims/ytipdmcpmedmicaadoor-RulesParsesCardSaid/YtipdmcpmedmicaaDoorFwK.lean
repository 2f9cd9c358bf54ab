/- The abstract operations are sound: stores into rows of the call's own, and the theorem for all operations. -/
import Derived.Test.YtipdmcpmedmicaaDoorFwMp
set_option linter.unusedSimpArgs false
set_option linter.unusedVariables false
namespace Go.Proofs.YtipdmcpmedmicaaDoor
open Go.RowKit

section
variable {P : Program} {o : Oper} {a : Act} {w w' : World} {C C' : Cx} {B : Bx} {nid : Nat} {d : D} {S : AS} {eff : Eff} {H : Nat → Option Blk}

theorem flat_set (k : Nat) : ∀ (xs : List D) (i : Nat) (y : D), (∀ x ∈ xs, x.cells.length = k) → i < xs.length → (xs.set i y).flatMap D.cells = (xs.flatMap D.cells).take (i * k) ++ y.cells ++ (xs.flatMap D.cells).drop (i * k + k) := by
  intro xs
  induction xs with
  | nil => intro i y _ h; simp at h
  | cons x xs ih =>
    intro i y hk h
    have hx := hk x (by simp)
    cases i with
    | zero =>
      simp only [List.set_cons_zero, List.flatMap_cons, Nat.zero_mul, List.take_zero, List.nil_append, Nat.zero_add]
      rw [show List.drop k (x.cells ++ List.flatMap D.cells xs) = List.flatMap D.cells xs by rw [← hx]; simp]
    | succ i =>
      simp only [List.set_cons_succ, List.flatMap_cons]
      rw [ih i y (fun z hz => hk z (by simp [hz])) (by simpa using h)]
      have e1 : List.take ((i + 1) * k) (x.cells ++ List.flatMap D.cells xs) = x.cells ++ List.take (i * k) (List.flatMap D.cells xs) := by
        rw [List.take_append, hx, show (i + 1) * k - k = i * k by rw [Nat.succ_mul]; omega, List.take_of_length_le (l := x.cells) (by rw [hx, Nat.succ_mul]; omega)]
      have e2 : List.drop ((i + 1) * k + k) (x.cells ++ List.flatMap D.cells xs) = List.drop (i * k + k) (List.flatMap D.cells xs) := by
        rw [List.drop_append, hx, show (i + 1) * k + k - k = i * k + k by rw [Nat.succ_mul]; omega, List.drop_of_length_le (l := x.cells) (by rw [hx, Nat.succ_mul]; omega), List.nil_append]
      rw [e1, e2]
      simp [List.append_assoc]

theorem s_storeVec (hS : StOK C w a B S) (t : TypeId) (x y : Operand) (id k i off : Nat) (e : TypeId) (xs : List D) (old x' : D) (ep : Eff) (hx : S.val x = .vptr id k i off) (hpur : purD S.heap (S.val y) = some (x', ep)) (hb : appEff S.heap ep id = some (.vec e k xs false)) (hold : xs[i]? = some old)
    (hsz : szT P t = some x'.cells.length) (hle : off + x'.cells.length ≤ k) (ho : o.op = .store t x y) :
    OpOK P o a w C B S.heap nid .undef (ep ++ [(id, some (.vec e k (xs.set i (if off = 0 ∧ x'.cells.length = k then x' else .agg (putD old.cells off x'))) false))]) := by
  have h0 := hS.env.val x
  rw [hx] at h0
  obtain ⟨C1, hP, hy0, hok⟩ := purD_sound hS.heap hS.fb hpur (hS.env.val y)
  refine OpOK.after hP ?_
  have h := h0.ext hP.ext
  have hH1 := hP.ok
  have hF1 := hP.fb
  clear h0
  generalize hv : a.eval x = v at h
  cases h with
  | vptr _ _ _ _ g n c hl hσ =>
    obtain ⟨_, vals, q1, q2, q3, q4⟩ := hH1.rep id _ hb
    rw [hσ] at q1
    have hilt := (List.getElem?_eq_some_iff.1 hold).1
    rcases q1.2 with ⟨r1, r2⟩ | ⟨g', cap, cur, r1, r2, r3, r4, r5, r6, r7⟩
    · cases r1
    injection r1 with r1 rn rc
    injection r1 with r1; injection r1 with r1
    subst r1
    have hy := hy0.cellsS hok
    have hlen := hy.len
    have hoc : old.cells.length = k := q2 old (List.mem_of_getElem? hold)
    have hmul : i * k + k ≤ xs.length * k := by rw [← Nat.succ_mul]; exact Nat.mul_le_mul_right _ hilt
    have hcapk : xs.length * k ≤ cap * k := Nat.mul_le_mul_right _ r4
    have hst := run_storeCells_at P g (i * k + off) e (a.eval y).cells.toList 0 cur w r3 (by rw [hlen, r6]; omega) hy.one
    simp only [Nat.add_zero] at hst
    generalize hcs : cur.toList.take (i * k + off) ++ (a.eval y).cells.toList ++ cur.toList.drop (i * k + off + (a.eval y).cells.toList.length) = cs at hst
    generalize hW : w.setRow g cs.toArray = W at hst
    have hWo : ∀ j, j ≠ g → W.heap[j]? = w.heap[j]? := by intro j hj; rw [← hW]; exact setRow_other w g j _ hj
    have hWs : W.heap.size = w.heap.size := by rw [← hW]; simp
    have hnoF : ∀ o, ¬ C1.F g o := fun o hF => by have := ((q4 g (by rw [hσ]; rfl)).1 o hF).1; cases this
    have hext : Ext C1 w C1 W := ⟨fun _ _ h => h, fun b o hF => hWo b (fun e => hnoF o (e ▸ hF)), fun _ h => h, fun _ _ => rfl⟩
    generalize hy' : (if off = 0 ∧ x'.cells.length = k then x' else D.agg (putD old.cells off x')) = y'
    have hyc : y'.cells = putD old.cells off x' := by
      rw [← hy']
      split
      · rename_i h0
        unfold putD
        rw [h0.1, h0.2, List.take_zero, List.nil_append, List.drop_of_length_le (by omega), List.append_nil]
      · rfl
    have hyl : y'.cells.length = k := by
      rw [hyc]; unfold putD; simp only [List.length_append, List.length_take, List.length_drop]; omega
    have hcl : cur.toList.length = cap * k := by simpa using r6
    have hvl : vals.length = xs.length * k := q1.1
    have hcsl : cs.length = cap * k := by rw [← hcs]; simp only [List.length_append, List.length_take, List.length_drop, hlen, hcl]; omega
    -- the first cells of the row
    have htake : cs.take (xs.length * k) = vals.take (i * k + off) ++ (a.eval y).cells.toList ++ vals.drop (i * k + off + (a.eval y).cells.toList.length) := by
      rw [← hcs, ← r7]
      rw [List.take_append, List.take_append]
      simp only [List.length_append, List.length_take, hlen, hcl, List.take_take]
      rw [show min (i * k + off) (cap * k) = i * k + off by omega, show min (xs.length * k) (i * k + off) = min (i * k + off) (xs.length * k) by omega]
      rw [List.take_of_length_le (l := (a.eval y).cells.toList) (by rw [hlen]; omega), List.drop_take]
    have hflat : (xs.set i y').flatMap D.cells = putD (xs.flatMap D.cells) (i * k + off) x' := by
      rw [flat_set k xs i y' q2 hilt, hyc]
      have hsp := flat_split k xs q2 i old hold
      unfold putD
      rw [← hsp]
      generalize xs.flatMap D.cells = L
      generalize x'.cells = Y at hle ⊢
      rw [List.take_take, List.drop_take, List.drop_drop, show min off k = off by omega]
      have e1 : List.take (i * k) L ++ List.take off (List.drop (i * k) L) = List.take (i * k + off) L := by rw [List.take_add]
      have e2 : List.take (k - (off + Y.length)) (List.drop (i * k + (off + Y.length)) L) ++ List.drop (i * k + k) L = List.drop (i * k + off + Y.length) L := by
        rw [show List.drop (i * k + k) L = List.drop (k - (off + Y.length)) (List.drop (i * k + (off + Y.length)) L) by rw [List.drop_drop]; congr 1; omega, List.take_append_drop, Nat.add_assoc]
      rw [← e1, ← e2]
      simp [List.append_assoc]
    refine ⟨.skip, Go.undef, W, C1, ?_, .inr ⟨rfl, rfl⟩, ?_, hext, .undef, ?_, ?_, fun _ h => .inl h, fun _ _ h => .inl h⟩
    · simp only [execOp, ho, hv, Instr.storeAt, Instr.sureAddr, storeVar, Sem.run_bind, Sem.run_pure, Result.andThen_ok, szT_run hsz]
      have hne : ¬ ((a.eval y).cells.size ≠ x'.cells.length) := by simpa using hlen
      simp only [hne, if_false, Result.andThen_ok, hst]
    · exact ⟨by rw [← hW]; rfl, by rw [← hW]; rfl, by rw [← hW]; rfl, by omega, fun j _ hj => hWo j (fun e => hj (e ▸ hH1.own id _ hb g (by rw [hσ]; rfl)))⟩
    · refine HOK.change hH1 hb hext (fun j hj _ => hWo j (fun e => hj (by rw [e, hσ]; rfl))) (fun k cs h => by cases h) ⟨cs.take (xs.length * k), ?_, ?_, ?_, ?_⟩
      · rw [hσ, List.length_set]
        refine ⟨by rw [List.length_take, hcsl]; omega, .inr ⟨g, cap, cs.toArray, by rw [rn, rc], r2, ?_, r4, r5, by simpa using hcsl, rfl⟩⟩
        rw [← hW]; exact setRow_heap w g cur _ e _ r3
      · intro z hz
        rcases List.mem_or_eq_of_mem_set hz with hz | rfl
        · exact q2 z hz
        · exact hyl
      · rw [htake, hflat]
        exact putD_rep (q3.ext hext.cF) (hy.ext hext.cF)
      · intro g' hg'
        rw [hσ] at hg'
        simp [Value.ownBlock] at hg'
        subst hg'
        exact ⟨fun o hF => absurd hF (hnoF o), fun h => by cases h⟩
    · intro b o hF; rw [hWs]; exact hF1 b o hF

theorem abuiltin_sound (hS : StOK C w a B S) (hn : ¬ C.live nid) (c : Call) (h : abuiltin P c nid S = some (d, eff)) (hop : o.op = .call c) : OpOK P o a w C B S.heap nid d eff := by
  obtain ⟨callee, args, argTypes⟩ := c
  obtain ⟨args⟩ := args
  obtain ⟨argTypes⟩ := argTypes
  unfold abuiltin at h
  simp only at h
  split at h
  case h_1 x t =>
    split at h
    · rename_i s hx
      split at h
      · rename_i ht; simp at h; obtain ⟨rfl, rfl⟩ := h; exact s_len hS x t _ _ hx rfl (.inl ⟨s, rfl, ht⟩) hop
      · simp at h
    · rename_i xs hx
      split at h
      · rename_i ht; simp at h; obtain ⟨rfl, rfl⟩ := h; exact s_len hS x t _ _ hx rfl (.inr ⟨by simp, ht⟩) hop
      · simp at h
    · rename_i hx
      split at h
      · rename_i ht; simp at h; obtain ⟨rfl, rfl⟩ := h; exact s_len hS x t _ _ hx rfl (.inr ⟨by simp, ht⟩) hop
      · simp at h
    · rename_i id n hx
      split at h
      · rename_i ht; simp at h; obtain ⟨rfl, rfl⟩ := h; exact s_len hS x t _ _ hx rfl (.inr ⟨by simp, ht⟩) hop
      · simp at h
    · simp at h
  case h_2 s x t t' =>
    split at h
    · rename_i e he
      split at h
      · rename_i k by_ xs ys hk hb hxs hys
        split at h
        · rename_i hc
          obtain ⟨rfl, c1, c2, c3, c4, c5⟩ := hc
          cases hz : zeroD P e with
          | none => rw [hz] at c2; simp at c2
          | some z =>
            rw [hz] at c2; simp at c2
            split at h
            · rename_i hs
              simp at h; obtain ⟨rfl, rfl⟩ := h
              rw [hs] at hxs
              simp [elemsD] at hxs
              subst hxs
              exact s_appendNil hS hn s x t e k by_ ys z he hk hb hz c2.1 c2.2 hs hys c3 (by simpa using c4) (by simpa using c5) hop
            · rename_i id n hs
              split at h
              · rename_i e' k' xs' hid
                split at h
                · rename_i hee
                  obtain ⟨rfl, rfl⟩ := hee
                  simp at h; obtain ⟨rfl, rfl⟩ := h
                  rw [hs] at hxs
                  simp [elemsD, hid] at hxs
                  obtain ⟨hxn, rfl⟩ := hxs
                  exact s_appendOwn hS hn s x t e k by_ id n _ ys z he hk hb hz c2.1 c2.2 hs hid hxn hys c3 c4 c5 hop
                · simp at h
              · simp at h
            · simp at h
        · simp at h
      · simp at h
    · simp at h
  case h_3 _ ts x y =>
    split at h
    · rename_i k m k' n hx hy
      split at h
      · rename_i hkk; subst hkk; simp at h; obtain ⟨rfl, rfl⟩ := h; exact s_min hS x y _ k m n hx hy hop
      · simp at h
    · simp at h
  case h_4 _ ts x y =>
    split at h
    · rename_i k m k' n hx hy
      split at h
      · rename_i hkk; subst hkk; simp at h; obtain ⟨rfl, rfl⟩ := h; exact s_max hS x y _ k m n hx hy hop
      · simp at h
    · simp at h
  case h_5 => simp at h

/-- Every abstract operation is sound. -/
theorem aop_sound (hS : StOK C w a B S) (hn : ¬ C.live nid) (h : aop P o.op nid S = some (d, eff)) : OpOK P o a w C B S.heap nid d eff := by
  generalize hop : o.op = op at h
  unfold aop at h
  split at h
  case h_1 x => simp at h; obtain ⟨rfl, rfl⟩ := h; exact s_move hS x hop
  case h_2 x => simp at h; obtain ⟨rfl, rfl⟩ := h; exact s_assign hS x hop
  case h_3 c x y =>
    split at h
    · rename_i t hc; simp at h; obtain ⟨rfl, rfl⟩ := h; exact s_pick hS c x y t hc hop
    · simp at h
  case h_4 e =>
    split at h
    · rename_i z hz
      split at h
      · rename_i hok; simp at h; obtain ⟨rfl, rfl⟩ := h; cases hb : bldT P e with
        | true => exact s_allocB hS hn e z hz hok hop
        | false => exact s_alloc hS hn e z hz hok hop
      · simp at h
    · simp at h
  case h_5 e x =>
    split at h
    · rename_i hok; simp at h; obtain ⟨rfl, rfl⟩ := h; exact s_box hS hn e x hok hop
    · simp at h
  case h_6 t parts =>
    split at h
    · rename_i ds hz hb
      cases hf : fillD (placeT P t) ds (parts.toList.map fun p => (p.1, S.val p.2)) with
      | none => rw [hf] at h; simp at h
      | some ds' => rw [hf] at h; simp at h; obtain ⟨rfl, rfl⟩ := h; exact s_build hS t parts ds ds' hz hb hf hop
    · simp at h
  case h_7 t len parts =>
    split at h
    · rename_i e he
      split at h
      · rename_i k hk
        split at h
        · rename_i xs ep hpur
          split at h
          · rename_i hc
            obtain ⟨c1, c2, c3, c4, c5⟩ := hc
            simp at h; obtain ⟨rfl, rfl⟩ := h
            cases hz : zeroD P e with
            | none => rw [hz] at c5; simp at c5
            | some z =>
              rw [hz] at c5; simp at c5
              exact s_buildSlice hS hn t e len k parts z xs ep he hk hpur c1 c2 c3 c4 hz c5.1 c5.2 hop
          · simp at h
        · simp at h
      · simp at h
    · simp at h
  case h_8 t x =>
    split at h
    · rename_i id off hx
      split at h
      · rename_i pn cs hb
        cases hf : loadD P t (cs.drop off) with
        | none => rw [hf] at h; simp at h
        | some d' => rw [hf] at h; simp at h; obtain ⟨rfl, rfl⟩ := h; exact s_loadBox hS t x id off pn cs hx hb hf hop
      · simp at h
    · rename_i id k i off hx
      split at h
      · rename_i e k' xs pub hb
        split at h
        · rename_i hkk
          subst hkk
          split at h
          · rename_i y hy
            cases hf : loadD P t (y.cells.drop off) with
            | none => rw [hf] at h; simp at h
            | some d' => rw [hf] at h; simp at h; obtain ⟨rfl, rfl⟩ := h; exact s_loadVec hS t x id k i off e xs pub y hx hb hy hf hop
          · simp at h
        · simp at h
      · simp at h
    · rename_i ds hx
      cases hf : loadD P t ds with
      | none => rw [hf] at h; simp at h
      | some d' => rw [hf] at h; simp at h; obtain ⟨rfl, rfl⟩ := h; exact s_loadI hS t x ds hx hf hop
    · simp at h
  case h_9 t x y =>
    split at h
    · rename_i id off hx
      split at h
      · rename_i pn cs hb
        split at h
        · rename_i hc; obtain ⟨c1, c2, c3⟩ := hc; simp at h; obtain ⟨rfl, rfl⟩ := h; exact s_storeBox hS t x y id off pn cs hx hb c1 c2 c3 hop
        · simp at h
      · simp at h
    · rename_i id k i off hx
      split at h
      · rename_i x' ep hpur
        split at h
        · rename_i e k' xs hb
          split at h
          · rename_i y' hy
            split at h
            · rename_i hc; obtain ⟨rfl, c1, c2⟩ := hc; simp only [Option.some.injEq, Prod.mk.injEq] at h; obtain ⟨rfl, rfl⟩ := h; exact s_storeVec hS t x y id k i off e xs y' x' ep hx hpur hb hy c1 c2 hop
            · simp at h
          · simp at h
        · simp at h
      · simp at h
    · simp at h
  case h_10 x =>
    split at h
    · rename_i id off hx; simp at h; obtain ⟨rfl, rfl⟩ := h; exact s_nilCheck hS x _ hx (.inl ⟨_, _, rfl⟩) hop
    · rename_i id k i off hx; simp at h; obtain ⟨rfl, rfl⟩ := h; exact s_nilCheck hS x _ hx (.inr (.inl ⟨_, _, _, _, rfl⟩)) hop
    · rename_i ds hx; simp at h; obtain ⟨rfl, rfl⟩ := h; exact s_nilCheck hS x _ hx (.inr (.inr (.inl ⟨_, rfl⟩))) hop
    · rename_i f cs hx; simp at h; obtain ⟨rfl, rfl⟩ := h; exact s_nilCheck hS x _ hx (.inr (.inr (.inr ⟨_, _, rfl⟩))) hop
    · simp at h
  case h_11 bop t x y t' =>
    split at h
    · rename_i k m k' n hx hy
      split at h
      · rename_i hkk
        subst hkk
        cases hf : intOp bop k m n with
        | none => rw [hf] at h; simp at h
        | some d' => rw [hf] at h; simp at h; obtain ⟨rfl, rfl⟩ := h; exact s_binInt hS bop t t' x y k m n hx hy hf hop
      · simp at h
    · rename_i m n hx hy
      cases hf : strOp bop m n with
      | none => rw [hf] at h; simp at h
      | some d' => rw [hf] at h; simp at h; obtain ⟨rfl, rfl⟩ := h; exact s_binStr hS bop t t' x y m n hx hy hf hop
    · rename_i m n hx hy
      split at h
      · rename_i hk
        cases hf : eqR bop (some (m == n)) with
        | none => rw [hf] at h; simp at h
        | some d' => rw [hf] at h; simp at h; obtain ⟨rfl, rfl⟩ := h; exact s_binBool hS bop t t' x y m n hx hy hk hf hop
      · simp at h
    · rename_i m n hx hy
      split at h
      · rename_i ks hk
        cases hr : eqK ks m n with
        | none => rw [hr] at h; simp [eqR] at h
        | some r =>
          rw [hr] at h
          cases hf : eqR bop (some r) with
          | none => rw [hf] at h; simp at h
          | some d' => rw [hf] at h; simp at h; obtain ⟨rfl, rfl⟩ := h; exact s_binAgg hS bop t t' x y m n ks r hx hy hk hr hf hop
      · simp at h
    · rename_i m hx hy
      split at h
      · rename_i hk
        simp only [Bool.and_eq_true] at hk
        cases hf : eqR bop (some !m) with
        | none => rw [hf] at h; simp at h
        | some d' => rw [hf] at h; simp at h; obtain ⟨rfl, rfl⟩ := h; exact s_binErr hS bop t t' x y m hx hy hk.1 hk.2 hf hop
      · simp at h
    · rename_i id off hx hy
      split at h
      · rename_i hk
        cases hf : eqR bop (some false) with
        | none => rw [hf] at h; simp at h
        | some d' => rw [hf] at h; simp at h; obtain ⟨rfl, rfl⟩ := h; exact s_binPtr hS bop t t' x y id off hx hy hk hf hop
      · simp at h
    · simp at h
  case h_12 uop t x =>
    split at h
    · rename_i b hx; simp at h; obtain ⟨rfl, rfl⟩ := h; exact s_unNot hS x t b hx hop
    · rename_i k n hx; simp only [Option.some.injEq, Prod.mk.injEq] at h; obtain ⟨rfl, rfl⟩ := h; exact s_unNeg hS x t k n hx hop
    · simp at h
  case h_13 src dst x =>
    split at h
    · rename_i hsrc
      split at h
      · rename_i k n hx
        split at h
        · rename_i k' hk; simp at h; obtain ⟨rfl, rfl⟩ := h; exact s_convInt hS src dst x k k' n hx hk (aggT_some hsrc) hop
        · split at h
          · rename_i hk; simp at h; obtain ⟨rfl, rfl⟩ := h; exact s_convIntStr hS src dst x k n hx hk (aggT_some hsrc) hop
          · simp at h
      · rename_i s hx
        split at h
        · rename_i hk; simp at h; obtain ⟨rfl, rfl⟩ := h; exact s_convStr hS src dst x s hx hk (aggT_some hsrc) hop
        · simp at h
      · split at h
        · rename_i hc
          simp only [Bool.and_eq_true] at hc
          split at h
          · rename_i xs hxs
            cases hf : bytesD xs with
            | none => rw [hf] at h; simp at h
            | some s => rw [hf] at h; simp at h; obtain ⟨rfl, rfl⟩ := h; exact s_convBytes hS src dst x xs s hxs hf hc.1 hc.2 hop
          · simp at h
        · simp at h
    · simp at h
  case h_14 t x lo hi =>
    split at h
    · rename_i s hx
      split at h
      · rename_i ht
        split at h
        · rename_i l hh hl hhh
          split at h
          · rename_i hle; simp at h; obtain ⟨rfl, rfl⟩ := h; exact s_sliceStr hS t x lo hi s l hh hx ht hl hhh hle hop
          · simp at h
        · simp at h
      · simp at h
    · rename_i xs hx
      split at h
      · rename_i ht
        split at h
        · rename_i l hh hl hhh
          split at h
          · rename_i hle
            simp at h; obtain ⟨rfl, rfl⟩ := h
            unfold slOk at ht
            refine s_sliceSl hS t x lo hi xs l hh hx (by revert ht; cases sliceT P t <;> simp) (fun e he => ?_) hl hhh hle hop
            rw [he] at ht
            simp at ht
            exact ht
          · simp at h
        · simp at h
      · simp at h
    · rename_i id n hx
      split at h
      · rename_i e k xs pb hH
        split at h
        · rename_i hc
          obtain ⟨hn, ht⟩ := hc
          subst hn
          split at h
          · rename_i l hh hl hhh
            split at h
            · rename_i hle
              simp at h; obtain ⟨rfl, rfl⟩ := h
              unfold slOk at ht
              refine s_sliceOwn hS t x lo hi id e k pb xs l hh hx hH (by revert ht; cases sliceT P t <;> simp) (fun e he => ?_) hl hhh hle hop
              rw [he] at ht
              simp at ht
              exact ht
            · simp at h
          · simp at h
        · simp at h
      · simp at h
    · simp at h
  case h_15 s x f =>
    split at h
    · rename_i fo ft hf
      split at h
      · simp at h
      · rename_i hsz
        cases hn' : szT P ft with
        | none => exact absurd (.inr hn') hsz
        | some n =>
          have hn0 : n ≠ 0 := fun e => hsz (.inl (by rw [hn', e]))
          split at h
          · rename_i id off hx; simp at h; obtain ⟨rfl, rfl⟩ := h; exact s_fieldAddr hS s x f fo ft n hf hn' hn0 _ hx (.inl ⟨_, _, rfl, rfl⟩) hop
          · rename_i id k i off hx; simp at h; obtain ⟨rfl, rfl⟩ := h; exact s_fieldAddr hS s x f fo ft n hf hn' hn0 _ hx (.inr (.inl ⟨_, _, _, _, rfl, rfl⟩)) hop
          · rename_i ds hx; simp at h; obtain ⟨rfl, rfl⟩ := h; exact s_fieldAddr hS s x f fo ft n hf hn' hn0 _ hx (.inr (.inr ⟨_, rfl, rfl⟩)) hop
          · simp at h
    · simp at h
  case h_16 s x f =>
    split at h
    · rename_i fo ft ds hf hx
      cases hd : loadD P ft (ds.drop fo) with
      | none => rw [hd] at h; simp at h
      | some d' => rw [hd] at h; simp at h; obtain ⟨rfl, rfl⟩ := h; exact s_field hS s x f fo ft hf ds hx hd hop
    · simp at h
  case h_17 t x i =>
    split at h
    · rename_i k n hi
      split at h
      · rename_i xs hx
        split at h
        · rename_i e he
          split at h
          · rename_i sz y hsz hy
            split at h
            · rename_i hyk
              split at hy
              · rename_i h0; simp at h; obtain ⟨rfl, rfl⟩ := h; exact s_indexAddrSl hS t e sz x i xs y k n hx hi h0 hy he hsz hyk hop
              · simp at hy
            · simp at h
          · simp at h
        · simp at h
      · rename_i id m hx
        split at h
        · rename_i e b he hb
          split at h
          · rename_i sz hsz
            split at h
            · rename_i hc; simp at h; obtain ⟨rfl, rfl⟩ := h; exact s_indexAddrOwn hS t e sz x i id m k n b hx hi hc.1 hc.2 he hsz hb hop
            · simp at h
          · simp at h
        · simp at h
      · rename_i id off hx
        split at h
        · rename_i len e he
          split at h
          · rename_i sz hsz
            split at h
            · rename_i hc; simp at h; obtain ⟨rfl, rfl⟩ := h; exact s_indexAddrArr hS t e len sz x i id off k n hx hi hc.1 hc.2 he hsz hop
            · simp at h
          · simp at h
        · simp at h
      · simp at h
    · simp at h
  case h_18 t x i =>
    split at h
    · rename_i k n hi
      split at h
      · rename_i s hx
        split at h
        · rename_i ht
          split at h
          · rename_i b hb
            split at hb
            · rename_i h0; simp at h; obtain ⟨rfl, rfl⟩ := h; exact s_indexStr hS t x i s k n b hx hi h0 hb ht hop
            · simp at hb
          · simp at h
        · simp at h
      · rename_i ds hx
        split at h
        · rename_i len e he
          split at h
          · rename_i sz hsz
            split at h
            · rename_i hc
              cases hd : loadD P e (ds.drop (n.toNat * sz)) with
              | none => rw [hd] at h; simp at h
              | some d' => rw [hd] at h; simp at h; obtain ⟨rfl, rfl⟩ := h; exact s_indexArr hS t e len sz x i ds k n hx hi hc.1 hc.2 he hsz hd hop
            · simp at h
          · simp at h
        · simp at h
      · simp at h
    · simp at h
  case h_19 t i =>
    split at h
    · rename_i ds hx
      cases hd : ds[i]? with
      | none => rw [hd] at h; simp at h
      | some d' => rw [hd] at h; simp at h; obtain ⟨rfl, rfl⟩ := h; exact s_extract hS t i ds hx hd hop
    · simp at h
  case h_20 t l c =>
    split at h
    · rename_i k1 n k2 m hl hc
      split at h
      · rename_i e he
        split at h
        · rename_i k by_ z hk hb hz
          split at h
          · rename_i z' hp
            split at h
            · rename_i hcd
              obtain ⟨rfl, h0, hm, hby, hzo, hzl, hzl'⟩ := hcd
              simp at h; obtain ⟨rfl, rfl⟩ := h
              exact s_makeSlice hS hn t e k by_ l c k1 k2 n z z' hl hc he hk hb hz hp h0 hm hby hzo hzl hzl' hop
            · simp at h
          · simp at h
        · simp at h
      · simp at h
    · simp at h
  case h_21 c => exact abuiltin_sound hS hn c h hop
  case h_22 f cs =>
    simp only [Option.some.injEq, Prod.mk.injEq] at h; obtain ⟨rfl, rfl⟩ := h; exact s_makeFunc hS f cs hop
  case h_23 t x =>
    split at h
    · rename_i s hx
      split at h
      · rename_i ht; simp at h; obtain ⟨rfl, rfl⟩ := h; exact s_range hS hn t x s hx ht hop
      · simp at h
    · simp at h
  case h_24 it =>
    split at h
    · rename_i id hx
      split at h
      · rename_i s pos hb
        split at h
        · rename_i hp; simp at h; obtain ⟨rfl, rfl⟩ := h; exact s_next hS it id s pos hx hb hp hop
        · rename_i hp; simp at h; obtain ⟨rfl, rfl⟩ := h; exact s_nextEnd hS it id s pos hx hb hp hop
      · simp at h
    · simp at h
  case h_25 t r =>
    split at h
    · rename_i k e ht hr; simp at h; obtain ⟨rfl, rfl⟩ := h; exact s_makeMap hS hn t e k r ht hr hop
    · simp at h
  case h_26 t x i ok =>
    split at h
    · rename_i k e k' n k'' ks vs ht hi hx
      split at h
      · rename_i hc
        obtain ⟨rfl, rfl⟩ := hc
        split at h
        · rename_i z hz; simp only [Option.some.injEq, Prod.mk.injEq] at h; obtain ⟨rfl, rfl⟩ := h; exact s_lookup hS t e x i ok k n ks vs z ht hi hx hz hop
        · simp at h
      · simp at h
    · simp at h
  case h_27 t m i x =>
    split at h
    · rename_i k e id k' n v' ep ht hm hi hpur
      split at h
      · rename_i k'' ks vs hb
        split at h
        · rename_i hc
          obtain ⟨rfl, rfl⟩ := hc
          simp only [Option.some.injEq, Prod.mk.injEq] at h; obtain ⟨rfl, rfl⟩ := h
          exact s_mapUpdate hS t e m i x id k n ks vs v' ep ht hm hi hpur hb hop
        · simp at h
      · simp at h
    · simp at h
  case h_28 => simp at h
end
end Go.Proofs.YtipdmcpmedmicaaDoor
