/- The abstract operations are sound, fifth part: slices, structs that are built, stores, appends. -/
import Derived.Test.YtipdmcpmedmicaaDoorFwF
set_option linter.unusedSimpArgs false
set_option linter.unusedVariables false
namespace Go.Proofs.YtipdmcpmedmicaaDoor
open Go.RowKit

section
variable {P : Program} {o : Oper} {a : Act} {w w' : World} {C C' : Cx} {B : Bx} {nid : Nat} {d : D} {S : AS} {eff : Eff}

theorem loD_run {x : Option Operand} {l y : Nat} {c : BoundsCode} (hE : EnvOK C w a S.env) (h : loD (x.map S.val) = some l) (hy : l ≤ y) :
    (match x.map a.eval with | some v => Instr.sliceBound v y c | none => pure 0 : Sem Nat).run P w = .ok l w := by
  cases x with
  | none => simp [loD] at h; subst h; rfl
  | some x =>
    simp only [Option.map_some] at h ⊢
    have hr := hE.val x
    generalize S.val x = dx at h hr
    cases dx <;> simp [loD] at h
    rename_i k n
    generalize hv : a.eval x = v at hr
    cases hr
    obtain ⟨h0, h1⟩ := h
    have : n ≤ y := by omega
    simp [Instr.sliceBound, asIntOf, h0, this, h1]
theorem hiD_run {x : Option Operand} {len cap h : Nat} {c : BoundsCode} (hE : EnvOK C w a S.env) (hh : hiD len (x.map S.val) = some h) (hc : len ≤ cap) :
    (match x.map a.eval with | some v => Instr.sliceBound v cap c | none => pure len : Sem Nat).run P w = .ok h w ∧ h ≤ len := by
  cases x with
  | none => simp [hiD] at hh; subst hh; exact ⟨rfl, Nat.le_refl _⟩
  | some x =>
    simp only [Option.map_some] at hh ⊢
    have hr := hE.val x
    generalize S.val x = dx at hh hr
    cases dx <;> simp [hiD] at hh
    rename_i k n
    generalize hv : a.eval x = v at hr
    cases hr
    obtain ⟨⟨h0, h2⟩, h1⟩ := hh
    have : n ≤ cap := by omega
    refine ⟨?_, by omega⟩
    simp [Instr.sliceBound, asIntOf, h0, this, h1]
theorem bounds_run {lo hi : Option Operand} {len cap l h : Nat} (isS : Bool) (hE : EnvOK C w a S.env) (hl : loD (lo.map S.val) = some l) (hh : hiD len (hi.map S.val) = some h) (hle : l ≤ h) (hc : len ≤ cap) :
    (Instr.sliceBounds isS len cap (lo.map a.eval) (hi.map a.eval) none).run P w = .ok (l, h, cap) w ∧ h ≤ len := by
  have h1 := fun c => hiD_run (P := P) (c := c) hE hh hc
  have h2 := fun c => loD_run (P := P) (c := c) (y := h) hE hl hle
  refine ⟨?_, (h1 .index).2⟩
  have k1 := fun c => (h1 c).1
  unfold Instr.sliceBounds
  cases lo <;> cases hi <;> simp only [Option.map_none, Option.map_some] at k1 h2 ⊢
  · have e1 : len = h := by have := k1 .index; injection this
    have e2 : 0 = l := by have := h2 .index; injection this
    subst e1 e2; rfl
  · have e2 : 0 = l := by have := h2 .index; injection this
    subst e2
    simp only [Sem.run_bind, Sem.run_pure, Result.andThen_ok, k1]
  · have e1 : len = h := by have := k1 .index; injection this
    subst e1
    simp only [Sem.run_bind, Sem.run_pure, Result.andThen_ok, Option.isSome_none, Bool.false_eq_true, if_false, h2]
  · simp only [Sem.run_bind, Sem.run_pure, Result.andThen_ok, Option.isSome_none, Bool.false_eq_true, if_false, k1, h2]

section pures
theorem s_sliceStr (hS : StOK C w a B S) (t : TypeId) (x : Operand) (lo hi : Option Operand) (s : List UInt8) (l h : Nat) (hx : S.val x = .str s) (ht : strT P t = true) (hl : loD (lo.map S.val) = some l) (hh : hiD s.length (hi.map S.val) = some h) (hle : l ≤ h) (ho : o.op = .slice t x lo hi none) : OpOK P o a w C B S.heap nid (.str ((s.drop l).take (h - l))) [] := by
  have hr := hS.env.val x
  rw [hx] at hr
  generalize hv : a.eval x = v at hr
  cases hr with
  | str _ hm =>
    obtain ⟨hb, hb2⟩ := bounds_run (P := P) (cap := s.length) false hS.env hl hh hle (Nat.le_refl _)
    refine .same (v := .string ⟨((s.drop l).take (h - l)).toArray⟩) hS.heap hS.fb ?_ (.str _ (by simp; omega))
    have e1 : (⟨s.toArray⟩ : ByteArray).extract l h = ⟨((s.drop l).take (h - l)).toArray⟩ := by
      apply ByteArray.ext
      simp
    simp only [execOp, ho, hv, Instr.sliceAt, Instr.slice, Sem.run_bind, underlying_run (strT_under ht), Result.andThen_ok, Option.map_none, Option.isSome_none, Bool.false_eq_true, if_false, bsize, hb, Sem.run_pure, e1]
theorem sliceSl_core {C1 : Cx} (hE : EnvOK C w a S.env) (t : TypeId) (x : Operand) (lo hi : Option Operand) (xs : List D) (l h : Nat) (hr : Rep w C1 (a.eval x) (.sl xs)) (ht : (sliceT P t).isSome = true) (hsz : ∀ e, sliceT P t = some e → (szT P e).isSome = true ∧ ∀ x ∈ xs, szT P e = some x.cells.length) (hl : loD (lo.map S.val) = some l) (hh : hiD xs.length (hi.map S.val) = some h) (hle : l ≤ h) (ho : o.op = .slice t x lo hi none) : ∃ v, (execOp a.eval o).run P w = .ok (.value v) w ∧ Rep w C1 v (.sl ((xs.drop l).take (h - l))) := by
  obtain ⟨e, he⟩ := Option.isSome_iff_exists.1 ht
  obtain ⟨hz, hz'⟩ := hsz e he
  obtain ⟨sz, hsz⟩ := Option.isSome_iff_exists.1 hz
  have run : ∀ A n c, a.eval x = .slice A n c → n = xs.length → n ≤ c → ∃ A', (execOp a.eval o).run P w = .ok (.value (.slice A' (h - l) (c - l))) w ∧ h ≤ xs.length ∧ (c ≠ l → A' = A.map (·.add (l * sz))) ∧ l ≤ c := by
    intro A n c hv hn hc
    subst hn
    obtain ⟨hb, hb2⟩ := bounds_run (P := P) (cap := c) true hE hl hh hle hc
    refine ⟨if c = l then A else A.map (·.add (l * sz)), ?_, hb2, fun hne => by rw [if_neg hne], by omega⟩
    simp only [execOp, ho, hv, Instr.sliceAt, Instr.slice, Sem.run_bind, underlying_run (sliceT_under he), Result.andThen_ok, Option.map_none, hb, szT_run hsz, Sem.run_pure]
  generalize hv : a.eval x = v at hr
  cases hr with
  | sl0 A c hm =>
    obtain ⟨A', r1, r2, _, r3⟩ := run A 0 c hv rfl (by omega)
    have h0 : h - l = 0 := by simp at r2; omega
    rw [h0] at r1 ⊢
    refine ⟨_, r1, ?_⟩
    simp
    exact .sl0 _ _ (by omega)
  | sl b off k c _ vals hc hm hk hlv h1 hF hcell hrep =>
    obtain ⟨A', r1, r2, r3, r4⟩ := run _ _ c hv rfl hc
    have hlen : ((xs.drop l).take (h - l)).length = h - l := by rw [List.length_take, List.length_drop]; omega
    by_cases h0 : h - l = 0
    · rw [h0] at r1 ⊢
      refine ⟨_, r1, ?_⟩
      simp
      exact .sl0 _ _ (by omega)
    · have hne : c ≠ l := by omega
      have hx0 : ∃ x0, x0 ∈ xs := by cases xs with | nil => simp at r2; omega | cons x _ => exact ⟨x, by simp⟩
      obtain ⟨x0, hx0⟩ := hx0
      have hksz : k = sz := by have h1 := hz' x0 hx0; rw [hsz] at h1; injection h1 with h1; rw [h1]; exact (hk x0 hx0).symm
      subst hksz
      rw [r3 hne] at r1
      have hsub : RepL (cF C1.F) w ((vals.drop (l * k)).take ((h - l) * k)) (((xs.drop l).take (h - l)).flatMap D.cells) := by
        have e1 : ((xs.drop l).take (h - l)).flatMap D.cells = ((xs.flatMap D.cells).drop (l * k)).take ((h - l) * k) := by
          have q1 : ∀ (n : Nat) (ys : List D), (∀ y ∈ ys, y.cells.length = k) → (ys.drop n).flatMap D.cells = (ys.flatMap D.cells).drop (n * k) := by
            intro n
            induction n with
            | zero => intro ys _; simp
            | succ n ih =>
              intro ys hy
              cases ys with
              | nil => simp
              | cons y ys =>
                rw [List.drop_succ_cons, ih ys (fun z hz => hy z (by simp [hz])), List.flatMap_cons, Nat.succ_mul, Nat.add_comm, ← List.drop_drop]
                congr 1
                rw [← hy y (by simp)]; simp
          have q2 : ∀ (n : Nat) (ys : List D), (∀ y ∈ ys, y.cells.length = k) → (ys.take n).flatMap D.cells = (ys.flatMap D.cells).take (n * k) := by
            intro n
            induction n with
            | zero => intro ys _; simp
            | succ n ih =>
              intro ys hy
              cases ys with
              | nil => simp
              | cons y ys =>
                rw [List.take_succ_cons, List.flatMap_cons, List.flatMap_cons, ih ys (fun z hz => hy z (by simp [hz])), Nat.succ_mul, List.take_append, hy y (by simp)]
                rw [show n * k + k - k = n * k by omega, List.take_of_length_le (l := y.cells) (by rw [hy y (by simp)]; omega)]
          rw [q2 _ _ (fun y hy => hk y (List.mem_of_mem_drop hy)), q1 _ _ hk]
        rw [e1]
        exact ((RepL.mk hlv h1 hrep).drop (l * k)).take ((h - l) * k)
      have hfl := flat_len2 k xs hk
      have hmul : l * k + (h - l) * k ≤ xs.length * k := by rw [← Nat.add_mul]; exact Nat.mul_le_mul_right _ (by omega)
      refine ⟨_, r1, ?_⟩
      have := Rep.sl (C := C1) (w := w) b (off + l * k) k (c - l) ((xs.drop l).take (h - l)) _ (by rw [hlen]; omega) (by omega) (fun x hx => hk x (List.mem_of_mem_drop (List.mem_of_mem_take hx))) hsub.len hsub.one (fun i hi => ?_) (fun i v hi => ?_) hsub.rep
      · rw [hlen] at this
        simpa [addr_add] using this
      · rw [Nat.add_assoc]
        simp at hi
        exact hF _ (by rw [hlv, hfl]; omega)
      · rw [Nat.add_assoc]
        rw [List.getElem?_take] at hi
        split at hi
        · exact hcell _ _ (by simpa using hi)
        · cases hi
theorem s_sliceSl (hS : StOK C w a B S) (t : TypeId) (x : Operand) (lo hi : Option Operand) (xs : List D) (l h : Nat) (hx : S.val x = .sl xs) (ht : (sliceT P t).isSome = true) (hsz : ∀ e, sliceT P t = some e → (szT P e).isSome = true ∧ ∀ x ∈ xs, szT P e = some x.cells.length) (hl : loD (lo.map S.val) = some l) (hh : hiD xs.length (hi.map S.val) = some h) (hle : l ≤ h) (ho : o.op = .slice t x lo hi none) : OpOK P o a w C B S.heap nid (.sl ((xs.drop l).take (h - l))) [] := by
  obtain ⟨v, h1, h2⟩ := sliceSl_core (P := P) (o := o) (C1 := C) hS.env t x lo hi xs l h (by have := hS.env.val x; rw [hx] at this; exact this) ht hsz hl hh hle ho
  exact .same hS.heap hS.fb h1 h2
theorem s_sliceOwn (hS : StOK C w a B S) (t : TypeId) (x : Operand) (lo hi : Option Operand) (id : Nat) (e : TypeId) (k : Nat) (pb : Bool) (xs : List D) (l h : Nat) (hx : S.val x = .own id xs.length) (hb : S.heap id = some (.vec e k xs pb)) (ht : (sliceT P t).isSome = true) (hsz : ∀ e, sliceT P t = some e → (szT P e).isSome = true ∧ ∀ x ∈ xs, szT P e = some x.cells.length) (hl : loD (lo.map S.val) = some l) (hh : hiD xs.length (hi.map S.val) = some h) (hle : l ≤ h) (ho : o.op = .slice t x lo hi none) : OpOK P o a w C B S.heap nid (.sl ((xs.drop l).take (h - l))) [(id, some (.vec e k xs true))] := by
  obtain ⟨C1, hP, hr⟩ := pub_vec hS.heap hS.fb hb
  obtain ⟨v, h1, h2⟩ := sliceSl_core (P := P) (o := o) (C1 := cF C1.F) hS.env t x lo hi xs l h (hr _ (by have := hS.env.val x; rw [hx] at this; exact this)) ht hsz hl hh hle ho
  exact OpOK.after (ep := [(id, some (.vec e k xs true))]) (eff := []) hP (.same hP.ok hP.fb h1 (h2.ext cF_ext))
end pures

theorem putD_rep {vs us : List Value} {ds : List D} {x : D} {off : Nat} (h : RepL C w vs ds) (k : RepL C w us x.cells) : RepL C w (vs.take off ++ us ++ vs.drop (off + us.length)) (putD ds off x) := by
  unfold putD
  rw [k.len]
  exact ((h.take off).append k).append (h.drop _)

/-- A store into a box. -/
theorem s_storeBox (hS : StOK C w a B S) (t : TypeId) (x y : Operand) (id off : Nat) (pn : Option Nat) (cs : List D) (hx : S.val x = .ptr id off) (hb : S.heap id = some (.box pn cs)) (hok : (S.val y).okS = true) (hsz : szT P t = some (S.val y).cells.length) (hle : off + (S.val y).cells.length ≤ cs.length) (ho : o.op = .store t x y) :
    OpOK P o a w C B S.heap nid .undef [(id, some (.box pn (putD cs off (S.val y))))] := by
  have h := hS.env.val x
  rw [hx] at h
  generalize hv : a.eval x = v at h
  cases h with
  | ptr _ _ g hl h =>
    obtain ⟨_, g', t', vs, h1, h2, h3, h4, h5⟩ := hS.heap.rep id _ hb
    rw [h] at h1
    injection h1 with h1; injection h1 with h1; injection h1 with h1
    subst h1
    have hy := (hS.env.val y).cellsS hok
    have hlen := hy.len
    have hst := run_storeCells_at P g off t' (a.eval y).cells.toList 0 vs w h3 (by have := h4.len; simp at this hlen; simp; omega) hy.one
    simp only [Nat.add_zero] at hst
    generalize hW : w.setRow g (vs.toList.take off ++ (a.eval y).cells.toList ++ vs.toList.drop (off + (a.eval y).cells.toList.length)).toArray = W at hst
    have hWo : ∀ k, k ≠ g → W.heap[k]? = w.heap[k]? := by intro k hk; rw [← hW]; exact setRow_other w g k _ hk
    have hWs : W.heap.size = w.heap.size := by rw [← hW]; simp
    have hext : Ext C w C W := ⟨fun _ _ h => h, fun b o hF => hWo b (fun e => h5 o (e ▸ hF)), fun _ h => h, fun _ _ => rfl⟩
    refine ⟨.skip, Go.undef, W, C, ?_, .inr ⟨rfl, rfl⟩, ?_, hext, .undef, ?_, ?_, fun _ h => .inl h, fun _ _ h => .inl h⟩
    · simp only [execOp, ho, hv, Instr.storeAt, Instr.sureAddr, storeVar, Sem.run_bind, Sem.run_pure, Result.andThen_ok, szT_run hsz]
      have hne : ¬ ((a.eval y).cells.size ≠ (S.val y).cells.length) := by simpa using hlen
      simp only [hne, if_false, Result.andThen_ok, hst]
    · refine ⟨by rw [← hW]; rfl, by rw [← hW]; rfl, by rw [← hW]; rfl, by omega, fun k _ hk => hWo k (fun e => hk (e ▸ hS.heap.own id _ hb g (by rw [h]; rfl)))⟩
    · refine HOK.change hS.heap hb hext (fun k hk _ => hWo k (fun e => hk (by rw [e, h]; rfl))) (fun k cs' e => hS.heap.pin id k cs (by simp only [Blk.box.injEq] at e; rw [hb, e.1])) ⟨g, t', (vs.toList.take off ++ (a.eval y).cells.toList ++ vs.toList.drop (off + (a.eval y).cells.toList.length)).toArray, h, h2, ?_, ?_, h5⟩
      · rw [← hW]; exact setRow_heap w g vs _ t' _ h3
      · simpa using putD_rep (h4.ext hext) (hy.ext hext)
    · intro b o hF; rw [hWs]; exact hS.fb b o hF

theorem s_box (hS : StOK C w a B S) (hn : ¬ C.live nid) (e : TypeId) (x : Operand) (hok : (S.val x).okS = true) (ho : o.op = .box e x) : OpOK P o a w C B S.heap nid (.ptr nid 0) [(nid, some (.box none (S.val x).cells))] :=
  ok_box (t := e) hS.heap hS.fb hS.base hn ((hS.env.val x).cellsS hok) (by simp [execOp, ho, Instr.box, newVar, newRow])
theorem s_alloc (hS : StOK C w a B S) (hn : ¬ C.live nid) (e : TypeId) (z : D) (hz : zeroD P e = some z) (hok : z.okS = true) (ho : o.op = .alloc e) : OpOK P o a w C B S.heap nid (.ptr nid 0) [(nid, some (.box none z.cells))] := by
  obtain ⟨v, hr, hR⟩ := zeroD_run (C := C) (w := w) hz
  exact ok_box (t := e) hS.heap hS.fb hS.base hn (hR.cellsS hok) (by simp [execOp, ho, Instr.alloc, hr, newVar, newRow])
theorem selfD_rep {C : Cx} {w : World} {nid : Nat} (hl : C.live nid) : ∀ (ds : List D) (vs : List Value), RepL C w vs ds → RepL C w vs (selfD nid ds)
  | [], vs, h => h
  | d :: ds, [], h => by have := h.len; simp at this
  | d :: ds, v :: vs, h => by
    have h1 := h.rep 0 v d rfl rfl
    have h2 : RepL C w vs ds := ⟨by have := h.len; simpa using this, fun u hu => h.one u (by simp [hu]), fun i u e hu he => h.rep (i + 1) u e (by simpa using hu) (by simpa using he)⟩
    have h3 := selfD_rep hl ds vs h2
    have ho := h.one v (by simp)
    by_cases hd : d = .nilp
    · subst hd
      cases h1
      simp only [selfD]
      exact (RepL.one1 ho (.sp0 nid hl)).append h3
    · have e : selfD nid (d :: ds) = d :: selfD nid ds := by cases d <;> first | rfl | exact absurd rfl hd
      rw [e]
      exact (RepL.one1 ho h1).append h3
theorem s_allocB (hS : StOK C w a B S) (hn : ¬ C.live nid) (e : TypeId) (z : D) (hz : zeroD P e = some z) (hok : z.okS = true) (ho : o.op = .alloc e) : OpOK P o a w C B S.heap nid (.ptr nid 0) [(nid, some (.bbox e (selfD nid z.cells)))] := by
  obtain ⟨v, hr, hR⟩ := zeroD_run (C := C) (w := w) hz
  have hL := hR.cellsS hok
  have hF := hS.fb
  have hrun : (execOp a.eval o).run P w = .ok (.value (.pointer (some ⟨w.heap.size, 0, none⟩))) (w.alloc (.cells v.cells e)) := by simp [execOp, ho, Instr.alloc, hr, newVar, newRow]
  have e1 := Cx.new_ext (w := w) (w' := w.alloc (.cells v.cells e)) hn (.pointer (some ⟨w.heap.size, 0, none⟩)) (hF.alloc _)
  have hs : (C.new nid (.pointer (some ⟨w.heap.size, 0, none⟩))).σ nid = .pointer (some ⟨w.heap.size, 0, none⟩) := by simp [Cx.new, upd]
  refine ⟨_, _, _, C.new nid (.pointer (some ⟨w.heap.size, 0, none⟩)), hrun, .inl rfl, (BelM.refl _ _).alloc _, e1, .ptr nid 0 _ (.inr rfl) hs, ?_, ?_, fun id h => h, fun _ _ h => .inl h⟩
  · refine HOK.add hS.heap hn e1 (fun g hg => Below.heap_alloc w _ g hg) ⟨w.heap.size, v.cells, hs, Nat.zero_le _, heap_alloc_new w _, selfD_rep (C := C.new nid (.pointer (some ⟨w.heap.size, 0, none⟩))) (Or.inr rfl) _ _ (hL.ext e1), nolt hF⟩ hS.base (fun k cs h => by cases h) ?_
    intro g hg; simp [blockOf] at hg; omega
  · intro b o h; have := hF b o h; simp; omega
end
end Go.Proofs.YtipdmcpmedmicaaDoor
