/- The abstract operations are sound, fourth part: addresses, loads, slices, strings. -/
import Derived.Laws.BytesArg
import Derived.Test.YtipdmcpmedmicaaDoorFwE
set_option linter.unusedSimpArgs false
set_option linter.unusedVariables false
namespace Go.Proofs.YtipdmcpmedmicaaDoor
open Go.RowKit

section
variable {P : Program} {o : Oper} {a : Act} {w w' : World} {C C' : Cx} {B : Bx} {nid : Nat} {d : D} {S : AS} {eff : Eff}
theorem aggT_some {t : TypeId} (h : (aggT P t).isSome = true) : ∃ u, P.underlying t = some u := by
  unfold aggT at h
  cases hu : P.underlying t with
  | none => rw [hu] at h; simp at h
  | some u => exact ⟨u, rfl⟩
theorem flat_split (k : Nat) : ∀ (xs : List D), (∀ x ∈ xs, x.cells.length = k) → ∀ i y, xs[i]? = some y → ((xs.flatMap D.cells).drop (i * k)).take k = y.cells := by
  intro xs
  induction xs with
  | nil => intro _ i y h; simp at h
  | cons x t ih =>
    intro hk i y h
    have hx := hk x (by simp)
    cases i with
    | zero =>
      simp at h; subst h
      simp only [Nat.zero_mul, List.drop_zero, List.flatMap_cons]
      rw [← hx, List.take_left]
    | succ i =>
      simp at h
      rw [List.flatMap_cons, Nat.succ_mul, Nat.add_comm, ← List.drop_drop]
      rw [show List.drop k (x.cells ++ List.flatMap D.cells t) = List.flatMap D.cells t by rw [← hx]; simp]
      exact ih (fun x hx => hk x (by simp [hx])) i y h
theorem flat_len2 (k : Nat) (xs : List D) (h : ∀ x ∈ xs, x.cells.length = k) : (xs.flatMap D.cells).length = xs.length * k := by
  induction xs with
  | nil => simp
  | cons x t ih => rw [List.flatMap_cons, List.length_append, h x (by simp), ih (fun x hx => h x (by simp [hx])), List.length_cons, Nat.succ_mul]; omega
theorem bsize (l : List UInt8) : (⟨l.toArray⟩ : ByteArray).size = l.length := by show l.toArray.size = _; simp
section pures
theorem s_convStr (hS : StOK C w a B S) (src dst : TypeId) (x : Operand) (s : List UInt8) (hx : S.val x = .str s) (hk : strT P dst = true) (hs : ∃ u, P.underlying src = some u) (ho : o.op = .convert src dst x) : OpOK P o a w C B S.heap nid (.str s) [] := by
  have h := hS.env.val x
  rw [hx] at h
  refine .same hS.heap hS.fb ?_ h
  generalize hv : a.eval x = v at h
  cases h
  obtain ⟨u, hu⟩ := hs
  simp only [execOp, ho, hv, convert, Sem.run_bind, underlying_run hu, Result.andThen_ok, underlying_run (strT_under hk)]
  cases u <;> rfl
theorem enc_len (n : Int) : (Utf8.encode n).data.toList.length ≤ 4 := by
  unfold Utf8.encode
  dsimp only
  generalize (if Utf8.valid n = true then n.toNat else Utf8.runeError) = c
  by_cases h1 : c < 128
  · rw [if_pos h1]; simp
  · rw [if_neg h1]
    by_cases h2 : c < 2048
    · rw [if_pos h2]; simp
    · rw [if_neg h2]
      by_cases h3 : c < 65536
      · rw [if_pos h3]; simp
      · rw [if_neg h3]; simp
theorem s_convIntStr (hS : StOK C w a B S) (src dst : TypeId) (x : Operand) (k : IntKind) (n : Int) (hx : S.val x = .int k n) (hk : strT P dst = true) (hs : ∃ u, P.underlying src = some u) (ho : o.op = .convert src dst x) : OpOK P o a w C B S.heap nid (.str (Utf8.encode n).data.toList) [] := by
  have h := hS.env.val x
  rw [hx] at h
  generalize hv : a.eval x = v at h
  cases h
  obtain ⟨u, hu⟩ := hs
  refine .same (v := .string (Utf8.encode n)) hS.heap hS.fb ?_ ?_
  · simp only [execOp, ho, hv, convert, Sem.run_bind, underlying_run hu, Result.andThen_ok, underlying_run (strT_under hk)]
    cases u <;> rfl
  · have h1 := Rep.str (w := w) (C := C) (Utf8.encode n).data.toList (by have := enc_len n; unfold maxLen; omega)
    have h2 : (⟨(Utf8.encode n).data.toList.toArray⟩ : ByteArray) = Utf8.encode n := by cases Utf8.encode n; simp
    rw [h2] at h1
    exact h1
theorem s_binErr (hS : StOK C w a B S) (op : BinOp) (t t' : TypeId) (x y : Operand) (b : Bool) (hx : S.val x = .err b) (hy : S.val y = .err false) (hc : isConst y = true) (hk : ifaceT P t = true) (hd : eqR op (some !b) = some d) (ho : o.op = .binOp op t x y t') : OpOK P o a w C B S.heap nid d [] := by
  have h := hS.env.val x
  have h' := hS.env.val y
  rw [hx] at h
  rw [hy] at h'
  have hu : ∃ ms, P.underlying t = some (.interface ms) := by
    unfold ifaceT at hk
    split at hk
    · exact ⟨_, by assumption⟩
    · simp at hk
  obtain ⟨ms, hu⟩ := hu
  have hu' : P.underlying t = some (.interface (P.methodsAt t)) := by simp [Program.methodsAt, hu]
  cases y with
  | const yv =>
    generalize hv : a.eval x = v at h
    generalize hw : a.eval (.const yv) = u at h'
    cases h'
    cases h with
    | err0 =>
      have he : (Op.equal t .nilIface .nilIface).run P w = .ok true w := by
        exact run_equalIn_nil_nil w 9999 t hu'
      cases op <;> simp only [eqR, Option.some.injEq, reduceCtorEq] at hd
      all_goals
        subst hd
        refine .same hS.heap hS.fb ?_ (.bool _)
        simp only [execOp, ho, hv, hw, eqGuard_nil_constR, binOp, Sem.run_bind, Sem.run_pure, Result.andThen_ok, he]
        rfl
    | err1 tu vu =>
      have he : (Op.equal t (.iface tu vu) .nilIface).run P w = .ok false w := by
        exact run_equalIn_held_nil w 9999 t tu vu hu'
      cases op <;> simp only [eqR, Option.some.injEq, reduceCtorEq] at hd
      all_goals
        subst hd
        refine .same hS.heap hS.fb ?_ (.bool _)
        have hg : ∀ (e : BinOp), (eqGuard e t x (.const yv) (.iface tu vu) .nilIface) = pure () := by intro e; cases e <;> rfl
        simp only [execOp, ho, hv, hw, hg, binOp, Sem.run_bind, Sem.run_pure, Result.andThen_ok, he]
        rfl
  | tmp t => simp [isConst] at hc
  | global g => simp [isConst] at hc
  | func f => simp [isConst] at hc
theorem s_binPtr (hS : StOK C w a B S) (op : BinOp) (t t' : TypeId) (x y : Operand) (id off : Nat) (hx : S.val x = .ptr id off) (hy : S.val y = .nilp) (hk : ptrT P t = true) (hd : eqR op (some false) = some d) (ho : o.op = .binOp op t x y t') : OpOK P o a w C B S.heap nid d [] := by
  have h := hS.env.val x
  have h' := hS.env.val y
  rw [hx] at h
  rw [hy] at h'
  have hu : P.underlying t = some (.pointer (P.pointee t)) := by
    unfold ptrT at hk
    split at hk
    · rename_i e he; simp [Program.pointee, he]
    · simp at hk
  generalize hv : a.eval x = v at h
  generalize hw : a.eval y = u at h'
  cases h'
  cases h with
  | ptr _ _ g hl hs =>
    have hg : ∀ (e : BinOp), (eqGuard e t x y (.pointer (some ⟨g, off, none⟩)) (.pointer none)) = pure () := by intro e; cases e <;> rfl
    cases op <;> simp only [eqR, Option.some.injEq, reduceCtorEq] at hd
    · subst hd
      refine .same hS.heap hS.fb ?_ (.bool _)
      simp only [execOp, ho, hv, hw, hg, Sem.run_bind, Sem.run_pure, Result.andThen_ok, run_eql_pointer_nil w t _ hu]
      rfl
    · subst hd
      refine .same hS.heap hS.fb ?_ (.bool _)
      simp only [execOp, ho, hv, hw, hg, Sem.run_bind, Sem.run_pure, Result.andThen_ok, run_neq_pointer_nil w t _ hu]
      rfl
theorem bytesD_some : ∀ {xs : List D} {s : List UInt8}, bytesD xs = some s → ∃ l : List Int, xs = l.map (D.int .u8) ∧ s = bytesOf l
  | [], s, h => ⟨[], rfl, by simpa [bytesD, bytesOf] using h.symm⟩
  | x :: xs, s, h => by
    unfold bytesD at h
    split at h
    · simp at *
    · rename_i n l e
      split at h
      · rename_i s' hs'
        injection e with e1 e2
        subst e1 e2
        obtain ⟨l, rfl, rfl⟩ := bytesD_some hs'
        exact ⟨n :: l, rfl, by simpa [bytesOf] using h.symm⟩
      · simp at h
    · simp at h
theorem u8T_under {t : TypeId} (h : u8T P t = true) : ∃ e, P.underlying t = some (.slice e) ∧ P.underlying e = some (.int .u8) := by
  unfold u8T at h
  split at h
  · rename_i e he
    split at h
    · exact ⟨e, he, by assumption⟩
    · simp at h
  · simp at h
theorem flatU8 (l : List Int) : (l.map (D.int .u8)).flatMap D.cells = l.map (D.int .u8) := by
  induction l with
  | nil => rfl
  | cons a t ih => simp only [List.map_cons, List.flatMap_cons, ih, D.cells, List.singleton_append]
theorem repU8 {w : World} {C : Cx} {vals : List Value} {l : List Int} (h : RepL C w vals (l.map (D.int .u8))) : vals = l.map (Value.int .u8) := by
  apply List.ext_getElem?
  intro i
  by_cases hi : i < vals.length
  · have hl : i < l.length := by have := h.len; simp at this; omega
    have := h.rep i _ (.int .u8 l[i]) (List.getElem?_eq_getElem hi) (by simp [hl])
    rw [List.getElem?_eq_getElem hi]
    simp only [List.getElem?_map, List.getElem?_eq_getElem hl, Option.map_some]
    generalize vals[i] = u at this
    cases this
    rfl
  · have hl : ¬ i < l.length := by have := h.len; simp at this; omega
    rw [List.getElem?_eq_none (by omega), List.getElem?_eq_none (by simp; omega)]
theorem s_convBytes (hS : StOK C w a B S) (src dst : TypeId) (x : Operand) (xs : List D) (s : List UInt8) (hx : elemsD S.heap (S.val x) = some xs) (hs : bytesD xs = some s) (hsrc : u8T P src = true) (hdst : strT P dst = true) (ho : o.op = .convert src dst x) : OpOK P o a w C B S.heap nid (.str s) [] := by
  obtain ⟨l, rfl, rfl⟩ := bytesD_some hs
  obtain ⟨e, hu, he⟩ := u8T_under hsrc
  have hd := strT_under hdst
  have h := hS.env.val x
  have fin : ∀ (b off cap : Nat), a.eval x = .slice (some ⟨b, off, none⟩) l.length cap → l.length ≤ maxLen → (∀ (i : Nat) v, (l.map (Value.int .u8))[i]? = some v → w.cell? ⟨b, off + i, none⟩ = some v) → OpOK P o a w C B S.heap nid (.str (bytesOf l)) [] := by
    intro b off cap hv hm hcell
    refine .same hS.heap hS.fb ?_ (.str (bytesOf l) (by simpa [bytesOf] using hm))
    have := run_convert_bytes_arg (P := P) w src e hu he b off l.length cap l rfl (fun i hi => hcell i _ (by simp [hi, List.getD])) dst hd
    simp only [execOp, ho, hv, Sem.run_bind, this, Result.andThen_ok]
    rfl
  have fin0 : ∀ (A : Option Addr) (cap : Nat), a.eval x = .slice A 0 cap → l = [] → OpOK P o a w C B S.heap nid (.str (bytesOf l)) [] := by
    intro A cap hv hl
    subst hl
    refine .same hS.heap hS.fb ?_ (.str (bytesOf []) (Nat.zero_le _))
    cases A with
    | none =>
      have := run_convert_bytes_nil (P := P) w src e hu he 0 cap dst hd
      simp only [execOp, ho, hv, Sem.run_bind, this, Result.andThen_ok]
      rfl
    | some A =>
      have := run_convert_bytes_string (P := P) w src dst e (some A) 0 cap hu he hd
      rw [run_bytesToString (P := P) w A 0 cap [] (by have := run_loadCells_list (P := P) w A [] (by simp); simpa using this)] at this
      simp only [execOp, ho, hv, Sem.run_bind, this, Result.andThen_ok]
      rfl
  generalize hv : a.eval x = v at h
  generalize hdx : S.val x = dx at h hx
  cases h <;> simp only [elemsD, reduceCtorEq, Option.some.injEq] at hx
  case nils => exact fin0 _ _ hv (by simpa using hx.symm)
  case sl0 A c hm => exact fin0 _ _ hv (by simpa using hx.symm)
  case sl =>
    rename_i b off k c ys vals hc hm hk hl h1 hcell hF h
    subst hx
    rw [flatU8] at h hl
    have hvals := repU8 ⟨hl, h1, h⟩
    subst hvals
    refine fin b off c (by rw [hv]; simp) (by simp at hc; omega) hcell
  case own id n c A hm hl hσ =>
    cases hb : S.heap id with
    | none => rw [hb] at hx; simp at hx
    | some bk =>
      rw [hb] at hx
      cases bk <;> simp at hx
      rename_i et k ys pub
      obtain ⟨hln, rfl⟩ := hx
      obtain ⟨_, vals, q1, q2, q3, q4⟩ := hS.heap.rep id _ hb
      rw [flatU8] at q3
      have hvals := repU8 q3
      subst hvals
      rw [hσ] at q1
      have hq := q1
      obtain ⟨hlen, hrow⟩ := q1
      rcases hrow with ⟨hnil, h0⟩ | ⟨g, cap, cur, hsl, hB, hheap, hcap, hmax, hcur, htake⟩
      · injection hnil with e1 e2 e3
        subst e1 e2 e3
        exact fin0 none 0 hv (by simpa using h0)
      · injection hsl with e1 e2 e3
        subst e1 e3
        have hn : n = l.length := by simpa using hln.symm
        subst hn
        refine fin g 0 _ hv (by assumption) (fun i v hi => ?_)
        have := hq.cells (g := g) rfl i v hi
        rw [addr_add] at this
        exact this
theorem s_fieldAddr (hS : StOK C w a B S) (s : TypeId) (x : Operand) (f fo : Nat) (ft : TypeId) (n : Nat) (hf : fldT P s f = some (fo, ft)) (hn : szT P ft = some n) (hn0 : n ≠ 0) (dx : D) (hx : S.val x = dx)
    (hd : (∃ id off, dx = .ptr id off ∧ d = .ptr id (off + fo)) ∨ (∃ id k i off, dx = .vptr id k i off ∧ d = .vptr id k i (off + fo)) ∨ (∃ ds, dx = .iptr ds ∧ d = .iptr (ds.drop fo))) (ho : o.op = .fieldAddr s x f) : OpOK P o a w C B S.heap nid d [] := by
  obtain ⟨fs, fl, hu, hfl, rfl, rfl⟩ := fldT_under hf
  have h := hS.env.val x
  rw [hx] at h
  have run : ∀ b off, a.eval x = .pointer (some ⟨b, off, none⟩) → (execOp a.eval o).run P w = .ok (.value (.pointer (some ⟨b, off + fl.offset, none⟩))) w := by
    intro b off hv
    simp [execOp, ho, hv, Instr.fieldAt, underlying_run hu, hfl, Instr.sureAddr, fieldPlace, szT_run hn, hn0, addr_add]
  rcases hd with ⟨id, off, rfl, rfl⟩ | ⟨id, k, i, off, rfl, rfl⟩ | ⟨ds, rfl, rfl⟩
  · generalize hv : a.eval x = v at h
    cases h with
    | ptr _ _ g hl h => exact .same hS.heap hS.fb (run _ _ hv) (.ptr _ _ g hl h)
  · generalize hv : a.eval x = v at h
    cases h with
    | vptr _ _ _ _ g n c hl h =>
      have := run _ _ hv
      rw [Nat.add_assoc] at this
      exact .same hS.heap hS.fb this (.vptr _ _ _ _ g n c hl h)
  · generalize hv : a.eval x = v at h
    cases h with
    | iptr b off _ vals hl h1 hF hcell h =>
      refine .same hS.heap hS.fb (run _ _ hv) (.iptr b _ _ (vals.drop fl.offset) (by simp [hl]) (fun v hv => h1 v (List.mem_of_mem_drop hv)) (fun i hi => ?_) (fun i v hv => ?_) (fun i v e hv he => h (fl.offset + i) v e (by simpa using hv) (by simpa using he)))
      · rw [Nat.add_assoc]; exact hF _ (by simp at hi; omega)
      · rw [Nat.add_assoc]; exact hcell _ _ (by simpa using hv)
theorem s_field (hS : StOK C w a B S) (s : TypeId) (x : Operand) (f fo : Nat) (ft : TypeId) (hf : fldT P s f = some (fo, ft)) (ds : List D) (hx : S.val x = .agg ds) (hd : loadD P ft (ds.drop fo) = some d) (ho : o.op = .field s x f) : OpOK P o a w C B S.heap nid d [] := by
  obtain ⟨fs, fl, hu, hfl, rfl, rfl⟩ := fldT_under hf
  have h := hS.env.val x
  rw [hx] at h
  generalize hv : a.eval x = v at h
  cases h with
  | agg vs _ hl h1 h =>
    obtain ⟨u, hr, hR⟩ := part_run (P := P) ⟨hl, h1, h⟩ hd
    refine .same hS.heap hS.fb ?_ hR
    simp [execOp, ho, hv, Instr.field, underlying_run hu, hfl, asAgg, hr]
theorem s_loadBox (hS : StOK C w a B S) (t : TypeId) (x : Operand) (id off : Nat) (pn : Option Nat) (cs : List D) (hx : S.val x = .ptr id off) (hb : S.heap id = some (.box pn cs)) (hd : loadD P t (cs.drop off) = some d) (ho : o.op = .load t x) : OpOK P o a w C B S.heap nid d [] := by
  have h := hS.env.val x
  rw [hx] at h
  generalize hv : a.eval x = v at h
  cases h with
  | ptr _ _ g hl h =>
    obtain ⟨_, g', t', vs, h1, h2, h3, h4, h5⟩ := hS.heap.rep id _ hb
    rw [h] at h1
    injection h1 with h1; injection h1 with h1; injection h1 with h1
    subst h1
    obtain ⟨u, hr, hR⟩ := loadD_run (P := P) (b := g) (off := off) (h4.drop off) (fun i v hi => by
      rw [cell_of_row w g (off + i) vs t' (0, 0) h3]; simpa using hi) hd
    exact .same hS.heap hS.fb (by simp [execOp, ho, hv, hr]) hR
theorem s_loadI (hS : StOK C w a B S) (t : TypeId) (x : Operand) (ds : List D) (hx : S.val x = .iptr ds) (hd : loadD P t ds = some d) (ho : o.op = .load t x) : OpOK P o a w C B S.heap nid d [] := by
  have h := hS.env.val x
  rw [hx] at h
  generalize hv : a.eval x = v at h
  cases h with
  | iptr b off _ vals hl h1 hF hcell h =>
    obtain ⟨u, hr, hR⟩ := loadD_run (P := P) (C := cF C.F) ⟨hl, h1, h⟩ hcell hd
    exact .same hS.heap hS.fb (by simp [execOp, ho, hv, hr]) (hR.ext cF_ext)
theorem s_loadVec (hS : StOK C w a B S) (t : TypeId) (x : Operand) (id k i off : Nat) (e : TypeId) (xs : List D) (pub : Bool) (y : D) (hx : S.val x = .vptr id k i off) (hb : S.heap id = some (.vec e k xs pub)) (hy : xs[i]? = some y) (hd : loadD P t (y.cells.drop off) = some d) (ho : o.op = .load t x) : OpOK P o a w C B S.heap nid d [] := by
  have h := hS.env.val x
  rw [hx] at h
  generalize hv : a.eval x = v at h
  cases h with
  | vptr _ _ _ _ g n c hl h =>
    obtain ⟨_, vals, h1, h2, h3, h4⟩ := hS.heap.rep id _ hb
    rw [h] at h1
    have hc := h1.cells (g := g) rfl
    have hyk : y.cells.length = k := h2 y (List.mem_of_getElem? hy)
    have hsub : RepL (cF C.F) w (((vals.drop (i * k)).take k).drop off) (y.cells.drop off) := by
      have := ((h3.drop (i * k)).take k)
      rw [flat_split k xs h2 i y hy] at this
      exact this.drop off
    obtain ⟨u, hr, hR⟩ := loadD_run (P := P) (b := g) (off := i * k + off) hsub (fun j v hj => by
      have hj' : ((vals.drop (i * k)).take k)[off + j]? = some v := by simpa using hj
      rw [List.getElem?_take] at hj'
      split at hj'
      · have := hc (i * k + (off + j)) v (by simpa using hj')
        rw [addr_add] at this
        simpa [Nat.add_assoc] using this
      · cases hj') hd
    exact .same hS.heap hS.fb (by simp [execOp, ho, hv, hr]) (hR.ext cF_ext)
theorem s_len (hS : StOK C w a B S) (x : Operand) (t : TypeId) (d0 : D) (n : Int) (hx : S.val x = d0) (hn : lenD d0 = some n) (ht : (∃ s, d0 = .str s ∧ strT P t = true) ∨ ((∀ s, d0 ≠ .str s) ∧ (sliceT P t).isSome = true)) (ho : o.op = .call { callee := .builtin .len, args := #[x], argTypes := #[t] }) : OpOK P o a w C B S.heap nid (.int .i64 n) [] := by
  have h := hS.env.val x
  rw [hx] at h
  rcases ht with ⟨s, rfl, ht⟩ | ⟨hns, ht⟩
  · simp [lenD] at hn; subst hn
    generalize hv : a.eval x = v at h
    cases h with
    | str _ hm =>
    refine .same hS.heap hS.fb ?_ (.int _ _ (len_inR hm))
    simp [execOp, ho, hv, resolve, invoke, builtin, Builtin.len_, underlying_run (strT_under ht), goInt, bsize]
  · obtain ⟨e, he⟩ := Option.isSome_iff_exists.1 ht
    have hsl : ∃ A m c, a.eval x = .slice A m c ∧ (m : Int) = n ∧ m ≤ maxLen := by
      generalize hv : a.eval x = v at h
      cases h <;> simp [lenD] at hn
      case str l hl => exact absurd rfl (hns l)
      case own A hm hl h => exact ⟨_, _, _, rfl, hn, hm⟩
      case nils => exact ⟨none, 0, 0, rfl, by simpa using hn, Nat.zero_le _⟩
      case sl0 A c h => exact ⟨_, _, _, rfl, by simpa using hn, Nat.zero_le _⟩
      case sl => exact ⟨_, _, _, rfl, hn, by omega⟩
    obtain ⟨A, m, c, hv, rfl, hm⟩ := hsl
    refine .same hS.heap hS.fb ?_ (.int _ _ (len_inR hm))
    simp [execOp, ho, hv, resolve, invoke, builtin, Builtin.len_, underlying_run (sliceT_under he), goInt]
theorem s_min (hS : StOK C w a B S) (x y : Operand) (ts : Array TypeId) (k : IntKind) (m n : Int) (hx : S.val x = .int k m) (hy : S.val y = .int k n) (ho : o.op = .call { callee := .builtin .min, args := #[x, y], argTypes := ts }) : OpOK P o a w C B S.heap nid (.int k (if n < m then n else m)) [] := by
  have h := hS.env.val x
  have h' := hS.env.val y
  rw [hx] at h
  rw [hy] at h'
  generalize hv : a.eval x = v at h
  generalize hu : a.eval y = u at h'
  cases h with
  | int _ _ h1 =>
  cases h' with
  | int _ _ h2 =>
  exact .same hS.heap hS.fb (by simp [execOp, ho, hv, hu, resolve, invoke, builtin, Builtin.min_, Builtin.min2]) (.int _ _ (by split <;> assumption))
theorem s_max (hS : StOK C w a B S) (x y : Operand) (ts : Array TypeId) (k : IntKind) (m n : Int) (hx : S.val x = .int k m) (hy : S.val y = .int k n) (ho : o.op = .call { callee := .builtin .max, args := #[x, y], argTypes := ts }) : OpOK P o a w C B S.heap nid (.int k (if n > m then n else m)) [] := by
  have h := hS.env.val x
  have h' := hS.env.val y
  rw [hx] at h
  rw [hy] at h'
  generalize hv : a.eval x = v at h
  generalize hu : a.eval y = u at h'
  cases h with
  | int _ _ h1 =>
  cases h' with
  | int _ _ h2 =>
  exact .same hS.heap hS.fb (by simp [execOp, ho, hv, hu, resolve, invoke, builtin, Builtin.max_, Builtin.max2]) (.int _ _ (by split <;> assumption))
theorem s_indexStr (hS : StOK C w a B S) (t : TypeId) (x i : Operand) (s : List UInt8) (k : IntKind) (n : Int) (b : UInt8) (hx : S.val x = .str s) (hi : S.val i = .int k n) (h0 : 0 ≤ n) (hb : s[n.toNat]? = some b) (ht : strT P t = true) (ho : o.op = .index t x i) : OpOK P o a w C B S.heap nid (.int .u8 b.toNat) [] := by
  have h := hS.env.val x
  have h' := hS.env.val i
  rw [hx] at h
  rw [hi] at h'
  generalize hv : a.eval x = v at h
  generalize hu : a.eval i = u at h'
  cases h
  cases h'
  refine .same hS.heap hS.fb ?_ (.int _ _ (by have := b.toNat_lt; unfold inR; simp only [kLo, kHi]; omega))
  have hlt := (List.getElem?_eq_some_iff.1 hb)
  obtain ⟨hlt, hbe⟩ := hlt
  have hbb : (⟨s.toArray⟩ : ByteArray)[n.toNat]? = some b := by
    rw [getElem?_pos (⟨s.toArray⟩ : ByteArray) n.toNat (by rw [bsize]; exact hlt)]
    simp only [Option.some.injEq]
    show s.toArray[n.toNat] = b
    simpa using hbe
  simp [execOp, ho, hv, hu, Instr.index, asIntOf, underlying_run (strT_under ht), h0, hbb]
theorem s_indexArr (hS : StOK C w a B S) (t e : TypeId) (len sz : Nat) (x i : Operand) (ds : List D) (k : IntKind) (n : Int) (hx : S.val x = .agg ds) (hi : S.val i = .int k n) (h0 : 0 ≤ n) (h1 : n < len) (ht : arrT P t = some (len, e)) (hs : szT P e = some sz) (hd : loadD P e (ds.drop (n.toNat * sz)) = some d) (ho : o.op = .index t x i) : OpOK P o a w C B S.heap nid d [] := by
  have h := hS.env.val x
  have h' := hS.env.val i
  rw [hx] at h
  rw [hi] at h'
  generalize hv : a.eval x = v at h
  generalize hu : a.eval i = u at h'
  cases h'
  cases h with
  | agg vs _ hl hone h =>
    obtain ⟨u, hr, hR⟩ := part_run (P := P) ⟨hl, hone, h⟩ hd
    exact .same hS.heap hS.fb (by simp [execOp, ho, hv, hu, Instr.index, asIntOf, underlying_run (arrT_under ht), h0, h1, szT_run hs, hr]) hR
theorem s_indexAddrSl (hS : StOK C w a B S) (t e : TypeId) (sz : Nat) (x i : Operand) (xs : List D) (y : D) (k : IntKind) (n : Int) (hx : S.val x = .sl xs) (hi : S.val i = .int k n) (h0 : 0 ≤ n) (hy : xs[n.toNat]? = some y) (ht : sliceT P t = some e) (hs : szT P e = some sz) (hyk : y.cells.length = sz) (ho : o.op = .indexAddr t x i) : OpOK P o a w C B S.heap nid (.iptr y.cells) [] := by
  have h := hS.env.val x
  have h' := hS.env.val i
  rw [hx] at h
  rw [hi] at h'
  generalize hv : a.eval x = v at h
  generalize hu : a.eval i = u at h'
  cases h'
  have hlt := (List.getElem?_eq_some_iff.1 hy).1
  cases h with
  | sl0 A c h => simp at hy
  | sl b off k' c _ vals hc hm hk hl hone hF hcell h =>
    have hkk : k' = sz := by rw [← hk y (List.mem_of_getElem? hy)]; exact hyk
    subst hkk
    have hsp := flat_split k' xs hk n.toNat y hy
    have hL : RepL (cF C.F) w ((vals.drop (n.toNat * k')).take k') y.cells := by
      have := ((RepL.mk hl hone h).drop (n.toNat * k')).take k'
      rwa [hsp] at this
    have hfl := flat_len2 k' xs hk
    have hmul : n.toNat * k' + k' ≤ xs.length * k' := by rw [← Nat.succ_mul]; exact Nat.mul_le_mul_right _ hlt
    refine .same (v := .pointer (some ⟨b, off + n.toNat * k', none⟩)) hS.heap hS.fb ?_ (.iptr b _ _ _ hL.len hL.one (fun j hj => ?_) (fun j v hj => ?_) hL.rep)
    · have h1 : n < xs.length := by omega
      simp [execOp, ho, hv, hu, Instr.indexAt, asIntOf, underlying_run (sliceT_under ht), h0, h1, szT_run hs, addr_add]
    · rw [Nat.add_assoc]
      simp at hj
      exact hF _ (by rw [hl, hfl]; omega)
    · rw [Nat.add_assoc]
      rw [List.getElem?_take] at hj
      split at hj
      · exact hcell _ _ (by simpa using hj)
      · cases hj
theorem s_indexAddrOwn (hS : StOK C w a B S) (t e : TypeId) (sz : Nat) (x i : Operand) (id m : Nat) (k : IntKind) (n : Int) (b : Blk) (hx : S.val x = .own id m) (hi : S.val i = .int k n) (h0 : 0 ≤ n) (h1 : n < m) (ht : sliceT P t = some e) (hs : szT P e = some sz) (hb : S.heap id = some b) (ho : o.op = .indexAddr t x i) : OpOK P o a w C B S.heap nid (.vptr id sz n.toNat 0) [] := by
  have h := hS.env.val x
  have h' := hS.env.val i
  rw [hx] at h
  rw [hi] at h'
  generalize hv : a.eval x = v at h
  generalize hu : a.eval i = u at h'
  cases h'
  cases h with
  | own _ _ c A hl hmm h =>
    obtain ⟨_, hr⟩ := hS.heap.rep id b hb
    have hA : ∃ g, A = some ⟨g, 0, none⟩ := by
      cases b with
      | box pn ds => obtain ⟨g, t, vs, q, _⟩ := hr; rw [h] at q; cases q
      | bbox T ds => obtain ⟨g, vs, q, _⟩ := hr; rw [h] at q; cases q
      | iter s pos => obtain ⟨g, q, _⟩ := hr; rw [h] at q; cases q
      | mp k ks vs pub => obtain ⟨g, cl, es, q, _⟩ := hr; rw [h] at q; cases q
      | vec e' k' xs pub =>
        obtain ⟨vals, q, _⟩ := hr
        rcases q.2 with ⟨q1, q2⟩ | ⟨g, cap, cur, q1, _⟩
        · rw [h] at q1; injection q1 with _ q1; omega
        · rw [h] at q1; injection q1 with q1; exact ⟨g, q1⟩
    obtain ⟨g, rfl⟩ := hA
    refine .same (v := .pointer (some ⟨g, n.toNat * sz + 0, none⟩)) hS.heap hS.fb ?_ (.vptr id sz n.toNat 0 g m c hl h)
    simp [execOp, ho, hv, hu, Instr.indexAt, asIntOf, underlying_run (sliceT_under ht), h0, h1, szT_run hs, addr_add]
theorem s_indexAddrArr (hS : StOK C w a B S) (t e : TypeId) (len sz : Nat) (x i : Operand) (id off : Nat) (k : IntKind) (n : Int) (hx : S.val x = .ptr id off) (hi : S.val i = .int k n) (h0 : 0 ≤ n) (h1 : n < len) (ht : arrT P t = some (len, e)) (hs : szT P e = some sz) (ho : o.op = .indexAddr t x i) : OpOK P o a w C B S.heap nid (.ptr id (off + n.toNat * sz)) [] := by
  have h := hS.env.val x
  have h' := hS.env.val i
  rw [hx] at h
  rw [hi] at h'
  generalize hv : a.eval x = v at h
  generalize hu : a.eval i = u at h'
  cases h'
  cases h with
  | ptr _ _ g hl h =>
    refine .same hS.heap hS.fb ?_ (.ptr id _ g hl h)
    simp [execOp, ho, hv, hu, Instr.indexAt, Instr.sureAddr, asIntOf, underlying_run (arrT_under ht), h0, h1, szT_run hs, addr_add]
end pures
end
end Go.Proofs.YtipdmcpmedmicaaDoor
