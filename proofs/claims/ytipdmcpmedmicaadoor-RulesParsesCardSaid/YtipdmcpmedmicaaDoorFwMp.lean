/- The abstract operations are sound: strings that are ranged over, maps. -/
import Derived.Test.YtipdmcpmedmicaaDoorFwJ
import Derived.MapKept
set_option linter.unusedSimpArgs false
set_option linter.unusedVariables false
namespace Go.Proofs.YtipdmcpmedmicaaDoor
open Go.RowKit

section
variable {P : Program} {o : Oper} {a : Act} {w w' : World} {C C' : Cx} {B : Bx} {H : Nat → Option Blk} {nid : Nat} {d : D} {S : AS}

theorem get_at (s : List UInt8) (i : Nat) (h : i < s.length) : (⟨s.toArray⟩ : ByteArray).get! i = s[i] := by
  show s.toArray[i]! = _
  simp [h]
theorem decL_eq (s : List UInt8) (pos : Nat) (h : pos < s.length) : Utf8.decode ⟨s.toArray⟩ pos = decL (s.drop pos) := by
  have h0 : s.drop pos = s[pos] :: s.drop (pos + 1) := List.drop_eq_getElem_cons h
  rw [h0]
  have hsz : (⟨s.toArray⟩ : ByteArray).size = s.length := bsize s
  have hc : ∀ k : Nat, (decide (pos + (k + 1) < s.length) && (((⟨s.toArray⟩ : ByteArray).get! (pos + (k + 1))).toNat / 64 == 2)) = (match (s.drop (pos + 1))[k]? with | some b => b.toNat / 64 == 2 | none => false) := by
    intro k
    rw [List.getElem?_drop]
    by_cases hk : pos + (k + 1) < s.length
    · rw [show pos + 1 + k = pos + (k + 1) by omega, List.getElem?_eq_getElem hk, get_at s _ hk]
      simp [hk]
    · rw [show pos + 1 + k = pos + (k + 1) by omega, List.getElem?_eq_none (by omega)]
      simp [hk]
  have hx : ∀ k : Nat, pos + (k + 1) < s.length → ((⟨s.toArray⟩ : ByteArray).get! (pos + (k + 1))).toNat = ((s.drop (pos + 1)).getD k 0).toNat := by
    intro k hk
    rw [get_at s _ hk, List.getD_eq_getElem?_getD, List.getElem?_drop, show pos + 1 + k = pos + (k + 1) by omega, List.getElem?_eq_getElem hk]
    rfl
  have e0 : ((⟨s.toArray⟩ : ByteArray).get! (pos + 0)).toNat = s[pos].toNat := by rw [Nat.add_zero, get_at s _ h]
  have c1 := hc 0
  have c2 := hc 1
  have c3 := hc 2
  have x1 := hx 0
  have x2 := hx 1
  have x3 := hx 2
  simp only [Nat.zero_add, Nat.reduceAdd] at c1 c2 c3 x1 x2 x3
  unfold Utf8.decode decL
  simp only [e0, hsz, c1, c2, c3, Utf8.runeError]
  by_cases k1 : pos + 1 < s.length
  · simp only [x1 k1]
    by_cases k2 : pos + 2 < s.length
    · simp only [x2 k2]
      by_cases k3 : pos + 3 < s.length
      · simp only [x3 k3]; rfl
      · have q3 : (s.drop (pos + 1))[2]? = none := by rw [List.getElem?_drop, List.getElem?_eq_none (by omega)]
        simp [q3]
        rfl
    · have q2 : (s.drop (pos + 1))[1]? = none := by rw [List.getElem?_drop, List.getElem?_eq_none (by omega)]
      simp [q2]
      rfl
  · have q1 : (s.drop (pos + 1))[0]? = none := by rw [List.getElem?_drop, List.getElem?_eq_none (by omega)]
    simp [q1]
theorem decL_lt (l : List UInt8) : (decL l).1 < 1114112 + 1114112 := by
  unfold decL
  split
  · decide
  · rename_i a r
    have h0 := a.toNat_lt
    dsimp only
    repeat' split
    all_goals (try dsimp only)
    all_goals omega
theorem runeAt_inR (s : List UInt8) (pos : Nat) : inR .i32 (runeAt s pos) := by
  have := decL_lt (s.drop pos)
  unfold runeAt inR; simp only [kLo, kHi]; omega

theorem s_makeFunc (hS : StOK C w a B S) (f : FuncId) (cs : Array Operand) (ho : o.op = .makeFunc (.func f) #[] cs) : OpOK P o a w C B S.heap nid (.fn f (cs.toList.map S.val)) [] := by
  refine OpOK.same hS.heap hS.fb (v := .func (.func f) #[] (cs.toList.map a.eval).toArray) ?_ (.fn f _ _ (by simp) ?_)
  · have harr : (cs.toList.map a.eval).toArray = cs.map a.eval := by apply Array.ext'; simp
    rw [harr]
    simp [execOp, ho, Instr.makeFunc]
  · intro i v d hv hd
    simp only [List.getElem?_map] at hv hd
    cases hi : cs.toList[i]? with
    | none => rw [hi] at hv; simp at hv
    | some x => rw [hi] at hv hd; simp at hv hd; subst hv hd; exact hS.env.val x
theorem s_range (hS : StOK C w a B S) (hn : ¬ C.live nid) (t : TypeId) (x : Operand) (s : List UInt8) (hx : S.val x = .str s) (ht : strT P t = true) (ho : o.op = .range t x) : OpOK P o a w C B S.heap nid (.ptr nid 0) [(nid, some (.iter s 0))] := by
  have h := hS.env.val x
  rw [hx] at h
  generalize hv : a.eval x = v at h
  cases h with
  | str _ hm =>
    have hrun : (execOp a.eval o).run P w = .ok (.value (.pointer (some ⟨w.heap.size, 0, none⟩))) (w.alloc (.stringIter ⟨s.toArray⟩ 0)) := by
      simp [execOp, ho, hv, Instr.range, run_underlying (strT_under ht)]
    have e := Cx.new_ext (w := w) (w' := w.alloc (.stringIter ⟨s.toArray⟩ 0)) hn (.pointer (some ⟨w.heap.size, 0, none⟩)) (hS.fb.alloc _)
    have hs : (C.new nid (.pointer (some ⟨w.heap.size, 0, none⟩))).σ nid = .pointer (some ⟨w.heap.size, 0, none⟩) := by simp [Cx.new, upd]
    refine ⟨_, _, _, C.new nid (.pointer (some ⟨w.heap.size, 0, none⟩)), hrun, .inl rfl, (BelM.refl _ _).alloc _, e, .ptr nid 0 _ (.inr rfl) hs, ?_, ?_, fun id h => h, fun _ _ h => .inl h⟩
    · refine HOK.add hS.heap hn e (fun g hg => Below.heap_alloc w _ g hg) ⟨w.heap.size, hs, Nat.zero_le _, heap_alloc_new w _, hm, nolt hS.fb⟩ hS.base (fun k cs h => by cases h) ?_
      intro g hg; simp [blockOf] at hg; omega
    · intro b o h; have := hS.fb b o h; simp; omega

theorem s_nextEnd (hS : StOK C w a B S) (it : Operand) (id : Nat) (s : List UInt8) (pos : Nat) (hx : S.val it = .ptr id 0) (hb : S.heap id = some (.iter s pos)) (hp : ¬ pos < s.length) (ho : o.op = .next it true) : OpOK P o a w C B S.heap nid (.tup [.bool false]) [] := by
  have h := hS.env.val it
  rw [hx] at h
  generalize hv : a.eval it = v at h
  cases h with
  | ptr _ _ g hl hσ =>
    obtain ⟨_, g', q1, q2, q3, q4, q5⟩ := hS.heap.rep id _ hb
    rw [hσ] at q1
    injection q1 with q1; injection q1 with q1; injection q1 with q1
    subst q1
    refine OpOK.same hS.heap hS.fb (v := .tuple #[.bool false]) ?_ (.tup [.bool false] [.bool false] rfl ?_)
    · have hsz : ¬ pos < (⟨s.toArray⟩ : ByteArray).size := by rw [bsize]; exact hp
      simp [execOp, ho, hv, Instr.next, getObj, Sem.run, q3, hsz]
    · intro i v d hv hd
      match i with
      | 0 => simp at hv hd; subst hv hd; exact .bool _
      | i + 1 => simp at hv
theorem s_next (hS : StOK C w a B S) (it : Operand) (id : Nat) (s : List UInt8) (pos : Nat) (hx : S.val it = .ptr id 0) (hb : S.heap id = some (.iter s pos)) (hp : pos < s.length) (ho : o.op = .next it true) :
    OpOK P o a w C B S.heap nid (.tup [.bool true, .int .i64 pos, .int .i32 (runeAt s pos)]) [(id, some (.iter s (pos + widthAt s pos)))] := by
  have h := hS.env.val it
  rw [hx] at h
  generalize hv : a.eval it = v at h
  cases h with
  | ptr _ _ g hl hσ =>
    obtain ⟨_, g', q1, q2, q3, q4, q5⟩ := hS.heap.rep id _ hb
    rw [hσ] at q1
    injection q1 with q1; injection q1 with q1; injection q1 with q1
    subst q1
    have hsz : pos < (⟨s.toArray⟩ : ByteArray).size := by rw [bsize]; exact hp
    have hset := MapKept.heap_set (w := w) (r := g) (o' := .stringIter ⟨s.toArray⟩ (pos + widthAt s pos)) q3
    generalize hW : ({ w with heap := w.heap.setIfInBounds g (.stringIter ⟨s.toArray⟩ (pos + widthAt s pos)) } : World) = W
    have hWh : W.heap = w.heap.setIfInBounds g (.stringIter ⟨s.toArray⟩ (pos + widthAt s pos)) := by rw [← hW]
    have hWs : W.heap.size = w.heap.size := by rw [hWh]; simp
    have hWo : ∀ j, j ≠ g → W.heap[j]? = w.heap[j]? := by intro j hj; rw [hWh]; exact hset.2 j hj
    have hrun : (execOp a.eval o).run P w = .ok (.value (.tuple #[.bool true, .int .i64 pos, .int .i32 (runeAt s pos)])) W := by
      simp only [runeAt]
      simp [execOp, ho, hv, Instr.next, getObj, setObj, Sem.run, q3, hsz, decL_eq s pos hp, goInt]
      rw [← hW]; rfl
    have hext : Ext C w C W := ⟨fun _ _ h => h, fun b o hF => hWo b (fun e => q5 o (e ▸ hF)), fun _ h => h, fun _ _ => rfl⟩
    refine ⟨_, _, W, C, hrun, .inl rfl, ⟨by rw [← hW], by rw [← hW], by rw [← hW], by omega, fun j _ hj => hWo j (fun e => hj (e ▸ hS.heap.own id _ hb g (by rw [hσ]; rfl)))⟩, hext, ?_, ?_, ?_, fun _ h => .inl h, fun _ _ h => .inl h⟩
    · refine .tup [.bool true, .int .i64 pos, .int .i32 (runeAt s pos)] _ rfl ?_
      intro i v d hv hd
      match i with
      | 0 => simp at hv hd; subst hv hd; exact .bool _
      | 1 => simp at hv hd; subst hv hd; exact .int _ _ (by unfold inR; simp only [kLo, kHi]; unfold maxLen at q4; omega)
      | 2 => simp at hv hd; subst hv hd; exact .int _ _ (runeAt_inR s pos)
      | i + 3 => simp at hv
    · refine HOK.change hS.heap hb hext (fun j hj _ => hWo j (fun e => hj (by rw [e, hσ]; rfl))) (fun k cs h => by cases h) ⟨g, hσ, q2, by rw [hWh]; exact hset.1, q4, q5⟩
    · intro b o hF; rw [hWs]; exact hS.fb b o hF

theorem mapKT_under {t e : TypeId} {k : IntKind} (h : mapKT P t = some (k, e)) : ∃ kt, P.underlying t = some (.map kt e) ∧ P.underlying kt = some (.int k) := by
  unfold mapKT at h
  split at h
  · rename_i kt e' hu
    split at h
    · rename_i k' hk; simp at h; obtain ⟨rfl, rfl⟩ := h; exact ⟨kt, hu, hk⟩
    · simp at h
  · simp at h
theorem s_makeMap (hS : StOK C w a B S) (hn : ¬ C.live nid) (t e : TypeId) (k : IntKind) (r : Option Operand) (ht : mapKT P t = some (k, e)) (hr : (match r with | none => true | some x => match S.val x with | .int _ _ => true | _ => false) = true) (ho : o.op = .makeMap t r) :
    OpOK P o a w C B S.heap nid (.omp nid) [(nid, some (.mp k [] [] false))] := by
  obtain ⟨kt, hu, hk⟩ := mapKT_under ht
  have hrun : (execOp a.eval o).run P w = .ok (.value (.map (some w.heap.size))) (w.alloc (.map #[] 0)) := by
    cases r with
    | none => simp [execOp, ho, Instr.makeMap]
    | some x =>
      have h := hS.env.val x
      simp only at hr
      cases hx : S.val x <;> rw [hx] at h hr <;> simp at hr
      generalize hv : a.eval x = v at h
      cases h
      simp [execOp, ho, Instr.makeMap, run_underlying hu, hv, asInt, asIntOf]
  have e := Cx.new_ext (w := w) (w' := w.alloc (.map #[] 0)) hn (.map (some w.heap.size)) (hS.fb.alloc _)
  have hs : (C.new nid (.map (some w.heap.size))).σ nid = .map (some w.heap.size) := by simp [Cx.new, upd]
  refine ⟨_, _, _, C.new nid (.map (some w.heap.size)), hrun, .inl rfl, (BelM.refl _ _).alloc _, e, .omp nid _ (.inr rfl) hs, ?_, ?_, fun id h => h, fun _ _ h => .inl h⟩
  · refine HOK.add hS.heap hn e (fun g hg => Below.heap_alloc w _ g hg) ⟨w.heap.size, 0, #[], hs, Nat.zero_le _, heap_alloc_new w _, rfl, rfl, by simp, fun _ => nolt hS.fb, fun h => by cases h⟩ hS.base (fun k cs h => by cases h) ?_
    intro g hg; simp [blockOf] at hg; omega
  · intro b o h; have := hS.fb b o h; simp; omega

/-- A key is looked for. -/
theorem find_int (k : IntKind) (n : Int) : ∀ (es : List MapEntry) (ks : List Int) (vs : List D) (i : Nat), es.map MapEntry.key = ks.map (Value.int k) → es.length = vs.length →
    (∃ j e, Instr.findNow (.int k) (.int k n) es i = some (some (i + j, e.val)) ∧ es[j]? = some e ∧ e.key = .int k n ∧ ks.contains n = true ∧ (∀ z, vs[j]? = some (lookV ks vs n z)) ∧ putK ks n = ks ∧ ∀ y, putV ks vs n y = vs.set j y) ∨
    (Instr.findNow (.int k) (.int k n) es i = some none ∧ ks.contains n = false ∧ (∀ z, lookV ks vs n z = z) ∧ putK ks n = ks ++ [n] ∧ ∀ y, putV ks vs n y = vs ++ [y])
  | [], ks, vs, i, hk, hl => by
    cases ks with
    | nil => cases vs with
      | nil => exact .inr ⟨rfl, rfl, fun _ => rfl, rfl, fun _ => rfl⟩
      | cons v vs => simp at hl
    | cons b ks => simp at hk
  | e :: es, ks, vs, i, hk, hl => by
    cases ks with
    | nil => simp at hk
    | cons b ks =>
      cases vs with
      | nil => simp at hl
      | cons v vs =>
        simp only [List.map_cons, List.cons.injEq] at hk
        obtain ⟨hk0, hk⟩ := hk
        by_cases hb : b = n
        · subst hb
          left
          refine ⟨0, e, ?_, rfl, hk0, by simp, fun z => by simp [lookV], by simp [putK], fun y => by simp [putV]⟩
          simp [Instr.findNow, hk0, Instr.sameNow]
        · have hs : Instr.sameNow (.int k) (.int k n) e.key = some false := by rw [hk0]; simp [Instr.sameNow]; omega
          rcases find_int k n es ks vs (i + 1) hk (by simpa using hl) with ⟨j, e', h1, h2, h3, h4, h5, h6, h7⟩ | ⟨h1, h2, h3, h4, h5⟩
          · left
            refine ⟨j + 1, e', ?_, by simpa using h2, h3, ?_, fun z => ?_, ?_, fun y => ?_⟩
            · simp only [Instr.findNow, hs, h1]; rw [show i + 1 + j = i + (j + 1) by omega]
            · simp only [List.contains_cons, h4, Bool.or_true]
            · simp only [lookV, hb, if_false, List.getElem?_cons_succ]; exact h5 z
            · simp only [putK, hb, if_false, h6]
            · simp only [putV, hb, if_false, h7, List.set_cons_succ]
          · right
            refine ⟨?_, ?_, fun z => ?_, ?_, fun y => ?_⟩
            · simp only [Instr.findNow, hs, h1]
            · have : (n == b) = false := by simp; omega
              simp only [List.contains_cons, h2, Bool.or_false, this]
            · simp only [lookV, hb, if_false]; exact h3 z
            · simp only [putK, hb, if_false, h4, List.cons_append]
            · simp only [putV, hb, if_false, h5, List.cons_append]

/-- A map's entries. -/
theorem mapOf {v : Value} {dx : D} {k : IntKind} {ks : List Int} {vs : List D} (hr : Rep w C v dx) (hH : HOK C w B H) (h : mapD H dx = some (k, ks, vs)) :
    ∃ g clock es, v = .map (some g) ∧ w.heap[g]? = some (.map es clock) ∧ es.toList.map MapEntry.key = ks.map (Value.int k) ∧ es.toList.length = vs.length ∧ ∀ (i : Nat) e d, es.toList[i]? = some e → vs[i]? = some d → Rep w (cF C.F) e.val d := by
  cases hr <;> simp [mapD] at h
  case omp id g hl hσ =>
    split at h
    · rename_i k' ks' vs' p hb
      simp at h
      obtain ⟨rfl, rfl, rfl⟩ := h
      obtain ⟨_, g', clock, es, q1, q2, q3, q4, q5, q6, _⟩ := hH.rep id _ hb
      rw [hσ] at q1
      injection q1 with q1; injection q1 with q1
      subst q1
      exact ⟨g, clock, es, rfl, q3, q4, q5, q6⟩
    · simp at h
  case mp g clock k9 ks9 es vs9 hF hh hk hl h6 =>
    obtain ⟨rfl, rfl, rfl⟩ := h
    exact ⟨g, clock, es, rfl, hF, hh, hk, h6⟩

theorem s_lookup (hS : StOK C w a B S) (t e : TypeId) (x i : Operand) (ok : Bool) (k : IntKind) (n : Int) (ks : List Int) (vs : List D) (z : D) (ht : mapKT P t = some (k, e)) (hi : S.val i = .int k n) (hx : mapD S.heap (S.val x) = some (k, ks, vs)) (hz : zeroD P e = some z) (ho : o.op = .lookup t x i ok) :
    OpOK P o a w C B S.heap nid (if ok then .tup [lookV ks vs n z, .bool (ks.contains n)] else lookV ks vs n z) [] := by
  obtain ⟨kt, hu, hk⟩ := mapKT_under ht
  obtain ⟨g, clock, es, hv, hh, q1, q2, q3⟩ := mapOf (hS.env.val x) hS.heap hx
  have hiv : a.eval i = .int k n := by
    have h := hS.env.val i
    rw [hi] at h
    generalize a.eval i = v at h
    cases h; rfl
  obtain ⟨zv, hzr, hzv⟩ := zeroD_run (P := P) (w := w) (C := C) hz
  have hkey : MapKept.IsKey (.int k) (Value.int k n) := rfl
  have fin : ∀ (v : Value) (b : Bool), (Instr.lookup t (.map (some g)) (.int k n) ok).run P w = .ok (if ok then .tuple #[v, .bool b] else v) w → Rep w C v (lookV ks vs n z) → ks.contains n = b → OpOK P o a w C B S.heap nid (if ok then .tup [lookV ks vs n z, .bool (ks.contains n)] else lookV ks vs n z) [] := by
    intro v b hrun hrep hb
    subst hb
    refine OpOK.same hS.heap hS.fb (v := if ok then .tuple #[v, .bool (ks.contains n)] else v) ?_ ?_
    · simp only [execOp, ho, hv, hiv, Sem.run_bind, hrun, Result.andThen_ok, Sem.run_pure]
    · cases ok with
      | false => exact hrep
      | true =>
        refine .tup [v, .bool _] _ rfl ?_
        intro i v' d hv hd
        match i with
        | 0 => simp at hv hd; subst hv hd; exact hrep
        | 1 => simp at hv hd; subst hv hd; exact .bool _
        | i + 2 => simp at hv
  rcases find_int k n es.toList ks vs 0 q1 q2 with ⟨j, e', h1, h2, h3, h4, h5, h6, h7⟩ | ⟨h1, h2, h3, h4, h5⟩
  · refine fin e'.val true ?_ ((q3 j e' _ h2 (h5 z)).ext cF_ext) h4
    simp [Instr.lookup, run_underlying hu, MapKept.run_getObj_map hh, MapKept.run_checkKey hk hkey, MapKept.run_findKey hk h1]
  · refine fin zv false ?_ (by rw [h3 z]; exact hzv) h2
    simp [Instr.lookup, run_underlying hu, MapKept.run_getObj_map hh, MapKept.run_checkKey hk hkey, MapKept.run_findKey hk h1, hzr]

theorem s_mapUpdate (hS : StOK C w a B S) (t e : TypeId) (m i x : Operand) (id : Nat) (k : IntKind) (n : Int) (ks : List Int) (vs : List D) (v' : D) (ep : Eff) (ht : mapKT P t = some (k, e)) (hm : S.val m = .omp id) (hi : S.val i = .int k n) (hpur : purD S.heap (S.val x) = some (v', ep))
    (hb : appEff S.heap ep id = some (.mp k ks vs false)) (ho : o.op = .mapUpdate t m i x) :
    OpOK P o a w C B S.heap nid .undef (ep ++ [(id, some (.mp k (putK ks n) (putV ks vs n v') false))]) := by
  obtain ⟨kt, hu, hk⟩ := mapKT_under ht
  have h0 := hS.env.val m
  rw [hm] at h0
  have hiv : a.eval i = .int k n := by
    have h := hS.env.val i
    rw [hi] at h
    generalize a.eval i = v at h
    cases h; rfl
  obtain ⟨C1, hP, hy0, hok⟩ := purD_sound hS.heap hS.fb hpur (hS.env.val x)
  refine OpOK.after hP ?_
  have h := h0.ext hP.ext
  have hH1 := hP.ok
  have hF1 := hP.fb
  clear h0
  generalize hv : a.eval m = v at h
  have hkey : MapKept.IsKey (.int k) (Value.int k n) := rfl
  cases h with
  | omp _ g hl hσ =>
    obtain ⟨_, g', clock, es, q1, q2, q3, q4, q5, q6, q7, _⟩ := hH1.rep id _ hb
    rw [hσ] at q1
    injection q1 with q1; injection q1 with q1
    subst q1
    have hnoF := q7 rfl
    have fin : ∀ (es' : Array MapEntry) (clock' : Nat), (Instr.mapUpdate t (.map (some g)) (.int k n) (a.eval x)).run P w = .ok () { w with heap := w.heap.setIfInBounds g (.map es' clock') } →
        es'.toList.map MapEntry.key = (putK ks n).map (Value.int k) → es'.toList.length = (putV ks vs n v').length → (∀ (i : Nat) e d, es'.toList[i]? = some e → (putV ks vs n v')[i]? = some d → Rep w (cF C1.F) e.val d) →
        OpOK P o a w C1 B (appEff S.heap ep) nid .undef [(id, some (.mp k (putK ks n) (putV ks vs n v') false))] := by
      intro es' clock' hrun r1 r2 r3
      have hset := MapKept.heap_set (w := w) (r := g) (o' := .map es' clock') q3
      generalize hW : ({ w with heap := w.heap.setIfInBounds g (.map es' clock') } : World) = W at hrun
      have hWh : W.heap = w.heap.setIfInBounds g (.map es' clock') := by rw [← hW]
      have hWs : W.heap.size = w.heap.size := by rw [hWh]; simp
      have hWo : ∀ j, j ≠ g → W.heap[j]? = w.heap[j]? := by intro j hj; rw [hWh]; exact hset.2 j hj
      have hext : Ext C1 w C1 W := ⟨fun _ _ h => h, fun b o hF => hWo b (fun e => hnoF o (e ▸ hF)), fun _ h => h, fun _ _ => rfl⟩
      refine ⟨.skip, Go.undef, W, C1, ?_, .inr ⟨rfl, rfl⟩, ⟨by rw [← hW], by rw [← hW], by rw [← hW], by omega, fun j _ hj => hWo j (fun e => hj (e ▸ hH1.own id _ hb g (by rw [hσ]; rfl)))⟩, hext, .undef, ?_, ?_, fun _ h => .inl h, fun _ _ h => .inl h⟩
      · simp only [execOp, ho, hv, hiv, Sem.run_bind, hrun, Result.andThen_ok, Sem.run_pure]
      · refine HOK.change hH1 hb hext (fun j hj _ => hWo j (fun e => hj (by rw [e, hσ]; rfl))) (fun k cs h => by cases h) ⟨g, clock', es', hσ, q2, by rw [hWh]; exact hset.1, r1, r2, fun i e d he hd => (r3 i e d he hd).ext hext.cF, fun _ => hnoF, fun h => by cases h⟩
      · intro b o hF; rw [hWs]; exact hF1 b o hF
    rcases find_int k n es.toList ks vs 0 q4 q5 with ⟨j, e', h1, h2, h3, h4, h5, h6, h7⟩ | ⟨h1, h2, h3, h4, h5⟩
    · have hj : j < es.toList.length := (List.getElem?_eq_some_iff.1 h2).1
      have hej : es[j]? = some e' := by simpa using h2
      refine fin (es.modify j fun y => { y with key := .int k n, val := a.eval x }) clock ?_ ?_ ?_ ?_
      · simp [Instr.mapUpdate, run_underlying hu, MapKept.run_getObj_map q3, MapKept.run_checkKey hk hkey, MapKept.run_findKey hk h1, hej, h3, MapKept.run_keyThatStays hkey, MapKept.run_setObj_map _ q3]
      · rw [h6, ← q4]
        apply List.ext_getElem?
        intro l
        simp only [List.getElem?_map, Array.getElem?_toList, Array.getElem?_modify]
        by_cases hl' : j = l
        · subst hl'; simp [hej, h3]
        · simp [hl']
      · rw [h7]; simp [← q5]
      · intro l y d hy hd
        rw [h7] at hd
        simp only [Array.getElem?_toList, Array.getElem?_modify] at hy
        rw [List.getElem?_set] at hd
        by_cases hl' : j = l
        · subst hl'
          simp only [if_true, hej, Option.map_some, Option.some.injEq] at hy hd
          split at hd
          · simp at hd; subst hd hy; exact hy0
          · simp at hd
        · simp only [hl', if_false] at hy hd
          exact q6 l y d (by simpa using hy) hd
    · refine fin (es.push { key := .int k n, val := a.eval x, born := clock }) (clock + 1) ?_ ?_ ?_ ?_
      · simp [Instr.mapUpdate, run_underlying hu, MapKept.run_getObj_map q3, MapKept.run_checkKey hk hkey, MapKept.run_findKey hk h1, MapKept.run_setObj_map _ q3]
      · rw [h4]; simp only [Array.toList_push, List.map_append, q4, List.map_cons, List.map_nil]
      · rw [h5]; simp [← q5]
      · intro l y d hy hd
        rw [h5] at hd
        simp only [Array.toList_push] at hy
        by_cases hl' : l < es.toList.length
        · rw [List.getElem?_append_left hl'] at hy
          rw [List.getElem?_append_left (by rw [← q5]; exact hl')] at hd
          exact q6 l y d hy hd
        · rw [List.getElem?_append_right (by omega)] at hy
          rw [List.getElem?_append_right (by omega), ← q5] at hd
          cases hll : l - es.toList.length with
          | zero => rw [hll] at hy hd; simp at hy hd; subst hy hd; exact hy0
          | succ r => rw [hll] at hy; simp at hy
end
end Go.Proofs.YtipdmcpmedmicaaDoor
