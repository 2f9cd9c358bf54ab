/- The abstract operations are sound, third part: each operation. -/
import Derived.Test.YtipdmcpmedmicaaDoorFwD
import Derived.Laws.StructEq
set_option linter.unusedSimpArgs false
set_option linter.unusedVariables false
namespace Go.Proofs.YtipdmcpmedmicaaDoor
open Go.RowKit

section
variable {P : Program} {o : Oper} {a : Act} {w w' : World} {C C' : Cx} {B : Bx} {nid : Nat} {d : D} {S : AS} {eff : Eff}

theorem underlying_run {t : TypeId} {u : TypeDesc} (h : P.underlying t = some u) : (underlying t).run P w = .ok u w := by simp [underlying, h]
theorem sliceT_under {t e : TypeId} (h : sliceT P t = some e) : P.underlying t = some (.slice e) := by
  unfold sliceT at h; split at h
  · rename_i e' hu; simp at h; subst h; exact hu
  · simp at h
theorem arrT_under {t e : TypeId} {n : Nat} (h : arrT P t = some (n, e)) : P.underlying t = some (.array n e) := by
  unfold arrT at h; split at h
  · rename_i n' e' hu; simp at h; obtain ⟨rfl, rfl⟩ := h; exact hu
  · simp at h
theorem strT_under {t : TypeId} (h : strT P t = true) : P.underlying t = some .string := by
  unfold strT at h; split at h
  · rename_i hu; exact hu
  · simp at h
theorem intT_under {t : TypeId} {k : IntKind} (h : intT P t = some k) : P.underlying t = some (.int k) := by
  unfold intT at h; split at h
  · rename_i k' hu; simp at h; subst h; exact hu
  · simp at h
theorem fldT_under {t ft : TypeId} {i fo : Nat} (h : fldT P t i = some (fo, ft)) : ∃ fs f, P.underlying t = some (.struct fs) ∧ fs[i]? = some f ∧ f.offset = fo ∧ f.type = ft := by
  unfold fldT at h; split at h
  · rename_i fs hu
    cases hf : fs[i]? with
    | none => rw [hf] at h; simp at h
    | some f => rw [hf] at h; simp at h; exact ⟨fs, f, hu, hf, h.1, h.2⟩
  · simp at h
theorem szT_info {t : TypeId} {n : Nat} (h : szT P t = some n) : ∃ i, P.info? t = some i ∧ i.size = n := by
  unfold szT at h
  cases hu : P.info? t with
  | none => rw [hu] at h; simp at h
  | some u => rw [hu] at h; simp at h; exact ⟨u, rfl, h⟩
theorem bytesT_info {t : TypeId} {n : Nat} {i : TypeInfo} (h : bytesT P t = some n) (hi : P.info? t = some i) : i.bytes = n := by
  unfold bytesT at h
  rw [hi] at h; simpa using h
theorem zeroD_info {t : TypeId} {z : D} (h : zeroD P t = some z) : ∃ i v, P.info? t = some i ∧ i.zero = some v ∧ cD v = z := by
  unfold zeroD at h
  cases hu : P.info? t with
  | none => rw [hu] at h; simp at h
  | some u =>
    rw [hu] at h
    cases hz : u.zero with
    | none => simp [hz] at h
    | some v => simp [hz] at h; exact ⟨u, v, rfl, hz, h⟩
theorem zeroD_run {t : TypeId} {z : D} (h : zeroD P t = some z) : ∃ v, (zeroValue t).run P w = .ok v w ∧ Rep w C v z := by
  obtain ⟨i, v, hi, hz, hc⟩ := zeroD_info h
  exact ⟨v, by simp [zeroValue, typeInfo, hi, hz], hc ▸ rep_cD v⟩

/-- What an abstract state says of the machine. -/
structure StOK (C : Cx) (w : World) (a : Act) (B : Bx) (S : AS) : Prop where
  env : EnvOK C w a S.env
  heap : HOK C w B S.heap
  fb : FB C w
  base : ∀ g, w.heap.size ≤ g → B.M g

section pures
theorem s_move (hS : StOK C w a B S) (x : Operand) (ho : o.op = .move x) : OpOK P o a w C B S.heap nid (S.val x) [] :=
  .same hS.heap hS.fb (by simp only [execOp, ho]; rfl) (hS.env.val x)
theorem s_assign (hS : StOK C w a B S) (x : Operand) (ho : o.op = .assign x) : OpOK P o a w C B S.heap nid (S.val x) [] :=
  .same hS.heap hS.fb (by simp only [execOp, ho]; rfl) (hS.env.val x)
theorem s_pick (hS : StOK C w a B S) (c x y : Operand) (t : Bool) (hc : S.val c = .bool t) (ho : o.op = .pick c x y) : OpOK P o a w C B S.heap nid (if t then S.val x else S.val y) [] := by
  have h := hS.env.val c
  rw [hc] at h
  generalize hv : a.eval c = v at h
  cases h
  refine .same (v := if t then a.eval x else a.eval y) hS.heap hS.fb ?_ ?_
  · simp only [execOp, ho, hv]; cases t <;> rfl
  · cases t
    · exact hS.env.val y
    · exact hS.env.val x
theorem s_nilCheck (hS : StOK C w a B S) (x : Operand) (d : D) (hx : S.val x = d) (hd : (∃ id off, d = .ptr id off) ∨ (∃ id k i off, d = .vptr id k i off) ∨ (∃ ds, d = .iptr ds) ∨ (∃ f cs, d = .fn f cs)) (ho : o.op = .nilCheck x) : OpOK P o a w C B S.heap nid d [] := by
  have h := hS.env.val x
  rw [hx] at h
  refine .same (v := a.eval x) hS.heap hS.fb ?_ h
  simp only [execOp, ho]
  generalize a.eval x = v at h
  rcases hd with ⟨id, off, rfl⟩ | ⟨id, k, i, off, rfl⟩ | ⟨ds, rfl⟩ | ⟨f, cs, rfl⟩ <;> cases h <;> rfl
theorem s_unNot (hS : StOK C w a B S) (x : Operand) (t : TypeId) (b : Bool) (hx : S.val x = .bool b) (ho : o.op = .unOp .not t x) : OpOK P o a w C B S.heap nid (.bool !b) [] := by
  have h := hS.env.val x
  rw [hx] at h
  generalize hv : a.eval x = v at h
  cases h
  exact .same hS.heap hS.fb (by simp [execOp, ho, hv, Op.unary]) (.bool _)
theorem s_unNeg (hS : StOK C w a B S) (x : Operand) (t : TypeId) (k : IntKind) (n : Int) (hx : S.val x = .int k n) (ho : o.op = .unOp .neg t x) : OpOK P o a w C B S.heap nid (.int k (k.wrap (0 - n))) [] := by
  have h := hS.env.val x
  rw [hx] at h
  generalize hv : a.eval x = v at h
  cases h
  exact .same hS.heap hS.fb (by simp only [execOp, ho, hv, Op.unary, Op.intArith]; rfl) (.int _ _ (wrap_inR _ _))
theorem s_binInt (hS : StOK C w a B S) (op : BinOp) (t t' : TypeId) (x y : Operand) (k : IntKind) (m n : Int) (hx : S.val x = .int k m) (hy : S.val y = .int k n) (hd : intOp op k m n = some d) (ho : o.op = .binOp op t x y t') : OpOK P o a w C B S.heap nid d [] := by
  have h := hS.env.val x
  have h' := hS.env.val y
  rw [hx] at h
  rw [hy] at h'
  generalize hv : a.eval x = v at h
  generalize hu : a.eval y = u at h'
  cases h with
  | int _ _ hm =>
  cases h'
  have hg : ∀ (e : BinOp), (eqGuard e t x y (.int k m) (.int k n)).run P w = .ok () w := by
    intro e; unfold eqGuard; split <;> rfl
  cases op <;> simp only [intOp, Option.some.injEq, reduceCtorEq] at hd
  case quo | rem =>
    split at hd
    · cases hd
    · rename_i hn
      simp only [Option.some.injEq] at hd
      subst hd
      exact .same hS.heap hS.fb (by simp only [execOp, ho, hv, hu, Sem.run_bind, hg, Result.andThen_ok, binOp, Op.intDiv, hn, ne_eq, not_true_eq_false, if_false]; rfl) (.int _ _ (by first | exact wrap_inR _ _ | exact tmod_inR _ hm))
  all_goals
    subst hd
    refine .same hS.heap hS.fb ?_ (by first | exact .int _ _ (wrap_inR _ _) | exact .bool _)
    simp only [execOp, ho, hv, hu, Sem.run_bind, hg, Result.andThen_ok, binOp, Op.intArith, Op.intCmp, ne_eq, not_true_eq_false, if_false]
    rfl
theorem s_binStr (hS : StOK C w a B S) (op : BinOp) (t t' : TypeId) (x y : Operand) (m n : List UInt8) (hx : S.val x = .str m) (hy : S.val y = .str n) (hd : strOp op m n = some d) (ho : o.op = .binOp op t x y t') : OpOK P o a w C B S.heap nid d [] := by
  have h := hS.env.val x
  have h' := hS.env.val y
  rw [hx] at h
  rw [hy] at h'
  generalize hv : a.eval x = v at h
  generalize hu : a.eval y = u at h'
  cases h
  cases h'
  have hg : ∀ (e : BinOp), (eqGuard e t x y (.string ⟨m.toArray⟩) (.string ⟨n.toArray⟩)).run P w = .ok () w := by
    intro e; unfold eqGuard; split <;> rfl
  have tl : ∀ l : List UInt8, (⟨l.toArray⟩ : ByteArray).toList = l := fun l => by simp [ByteArray.toList_eq]
  cases op <;> simp only [strOp, Option.some.injEq, reduceCtorEq] at hd
  case add =>
    split at hd
    · rename_i hle
      simp only [Option.some.injEq] at hd
      subst hd
      refine .same (v := .string ⟨(m ++ n).toArray⟩) hS.heap hS.fb ?_ (.str _ (by simpa using hle))
      have hs : ¬ (((⟨m.toArray⟩ : ByteArray).size + (⟨n.toArray⟩ : ByteArray).size : Nat) : Int) > IntKind.i64.max := by
        have : (⟨m.toArray⟩ : ByteArray).size + (⟨n.toArray⟩ : ByteArray).size = m.length + n.length := by simp [ByteArray.size]
        rw [this]
        have : IntKind.i64.max = 9223372036854775807 := by decide
        rw [this]; unfold maxLen at hle; omega
      simp only [execOp, ho, hv, hu, Sem.run_bind, hg, Result.andThen_ok, binOp, Op.stringOp, hs, if_false, Sem.run_pure]
      congr 3
    · cases hd
  all_goals
    subst hd
    refine .same hS.heap hS.fb ?_ (.bool _)
    simp only [execOp, ho, hv, hu, Sem.run_bind, hg, Result.andThen_ok, binOp, Op.stringOp, tl]
    rfl
theorem s_binBool (hS : StOK C w a B S) (op : BinOp) (t t' : TypeId) (x y : Operand) (m n : Bool) (hx : S.val x = .bool m) (hy : S.val y = .bool n) (hk : kc P t = 1) (hd : eqR op (some (m == n)) = some d) (ho : o.op = .binOp op t x y t') : OpOK P o a w C B S.heap nid d [] := by
  have h := hS.env.val x
  have h' := hS.env.val y
  rw [hx] at h
  rw [hy] at h'
  generalize hv : a.eval x = v at h
  generalize hu : a.eval y = u at h'
  cases h
  cases h'
  have hg : ∀ (e : BinOp), (eqGuard e t x y (.bool m) (.bool n)).run P w = .ok () w := by
    intro e; unfold eqGuard; split <;> rfl
  have hb : P.underlying t = some .bool := by
    unfold kc at hk; split at hk <;> first | assumption | (simp at hk)
  have he : (Op.equal t (.bool m) (.bool n)).run P w = .ok (m == n) w := run_equalIn_bool' w 9999 t m n hb
  cases op <;> simp only [eqR, Option.some.injEq, reduceCtorEq] at hd
  all_goals
    subst hd
    refine .same hS.heap hS.fb ?_ (.bool _)
    simp only [execOp, ho, hv, hu, Sem.run_bind, hg, Result.andThen_ok, binOp, he]
    rfl
end pures
theorem eqFields_run : ∀ (fs : List Field) (i : Nat) (vs us : List Value) (xs ys : List D) (r : Bool), RepL C w vs xs → RepL C w us ys → (fs.zipIdx i).all (fun p => p.1.name != "_" && p.1.offset == p.2 && kc P p.1.type != 0) = true → eqK (fs.map fun f => kc P f.type) (xs.drop i) (ys.drop i) = some r → (Op.eqFields 9999 vs.toArray us.toArray fs).run P w = .ok r w := by
  intro fs
  induction fs with
  | nil =>
    intro i vs us xs ys r _ _ _ h
    cases hx : xs.drop i <;> cases hy : ys.drop i <;> rw [hx, hy] at h <;> simp [eqK] at h
    subst h
    rfl
  | cons f fs ih =>
    intro i vs us xs ys r hL hM hf h
    simp only [List.zipIdx_cons, List.all_cons, Bool.and_eq_true, bne_iff_ne, ne_eq, beq_iff_eq] at hf
    obtain ⟨⟨⟨hnm, hoff⟩, hk0⟩, hf'⟩ := hf
    simp only [List.map_cons] at h
    have hagg : ∀ k, kc P f.type = k → k ≠ 0 → aggT P f.type = some false := by
      intro k hk hk'
      unfold kc at hk
      unfold aggT
      split at hk <;> rename_i hu <;> first | (rw [hu]; rfl) | exact absurd hk.symm hk'
    have prt : ∀ (zs : List Value) (ds : List D) (d0 : D) (rest : List D), RepL C w zs ds → ds.drop i = d0 :: rest → ∃ v, (part f.type zs.toArray f.offset).run P w = .ok v w ∧ Rep w C v d0 := by
      intro zs ds d0 rest hz hd
      refine part_run (P := P) hz ?_
      rw [hoff, hd]
      simp [loadD, hagg _ rfl hk0]
    have drop1 : ∀ (ds : List D) d0 rest, ds.drop i = d0 :: rest → ds.drop (i + 1) = rest := by
      intro ds d0 rest hd
      rw [← List.drop_drop, hd]; rfl
    have fin : ∀ (u v : Value) (b c : Bool), (Op.equalIn 9999 f.type u v).run P w = .ok b w → (part f.type vs.toArray f.offset).run P w = .ok u w → (part f.type us.toArray f.offset).run P w = .ok v w → (Op.eqFields 9999 vs.toArray us.toArray fs).run P w = .ok c w → (Op.eqFields 9999 vs.toArray us.toArray (f :: fs)).run P w = .ok (b && c) w := by
      intro u v b c h1 h2 h3 h4
      simp only [Op.eqFields, ne_eq, hnm, not_false_eq_true, if_true, Sem.run_bind, h2, h3, h1, Result.andThen_ok]
      cases b
      · simp
      · simpa using h4
    cases hx : xs.drop i with
    | nil => rw [hx] at h; cases kc P f.type <;> simp [eqK] at h
    | cons x0 xr =>
      cases hy : ys.drop i with
      | nil => rw [hx, hy] at h; simp [eqK] at h
      | cons y0 yr =>
        rw [hx, hy] at h
        obtain ⟨u, hu, hur⟩ := prt vs xs x0 xr hL hx
        obtain ⟨v, hv, hvr⟩ := prt us ys y0 yr hM hy
        have ih' := fun r' hr' => ih (i + 1) vs us xs ys r' hL hM hf' (by rw [drop1 _ _ _ hx, drop1 _ _ _ hy]; exact hr')
        unfold eqK at h
        split at h
        · simp_all
        · rename_i ks a xs' b ys' e1 e2 e3
          injection e1 with e1 e1'; injection e2 with e2 e2'; injection e3 with e3 e3'
          subst e2 e3 e2' e3' e1'
          cases hur; cases hvr
          split at h
          · rename_i r' hr'
            simp at h; subst h
            refine fin _ _ _ _ (run_equalIn_bool' w 9998 _ a b ?_) hu hv (ih' r' hr')
            unfold kc at e1; split at e1 <;> first | assumption | (simp at e1)
          · simp at h
        · rename_i ks k a xs' k' b ys' e1 e2 e3
          injection e1 with e1 e1'; injection e2 with e2 e2'; injection e3 with e3 e3'
          subst e2 e3 e2' e3' e1'
          cases hur; cases hvr
          split at h
          · rename_i hkk
            subst hkk
            split at h
            · rename_i r' hr'
              simp at h; subst h
              have hint : ∃ k', P.underlying f.type = some (.int k') := by
                unfold kc at e1; split at e1 <;> first | exact ⟨_, by assumption⟩ | (simp at e1)
              obtain ⟨k', hint⟩ := hint
              exact fin _ _ _ _ (run_equalIn_int w 9998 _ k k' a b hint) hu hv (ih' r' hr')
            · simp at h
          · simp at h
        · rename_i ks a xs' b ys' e1 e2 e3
          injection e1 with e1 e1'; injection e2 with e2 e2'; injection e3 with e3 e3'
          subst e2 e3 e2' e3' e1'
          cases hur; cases hvr
          split at h
          · rename_i r' hr'
            simp at h; subst h
            have tl : ∀ l : List UInt8, (⟨l.toArray⟩ : ByteArray).toList = l := fun l => by simp [ByteArray.toList_eq]
            have hstr : P.underlying f.type = some .string := by
              unfold kc at e1; split at e1 <;> first | assumption | (simp at e1)
            have := run_equalIn_string (P := P) w 9998 f.type ⟨a.toArray⟩ ⟨b.toArray⟩ hstr
            rw [tl, tl] at this
            exact fin _ _ _ _ this hu hv (ih' r' hr')
          · simp at h
        · simp at h
section pures
theorem s_binAgg (hS : StOK C w a B S) (op : BinOp) (t t' : TypeId) (x y : Operand) (m n : List D) (ks : List Nat) (r : Bool) (hx : S.val x = .agg m) (hy : S.val y = .agg n) (hk : eqTs P t = some ks) (hr : eqK ks m n = some r) (hd : eqR op (some r) = some d) (ho : o.op = .binOp op t x y t') : OpOK P o a w C B S.heap nid d [] := by
  have h := hS.env.val x
  have h' := hS.env.val y
  rw [hx] at h
  rw [hy] at h'
  generalize hv : a.eval x = v at h
  generalize hu : a.eval y = u at h'
  unfold eqTs at hk
  split at hk
  · rename_i fs hun
    split at hk
    · rename_i hc
      simp only [Bool.and_eq_true, Bool.not_eq_true'] at hc
      obtain ⟨⟨hst, heg⟩, hal⟩ := hc
      simp at hk
      subst hk
      cases h with
      | agg vs _ hl1 ho1 hr1 =>
        cases h' with
        | agg us _ hl2 ho2 hr2 =>
          have hfo : P.fieldsOf t = fs := by simp [Program.fieldsOf, hun]
          have he : (Op.equal t (.agg vs.toArray) (.agg us.toArray)).run P w = .ok r w := by
            have := run_equalIn_struct (P := P) w 9999 t vs.toArray us.toArray (by rw [hfo]; exact hun) hst
            rw [hfo, eqFields_run fs.toList 0 vs us m n r ⟨hl1, ho1, hr1⟩ ⟨hl2, ho2, hr2⟩ hal (by simpa using hr)] at this
            exact this
          have hg : ∀ (e : BinOp), (eqGuard e t x y (.agg vs.toArray) (.agg us.toArray)).run P w = .ok () w := by
            intro e
            unfold eqGuard
            cases e <;> simp [heg]
          cases op <;> simp only [eqR, Option.some.injEq, reduceCtorEq] at hd
          all_goals
            subst hd
            refine .same hS.heap hS.fb ?_ (.bool _)
            simp only [execOp, ho, hv, hu, Sem.run_bind, hg, Result.andThen_ok, binOp, he]
            rfl
    · simp at hk
  · simp at hk
theorem s_convInt (hS : StOK C w a B S) (src dst : TypeId) (x : Operand) (k k' : IntKind) (n : Int) (hx : S.val x = .int k n) (hk : intT P dst = some k') (hs : ∃ u, P.underlying src = some u) (ho : o.op = .convert src dst x) : OpOK P o a w C B S.heap nid (.int k' (k'.wrap n)) [] := by
  have h := hS.env.val x
  rw [hx] at h
  generalize hv : a.eval x = v at h
  cases h
  obtain ⟨u, hu⟩ := hs
  refine .same hS.heap hS.fb ?_ (.int _ _ (wrap_inR _ _))
  simp only [execOp, ho, hv, convert, Sem.run_bind, underlying_run hu, Result.andThen_ok, underlying_run (intT_under hk)]
  cases u <;> rfl
theorem s_extract (hS : StOK C w a B S) (t : Operand) (i : Nat) (ds : List D) (hx : S.val t = .tup ds) (hd : ds[i]? = some d) (ho : o.op = .extract t i) : OpOK P o a w C B S.heap nid d [] := by
  have h := hS.env.val t
  rw [hx] at h
  generalize hv : a.eval t = v at h
  cases h with
  | tup vs _ hl h =>
    have hi : i < vs.length := by have := (List.getElem?_eq_some_iff.1 hd).1; omega
    refine .same (v := vs[i]) hS.heap hS.fb ?_ (h i _ d (List.getElem?_eq_getElem hi) hd)
    simp [execOp, ho, hv, Instr.extract, hi]
end pures
end
end Go.Proofs.YtipdmcpmedmicaaDoor
