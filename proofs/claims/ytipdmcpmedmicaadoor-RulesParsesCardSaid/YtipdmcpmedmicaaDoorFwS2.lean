/- Regions that draw their order, with stores into cells of boxes: the reading step by step. -/
import Derived.Test.YtipdmcpmedmicaaDoorFwR2
set_option linter.unusedSimpArgs false
set_option linter.unusedVariables false
namespace Go.Proofs.YtipdmcpmedmicaaDoor
open Go.RowKit

/-- What was seen of an operation: what it looks at, the cells that it writes, the blocks that it changes beside one of its own. -/
structure Seen where
  ft : Foot
  pt : Option (Nat × Nat × Nat)
  ei : List Nat
def apartN (a b : List Nat) : Bool := a.all fun x => !memN b x
def ordB (ops : Array Oper) (i j : Nat) : Bool := ((aheads ops).getD (max i j) 0).testBit (min i j)
def heapyAt (ops : Array Oper) (j : Nat) : Bool := match ops[j]? with
  | some o => heapy o.op
  | none => false
def patOk1 (ops : Array Oper) (n : Nat) (acc : List Seen) (i : Nat) (t : Nat × Nat × Nat) : Bool :=
  (decide (t.1 < n) || (decide (n ≤ t.1) && decide (t.1 - n < i) && ((aheads ops).getD i 0).testBit (t.1 - n))) &&
  acc.zipIdx.all fun q => q.2 == i || !heapyAt ops q.2 || ordB ops q.2 i || (apartF t.1 t.2.1 t.2.2 q.1.ft && !memN q.1.ei t.1)
def effOk1 (ops : Array Oper) (acc : List Seen) (i : Nat) (l : List Nat) : Bool :=
  acc.zipIdx.all fun q => q.2 == i || !heapyAt ops q.2 || ordB ops q.2 i || (apartL l q.1.ft && apartN l q.1.ei)
def patsOk (ops : Array Oper) (n : Nat) (acc : List Seen) : Bool := acc.zipIdx.all fun p => (match p.1.pt with
  | none => true
  | some t => patOk1 ops n acc p.2 t) && (match p.1.ei with
  | [] => true
  | _ :: _ => effOk1 ops acc p.2 p.1.ei)
def eiOf (n i : Nat) (e : Eff) : List Nat := if effOk (n + i) e = true then [] else e.map (·.1)
def seen (n i : Nat) (x : XE) (f : Foot) : Seen := match x with
  | .eff e => ⟨f, none, eiOf n i e⟩
  | .pat id off xs => ⟨f, some (id, off, xs.length), []⟩
def xOk (ops : Array Oper) (n i : Nat) (x : XE) (f : Foot) : Prop := match x with
  | .eff e => effOk (n + i) e = true ∨ effIn ops n i e = true
  | .pat id off xs => f = .cell id off xs.length
section
variable {P : Program} {I : World → Prop} {ops : Array Oper} {S : AS}
def awpLp (P : Program) (I : World → Prop) (ops : Array Oper) : List Oper → Nat → AS → List Seen → (AS → Prop) → Prop
  | [], i, S, acc, K => patsOk ops S.next acc = true ∧ K { S with next := S.next + i }
  | o :: l, i, S, acc, K => ∃ d x f, (StX P I ops i o S d x ∧ (heapy o.op = true → FootOK P I ops i S o d x f) ∧ xOk ops S.next i x f) ∧ awpLp P I ops l (i + 1) (S.stepX o d x) (acc ++ [seen S.next i x f]) K
theorem stY_tr {tr tr' : Nat → D × XE} {X : Nat → Bool} : ∀ m, (∀ i, i < m → tr i = tr' i) → stY ops S tr X m = stY ops S tr' X m
  | 0, _ => rfl
  | m + 1, h => by simp only [stY, stY_tr m (fun i hi => h i (by omega)), h m (by omega)]
theorem awpLp_trace {K : AS → Prop} : ∀ (l : List Oper) (i : Nat) (tr : Nat → D × XE) (ft : Nat → Foot) (acc : List Seen), i ≤ ops.size → ops.toList.drop i = l → acc.length = i → (∀ m, m < i → acc[m]? = some (seen S.next m (tr m).2 (ft m))) → (∀ m, i ≤ m → tr m = (.any, .eff [])) →
    (∀ m o, m < i → ops[m]? = some o → StX P I ops m o (stY ops S tr (fun _ => true) m) (tr m).1 (tr m).2 ∧ (heapy o.op = true → FootOK P I ops m (stY ops S tr (fun _ => true) m) o (tr m).1 (tr m).2 (ft m)) ∧ xOk ops S.next m (tr m).2 (ft m)) → awpLp P I ops l i (stY ops S tr (fun _ => true) i) acc K →
    ∃ (tr' : Nat → D × XE) (ft' : Nat → Foot) (acc' : List Seen), (acc'.length = ops.size ∧ (∀ m, m < ops.size → acc'[m]? = some (seen S.next m (tr' m).2 (ft' m))) ∧ ∀ m, ops.size ≤ m → tr' m = (.any, .eff [])) ∧
      (∀ m o, ops[m]? = some o → StX P I ops m o (stY ops S tr' (fun _ => true) m) (tr' m).1 (tr' m).2 ∧ (heapy o.op = true → FootOK P I ops m (stY ops S tr' (fun _ => true) m) o (tr' m).1 (tr' m).2 (ft' m)) ∧ xOk ops S.next m (tr' m).2 (ft' m)) ∧ patsOk ops S.next acc' = true ∧ K { stY ops S tr' (fun _ => true) ops.size with next := S.next + ops.size } := by
  intro l
  induction l with
  | nil =>
    intro i tr ft acc hi hd hal hacc htr hT h
    obtain rfl : i = ops.size := by have := congrArg List.length hd; simp at this; omega
    simp only [awpLp] at h
    rw [(stY_next _ _).1] at h
    refine ⟨tr, ft, acc, ⟨hal, hacc, htr⟩, fun m o ho => hT m o ?_ ho, h.1, h.2⟩
    rcases Nat.lt_or_ge m ops.size with h1 | h1
    · exact h1
    · rw [Array.getElem?_eq_none h1] at ho; cases ho
  | cons o l ih =>
    intro i tr ft acc hi hd hal hacc htr hT h
    have hoi : ops[i]? = some o := by
      have : (ops.toList.drop i)[0]? = some o := by rw [hd]; rfl
      simpa using this
    have hd' : ops.toList.drop (i + 1) = l := by rw [← List.drop_drop, hd]; rfl
    simp only [awpLp] at h
    obtain ⟨d, x, f, ⟨h1, h2, h2'⟩, h3⟩ := h
    rw [(stY_next _ _).1] at h2' h3
    have hsame : ∀ m, m ≤ i → stY ops S (upd tr i (d, x)) (fun _ => true) m = stY ops S tr (fun _ => true) m := fun m hm => stY_tr m fun i' hi' => by
      simp only [upd]; rw [if_neg (by omega)]
    have hst : stY ops S (upd tr i (d, x)) (fun _ => true) (i + 1) = (stY ops S tr (fun _ => true) i).stepX o d x := by
      simp [stY, hoi, hsame i (Nat.le_refl _), upd]
    refine ih (i + 1) (upd tr i (d, x)) (upd ft i f) (acc ++ [seen S.next i x f]) (by have := congrArg List.length hd; simp at this; omega) hd' (by simp [hal]) (fun m hm => ?_) (fun m hm => ?_) (fun m o' hm ho' => ?_) (by rw [hst]; exact h3)
    · by_cases he : m = i
      · subst he
        rw [List.getElem?_append_right (by omega), hal]
        simp [upd]
      · rw [List.getElem?_append_left (by omega), hacc m (by omega)]
        simp only [upd]; rw [if_neg he, if_neg he]
    · simp only [upd]; rw [if_neg (by omega)]; exact htr m (by omega)
    · rw [hsame m (by omega)]
      by_cases he : m = i
      · subst he
        rw [hoi] at ho'; injection ho' with ho'; subst ho'
        simpa [upd] using ⟨h1, h2, h2'⟩
      · simp only [upd]; rw [if_neg he, if_neg he]
        exact hT m o' (by omega) ho'
theorem awpD_of2 {K : AS → Prop} (hstab : Stab I) (hm : P.follows .mixedOrders = true) (hok : drawOk ops = true) (h : awpLp P I ops ops.toList 0 S [] K) : awpD P I ops S K := by
  intro hd G C a w hR Q rid hK
  obtain ⟨tr, ft, acc, ⟨hal, hacc, htr⟩, h2, hp, h3⟩ := awpLp_trace (S := S) (P := P) (I := I) ops.toList 0 (fun _ => (.any, .eff [])) (fun _ => .all) [] (Nat.zero_le _) (by simp) rfl (fun m hm => absurd hm (by omega)) (fun _ _ => rfl) (fun m o hm => absurd hm (by omega)) h
  refine wp_region_any hm ?_
  have hR' : Rel I G (fun id => id < S.next) S C a { w with drawn := w.drawn + 1 } := by
    have hcell : ∀ b o, C.F b o → ({ w with drawn := w.drawn + 1 } : World).heap[b]? = w.heap[b]? := fun _ _ _ => rfl
    have he : Ext C w C { w with drawn := w.drawn + 1 } := ⟨fun _ _ h => h, hcell, fun _ h => h, fun _ _ => rfl⟩
    refine ⟨⟨fun t => (hR.ok.env t).ext he, ⟨fun id b hb => ?_, hR.ok.heap.own, hR.ok.heap.pin, hR.ok.heap.apart⟩, hR.ok.fb, hR.ok.base⟩, hR.inv, ⟨hR.below.os, hR.below.tape, hR.below.output, hR.below.size, hR.below.block⟩, hR.new, hR.ext.trans he, hR.defers, hR.size, hR.live⟩
    obtain ⟨k1, k2⟩ := hR.ok.heap.rep id b hb
    exact ⟨k1, k2.keep k1 he (fun _ _ => rfl) (fun _ _ _ h => h)⟩
  have hnone : ∀ i, (Array.replicate ops.size false).getD i false = false := by
    intro i
    rw [Array.getD_eq_getD_getElem?, Array.getElem?_replicate]
    split <;> rfl
  have hst0 : ∀ m, stY ops S tr (fun i => (Array.replicate ops.size false).getD i false) m = S := by
    intro m
    rw [show (fun i => (Array.replicate ops.size false).getD i false) = fun _ => false from funext hnone]
    induction m with
    | zero => rfl
    | succ m ihm =>
      simp only [stY, ihm, Bool.false_eq_true, if_false]
      cases ops[m]? <;> rfl
  have inr : ∀ i id off xs, (tr i).2 = .pat id off xs → i < ops.size := by
    intro i id off xs hx
    rcases Nat.lt_or_ge i ops.size with h | h
    · exact h
    · rw [htr i h] at hx; cases hx
  have hpfx : ∀ i id off xs, (tr i).2 = .pat id off xs → i < ops.size ∧ ft i = .cell id off xs.length := by
    intro i id off xs hx
    have hi := inr i id off xs hx
    have := (h2 i ops[i] (Array.getElem?_eq_getElem hi)).2.2
    rw [hx] at this
    exact ⟨hi, this⟩
  refine draw_any2 (ft := ft) hstab hd hok (fun i e hx => ?_) (fun id b hb => hR'.live id (hR'.ok.heap.rep id b hb).1) (fun i o ho => (h2 i o ho).2.1) hpfx (fun i id off xs hx => ?_) (fun i o ho => (h2 i o ho).1) (fun C' a' w' hr => ?_) ops.size (Array.replicate ops.size false) C a _ (by simp) (fun j o _ hx => by rw [hnone] at hx; cases hx) (by simp [List.filter_replicate]) (by
    rw [hst0]
    exact ⟨hR'.ok, hR'.inv, hR'.below, hR'.new, hR'.ext, hR'.defers, hR'.size, fun id hl => .inl (hR'.live id hl)⟩)
  · rcases Nat.lt_or_ge i ops.size with h | h
    · cases hl : effOk (S.next + i) e with
      | true => exact .inl rfl
      | false =>
        right
        have hx2 := (h2 i ops[i] (Array.getElem?_eq_getElem h)).2.2
        rw [hx] at hx2
        have hai := hacc i h
        rw [hx] at hai
        have hei : eiOf S.next i e = e.map (·.1) := by unfold eiOf; rw [hl]; simp
        have hne : e.map (·.1) ≠ [] := by
          intro h0
          have : e = [] := List.map_eq_nil_iff.1 h0
          subst this
          simp [effOk] at hl
        refine ⟨?_, fun j oj hoj hne' hh => ?_⟩
        · rcases hx2 with h5 | h5
          · rw [hl] at h5; cases h5
          · exact h5
        · have hj : j < ops.size := by
            rcases Nat.lt_or_ge j ops.size with h | h
            · exact h
            · rw [Array.getElem?_eq_none h] at hoj; cases hoj
          have hmi : (seen S.next i (.eff e) (ft i), i) ∈ acc.zipIdx := by rw [List.mem_zipIdx_iff_getElem?]; exact hai
          have h5 := List.all_eq_true.1 hp _ hmi
          simp only [seen, hei, Bool.true_and] at h5
          have h6 : effOk1 ops acc i (e.map (·.1)) = true := by
            revert h5
            cases hc : e.map (·.1) with
            | nil => exact absurd hc hne
            | cons a l => exact fun h => h
          have hmj : (seen S.next j (tr j).2 (ft j), j) ∈ acc.zipIdx := by rw [List.mem_zipIdx_iff_getElem?]; exact hacc j hj
          have h10 := List.all_eq_true.1 h6 _ hmj
          simp only [heapyAt, hoj, hh, Bool.or_eq_true, beq_iff_eq, Bool.not_true, Bool.false_eq_true, or_false, Bool.and_eq_true] at h10
          rcases h10 with (h10 | h10) | h10
          · exact absurd h10 hne'
          · exact .inl h10
          · right
            have hsf : (seen S.next j (tr j).2 (ft j)).ft = ft j := by unfold seen; split <;> rfl
            rw [hsf] at h10
            refine ⟨h10.1, fun e' hx3 => ?_⟩
            have h11 := h10.2
            rw [hx3] at h11
            simp only [seen] at h11
            cases hl' : effOk (S.next + j) e' with
            | true => exact .inl rfl
            | false =>
              right
              have hei' : eiOf S.next j e' = e'.map (·.1) := by unfold eiOf; rw [hl']; simp
              rw [hei'] at h11
              intro p hp' q hq hpq
              have := List.all_eq_true.1 h11 p.1 (List.mem_map_of_mem hp')
              simp only [Bool.not_eq_true'] at this
              rw [memN_iff.2 (by rw [hpq]; exact List.mem_map_of_mem hq)] at this
              cases this
    · rw [htr i h] at hx; injection hx with hx; subst hx; exact .inl rfl
  · have hi := inr i id off xs hx
    have hai := hacc i hi
    rw [hx] at hai
    have hmi : (seen S.next i (.pat id off xs) (ft i), i) ∈ acc.zipIdx := by rw [List.mem_zipIdx_iff_getElem?]; exact hai
    have h5 := List.all_eq_true.1 hp _ hmi
    simp only [seen, patOk1, Bool.and_eq_true, Bool.or_eq_true, decide_eq_true_eq] at h5
    obtain ⟨⟨h6, h7⟩, _⟩ := h5
    refine ⟨?_, fun j oj hoj hne hh => ?_⟩
    · rcases h6 with h6 | ⟨⟨h6, h8⟩, h9⟩
      · exact .inl h6
      · exact .inr ⟨id - S.next, h8, by omega, h9⟩
    · have hj : j < ops.size := by
        rcases Nat.lt_or_ge j ops.size with h | h
        · exact h
        · rw [Array.getElem?_eq_none h] at hoj; cases hoj
      have hmj : (seen S.next j (tr j).2 (ft j), j) ∈ acc.zipIdx := by rw [List.mem_zipIdx_iff_getElem?]; exact hacc j hj
      have h10 := List.all_eq_true.1 h7 _ hmj
      simp only [heapyAt, hoj, hh, Bool.or_eq_true, beq_iff_eq, Bool.not_true, Bool.false_eq_true, or_false, Bool.and_eq_true] at h10
      rcases h10 with (h10 | h10) | h10
      · exact absurd h10 hne
      · exact .inl h10
      · right
        have hsf : (seen S.next j (tr j).2 (ft j)).ft = ft j := by unfold seen; split <;> rfl
        rw [hsf] at h10
        refine ⟨h10.1, fun e hx2 => ?_⟩
        have h11 := h10.2
        rw [hx2] at h11
        simp only [seen, Bool.not_eq_true'] at h11
        cases hl' : effOk (S.next + j) e with
        | true => exact .inl rfl
        | false =>
          right
          have hei' : eiOf S.next j e = e.map (·.1) := by unfold eiOf; rw [hl']; simp
          rw [hei'] at h11
          intro q hq hqe
          rw [memN_iff.2 (by rw [← hqe]; exact List.mem_map_of_mem hq)] at h11
          cases h11
  · refine hK _ C' a' w' h3 ?_ ?_
    · exact (stY_next (ops := ops) (S := S) (tr := tr) _ _).2
    · exact ⟨⟨hr.ok.env, hr.ok.heap, hr.ok.fb, hr.ok.base⟩, hr.inv, hr.below, hr.new, hr.ext, hr.defers, hr.size, hr.live⟩
end
section
variable (P : Program) (I : World → Prop)
def rgP (ops : Array Oper) (l : List Oper) (i : Nat) (S : AS) (acc : List Seen) (k : List Kont) (Q : BPost) : Prop := awpLp P I ops l i S acc (goB P I k Q .normal)
def sP (x : Option (D × Eff)) (o : Oper) (ops : Array Oper) (l : List Oper) (i : Nat) (S : AS) (acc : List Seen) (k : List Kont) (Q : BPost) : Prop := ∃ d eff, x = some (d, eff) ∧
  ((∃ f, (heapy o.op = true → St1N P I ops i o S d eff → FootOK P I ops i S o d (.eff eff) f) ∧ (effOk (S.next + i) eff = true ∨ effIn ops S.next i eff = true) ∧ rgP P I ops l (i + 1) (S.step o d eff) (acc ++ [⟨f, none, eiOf S.next i eff⟩]) k Q) ∨
   (∃ t a v id off n, o.op = .store t a v ∧ S.val a = .ptr id off ∧ (S.val v).cells.length = n ∧ rgP P I ops l (i + 1) (S.step o d eff) (acc ++ [⟨.cell id off n, some (id, off, n), []⟩]) k Q))
def cP (ds : List D) (eff : Eff) (f : FuncId) (o : Oper) (ops : Array Oper) (l : List Oper) (i : Nat) (S : AS) (acc : List Seen) (k : List Kont) (Q : BPost) : Prop := (effOk (S.next + i) eff = true ∨ effIn ops S.next i eff = true) ∧ ∃ d fo, AFun P I f ds d ∧ (St1N P I ops i o S d eff → FootOK P I ops i S o d (.eff eff) fo) ∧ rgP P I ops l (i + 1) (S.step o d eff) (acc ++ [⟨fo, none, eiOf S.next i eff⟩]) k Q
def qP (x : Option (List D × Eff)) (f : FuncId) (o : Oper) (ops : Array Oper) (l : List Oper) (i : Nat) (S : AS) (acc : List Seen) (k : List Kont) (Q : BPost) : Prop := match x with
  | some (ds, eff) => cP P I ds eff f o ops l i S acc k Q
  | none => False
def lP (x : Option (FuncId × List D)) (o : Oper) (ops : Array Oper) (l : List Oper) (i : Nat) (S : AS) (acc : List Seen) (k : List Kont) (Q : BPost) : Prop := match x with
  | some (f, ds) => qP P I (purDs S.heap ds) f o ops l i S acc k Q
  | none => sP P I (aop P o.op (S.next + i) S) o ops l i S acc k Q
def wP (x : Option Bool) (o : Oper) (ops : Array Oper) (l : List Oper) (i : Nat) (S : AS) (acc : List Seen) (k : List Kont) (Q : BPost) : Prop := match x with
  | some true => lP P I (acallee S o.op) o ops l i S acc k Q
  | some false => rgP P I ops l (i + 1) (S.step o .undef []) (acc ++ [⟨.all, none, []⟩]) k Q
  | none => False
end
section
variable {P : Program} {I : World → Prop} {S : AS} {k : List Kont} {Q : BPost} {ops : Array Oper} {o : Oper} {l : List Oper} {i : Nat} {acc : List Seen}
theorem rb_drawP (hstab : Stab I) {id : Nat} (hm : P.follows .mixedOrders = true) (hok : drawOk ops = true) (h : ∀ K, K = k → rgP P I ops ops.toList 0 S [] K Q) : runB P I (.region id ops true) S k Q := by
  have h' := h k rfl
  unfold runB
  unfold rgP at h'
  exact awpD_of2 hstab hm hok h'
theorem rgP_nil (hp : patsOk ops S.next acc = true) (h : extB P I .normal { S with next := S.next + i } k Q) : rgP P I ops [] i S acc k Q := by
  unfold extB at h
  unfold rgP
  exact ⟨hp, h⟩
theorem stepX_eff {S : AS} {o : Oper} {d : D} {eff : Eff} {x : XE} (h : appX S.heap x = appEff S.heap eff) : S.stepX o d x = S.step o d eff := by
  unfold AS.stepX AS.step
  rw [h]
  rfl
theorem sP_wd {d : D} {eff : Eff} (hw : awant ops S.env o = some true) (hc : acallee S o.op = none) (ha : aop P o.op (S.next + i) S = some (d, eff)) : StX P I ops i o S d (.eff eff) := .inr ⟨hw, .inr (.inl ⟨hc, ha⟩)⟩
theorem rgP_cons (h : wP P I (awant ops S.env o) o ops l i S acc k Q) : rgP P I ops (o :: l) i S acc k Q := by
  simp only [rgP, awpLp]
  cases hw : awant ops S.env o with
  | none => rw [hw] at h; exact h.elim
  | some r =>
    rw [hw] at h
    cases r with
    | false => exact ⟨.undef, .eff [], .all, ⟨.inl ⟨hw, rfl, rfl⟩, fun _ => trivial, .inl rfl⟩, h⟩
    | true =>
      simp only [wP] at h
      cases hc : acallee S o.op with
      | some p =>
        obtain ⟨f, ds⟩ := p
        rw [hc] at h
        simp only [lP] at h
        cases hp : purDs S.heap ds with
        | none => rw [hp] at h; exact h.elim
        | some q =>
          obtain ⟨ds', eff⟩ := q
          rw [hp] at h
          obtain ⟨h2, d, fo, h3, h5, h4⟩ := h
          have hN : St1N P I ops i o S d eff := .inr ⟨hw, .inl ⟨f, ds, ds', hc, hp, h3⟩⟩
          exact ⟨d, .eff eff, fo, ⟨hN.to1, fun _ => h5 hN, h2⟩, h4⟩
      | none =>
        rw [hc] at h
        obtain ⟨d, eff, h1, h⟩ := h
        rcases h with ⟨f, h2, h3, h4⟩ | ⟨t, a, v, id, off, n, h2, h3, h4, h5⟩
        · have hN : St1N P I ops i o S d eff := .inr ⟨hw, .inr ⟨hc, h1⟩⟩
          exact ⟨d, .eff eff, f, ⟨hN.to1, fun hh => h2 hh hN, h3⟩, h4⟩
        · simp only [h2, aop, h3] at h1
          cases hb : S.heap id with
          | none => rw [hb] at h1; simp at h1
          | some b =>
            rw [hb] at h1
            cases b <;> simp only [reduceCtorEq] at h1
            rename_i pn cs
            split at h1
            · rename_i hcnd
              injection h1 with h1
              injection h1 with e1 e2
              subst e1 e2
              refine ⟨.undef, .pat id off (S.val v).cells, .cell id off n, ⟨⟨hw, rfl, t, a, v, pn, cs, h2, h3, rfl, hb, hcnd.1, hcnd.2.1, hcnd.2.2⟩, fun _ => ⟨⟨_, hb⟩, .inr ⟨t, a, v, h2, h3, .inl ⟨_, rfl, h4⟩⟩⟩, by subst h4; rfl⟩, ?_⟩
              rw [stepX_eff (eff := [(id, some (.box pn (putD cs off (S.val v))))])]
              · subst h4; exact h5
              · simp only [appX, appEff, hb, patB]
                rw [if_pos hcnd.2.2]
                rfl
            · simp at h1
theorem sP.light {d : D} {eff : Eff} (hh : heapy o.op = false) (he : effOk (S.next + i) eff = true) (h : rgP P I ops l (i + 1) (S.step o d eff) (acc ++ [⟨.all, none, []⟩]) k Q) : sP P I (some (d, eff)) o ops l i S acc k Q :=
  ⟨d, eff, rfl, .inl ⟨.all, ⟨fun _ _ => trivial, .inl he, by unfold eiOf; rw [if_pos he]; exact h⟩⟩⟩
theorem sP.foot {d : D} {eff : Eff} {b : List Nat} (f : Foot) (hf : St1N P I ops i o S d eff → FootOK P I ops i S o d (.eff eff) f) (hb : eiOf S.next i eff = b) (he : effOk (S.next + i) eff = true ∨ effIn ops S.next i eff = true) (h : rgP P I ops l (i + 1) (S.step o d eff) (acc ++ [⟨f, none, b⟩]) k Q) : sP P I (some (d, eff)) o ops l i S acc k Q :=
  ⟨d, eff, rfl, .inl ⟨f, fun _ => hf, he, by rw [hb]; exact h⟩⟩
theorem sP.pat {d : D} {eff : Eff} {t : TypeId} {a v : Operand} (id off n : Nat) (ho : o.op = .store t a v) (ha : S.val a = .ptr id off) (hn : (S.val v).cells.length = n) (h : rgP P I ops l (i + 1) (S.step o d eff) (acc ++ [⟨.cell id off n, some (id, off, n), []⟩]) k Q) : sP P I (some (d, eff)) o ops l i S acc k Q :=
  ⟨d, eff, rfl, .inr ⟨t, a, v, id, off, n, ho, ha, hn, h⟩⟩
theorem cP.intro {ds ds' : List D} {eff : Eff} {f : FuncId} {d : D} {b : List Nat} (h : AFun P I f ds' d) (he' : ds' = ds) (fo : Foot) (hf : St1N P I ops i o S d eff → FootOK P I ops i S o d (.eff eff) fo) (hb : eiOf S.next i eff = b) (he : effOk (S.next + i) eff = true ∨ effIn ops S.next i eff = true) (hk : rgP P I ops l (i + 1) (S.step o d eff) (acc ++ [⟨fo, none, b⟩]) k Q) : cP P I ds eff f o ops l i S acc k Q :=
  ⟨he, d, fo, he' ▸ h, hf, by rw [hb]; exact hk⟩
def subN (a b : List Nat) : Bool := a.all fun x => memN b x
theorem FootOK.idsB {d : D} {eff : Eff} (ids : List Nat) (h : (o.op.operands.toList.all fun y => subN (S.val y).ids ids) = true) (hg : o.guard = none) (hN : St1N P I ops i o S d eff) : FootOK P I ops i S o d (.eff eff) (.ids ids) := by
  refine ⟨fun t ht id hid => ?_, eff, rfl, hN⟩
  unfold Oper.looksAt at ht
  rw [hg] at ht
  simp only [List.mem_append, List.mem_filterMap] at ht
  rcases ht with ⟨y, hy, hyt⟩ | ht
  · cases y <;> simp at hyt
    subst hyt
    have h1 := List.all_eq_true.1 h _ hy
    exact memN_iff.1 (List.all_eq_true.1 h1 id hid)
  · simp at ht
theorem FootOK.ld {d : D} {x : XE} {t : TypeId} {a : Operand} {id off n : Nat} {b : Blk} (ho : o.op = .load t a) (ha : S.val a = .ptr id off) (hb : S.heap id = some b) (hs : szT P t = some n) (hn : 0 < n) : FootOK P I ops i S o d x (.cell id off n) := ⟨⟨b, hb⟩, .inl ⟨t, a, ho, ha, fun _ => hs, hn⟩⟩
theorem wP_t : wP P I (some true) o ops l i S acc k Q = lP P I (acallee S o.op) o ops l i S acc k Q := rfl
theorem wP_f : wP P I (some false) o ops l i S acc k Q = rgP P I ops l (i + 1) (S.step o .undef []) (acc ++ [⟨.all, none, []⟩]) k Q := rfl
theorem lP_s {f : FuncId} {ds : List D} : lP P I (some (f, ds)) o ops l i S acc k Q = qP P I (purDs S.heap ds) f o ops l i S acc k Q := rfl
theorem qP_s {f : FuncId} {ds : List D} {eff : Eff} : qP P I (some (ds, eff)) f o ops l i S acc k Q = cP P I ds eff f o ops l i S acc k Q := rfl
theorem lP_n : lP P I none o ops l i S acc k Q = sP P I (aop P o.op (S.next + i) S) o ops l i S acc k Q := rfl
theorem vq : type_of% (And.intro @wP_t <| And.intro @wP_f <| And.intro @lP_s <| And.intro @qP_s @lP_n) := And.intro @wP_t <| And.intro @wP_f <| And.intro @lP_s <| And.intro @qP_s @lP_n
end
attribute [irreducible] rgP
end Go.Proofs.YtipdmcpmedmicaaDoor
