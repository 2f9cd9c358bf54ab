/- Texts of one proof, put together (FwS2, FwPr, FwNl, FwAny, FwSh, FwUn, FwMt, FwMu, FwLr, FwOr, FwFz). No condition but those that each theorem states. -/
import Derived.Test.YtobglplholhkcaaGreatDoorX2
set_option linter.unusedSimpArgs false
set_option linter.unusedVariables false
namespace Go.Proofs.YtobglplholhkcaaGreatDoor
open Go.RowKit
structure Seen where
 ft : Foot
 pt : Option (Nat × Nat × Nat)
 ei : List Nat
def apartN (a b : List Nat) : Bool := a.all fun x => !memN b x
def ordB (ops : Array Oper) (i j : Nat) : Bool := ((aheads ops).getD (max i j) 0).testBit (min i j)
def heapyAt (ops : Array Oper) (j : Nat) : Bool := match ops[j]? with
 | some o => heapy o.op
 | none => false
def patOk1 (ops : Array Oper) (n : Nat) (acc : List Seen) (i : Nat) (t : Nat × Nat × Nat) : Bool :=
 (decide (t.1 < n) || (decide (n ≤ t.1) && decide (t.1 - n < i) && ((aheads ops).getD i 0).testBit (t.1 - n))) &&
 acc.zipIdx.all fun q => q.2 == i || !heapyAt ops q.2 || ordB ops q.2 i || (apartF t.1 t.2.1 t.2.2 q.1.ft && !memN q.1.ei t.1)
def effOk1 (ops : Array Oper) (acc : List Seen) (i : Nat) (l : List Nat) : Bool :=
 acc.zipIdx.all fun q => q.2 == i || !heapyAt ops q.2 || ordB ops q.2 i || (apartL l q.1.ft && apartN l q.1.ei)
def patsOk (ops : Array Oper) (n : Nat) (acc : List Seen) : Bool := acc.zipIdx.all fun p => (match p.1.pt with
 | none => true
 | some t => patOk1 ops n acc p.2 t) && (match p.1.ei with
 | [] => true
 | _ :: _ => effOk1 ops acc p.2 p.1.ei)
def eiOf (n i : Nat) (e : Eff) : List Nat := if effOk (n + i) e = true then [] else e.map (·.1)
def seen (n i : Nat) (x : XE) (f : Foot) : Seen := match x with
 | .eff e => ⟨f, none, eiOf n i e⟩
 | .pat id off xs => ⟨f, some (id, off, xs.length), []⟩
def xOk (ops : Array Oper) (n i : Nat) (x : XE) (f : Foot) : Prop := match x with
 | .eff e => effOk (n + i) e = true ∨ effIn ops n i e = true
 | .pat id off xs => f = .cell id off xs.length
section
variable {P : Program} {I : World → Prop} {ops : Array Oper} {S : AS}
def awpLp (P : Program) (I : World → Prop) (ops : Array Oper) : List Oper → Nat → AS → List Seen → (AS → Prop) → Prop
 | [], i, S, acc, K => patsOk ops S.next acc = true ∧ K { S with next := S.next + i }
 | o :: l, i, S, acc, K => ∃ d x f, (StX P I ops i o S d x ∧ (heapy o.op = true → FootOK P I ops i S o d x f) ∧ xOk ops S.next i x f) ∧ awpLp P I ops l (i + 1) (S.stepX o d x) (acc ++ [seen S.next i x f]) K
theorem stY_tr {tr tr' : Nat → D × XE} {X : Nat → Bool} : ∀ m, (∀ i, i < m → tr i = tr' i) → stY ops S tr X m = stY ops S tr' X m
 | 0, _ => rfl
 | m + 1, h => by simp only [stY, stY_tr m (fun i hi => h i (by omega)), h m (by omega)]
theorem awpLp_trace {K : AS → Prop} : ∀ (l : List Oper) (i : Nat) (tr : Nat → D × XE) (ft : Nat → Foot) (acc : List Seen), i ≤ ops.size → ops.toList.drop i = l → acc.length = i → (∀ m, m < i → acc[m]? = some (seen S.next m (tr m).2 (ft m))) → (∀ m, i ≤ m → tr m = (.any, .eff [])) →
  (∀ m o, m < i → ops[m]? = some o → StX P I ops m o (stY ops S tr (fun _ => true) m) (tr m).1 (tr m).2 ∧ (heapy o.op = true → FootOK P I ops m (stY ops S tr (fun _ => true) m) o (tr m).1 (tr m).2 (ft m)) ∧ xOk ops S.next m (tr m).2 (ft m)) → awpLp P I ops l i (stY ops S tr (fun _ => true) i) acc K →
  ∃ (tr' : Nat → D × XE) (ft' : Nat → Foot) (acc' : List Seen), (acc'.length = ops.size ∧ (∀ m, m < ops.size → acc'[m]? = some (seen S.next m (tr' m).2 (ft' m))) ∧ ∀ m, ops.size ≤ m → tr' m = (.any, .eff [])) ∧
   (∀ m o, ops[m]? = some o → StX P I ops m o (stY ops S tr' (fun _ => true) m) (tr' m).1 (tr' m).2 ∧ (heapy o.op = true → FootOK P I ops m (stY ops S tr' (fun _ => true) m) o (tr' m).1 (tr' m).2 (ft' m)) ∧ xOk ops S.next m (tr' m).2 (ft' m)) ∧ patsOk ops S.next acc' = true ∧ K { stY ops S tr' (fun _ => true) ops.size with next := S.next + ops.size } := by
 intro l
 induction l with
 | nil =>
  intro i tr ft acc hi hd hal hacc htr hT h
  obtain rfl : i = ops.size := by have := congrArg List.length hd; simp at this; omega
  simp only [awpLp] at h
  rw [(stY_next _ _).1] at h
  refine ⟨tr, ft, acc, ⟨hal, hacc, htr⟩, fun m o ho => hT m o ?_ ho, h.1, h.2⟩
  rcases Nat.lt_or_ge m ops.size with h1 | h1
  ·exact h1
  ·rw [Array.getElem?_eq_none h1] at ho; cases ho
 | cons o l ih =>
  intro i tr ft acc hi hd hal hacc htr hT h
  have hoi : ops[i]? = some o := by
   have : (ops.toList.drop i)[0]? = some o := by rw [hd]; rfl
   simpa using this
  have hd' : ops.toList.drop (i + 1) = l := by rw [← List.drop_drop, hd]; rfl
  simp only [awpLp] at h
  obtain ⟨d, x, f, ⟨h1, h2, h2'⟩, h3⟩ := h
  rw [(stY_next _ _).1] at h2' h3
  have hsame : ∀ m, m ≤ i → stY ops S (upd tr i (d, x)) (fun _ => true) m = stY ops S tr (fun _ => true) m := fun m hm => stY_tr m fun i' hi' => by
   simp only [upd]; rw [if_neg (by omega)]
  have hst : stY ops S (upd tr i (d, x)) (fun _ => true) (i + 1) = (stY ops S tr (fun _ => true) i).stepX o d x := by
   simp [stY, hoi, hsame i (Nat.le_refl _), upd]
  refine ih (i + 1) (upd tr i (d, x)) (upd ft i f) (acc ++ [seen S.next i x f]) (by have := congrArg List.length hd; simp at this; omega) hd' (by simp [hal]) (fun m hm => ?_) (fun m hm => ?_) (fun m o' hm ho' => ?_) (by rw [hst]; exact h3)
  ·by_cases he : m = i
   ·subst he
    rw [List.getElem?_append_right (by omega), hal]
    simp [upd]
   ·rw [List.getElem?_append_left (by omega), hacc m (by omega)]
    simp only [upd]; rw [if_neg he, if_neg he]
  ·simp only [upd]; rw [if_neg (by omega)]; exact htr m (by omega)
  ·rw [hsame m (by omega)]
   by_cases he : m = i
   ·subst he
    rw [hoi] at ho'; injection ho' with ho'; subst ho'
    simpa [upd] using ⟨h1, h2, h2'⟩
   ·simp only [upd]; rw [if_neg he, if_neg he]
    exact hT m o' (by omega) ho'
theorem awpD_of2 {K : AS → Prop} (hstab : Stab I) (hm : P.follows .mixedOrders = true) (hok : drawOk ops = true) (h : awpLp P I ops ops.toList 0 S [] K) : awpD P I ops S K := by
 intro hd G C a w hR Q rid hK
 obtain ⟨tr, ft, acc, ⟨hal, hacc, htr⟩, h2, hp, h3⟩ := awpLp_trace (S := S) (P := P) (I := I) ops.toList 0 (fun _ => (.any, .eff [])) (fun _ => .all) [] (Nat.zero_le _) (by simp) rfl (fun m hm => absurd hm (by omega)) (fun _ _ => rfl) (fun m o hm => absurd hm (by omega)) h
 refine wp_region_any hm ?_
 have hR' : Rel I G (fun id => id < S.next) S C a { w with drawn := w.drawn + 1 } := by
  have hcell : ∀ b o, C.F b o → ({ w with drawn := w.drawn + 1 } : World).heap[b]? = w.heap[b]? := fun _ _ _ => rfl
  have he : Ext C w C { w with drawn := w.drawn + 1 } := ⟨fun _ _ h => h, hcell, fun _ h => h, fun _ _ => rfl⟩
  refine ⟨⟨fun t => (hR.ok.env t).ext he, ⟨fun id b hb => ?_, hR.ok.heap.own, hR.ok.heap.pin, hR.ok.heap.apart⟩, hR.ok.fb, hR.ok.base⟩, hR.inv, ⟨hR.below.os, hR.below.tape, hR.below.output, hR.below.size, hR.below.block⟩, hR.new, hR.ext.trans he, hR.defers, hR.size, hR.live⟩
  obtain ⟨k1, k2⟩ := hR.ok.heap.rep id b hb
  exact ⟨k1, k2.keep k1 he (fun _ _ => rfl) (fun _ _ _ h => h)⟩
 have hnone : ∀ i, (Array.replicate ops.size false).getD i false = false := by
  intro i
  rw [Array.getD_eq_getD_getElem?, Array.getElem?_replicate]
  split <;> rfl
 have hst0 : ∀ m, stY ops S tr (fun i => (Array.replicate ops.size false).getD i false) m = S := by
  intro m
  rw [show (fun i => (Array.replicate ops.size false).getD i false) = fun _ => false from funext hnone]
  induction m with
  | zero => rfl
  | succ m ihm =>
   simp only [stY, ihm, Bool.false_eq_true, if_false]
   cases ops[m]? <;> rfl
 have inr : ∀ i id off xs, (tr i).2 = .pat id off xs → i < ops.size := by
  intro i id off xs hx
  rcases Nat.lt_or_ge i ops.size with h | h
  ·exact h
  ·rw [htr i h] at hx; cases hx
 have hpfx : ∀ i id off xs, (tr i).2 = .pat id off xs → i < ops.size ∧ ft i = .cell id off xs.length := by
  intro i id off xs hx
  have hi := inr i id off xs hx
  have := (h2 i ops[i] (Array.getElem?_eq_getElem hi)).2.2
  rw [hx] at this
  exact ⟨hi, this⟩
 refine draw_any2 (ft := ft) hstab hd hok (fun i e hx => ?_) (fun id b hb => hR'.live id (hR'.ok.heap.rep id b hb).1) (fun i o ho => (h2 i o ho).2.1) hpfx (fun i id off xs hx => ?_) (fun i o ho => (h2 i o ho).1) (fun C' a' w' hr => ?_) ops.size (Array.replicate ops.size false) C a _ (by simp) (fun j o _ hx => by rw [hnone] at hx; cases hx) (by simp [List.filter_replicate]) (by
  rw [hst0]
  exact ⟨hR'.ok, hR'.inv, hR'.below, hR'.new, hR'.ext, hR'.defers, hR'.size, fun id hl => .inl (hR'.live id hl)⟩)
 ·rcases Nat.lt_or_ge i ops.size with h | h
  ·cases hl : effOk (S.next + i) e with
   | true => exact .inl rfl
   | false =>
    right
    have hx2 := (h2 i ops[i] (Array.getElem?_eq_getElem h)).2.2
    rw [hx] at hx2
    have hai := hacc i h
    rw [hx] at hai
    have hei : eiOf S.next i e = e.map (·.1) := by unfold eiOf; rw [hl]; simp
    have hne : e.map (·.1) ≠ [] := by
     intro h0
     have : e = [] := List.map_eq_nil_iff.1 h0
     subst this
     simp [effOk] at hl
    refine ⟨?_, fun j oj hoj hne' hh => ?_⟩
    ·rcases hx2 with h5 | h5
     ·rw [hl] at h5; cases h5
     ·exact h5
    ·have hj : j < ops.size := by
      rcases Nat.lt_or_ge j ops.size with h | h
      ·exact h
      ·rw [Array.getElem?_eq_none h] at hoj; cases hoj
     have hmi : (seen S.next i (.eff e) (ft i), i) ∈ acc.zipIdx := by rw [List.mem_zipIdx_iff_getElem?]; exact hai
     have h5 := List.all_eq_true.1 hp _ hmi
     simp only [seen, hei, Bool.true_and] at h5
     have h6 : effOk1 ops acc i (e.map (·.1)) = true := by
      revert h5
      cases hc : e.map (·.1) with
      | nil => exact absurd hc hne
      | cons a l => exact fun h => h
     have hmj : (seen S.next j (tr j).2 (ft j), j) ∈ acc.zipIdx := by rw [List.mem_zipIdx_iff_getElem?]; exact hacc j hj
     have h10 := List.all_eq_true.1 h6 _ hmj
     simp only [heapyAt, hoj, hh, Bool.or_eq_true, beq_iff_eq, Bool.not_true, Bool.false_eq_true, or_false, Bool.and_eq_true] at h10
     rcases h10 with (h10 | h10) | h10
     ·exact absurd h10 hne'
     ·exact .inl h10
     ·right
      have hsf : (seen S.next j (tr j).2 (ft j)).ft = ft j := by unfold seen; split <;> rfl
      rw [hsf] at h10
      refine ⟨h10.1, fun e' hx3 => ?_⟩
      have h11 := h10.2
      rw [hx3] at h11
      simp only [seen] at h11
      cases hl' : effOk (S.next + j) e' with
      | true => exact .inl rfl
      | false =>
       right
       have hei' : eiOf S.next j e' = e'.map (·.1) := by unfold eiOf; rw [hl']; simp
       rw [hei'] at h11
       intro p hp' q hq hpq
       have := List.all_eq_true.1 h11 p.1 (List.mem_map_of_mem hp')
       simp only [Bool.not_eq_true'] at this
       rw [memN_iff.2 (by rw [hpq]; exact List.mem_map_of_mem hq)] at this
       cases this
  ·rw [htr i h] at hx; injection hx with hx; subst hx; exact .inl rfl
 ·have hi := inr i id off xs hx
  have hai := hacc i hi
  rw [hx] at hai
  have hmi : (seen S.next i (.pat id off xs) (ft i), i) ∈ acc.zipIdx := by rw [List.mem_zipIdx_iff_getElem?]; exact hai
  have h5 := List.all_eq_true.1 hp _ hmi
  simp only [seen, patOk1, Bool.and_eq_true, Bool.or_eq_true, decide_eq_true_eq] at h5
  obtain ⟨⟨h6, h7⟩, _⟩ := h5
  refine ⟨?_, fun j oj hoj hne hh => ?_⟩
  ·rcases h6 with h6 | ⟨⟨h6, h8⟩, h9⟩
   ·exact .inl h6
   ·exact .inr ⟨id - S.next, h8, by omega, h9⟩
  ·have hj : j < ops.size := by
    rcases Nat.lt_or_ge j ops.size with h | h
    ·exact h
    ·rw [Array.getElem?_eq_none h] at hoj; cases hoj
   have hmj : (seen S.next j (tr j).2 (ft j), j) ∈ acc.zipIdx := by rw [List.mem_zipIdx_iff_getElem?]; exact hacc j hj
   have h10 := List.all_eq_true.1 h7 _ hmj
   simp only [heapyAt, hoj, hh, Bool.or_eq_true, beq_iff_eq, Bool.not_true, Bool.false_eq_true, or_false, Bool.and_eq_true] at h10
   rcases h10 with (h10 | h10) | h10
   ·exact absurd h10 hne
   ·exact .inl h10
   ·right
    have hsf : (seen S.next j (tr j).2 (ft j)).ft = ft j := by unfold seen; split <;> rfl
    rw [hsf] at h10
    refine ⟨h10.1, fun e hx2 => ?_⟩
    have h11 := h10.2
    rw [hx2] at h11
    simp only [seen, Bool.not_eq_true'] at h11
    cases hl' : effOk (S.next + j) e with
    | true => exact .inl rfl
    | false =>
     right
     have hei' : eiOf S.next j e = e.map (·.1) := by unfold eiOf; rw [hl']; simp
     rw [hei'] at h11
     intro q hq hqe
     rw [memN_iff.2 (by rw [← hqe]; exact List.mem_map_of_mem hq)] at h11
     cases h11
 ·refine hK _ C' a' w' h3 ?_ ?_
  ·exact (stY_next (ops := ops) (S := S) (tr := tr) _ _).2
  ·exact ⟨⟨hr.ok.env, hr.ok.heap, hr.ok.fb, hr.ok.base⟩, hr.inv, hr.below, hr.new, hr.ext, hr.defers, hr.size, hr.live⟩
end
section
variable (P : Program) (I : World → Prop)
def rgP (ops : Array Oper) (l : List Oper) (i : Nat) (S : AS) (acc : List Seen) (k : List Kont) (Q : BPost) : Prop := awpLp P I ops l i S acc (goB P I k Q .normal)
def sP (x : Option (D × Eff)) (o : Oper) (ops : Array Oper) (l : List Oper) (i : Nat) (S : AS) (acc : List Seen) (k : List Kont) (Q : BPost) : Prop := ∃ d eff, x = some (d, eff) ∧
  ((∃ f, (heapy o.op = true → St1N P I ops i o S d eff → FootOK P I ops i S o d (.eff eff) f) ∧ (effOk (S.next + i) eff = true ∨ effIn ops S.next i eff = true) ∧ rgP P I ops l (i + 1) (S.step o d eff) (acc ++ [⟨f, none, eiOf S.next i eff⟩]) k Q) ∨
   (∃ t a v id off n, o.op = .store t a v ∧ S.val a = .ptr id off ∧ (S.val v).cells.length = n ∧ rgP P I ops l (i + 1) (S.step o d eff) (acc ++ [⟨.cell id off n, some (id, off, n), []⟩]) k Q))
def eP (ds0 : List D) (f : FuncId) (o : Oper) (ops : Array Oper) (l : List Oper) (i : Nat) (S : AS) (acc : List Seen) (k : List Kont) (Q : BPost) : Prop := ∃ ds' ep d eff fo, ArgX S.heap ds0 ds' ep ∧ CallLoc P I f ds0 ds' ep S.heap (S.next + i) d eff ∧ (effOk (S.next + i) (ep ++ eff) = true ∨ effIn ops S.next i (ep ++ eff) = true) ∧ (St1N P I ops i o S d (ep ++ eff) → FootOK P I ops i S o d (.eff (ep ++ eff)) fo) ∧ rgP P I ops l (i + 1) (S.step o d (ep ++ eff)) (acc ++ [⟨fo, none, eiOf S.next i (ep ++ eff)⟩]) k Q
def cP (ds : List D) (eff : Eff) (ds0 : List D) (f : FuncId) (o : Oper) (ops : Array Oper) (l : List Oper) (i : Nat) (S : AS) (acc : List Seen) (k : List Kont) (Q : BPost) : Prop := eP P I ds0 f o ops l i S acc k Q ∨ (effOk (S.next + i) eff = true ∨ effIn ops S.next i eff = true) ∧ ∃ d fo, AFun P I f ds d ∧ (St1N P I ops i o S d eff → FootOK P I ops i S o d (.eff eff) fo) ∧ rgP P I ops l (i + 1) (S.step o d eff) (acc ++ [⟨fo, none, eiOf S.next i eff⟩]) k Q
def qP (x : Option (List D × Eff)) (ds0 : List D) (f : FuncId) (o : Oper) (ops : Array Oper) (l : List Oper) (i : Nat) (S : AS) (acc : List Seen) (k : List Kont) (Q : BPost) : Prop := match x with
 | some (ds, eff) => cP P I ds eff ds0 f o ops l i S acc k Q
 | none => eP P I ds0 f o ops l i S acc k Q
def lP (x : Option (FuncId × List D)) (o : Oper) (ops : Array Oper) (l : List Oper) (i : Nat) (S : AS) (acc : List Seen) (k : List Kont) (Q : BPost) : Prop := match x with
 | some (f, ds) => qP P I (purDs S.heap ds) ds f o ops l i S acc k Q
 | none => sP P I (aop P o.op (S.next + i) S) o ops l i S acc k Q
def wP (x : Option Bool) (o : Oper) (ops : Array Oper) (l : List Oper) (i : Nat) (S : AS) (acc : List Seen) (k : List Kont) (Q : BPost) : Prop := match x with
 | some true => lP P I (acallee S o.op) o ops l i S acc k Q
 | some false => rgP P I ops l (i + 1) (S.step o .undef []) (acc ++ [⟨.all, none, []⟩]) k Q
 | none => False
end
section
variable {P : Program} {I : World → Prop} {S : AS} {k : List Kont} {Q : BPost} {ops : Array Oper} {o : Oper} {l : List Oper} {i : Nat} {acc : List Seen}
theorem rb_drawP (hstab : Stab I) {id : Nat} (hm : P.follows .mixedOrders = true) (hok : drawOk ops = true) (h : ∀ K, K = k → rgP P I ops ops.toList 0 S [] K Q) : runB P I (.region id ops true) S k Q := by
 have h' := h k rfl
 unfold runB
 unfold rgP at h'
 exact awpD_of2 hstab hm hok h'
theorem rgP_nil (hp : patsOk ops S.next acc = true) (h : extB P I .normal { S with next := S.next + i } k Q) : rgP P I ops [] i S acc k Q := by
 unfold extB at h
 unfold rgP
 exact ⟨hp, h⟩
theorem stepX_eff {S : AS} {o : Oper} {d : D} {eff : Eff} {x : XE} (h : appX S.heap x = appEff S.heap eff) : S.stepX o d x = S.step o d eff := by
 unfold AS.stepX AS.step
 rw [h]
 rfl
theorem rgP_cons (h : wP P I (awant ops S.env o) o ops l i S acc k Q) : rgP P I ops (o :: l) i S acc k Q := by
 simp only [rgP, awpLp]
 cases hw : awant ops S.env o with
 | none => rw [hw] at h; exact h.elim
 | some r =>
  rw [hw] at h
  cases r with
  | false => exact ⟨.undef, .eff [], .all, ⟨.inl ⟨hw, rfl, rfl⟩, fun _ => trivial, .inl rfl⟩, h⟩
  | true =>
   simp only [wP] at h
   cases hc : acallee S o.op with
   | some p =>
    obtain ⟨f, ds⟩ := p
    rw [hc] at h
    simp only [lP] at h
    have eff_ : eP P I ds f o ops l i S acc k Q → ∃ d x f, (StX P I ops i o S d x ∧ (heapy o.op = true → FootOK P I ops i S o d x f) ∧ xOk ops S.next i x f) ∧ awpLp P I ops l (i + 1) (S.stepX o d x) (acc ++ [seen S.next i x f]) (goB P I k Q .normal) := by
     rintro ⟨ds', ep, d, eff, fo, h3, h4, h2, h5, h6⟩
     have hN : St1N P I ops i o S d (ep ++ eff) := .inr ⟨hw, .inr (.inr ⟨f, ds, ds', ep, eff, hc, h3, rfl, h4⟩)⟩
     exact ⟨d, .eff (ep ++ eff), fo, ⟨hN.to1, fun _ => h5 hN, h2⟩, h6⟩
    cases hp : purDs S.heap ds with
    | none => rw [hp] at h; exact eff_ h
    | some q =>
     obtain ⟨ds', eff⟩ := q
     rw [hp] at h
     rcases h with h | h
     ·exact eff_ h
     obtain ⟨h2, d, fo, h3, h5, h4⟩ := h
     have hN : St1N P I ops i o S d eff := .inr ⟨hw, .inl ⟨f, ds, ds', hc, hp, h3⟩⟩
     exact ⟨d, .eff eff, fo, ⟨hN.to1, fun _ => h5 hN, h2⟩, h4⟩
   | none =>
    rw [hc] at h
    obtain ⟨d, eff, h1, h⟩ := h
    rcases h with ⟨f, h2, h3, h4⟩ | ⟨t, a, v, id, off, n, h2, h3, h4, h5⟩
    ·have hN : St1N P I ops i o S d eff := .inr ⟨hw, .inr (.inl ⟨hc, h1⟩)⟩
     exact ⟨d, .eff eff, f, ⟨hN.to1, fun hh => h2 hh hN, h3⟩, h4⟩
    ·simp only [h2, aop, h3] at h1
     cases hb : S.heap id with
     | none => rw [hb] at h1; simp at h1
     | some b =>
      rw [hb] at h1
      cases b <;> simp only [reduceCtorEq] at h1
      rename_i pn cs
      split at h1
      ·rename_i hcnd
       injection h1 with h1
       injection h1 with e1 e2
       subst e1 e2
       refine ⟨.undef, .pat id off (S.val v).cells, .cell id off n, ⟨⟨hw, rfl, t, a, v, pn, cs, h2, h3, rfl, hb, hcnd.1, hcnd.2.1, hcnd.2.2⟩, fun _ => ⟨⟨_, hb⟩, .inr ⟨t, a, v, h2, h3, .inl ⟨_, rfl, h4⟩⟩⟩, by subst h4; rfl⟩, ?_⟩
       rw [stepX_eff (eff := [(id, some (.box pn (putD cs off (S.val v))))])]
       ·subst h4; exact h5
       ·simp only [appX, appEff, hb, patB]
        rw [if_pos hcnd.2.2]
        rfl
      ·simp at h1
theorem sP.light {d : D} {eff : Eff} (hh : heapy o.op = false) (he : effOk (S.next + i) eff = true) (h : rgP P I ops l (i + 1) (S.step o d eff) (acc ++ [⟨.all, none, []⟩]) k Q) : sP P I (some (d, eff)) o ops l i S acc k Q :=
 ⟨d, eff, rfl, .inl ⟨.all, ⟨fun _ _ => trivial, .inl he, by unfold eiOf; rw [if_pos he]; exact h⟩⟩⟩
theorem sP.foot {d : D} {eff : Eff} {b : List Nat} (f : Foot) (hf : St1N P I ops i o S d eff → FootOK P I ops i S o d (.eff eff) f) (hb : eiOf S.next i eff = b) (he : effOk (S.next + i) eff = true ∨ effIn ops S.next i eff = true) (h : rgP P I ops l (i + 1) (S.step o d eff) (acc ++ [⟨f, none, b⟩]) k Q) : sP P I (some (d, eff)) o ops l i S acc k Q :=
 ⟨d, eff, rfl, .inl ⟨f, fun _ => hf, he, by rw [hb]; exact h⟩⟩
theorem sP.pat {d : D} {eff : Eff} {t : TypeId} {a v : Operand} (id off n : Nat) (ho : o.op = .store t a v) (ha : S.val a = .ptr id off) (hn : (S.val v).cells.length = n) (h : rgP P I ops l (i + 1) (S.step o d eff) (acc ++ [⟨.cell id off n, some (id, off, n), []⟩]) k Q) : sP P I (some (d, eff)) o ops l i S acc k Q :=
 ⟨d, eff, rfl, .inr ⟨t, a, v, id, off, n, ho, ha, hn, h⟩⟩
theorem eP.intro {ds0 ds' : List D} {ep eff : Eff} {f : FuncId} {d : D} {b : List Nat} {nid : Nat} (h : ∀ H', Sub S.heap H' (ds0.flatMap D.ids) → CallOK P I f ds' (appEff H' ep) nid d eff) (he' : purXs S.heap ds0 = some (ds', ep)) (hn : nid = S.next + i) (fo : Foot) (hf : St1N P I ops i o S d (ep ++ eff) → FootOK P I ops i S o d (.eff (ep ++ eff)) fo) (hb : eiOf S.next i (ep ++ eff) = b) (he : effOk (S.next + i) (ep ++ eff) = true ∨ effIn ops S.next i (ep ++ eff) = true) (hk : rgP P I ops l (i + 1) (S.step o d (ep ++ eff)) (acc ++ [⟨fo, none, b⟩]) k Q) : eP P I ds0 f o ops l i S acc k Q :=
 ⟨ds', ep, d, eff, fo, .inl he', by subst hn; exact h, he, hf, by rw [hb]; exact hk⟩
theorem eP.introR {ds0 : List D} {eff : Eff} {f : FuncId} {d : D} {b : List Nat} {nid : Nat} (h : ∀ H', Sub S.heap H' (ds0.flatMap D.ids) → CallOK P I f ds0 H' nid d eff) (hn : nid = S.next + i) (fo : Foot) (hf : St1N P I ops i o S d eff → FootOK P I ops i S o d (.eff eff) fo) (hb : eiOf S.next i eff = b) (he : effOk (S.next + i) eff = true ∨ effIn ops S.next i eff = true) (hk : rgP P I ops l (i + 1) (S.step o d eff) (acc ++ [⟨fo, none, b⟩]) k Q) : eP P I ds0 f o ops l i S acc k Q :=
 ⟨ds0, [], d, eff, fo, .inr ⟨rfl, rfl⟩, by subst hn; exact h, he, hf, by rw [List.nil_append, hb]; exact hk⟩
theorem cP.introE {ds0 ds ds' : List D} {ep eff eff0 : Eff} {f : FuncId} {d : D} {b : List Nat} {nid : Nat} (h : ∀ H', Sub S.heap H' (ds0.flatMap D.ids) → CallOK P I f ds' (appEff H' ep) nid d eff) (he' : purXs S.heap ds0 = some (ds', ep)) (hn : nid = S.next + i) (fo : Foot) (hf : St1N P I ops i o S d (ep ++ eff) → FootOK P I ops i S o d (.eff (ep ++ eff)) fo) (hb : eiOf S.next i (ep ++ eff) = b) (he : effOk (S.next + i) (ep ++ eff) = true ∨ effIn ops S.next i (ep ++ eff) = true) (hk : rgP P I ops l (i + 1) (S.step o d (ep ++ eff)) (acc ++ [⟨fo, none, b⟩]) k Q) : cP P I ds eff0 ds0 f o ops l i S acc k Q :=
 .inl (eP.intro h he' hn fo hf hb he hk)
theorem cP.intro {ds ds' ds0 : List D} {eff : Eff} {f : FuncId} {d : D} {b : List Nat} (h : AFun P I f ds' d) (he' : ds' = ds) (fo : Foot) (hf : St1N P I ops i o S d eff → FootOK P I ops i S o d (.eff eff) fo) (hb : eiOf S.next i eff = b) (he : effOk (S.next + i) eff = true ∨ effIn ops S.next i eff = true) (hk : rgP P I ops l (i + 1) (S.step o d eff) (acc ++ [⟨fo, none, b⟩]) k Q) : cP P I ds eff ds0 f o ops l i S acc k Q :=
 .inr ⟨he, d, fo, he' ▸ h, hf, by rw [hb]; exact hk⟩
def subN (a b : List Nat) : Bool := a.all fun x => memN b x
theorem FootOK.idsB {d : D} {eff : Eff} (ids : List Nat) (h : (o.op.operands.toList.all fun y => subN (S.val y).ids ids) = true) (hg : o.guard = none) (hN : St1N P I ops i o S d eff) : FootOK P I ops i S o d (.eff eff) (.ids ids) := by
 refine ⟨fun t ht id hid => ?_, eff, rfl, hN⟩
 unfold Oper.looksAt at ht
 rw [hg] at ht
 simp only [List.mem_append, List.mem_filterMap] at ht
 rcases ht with ⟨y, hy, hyt⟩ | ht
 ·cases y <;> simp at hyt
  subst hyt
  have h1 := List.all_eq_true.1 h _ hy
  exact memN_iff.1 (List.all_eq_true.1 h1 id hid)
 ·simp at ht
theorem FootOK.ld {d : D} {x : XE} {t : TypeId} {a : Operand} {id off n : Nat} {b : Blk} (ho : o.op = .load t a) (ha : S.val a = .ptr id off) (hb : S.heap id = some b) (hs : szT P t = some n) (hn : 0 < n) : FootOK P I ops i S o d x (.cell id off n) := ⟨⟨b, hb⟩, .inl ⟨t, a, ho, ha, fun _ => hs, hn⟩⟩
theorem wP_t : wP P I (some true) o ops l i S acc k Q = lP P I (acallee S o.op) o ops l i S acc k Q := rfl
theorem wP_f : wP P I (some false) o ops l i S acc k Q = rgP P I ops l (i + 1) (S.step o .undef []) (acc ++ [⟨.all, none, []⟩]) k Q := rfl
theorem lP_s {f : FuncId} {ds : List D} : lP P I (some (f, ds)) o ops l i S acc k Q = qP P I (purDs S.heap ds) ds f o ops l i S acc k Q := rfl
theorem qP_s {f : FuncId} {ds ds0 : List D} {eff : Eff} : qP P I (some (ds, eff)) ds0 f o ops l i S acc k Q = cP P I ds eff ds0 f o ops l i S acc k Q := rfl
theorem qP_n {f : FuncId} {ds0 : List D} : qP P I none ds0 f o ops l i S acc k Q = eP P I ds0 f o ops l i S acc k Q := rfl
theorem lP_n : lP P I none o ops l i S acc k Q = sP P I (aop P o.op (S.next + i) S) o ops l i S acc k Q := rfl
theorem vq : type_of% (And.intro @wP_t <| And.intro @wP_f <| And.intro @lP_s <| And.intro @qP_s <| And.intro @qP_n @lP_n) := And.intro @wP_t <| And.intro @wP_f <| And.intro @lP_s <| And.intro @qP_s <| And.intro @qP_n @lP_n
end
attribute [irreducible] rgP
def rnR (is : List Nat) (j : Nat) : Option Nat := is[j]?
def lentR : Nat → List Blk → List (Nat × Blk)
 | _, [] => []
 | p, b :: r => (p, b) :: lentR (p + 1) r
theorem lentR_at : ∀ (bs : List Blk) (p id : Nat) (b : Blk), look (lentR p bs) id = some b → ∃ n : Nat, id = p + n ∧ bs[n]? = some b
 | [], _, _, _, h => by simp [lentR, look] at h
 | c :: bs, p, id, b, h => by
  simp only [lentR, look] at h
  split at h
  ·rename_i e
   subst e
   injection h with h
   subst h
   exact ⟨0, rfl, rfl⟩
  ·obtain ⟨n, h1, h2⟩ := lentR_at bs (p + 1) id b h
   exact ⟨n + 1, by omega, by simpa using h2⟩
def retV1 (x : Option (List D)) (H : Nat → Option Blk) (nid : Nat) (is : List Nat) (r : D) (eff : Eff) : Prop := match x with
 | some [.own j m] => match H j with
  | some (.vec e k ys false) => r = .own nid m ∧ eff = is.map (fun i => (i, none)) ++ [(nid, some (.vec e k ys false))]
  | _ => False
 | _ => False
def retV (P : Program) (fn : Func) (nid : Nat) (is : List Nat) (r : D) (eff : Eff) : BPost := fun e S => match e with
 | .exit _ => False
 | .goto _ => False
 | _ => retV1 (resD P S fn.results.toList) S.heap nid is r eff
section
variable {P : Program} {I : World → Prop}
theorem retV_n {fn : Func} {nid : Nat} {is : List Nat} {r : D} {eff : Eff} {S : AS} : retV P fn nid is r eff .normal S = retV1 (resD P S fn.results.toList) S.heap nid is r eff := rfl
theorem retV_r {fn : Func} {nid : Nat} {is : List Nat} {r : D} {eff : Eff} {S : AS} : retV P fn nid is r eff .ret S = retV1 (resD P S fn.results.toList) S.heap nid is r eff := rfl
def lentRs (H : Nat → Option Blk) : List Nat → List Blk → Prop
 | i :: is, b :: bs => (H i = some b ∧ ∃ e k xs, b = .vec e k xs false) ∧ lentRs H is bs
 | [], [] => True
 | _, _ => False
theorem lentRs_at {H : Nat → Option Blk} : ∀ {is : List Nat} {bs : List Blk}, lentRs H is bs → is.length = bs.length ∧ ∀ (n : Nat) (i : Nat) (b : Blk), is[n]? = some i → bs[n]? = some b → H i = some b ∧ ∃ e k xs, b = .vec e k xs false
 | [], [], _ => ⟨rfl, by simp⟩
 | i :: is, b :: bs, h => by
  obtain ⟨h1, h2⟩ := lentRs_at h.2
  refine ⟨by simp [h1], fun n j c hj hc => ?_⟩
  cases n with
  | zero => simp at hj hc; subst hj hc; exact h.1
  | succ n => exact h2 n j c (by simpa using hj) (by simpa using hc)
 | _ :: _, [], h => h.elim
 | [], _ :: _, h => h.elim
theorem CallOK.row (hstab : Stab I) {f : FuncId} {fn : Func} {c : Code} {is : List Nat} {bs : List Blk} {ds0 ds : List D} {H : Nat → Option Blk} {nid : Nat} {r : D} {eff : Eff}
  (hf : P.funcs[f]? = some fn) (hb : fn.body = some c) (hnm : fn.name ≠ "runtime.NumGoroutine") (hn : ds0.length ≤ fn.ntmps) (hok : codeOk fn.ntmps c = true)
  (hds : ds0.map (D.ren (rnR is)) = ds) (hdo : ds0.all (D.idOk (rnR is) is.length) = true)
  (hcs : lentRs H is bs) (hne : is.Nodup)
  (h : runB P I c ⟨argL ds0, heapL (lentR 0 bs), is.length, fn.ntmps⟩ [] (retV P fn nid is r eff)) : CallOK P I f ds H nid r eff := by
 refine ⟨by simp [enterable, hf, hb, hnm], fun i0 w C B args hI hb0 hM hH hF hbase hnid hal hrep => ?_⟩
 refine calls_of_wp hf hb ?_
 subst hds
 obtain ⟨hlen, hcs⟩ := lentRs_at hcs
 have lent : ∀ (n i : Nat), is[n]? = some i → ∃ b, bs[n]? = some b ∧ H i = some b ∧ ∃ e k xs, b = .vec e k xs false := by
  intro n i hi
  have hlt : n < bs.length := by rw [← hlen]; exact (List.getElem?_eq_some_iff.1 hi).1
  exact ⟨bs[n], List.getElem?_eq_getElem hlt, hcs n i bs[n] hi (List.getElem?_eq_getElem hlt)⟩
 let M' : Nat → Prop := fun k => (∃ (n i : Nat), is[n]? = some i ∧ blockOf (C.σ i) = some k) ∨ w.heap.size ≤ k
 let C0 : Cx := C.ren (rnR is) is.length
 let B' : Bx := ⟨M', fun p => C0.σ p⟩
 have hM'M : ∀ k, M' k → B.M k := by
  rintro k (⟨n, i, hi, hk⟩ | hk)
  ·obtain ⟨b, _, h1, _⟩ := lent n i hi
   exact hH.own _ _ h1 k hk
  ·exact hbase k hk
 let G : Gh := ⟨i0, w, C.F, B', fun k hk => hM k (hM'M k hk), hb0⟩
 have hrn : ∀ (n i : Nat), is[n]? = some i → rnR is n = some i := fun n i hi => hi
 have hσ0 : ∀ (n i : Nat), is[n]? = some i → C0.σ n = C.σ i := fun n i hi => by simp only [C0, Cx.ren, hrn n i hi]
 have hne' : ∀ (n n' i i' : Nat), is[n]? = some i → is[n']? = some i' → n ≠ n' → i ≠ i' := by
  intro n n' i i' hi hi' hnn he
  subst he
  have hlt : n < is.length := (List.getElem?_eq_some_iff.1 hi).1
  exact hnn ((List.getElem?_inj hlt hne).1 (hi.trans hi'.symm))
 have hget : ∀ id b, heapL (lentR 0 bs) id = some b → ∃ i : Nat, is[id]? = some i ∧ H i = some b ∧ ∃ e k xs, b = .vec e k xs false := by
  intro id b hb'
  obtain ⟨n, h1, h2⟩ := lentR_at bs 0 id b hb'
  rw [Nat.zero_add] at h1
  subst h1
  have hlt : id < is.length := by rw [hlen]; exact (List.getElem?_eq_some_iff.1 h2).1
  exact ⟨is[id], List.getElem?_eq_getElem hlt, hcs id is[id] b (List.getElem?_eq_getElem hlt) h2⟩
 have hheap0 : HOK C0 w B' (heapL (lentR 0 bs)) := by
  refine ⟨fun id b hb' => ?_, fun id b hb' g hg => ?_, fun id k cs hb' => ?_, fun id id' b b' hb' hb'' hne2 g hg hg' => ?_⟩
  ·obtain ⟨i, h1, h2, e, k, xs, rfl⟩ := hget id b hb'
   obtain ⟨k1, k2⟩ := hH.rep _ _ h2
   refine ⟨⟨(List.getElem?_eq_some_iff.1 h1).1, by rw [hrn id i h1]; exact k1⟩, ?_⟩
   simp only [BRep] at k2 ⊢
   rw [hσ0 id i h1]
   exact k2
  ·obtain ⟨i, h1, h2, _⟩ := hget id b hb'
   rw [hσ0 id i h1] at hg
   exact .inl ⟨id, i, h1, hg⟩
  ·obtain ⟨i, h1, h2, e, k, xs, h3⟩ := hget id _ hb'
   cases h3
  ·obtain ⟨i, h1, h2, _⟩ := hget id b hb'
   obtain ⟨i', h1', h2', _⟩ := hget id' b' hb''
   rw [hσ0 id i h1] at hg
   rw [hσ0 id' i' h1'] at hg'
   exact hH.apart _ _ _ _ h2 h2' (hne' id id' i i' h1 h1' hne2) g hg hg'
 have hR : Rel I G (fun id => id < is.length) ⟨argL ds0, heapL (lentR 0 bs), is.length, fn.ntmps⟩ C0 { tmps := args.toArray ++ Array.replicate (fn.ntmps - args.toArray.size) Go.undef, defers := [] } w := by
  refine ⟨⟨fun t => ?_, hheap0, hF, fun g hg => .inr hg⟩, hI, BelM.refl _ _, fun b o h => .inl h, ⟨fun _ _ h => h, fun _ _ _ => rfl, fun _ h => h.elim, fun _ h => h.elim⟩, rfl, ?_, fun id h => h.1⟩
  ·simp only [argL_getD]
   by_cases ht : t < ds0.length
   ·rw [show ds0.getD t .any = ds0[t] by simp [List.getD, ht]]
    have ha : t < args.length := by simpa [hal] using ht
    have : (args.toArray ++ Array.replicate (fn.ntmps - args.toArray.size) Go.undef).getD t Go.undef = args[t] := by
     simp [Array.getD_eq_getD_getElem?, Array.getElem?_append, ha]
    rw [this]
    have := hrep t _ (ds0[t].ren (rnR is)) (List.getElem?_eq_getElem ha) (by simp [ht])
    exact this.ren (List.all_eq_true.1 hdo _ (List.getElem_mem ht))
   ·rw [show ds0.getD t .any = .any by simp [List.getD, ht]]
    exact .any _
  ·simp only [List.length_map] at hal
   simp; omega
 refine wp_mono (bwp_sound hstab c _ _ G _ _ w hok (by unfold runB goB at h; exact h) hR) ?_
 rintro e a' w' ⟨S', C', hnt, hR', hq⟩
 have fin : retV1 (resD P S' fn.results.toList) S'.heap nid is r eff → a'.defers = [] ∧ ∃ v, (results fn a'.tmps).run P w' = .ok v w' ∧ ∃ v' C2, Ending.returned v = .returned v' ∧ BelM B.M w w' ∧ Ext C w C2 w' ∧ Rep w' C2 v' r ∧ HOK C2 w' B (appEff H eff) ∧ FB C2 w' ∧ (∀ id, C2.live id → C.live id ∨ id = nid) ∧ ∀ b o, C2.F b o → C.F b o ∨ B.M b := by
  intro hp
  refine ⟨hR'.defers, ?_⟩
  cases h1 : resD P S' fn.results.toList with
  | none => rw [h1] at hp; exact hp.elim
  | some rs =>
  rw [h1] at hp
  obtain ⟨vs, hr, hl, hv⟩ := resD_run (P := P) (G := G) hR'.ok _ _ h1
  have hrun : (results fn a'.tmps).run P w' = .ok (if h : vs.toArray.size = 1 then vs.toArray[0] else .tuple vs.toArray) w' := by
   rw [results_eq, Array.mapM_eq_mapM_toList]
   simp only [Sem.run_bind, Sem.run_map, hr]
   rfl
  refine ⟨_, hrun, ?_⟩
  unfold retV1 at hp
  split at hp
  rotate_left
  ·exact hp.elim
  rename_i j m hrs
  injection hrs with hrs
  subst hrs
  split at hp
  rotate_left
  ·exact hp.elim
  rename_i ve vk ys hj
  obtain ⟨rfl, rfl⟩ := hp
  obtain ⟨v, rfl⟩ : ∃ v, vs = [v] := by
   match vs, hl with
   | [v], _ => exact ⟨v, rfl⟩
  have hv0 : Rep w' C' v (.own j m) := hv 0 v _ rfl rfl
  obtain ⟨hjl, hjb⟩ := hR'.ok.heap.rep j _ hj
  let C2 : Cx := ⟨C'.F, fun id => if id = nid then C'.σ j else C.σ id, fun id => C.live id ∨ id = nid⟩
  have hσ2 : ∀ id, C.live id → C2.σ id = C.σ id := fun id hid => by
   have : id ≠ nid := fun e => hnid (e ▸ hid)
   simp only [C2, if_neg this]
  have hσn : C2.σ nid = C'.σ j := by simp only [C2, if_true]
  have he : Ext C w C2 w' := ⟨fun b o h => hR'.ext.F _ _ h, fun b o h => hR'.ext.blk b o h, fun _ h => .inl h, hσ2⟩
  have hnoid : H nid = none := by
   cases hn2 : H nid with
   | none => rfl
   | some b => exact absurd (hH.rep _ _ hn2).1 hnid
  -- what each block is behind the call
  have hcase : ∀ id b, appEff H (is.map (fun i => (i, none)) ++ [(nid, some (.vec ve vk ys false))]) id = some b → (id ≠ nid ∧ H id = some b ∧ ∀ (n i : Nat), is[n]? = some i → i ≠ id) ∨ (id = nid ∧ b = .vec ve vk ys false) := by
   intro id b hb'
   rcases appEff_cases _ _ _ _ hb' with ⟨h1, h2⟩ | h1
   ·refine .inl ⟨fun e => ?_, h2, fun n i hi he' => ?_⟩
    ·subst e; rw [hnoid] at h2; cases h2
    ·exact h1 (i, none) (by simp only [List.mem_append, List.mem_map]; exact .inl ⟨i, List.mem_of_getElem? hi, rfl⟩) he'
   ·simp only [List.mem_append, List.mem_map, Prod.mk.injEq, reduceCtorEq, and_false, exists_false, List.mem_singleton, Option.some.injEq, false_or] at h1
    exact .inr h1
  have hnewblk : ∀ g, blockOf (C'.σ j) = some g → M' g ∧ ∀ id b, H id = some b → (∀ (n i : Nat), is[n]? = some i → i ≠ id) → blockOf (C.σ id) ≠ some g := by
   intro g hg
   have hMg : M' g := hR'.ok.heap.own j _ hj g hg
   refine ⟨hMg, fun id b hid hni hgk => ?_⟩
   rcases hMg with ⟨n, i, hi, hik⟩ | hge
   ·obtain ⟨b', _, h3, _⟩ := lent n i hi
    exact hH.apart _ _ _ _ h3 hid (hni n i hi) g hik hgk
   ·have := ((hH.rep id b hid).2.lt g hgk).2; omega
  refine ⟨v, C2, by simp, hR'.below.mono (fun k' _ hk' => hM'M k' hk'), he, ?_, ?_, hR'.ok.fb, fun id hid => hid, fun b o hbo => ?_⟩
  ·cases hv0 with
   | own _ _ cc A hl' hm' hs => exact .own nid m cc A (.inr rfl) hm' (by rw [hσn]; exact hs)
  ·refine ⟨fun id b hb' => ?_, fun id b hb' g hg => ?_, fun id kk cs hb' => ?_, fun id id' b b' hb' hb'' hne2 g hg hg' => ?_⟩
   ·rcases hcase id b hb' with ⟨h0, h1, hni⟩ | ⟨rfl, rfl⟩
    ·obtain ⟨k1, k2⟩ := hH.rep id b h1
     refine ⟨.inl k1, k2.keep k1 he (fun g hg => ?_) (fun g o hg hgo => ?_)⟩
     ·refine hR'.below.block g (k2.lt g hg).2 ?_
      rintro (⟨n, i, hi, hik⟩ | hge)
      ·obtain ⟨b', _, h3, _⟩ := lent n i hi
       exact hH.apart _ _ _ _ h3 h1 (hni n i hi) g hik hg
      ·have := (k2.lt g hg).2; omega
     ·rcases hR'.new g o hgo with h6 | h6
      ·exact h6
      ·rcases h6 with ⟨n, i, hi, hik⟩ | hge
       ·obtain ⟨b', _, h3, _⟩ := lent n i hi
        exact absurd hg (hH.apart _ _ _ _ h3 h1 (hni n i hi) g hik)
       ·have := (k2.lt g hg).2; omega
    ·refine ⟨.inr rfl, ?_⟩
     simp only [BRep] at hjb ⊢
     rw [hσn]
     exact hjb
   ·rcases hcase id b hb' with ⟨h0, h1, hni⟩ | ⟨rfl, rfl⟩
    ·rw [hσ2 id (hH.rep _ _ h1).1] at hg
     exact hH.own id b h1 g hg
    ·rw [hσn] at hg
     exact hM'M _ (hnewblk g hg).1
   ·rcases hcase id _ hb' with ⟨h0, h1, hni⟩ | ⟨rfl, h3⟩
    ·rw [hσ2 id (hH.rep _ _ h1).1]
     exact hH.pin id kk cs h1
    ·cases h3
   ·rcases hcase id b hb' with ⟨h0, h1, hni⟩ | ⟨rfl, rfl⟩
    ·rw [hσ2 id (hH.rep _ _ h1).1] at hg
     rcases hcase id' b' hb'' with ⟨h0', h1', hni'⟩ | ⟨rfl, rfl⟩
     ·rw [hσ2 id' (hH.rep _ _ h1').1] at hg'
      exact hH.apart id id' b b' h1 h1' hne2 g hg hg'
     ·rw [hσn] at hg'
      exact (hnewblk g hg').2 id b h1 hni hg
    ·rcases hcase id' b' hb'' with ⟨h0', h1', hni'⟩ | ⟨rfl, rfl⟩
     ·rw [hσ2 id' (hH.rep _ _ h1').1] at hg'
      rw [hσn] at hg
      exact (hnewblk g hg).2 id' b' h1' hni' hg'
     ·exact hne2 rfl
  ·rcases hR'.new b o hbo with h2 | h2
   ·exact .inl h2
   ·exact .inr (hM'M b h2)
 cases e with
 | normal => exact fin hq
 | ret => exact fin hq
 | exit id => exact hq.elim
 | goto l => exact hq.elim
 | panic ch => exact hq.elim
 | outgrown => exact hq.elim
end
def fixN1 : D → D → D
 | .nils, _ => .nils
 | _, d => d
def fixN : D → D → D
 | .agg a, .agg b => .agg (List.zipWith fixN1 a b)
 | a, b => fixN1 a b
def nslD : List D → D
 | [] => .nils
 | xs => .sl xs
theorem nslD_nil : nslD [] = .nils := rfl
theorem nslD_cons {a : D} {l : List D} : nslD (a :: l) = .sl (a :: l) := rfl
section
variable {P : Program} {I : World → Prop}
theorem Rep.fixN1 {w : World} {C : Cx} {F : Nat → Nat → Prop} {v : Value} {a b : D} (h : Rep w C v a) (k : Rep w (cF F) v b) : Rep w (cF F) v (fixN1 a b) := by
 cases a
 case nils => cases h; exact .nils
 all_goals exact k
theorem Rep.fixN {w : World} {C : Cx} {F : Nat → Nat → Prop} {v : Value} {a b : D} (h : Rep w C v a) (k : Rep w (cF F) v b) : Rep w (cF F) v (fixN a b) := by
 cases a
 case agg ax =>
  cases b
  case agg bs =>
   cases h with
   | agg vs _ hl h1 hr =>
    generalize hx : Value.agg vs.toArray = x at k
    cases k with
    | agg vs' _ hl' h1' hr' =>
     have : vs = vs' := by simpa using hx
     subst this
     refine .agg vs _ (by rw [List.length_zipWith]; omega) h1 fun i v d hv hd => ?_
     rw [List.getElem?_zipWith] at hd
     cases ha : ax[i]? with
     | none => rw [ha] at hd; cases hd
     | some x =>
      cases hb : bs[i]? with
      | none => rw [ha, hb] at hd; cases hd
      | some y =>
       rw [ha, hb] at hd
       cases hd
       exact Rep.fixN1 (hr i v x hv ha) (hr' i v y hv hb)
  all_goals exact k
 case nils => cases h; cases b <;> exact .nils
 all_goals exact k
def retN2 (ds : List D) (x : Option (List D × Eff)) (r : D) : Prop := match x with
 | some p => mkRes (List.zipWith fixN ds p.1) = r
 | none => False
def retN1 (x : Option (List D)) (H : Nat → Option Blk) (r : D) : Prop := match x with
 | some ds => retN2 ds (purDs H ds) r
 | none => False
def retN (P : Program) (fn : Func) (r : D) : BPost := fun e S => match e with
 | .exit _ => False
 | .goto _ => False
 | _ => retN1 (resD P S fn.results.toList) S.heap r
theorem retN_n {fn : Func} {r : D} {S : AS} : retN P fn r .normal S = retN1 (resD P S fn.results.toList) S.heap r := rfl
theorem retN_r {fn : Func} {r : D} {S : AS} : retN P fn r .ret S = retN1 (resD P S fn.results.toList) S.heap r := rfl
end
end Go.Proofs.YtobglplholhkcaaGreatDoor

namespace Go.Proofs.YtobglplholhkcaaGreatDoor
open Go.RowKit
theorem om {α : Type} {f : α → D} {k : Nat} {l : List α} (h : ∀ x, (f x).okS = true ∧ (f x).cells.length = k) : (∀ y, y ∈ l.map f → y.okS = true ∧ y.cells.length = k) = True :=
 eq_true fun y hy => by obtain ⟨x, _, rfl⟩ := List.mem_map.1 hy; exact h x
theorem zz {A B : Prop} (h : B) (e : A = B := by (conv => lhs; (try simp -implicitDefEqProofs only [vt, vm, om, ↓atI_fold, forall_const, implies_true, false_implies, sevalprocAttr, dd, k, q]))) : A := e ▸ h
theorem zq {A B : Prop} (h : B) (e : A = B := by (conv => lhs; (try simp -implicitDefEqProofs only [vt, vq, vm, om, ↓atI_fold, forall_const, implies_true, false_implies, sevalprocAttr, dd, k, q]))) : A := e ▸ h
theorem fi {A : Prop} (e : A := by first | rfl | (simp [List.map_append, dd]; done) | (simp [List.map_append, dd, k]; done)) : A := e
theorem fz {A : Prop} (e : A := by first | rfl | (simp -implicitDefEqProofs only [vt, vm, om, ↓atI_fold, forall_const, implies_true, false_implies, sevalprocAttr, dd, k, q]; done) | (simp -implicitDefEqProofs only [vt, vm, om, ↓atI_fold, forall_const, implies_true, false_implies, sevalprocAttr, dd, k, q]; rfl) | (simp -implicitDefEqProofs only [vt, vm, om, ↓atI_fold, forall_const, implies_true, false_implies, sevalprocAttr, dd, k, q, List.map_append]; done)) : A := e
theorem fs {A : Prop} (e : A := by first | rfl | (simp; done)) : A := e
theorem fd {A : Prop} (e : A := by first | rfl | decide) : A := e
theorem fk {A : Prop} (e : A := by kernel_rfl) : A := e
theorem fr {A : Prop} (e : A := by simp -implicitDefEqProofs only [vt, vm, om, ↓atI_fold, forall_const, implies_true, false_implies, sevalprocAttr, retQ_r, retQ_n, rs, dd, k, q] <;> first | rfl | (simp [List.map_append, dd]; done) | (simp [List.map_append, dd, k]; done)) : A := e
theorem fp {A : Prop} (e : A := by simp -implicitDefEqProofs only [vt, vm, om, ↓atI_fold, forall_const, implies_true, false_implies, sevalprocAttr, vp, retP_r, retP_n, rs, dd, k, q] <;> first | exact ⟨rfl, rfl⟩ | (refine ⟨?_, ?_⟩ <;> first | rfl | (simp [List.map_append, dd]; done) | (simp [List.map_append, dd, k]; done))) : A := e
theorem fv {A : Prop} (e : A := by simp -implicitDefEqProofs only [vt, vm, om, ↓atI_fold, forall_const, implies_true, false_implies, sevalprocAttr, retV_r, retV_n, retV1, rs, dd, k, q] <;> first | rfl | exact ⟨rfl, rfl⟩ | (refine ⟨?_, ?_⟩ <;> first | rfl | (simp [List.map_append, dd]; done) | (simp [List.map_append, dd, k]; done)) | (simp [List.map_append, dd]; done) | (simp [List.map_append, dd, k]; done)) : A := e
theorem fn {A : Prop} (e : A := by simp -implicitDefEqProofs only [vt, vm, om, ↓atI_fold, forall_const, implies_true, false_implies, sevalprocAttr, retN_r, retN_n, retN1, retN2, fixN, fixN1, nslD_nil, nslD_cons, List.zipWith_cons_cons, List.zipWith_nil_left, rs, dd, k, q] <;> first | rfl | (simp [List.map_append, dd]; done) | (simp [List.map_append, dd, k]; done)) : A := e
def ro : List (Nat × Option Nat) → Nat → Option Nat
 | [], i => some i
 | (a, b) :: l, i => if i = a then b else ro l i
theorem wk {S : AS} {l : List (Nat × D)} {h : List (Nat × Blk)} {n : Nat} (r : List (Nat × Option Nat)) (he : wkEnv S (ro r) n l := by first | (simp -implicitDefEqProofs [kv, km, ro, dd, k]; done) | (simp -implicitDefEqProofs [kv, km, ro, dd, k, Nat.add_assoc]; done) | (simp -implicitDefEqProofs [kv, km, ro, dd, k]; omega)) (hh : wkHeap S (ro r) n h := by first | (simp -implicitDefEqProofs [kv, km, ro, dd, k]; done) | (simp -implicitDefEqProofs [kv, km, ro, dd, k, Nat.add_assoc]; done) | (simp -implicitDefEqProofs [kv, km, ro, dd, k]; omega)) : Wk S ⟨envL l, heapL h, n, S.nt⟩ := Wk.of (ro r) l h n he hh
section
variable {P : Program} {I : World → Prop} {S S' : AS} {k : List Kont} {Q : BPost} {o : Oper} {ops : Array Oper} {l : List Oper} {i : Nat} {f : FuncId} {ds : List D} {d : D} {eff : Eff} {x y : Code}
theorem xk (h : extB P I .normal S k Q) : runB P I .skip S k Q := rb_skip h
theorem xx {id : Nat} (h : extB P I (.exit id) S k Q) : runB P I (.exit id) S k Q := rb_exit h
theorem xr (h : extB P I .ret S k Q) : runB P I .ret S k Q := rb_ret h
theorem xs (h : runB P I x S (.seq y :: k) Q) : runB P I (.seq x y) S k Q := rb_seq h
theorem xb {id : Nat} (h : runB P I x S (.blk id :: k) Q) : runB P I (.block id x) S k Q := rb_block h
theorem es (h : runB P I y S k Q) : extB P I .normal S (.seq y :: k) Q := eb_seq h
theorem ee {id : Nat} (h : extB P I (.exit id) S k Q) : extB P I (.exit id) S (.seq y :: k) Q := eb_seq_e h
theorem er (h : extB P I .ret S k Q) : extB P I .ret S (.seq y :: k) Q := eb_seq_r h
theorem bn {id : Nat} (h : extB P I .normal S k Q) : extB P I .normal S (.blk id :: k) Q := eb_blk_n h
theorem bh {id : Nat} (h : extB P I .normal S k Q) : extB P I (.exit id) S (.blk id :: k) Q := eb_blk_hit h
theorem bm {id id' : Nat} (h : extB P I (.exit id') S k Q) (hne : id' ≠ id := by decide) : extB P I (.exit id') S (.blk id :: k) Q := eb_blk_miss hne h
theorem br {id : Nat} (h : extB P I .ret S k Q) : extB P I .ret S (.blk id :: k) Q := eb_blk_r h
theorem en {e : AExit} (h : Q e S) : extB P I e S [] Q := eb_nil h
theorem xt {c : Operand} (h : runB P I x S k Q) (hc : S.val c = .bool true := by first | rfl | exact congrArg D.bool k.1 | exact congrArg D.bool (congrArg Bool.not k.1) | (simp -implicitDefEqProofs only [vt, vm, om, dd, k]; done)) : runB P I (.cond c x y) S k Q := rb_true hc h
theorem xf {c : Operand} (h : runB P I y S k Q) (hc : S.val c = .bool false := by first | rfl | exact congrArg D.bool k.1 | exact congrArg D.bool (congrArg Bool.not k.1) | (simp -implicitDefEqProofs only [vt, vm, om, dd, k]; done)) : runB P I (.cond c x y) S k Q := rb_false hc h
theorem rz {id : Nat} (h : extB P I .normal S' k Q) (e : ∀ K R, rgL P I ops ops.toList 0 S K R = extB P I .normal S' K R := by (intro K R; conv => lhs; (try simp -implicitDefEqProofs only [vt, vm, om, ↓atI_fold, forall_const, implies_true, false_implies, sevalprocAttr, dd, k, q]))) : runB P I (.region id ops false) S k Q := rb_region (e k Q ▸ h)
theorem rd (hI : Stab I) {id : Nat} (h : extB P I .normal S' k Q) (e : ∀ K R, rgD P I ops ops.toList 0 S K R = extB P I .normal S' K R := by (intro K R; conv => lhs; (try simp -implicitDefEqProofs only [vt, vm, om, ↓atI_fold, forall_const, implies_true, false_implies, sevalprocAttr, dd, k, q]))) (hm : P.follows .mixedOrders = true := by kernel_rfl) (hok : drawOk ops = true := by kernel_rfl) : runB P I (.region id ops true) S k Q := rb_draw hI hm hok (e k Q ▸ h)
theorem rK {id : Nat} (h : ∀ K R, K = k → R = Q → rgL P I ops ops.toList 0 S K R) : runB P I (.region id ops false) S k Q := rb_region (h k Q rfl rfl)
theorem rD (hI : Stab I) {id : Nat} (h : ∀ K R, K = k → R = Q → rgD P I ops ops.toList 0 S K R) (hm : P.follows .mixedOrders = true := by kernel_rfl) (hok : drawOk ops = true := by kernel_rfl) : runB P I (.region id ops true) S k Q := rb_draw hI hm hok (h k Q rfl rfl)
theorem rP (hI : Stab I) {id : Nat} (h : ∀ K, K = k → rgP P I ops ops.toList 0 S [] K Q) (hm : P.follows .mixedOrders = true := by kernel_rfl) (hok : drawOk ops = true := by kernel_rfl) : runB P I (.region id ops true) S k Q := rb_drawP hI hm hok h
theorem hd (hk : rgD P I ops l (i + 1) (S.step o d eff) k Q) (he : effH ops S.next i eff = true := by kernel_rfl) : hD P I d eff o ops l i S k Q := hD.intro he hk
theorem cw {ds' ds0 : List D} {nid : Nat} (h : AFun P I f ds' d) (hk : rgL P I ops l i (S.step o d eff) k Q) (he : ds' = ds := by first | rfl | (simp [List.map_append, dd]; done) | (simp [List.map_append, dd, k]; done)) : cW P I f ds eff ds0 nid o ops l i S k Q := cW.intro h he hk
theorem cd {ds' ds0 : List D} {nid : Nat} (h : AFun P I f ds' d) (hk : rgD P I ops l (i + 1) (S.step o d eff) k Q) (he : ds' = ds := by first | rfl | (simp [List.map_append, dd]; done) | (simp [List.map_append, dd, k]; done)) (hf : effH ops S.next i eff = true := by kernel_rfl) : cD' P I f ds eff ds0 nid o ops l i S k Q := cD'.intro h he hf hk
theorem AFun.en (hI : Stab I) {r : D} {fn : Func} {nt : Nat} {c : Code} (hf : P.funcs[f]? = some fn) (hn : fn.ntmps = nt) (h : runB P I c ⟨argL ds, heapL [], 0, nt⟩ [] (retQ P fn r)) (hb : fn.body = some c := by exact rfl) (hnm : decide (fn.name ≠ "runtime.NumGoroutine") = true := by kernel_rfl) (hl : Nat.ble ds.length nt = true := by kernel_rfl) (hok : codeOk fn.ntmps c = true := by kernel_rfl) : AFun P I f ds r :=
 AFun.enterB hI hf hb (of_decide_eq_true hnm) (by subst hn; exact Nat.le_of_ble_eq_true hl) hok (by subst hn; exact h)
end
section
variable {P : Prop} {α β : Type} {z : α}
theorem iK {b : Bool} {x y : Option α} (k : P) (h : (if b = true then x else y) = some z) : ((b = true ∧ P) ∧ x = some z) ∨ ((b = false ∧ P) ∧ y = some z) := by
 rcases ite_or h with ⟨h1, h2⟩ | ⟨h1, h2⟩
 ·exact .inl ⟨⟨h1, k⟩, h2⟩
 ·exact .inr ⟨⟨h1, k⟩, h2⟩
theorem bs {o : Option β} {F : β → Option α} (h : o.bind F = some z) : ∃ x, o = some x ∧ F x = some z := bind_some h
theorem bK {o : Option β} {F : β → Option α} (q : P) (h : o.bind F = some z) : ∃ x, (o = some x ∧ P) ∧ F x = some z := by
 obtain ⟨x, h1, h2⟩ := bind_some h
 exact ⟨x, ⟨h1, q⟩, h2⟩
theorem oK {p : Prop} [Decidable p] {x : Option α} (q : P) (h : (if p then x else none) = some z) : (p ∧ P) ∧ x = some z := by
 obtain ⟨h1, h2⟩ := ite_on h
 exact ⟨⟨h1, q⟩, h2⟩
theorem oN {l : List β} {n : Int} {F : β → Option α} (q : P) (h : (atI l n).bind F = some z) : ∃ x, ((0 ≤ n ∧ n < (l.length : Int) ∧ ∀ {γ : Type} (f : β → γ), (l.map f)[n.toNat]? = some (f x)) ∧ P) ∧ F x = some z := by
 obtain ⟨x, h1, h2⟩ := bind_some h
 exact ⟨x, ⟨atI_own h1, q⟩, h2⟩
end
end Go.Proofs.YtobglplholhkcaaGreatDoor

namespace Go.Proofs.YtobglplholhkcaaGreatDoor
open Go.RowKit
def pureD : D → Bool
 | .sl _ | .nils | .int _ _ | .bool _ | .str _ => true
 | _ => false
theorem pureD_cells {x : D} (h : pureD x = true) : x.cells = [x] := by
 cases x <;> first | rfl | (simp [pureD] at h)
theorem flat_pure : ∀ (l : List D), (∀ x ∈ l, x.cells = [x]) → l.flatMap D.cells = l
 | [], _ => rfl
 | x :: l, h => by
  rw [List.flatMap_cons, h x (by simp), flat_pure l (fun y hy => h y (by simp [hy]))]
  rfl
theorem Rep.pureF {w : World} {C : Cx} {v : Value} {x : D} (h : Rep w C v x) (hp : pureD x = true) : Rep w (cF C.F) v x := by
 cases x with
 | sl xs => exact h.slF
 | nils => cases h; exact .nils
 | int k n => cases h; exact .int _ _ (by assumption)
 | bool b => cases h; exact .bool _
 | str s => cases h; exact .str _ (by assumption)
 | _ => simp [pureD] at hp
theorem Wk.trans {S S' S'' : AS} (h : Wk S S') (k : Wk S' S'') : Wk S S'' :=
 ⟨k.1.trans h.1, fun I G C a w hR => by
  obtain ⟨C', h'⟩ := h.2 I G C a w hR
  exact k.2 I G C' a w h'⟩
theorem Wk.close {S : AS} {id j n i : Nat} {e e2 : TypeId} {k2 : Nat} {xs ys : List D} {p : Bool} (h1 : S.heap id = some (.mat e 1 (xs.set i (.own j n)))) (hi : i < xs.length) (h2 : S.heap j = some (.vec e2 k2 ys p)) (hn : ys.length = n) (hj : j ≠ id) (hp : ∀ x ∈ xs, pureD x = true) :
  Wk S ⟨S.env, upd (upd S.heap j (some (.vec e2 k2 ys true))) id (some (.vec e 1 (xs.set i (.sl ys)) false)), S.next, S.nt⟩ := by
 subst hn
 refine ⟨rfl, fun I G C a w hR => ?_⟩
 have hH := hR.ok.heap
 obtain ⟨C', P1, hsl⟩ := pub_vec hH hR.ok.fb h2
 have hid : upd S.heap j (some (.vec e2 k2 ys true)) id = some (.mat e 1 (xs.set i (.own j ys.length))) := by
  simp [upd, Ne.symm hj, h1]
 obtain ⟨_, _, _, _, _, n4⟩ := P1.ok.rep id _ hid
 obtain ⟨_, vals, q1, q2, q3, q4⟩ := hH.rep id _ h1
 have hcell : ∀ x ∈ xs, x.cells = [x] := fun x hx => pureD_cells (hp x hx)
 have c1 : ∀ x ∈ xs.set i (.own j ys.length), x.cells = [x] := fun x hx => by
  rcases List.mem_or_eq_of_mem_set hx with h | rfl
  ·exact hcell x h
  ·rfl
 have c2 : ∀ x ∈ xs.set i (.sl ys), x.cells = [x] := fun x hx => by
  rcases List.mem_or_eq_of_mem_set hx with h | rfl
  ·exact hcell x h
  ·rfl
 rw [flat_pure _ c1] at q3
 have hnew : BRep C' w 0 id (.vec e 1 (xs.set i (.sl ys)) false) := by
  refine ⟨vals, ?_, fun x hx => by rw [c2 x hx]; rfl, ?_, fun g hg => ⟨fun o ho => absurd ho (n4 g hg o), fun h => by cases h⟩⟩
  ·rw [P1.σ, List.length_set]
   rw [List.length_set] at q1
   exact q1
  ·rw [flat_pure _ c2]
   refine ⟨by rw [List.length_set]; have := q3.len; rw [List.length_set] at this; exact this, q3.one, fun m v d hv hd => ?_⟩
   rw [List.getElem?_set] at hd
   by_cases hm : i = m
   ·subst hm
    rw [if_pos rfl, if_pos hi] at hd
    injection hd with hd
    subst hd
    refine hsl v (q3.rep i v _ hv ?_)
    rw [List.getElem?_set, if_pos rfl, if_pos hi]
   ·rw [if_neg hm] at hd
    have hr := q3.rep m v d hv (by rw [List.getElem?_set, if_neg hm]; exact hd)
    exact (hr.pureF (hp d (List.mem_of_getElem? hd))).ext P1.ext.cF
 have hok := HOK.change P1.ok hid (Ext.refl C' w) (fun _ _ _ => rfl) (fun k cs h => by cases h) hnew
 refine ⟨C', ⟨⟨fun t => (hR.ok.env t).ext P1.ext, hok, P1.fb, hR.ok.base⟩, hR.inv, hR.below, fun b o hF => (P1.new b o hF).elim (hR.new b o) .inr, hR.ext.trans P1.ext, hR.defers, hR.size, fun id hl => hR.live id (by rw [← P1.live]; exact hl)⟩⟩
theorem mat_at {α : Type} {f : α → D} {L : List α} {i : Nat} {x : D} (h : i < L.length) : ((L.map f).set i x)[i]? = some x := by
 rw [List.getElem?_set, if_pos rfl, if_pos (by simpa using h)]
theorem mat_ne {α : Type} {f : α → D} {L : List α} {i m : Nat} {x y : D} (h : (L.map f)[m]? = some y) (hne : i ≠ m) : ((L.map f).set i x)[m]? = some y := by
 rw [List.getElem?_set, if_neg hne]; exact h
@[simp] theorem renC_sl {r : Nat → Option Nat} {l : List D} : D.renC r (.sl l) = .sl l := rfl
@[simp] theorem renC_own {r : Nat → Option Nat} {i n : Nat} : D.renC r (.own i n) = D.ren1 r (.own i n) := rfl
@[simp] theorem renC_map {α : Type} {f : α → D} {r : Nat → Option Nat} {L : List α} (h : ∀ x, (f x).renC r = f x) : (L.map f).map (D.renC r) = L.map f := by
 rw [List.map_map]
 exact List.map_congr_left fun x _ => h x
@[simp] theorem all_mat {α : Type} {f : α → D} {L : List α} {i : Nat} {x : D} {p : D → Bool} (h : ∀ y, (f y).cells.all p = true) (hx : x.cells.all p = true) : (((L.map f).set i x).flatMap D.cells).all p = true := by
 rw [List.all_eq_true]
 intro d hd
 obtain ⟨z, hz, hdz⟩ := List.mem_flatMap.1 hd
 rcases List.mem_or_eq_of_mem_set hz with hz | hz
 ·obtain ⟨y, _, rfl⟩ := List.mem_map.1 hz
  exact List.all_eq_true.1 (h y) d hdz
 ·subst hz
  exact List.all_eq_true.1 hx d hdz
theorem pure_map {α : Type} {f : α → D} {L : List α} (h : ∀ x, pureD (f x) = true) : ∀ x ∈ L.map f, pureD x = true := fun x hx => by
 obtain ⟨y, _, rfl⟩ := List.mem_map.1 hx
 exact h y
theorem Wk.closeM {S : AS} {id j n i : Nat} {e e2 : TypeId} {k2 : Nat} {α : Type} {f : α → D} {L : List α} {ys : List D} {p : Bool} (h1 : S.heap id = some (.mat e 1 ((L.map f).set i (.own j n)))) (hi : i < L.length) (h2 : S.heap j = some (.vec e2 k2 ys p)) (hn : ys.length = n) (hj : j ≠ id) (hp : ∀ x, pureD (f x) = true) :
  Wk S ⟨S.env, upd (upd S.heap j (some (.vec e2 k2 ys true))) id (some (.vec e 1 ((L.map f).set i (.sl ys)) false)), S.next, S.nt⟩ := Wk.close h1 (by simpa using hi) h2 hn hj (pure_map hp)
theorem CallOK.ro {P : Program} {I : World → Prop} {f : FuncId} {ds : List D} {H : Nat → Option Blk} {nid : Nat} {d : D} {eff : Eff} (h : CallOK P I f ds H nid d eff) (he : appEff H eff = H) : CallOK P I f ds H nid d [] := by
 unfold CallOK at h ⊢
 rw [he] at h
 exact h
theorem ro1 {H : Nat → Option Blk} {i : Nat} {b : Blk} (h : H i = some b) : appEff H [(i, some b)] = H := by
 funext j
 simp only [appEff, upd]
 split
 ·rename_i e; rw [e, h]
 ·rfl
def emD {α : Type} (f : α → D) (L : List α) (N : Nat) : List D := L.map f ++ replL (N - L.length) .nils
theorem emD_0 {α : Type} (f : α → D) (N : Nat) : emD f [] N = replL N .nils := rfl
attribute [simp] emD_0
@[simp] theorem all_emD {α : Type} {f : α → D} {L : List α} {N i : Nat} {x : D} {p : D → Bool} (h : ∀ y, (f y).cells.all p = true) (h0 : p .nils = true) (hx : x.cells.all p = true) : (((emD f L N).set i x).flatMap D.cells).all p = true := by
 rw [List.all_eq_true]
 intro d hd
 obtain ⟨z, hz, hdz⟩ := List.mem_flatMap.1 hd
 rcases List.mem_or_eq_of_mem_set hz with hz | hz
 ·unfold emD replL at hz
  rcases List.mem_append.1 hz with hz | hz
  ·obtain ⟨y, _, rfl⟩ := List.mem_map.1 hz
   exact List.all_eq_true.1 (h y) d hdz
  ·rw [List.eq_of_mem_replicate hz] at hdz
   simp [D.cells] at hdz
   subst hdz
   exact h0
 ·subst hz
  exact List.all_eq_true.1 hx d hdz
@[simp] theorem renC_emD {α : Type} {f : α → D} {r : Nat → Option Nat} {L : List α} {N : Nat} (h : ∀ x, (f x).renC r = f x) : (emD f L N).map (D.renC r) = emD f L N := by
 unfold emD replL
 rw [List.map_append, renC_map h, List.map_replicate]
 rfl
theorem mat_at0 {α : Type} {f : α → D} {L : List α} {i : Int} {m : Nat} {x : D} (h0 : i = (m : Int)) (h : m < L.length) : ((L.map f).set i.toNat x)[m]? = some x := by
 rw [List.getElem?_set, if_pos (by omega), if_pos (by rw [List.length_map]; omega)]
@[simp] theorem renC_comp {α : Type} {f : α → D} {r : Nat → Option Nat} {L : List α} (h : ∀ x, (f x).renC r = f x) : L.map (D.renC r ∘ f) = L.map f := List.map_congr_left fun x _ => h x
@[simp high] theorem all_matB {α : Type} {f : α → D} {L : List α} {i : Nat} {x : D} {p : D → Bool} (h : ∀ y, (f y).cells.all p = true) (hx : x.cells.all p = true) : (((L.map f).set i x).flatMap D.cells).all p = true := by
 rw [List.all_eq_true]
 intro d hd
 obtain ⟨z, hz, hdz⟩ := List.mem_flatMap.1 hd
 rcases List.mem_or_eq_of_mem_set hz with hz | hz
 ·obtain ⟨y, _, rfl⟩ := List.mem_map.1 hz
  exact List.all_eq_true.1 (h y) d hdz
 ·subst hz
  exact List.all_eq_true.1 hx d hdz
@[simp high] theorem all_emB {α : Type} {f : α → D} {L : List α} {N i : Nat} {x : D} {p : D → Bool} (h : ∀ y, (f y).cells.all p = true) (h0 : p .nils = true) (hx : x.cells.all p = true) : (((emD f L N).set i x).flatMap D.cells).all p = true := all_emD h h0 hx
@[simp] theorem cells_sl (l : List D) : (D.sl l).cells = [.sl l] := rfl
@[simp] theorem cells_own (i n : Nat) : (D.own i n).cells = [.own i n] := rfl
def rowB : Option Value → TypeId → Nat → List D → Blk
 | none, e, k, xs => .vec e k xs false
 | some v, e, k, xs => .lrow v e k xs
def retI1 (j : Nat) (v : Value) (e : TypeId) (k : Nat) (ys : List D) (r : D) (H : Nat → Option Blk) : Option (List D) → Prop
 | some rs => match purDs H rs with
  | some (rs', ep) => mkRes rs' = r ∧ appEff H ep j = some (.lrow v e k ys)
  | none => False
 | none => False
def retI (P : Program) (fn : Func) (v : Value) (e : TypeId) (k : Nat) (ys : List D) (r : D) : BPost := fun x S => match x with
 | .exit _ => False
 | .goto _ => False
 | _ => ∃ j, retI1 j v e k ys r S.heap (resD P S fn.results.toList)
section
variable {P : Program} {I : World → Prop}
theorem BRep.rowB {C : Cx} {w : World} {i : Nat} {pn : Option Value} {e : TypeId} {k : Nat} {xs : List D} (h : BRep C w 0 i (rowB pn e k xs)) : BRep C w 0 i (.vec e k xs false) := by
 cases pn with
 | none => exact h
 | some v => exact h.2
theorem CallOK.inrow (hstab : Stab I) {f : FuncId} {fn : Func} {c : Code} {i0 : Nat} {pn : Option Value} {e : TypeId} {k : Nat} {xs ys : List D} {ds0 ds : List D} {H : Nat → Option Blk} {nid : Nat} {r : D}
  (hf : P.funcs[f]? = some fn) (hb : fn.body = some c) (hnm : fn.name ≠ "runtime.NumGoroutine") (hn : ds0.length ≤ fn.ntmps) (hok : codeOk fn.ntmps c = true)
  (hds : ds0.map (D.ren (rnR [i0])) = ds) (hdo : ds0.all (D.idOk (rnR [i0]) 1) = true)
  (hb0 : H i0 = some (rowB pn e k xs))
  (h : ∀ v : Value, runB P I c ⟨argL ds0, heapL [(0, .lrow v e k xs)], 1, fn.ntmps⟩ [] (retI P fn v e k ys r)) : CallOK P I f ds H nid r [(i0, some (rowB pn e k ys))] := by
 refine ⟨by simp [enterable, hf, hb, hnm], fun iw w C B args hI hbl hM hH hF hbase hnid hal hrep => ?_⟩
 refine calls_of_wp hf hb ?_
 subst hds
 obtain ⟨hl0, hB0⟩ := hH.rep i0 _ hb0
 let M' : Nat → Prop := fun g => blockOf (C.σ i0) = some g ∨ w.heap.size ≤ g
 let C0 : Cx := C.ren (rnR [i0]) 1
 let B' : Bx := ⟨M', fun p => C0.σ p⟩
 have hM'M : ∀ g, M' g → B.M g := by
  rintro g (hg | hg)
  ·exact hH.own _ _ hb0 g hg
  ·exact hbase g hg
 let G : Gh := ⟨iw, w, C.F, B', fun g hg => hM g (hM'M g hg), hbl⟩
 have hσ0 : C0.σ 0 = C.σ i0 := by simp [C0, Cx.ren, rnR]
 have hget : ∀ id b, heapL [(0, Blk.lrow (C.σ i0) e k xs)] id = some b → id = 0 ∧ b = .lrow (C.σ i0) e k xs := by
  intro id b hb'
  simp only [heapL, look] at hb'
  split at hb'
  ·rename_i hid; exact ⟨hid, by injection hb' with hb'; exact hb'.symm⟩
  ·cases hb'
 have hheap0 : HOK C0 w B' (heapL [(0, Blk.lrow (C.σ i0) e k xs)]) := by
  refine ⟨fun id b hb' => ?_, fun id b hb' g hg => ?_, fun id kk cs hb' => ?_, fun id id' b b' hb' hb'' hne2 g hg hg' => ?_⟩
  ·obtain ⟨rfl, rfl⟩ := hget id b hb'
   refine ⟨⟨Nat.zero_lt_one, hl0⟩, hσ0, ?_⟩
   have := hB0.rowB
   simp only [BRep] at this ⊢
   rw [hσ0]
   exact this
  ·obtain ⟨rfl, rfl⟩ := hget id b hb'
   rw [hσ0] at hg
   exact .inl hg
  ·obtain ⟨_, h3⟩ := hget id _ hb'
   cases h3
  ·obtain ⟨rfl, _⟩ := hget id b hb'
   obtain ⟨rfl, _⟩ := hget id' b' hb''
   exact absurd rfl hne2
 have hR : Rel I G (fun id => id < 1) ⟨argL ds0, heapL [(0, .lrow (C.σ i0) e k xs)], 1, fn.ntmps⟩ C0 { tmps := args.toArray ++ Array.replicate (fn.ntmps - args.toArray.size) Go.undef, defers := [] } w := by
  refine ⟨⟨fun t => ?_, hheap0, hF, fun g hg => .inr hg⟩, hI, BelM.refl _ _, fun b o h => .inl h, ⟨fun _ _ h => h, fun _ _ _ => rfl, fun _ h => h.elim, fun _ h => h.elim⟩, rfl, ?_, fun id h => h.1⟩
  ·simp only [argL_getD]
   by_cases ht : t < ds0.length
   ·rw [show ds0.getD t .any = ds0[t] by simp [List.getD, ht]]
    have ha : t < args.length := by simpa [hal] using ht
    have : (args.toArray ++ Array.replicate (fn.ntmps - args.toArray.size) Go.undef).getD t Go.undef = args[t] := by
     simp [Array.getD_eq_getD_getElem?, Array.getElem?_append, ha]
    rw [this]
    have := hrep t _ (ds0[t].ren (rnR [i0])) (List.getElem?_eq_getElem ha) (by simp [ht])
    exact this.ren (List.all_eq_true.1 hdo _ (List.getElem_mem ht))
   ·rw [show ds0.getD t .any = .any by simp [List.getD, ht]]
    exact .any _
  ·simp only [List.length_map] at hal
   simp; omega
 refine wp_mono (bwp_sound hstab c _ _ G _ _ w hok (by have h := h (C.σ i0); unfold runB goB at h; exact h) hR) ?_
 rintro ex a' w' ⟨S', C', hnt, hR', hq⟩
 have fin : (∃ j, retI1 j (C.σ i0) e k ys r S'.heap (resD P S' fn.results.toList)) → a'.defers = [] ∧ ∃ v, (results fn a'.tmps).run P w' = .ok v w' ∧ ∃ v' C2, Ending.returned v = .returned v' ∧ BelM B.M w w' ∧ Ext C w C2 w' ∧ Rep w' C2 v' r ∧ HOK C2 w' B (appEff H [(i0, some (Go.Proofs.YtobglplholhkcaaGreatDoor.rowB pn e k ys))]) ∧ FB C2 w' ∧ (∀ id, C2.live id → C.live id ∨ id = nid) ∧ ∀ b o, C2.F b o → C.F b o ∨ B.M b := by
  rintro ⟨j, hp⟩
  refine ⟨hR'.defers, ?_⟩
  cases h1 : resD P S' fn.results.toList with
  | none => rw [h1] at hp; exact hp.elim
  | some rs =>
  rw [h1] at hp
  obtain ⟨vs, hr, hl, hv⟩ := resD_run (P := P) (G := G) hR'.ok _ _ h1
  have hrun : (results fn a'.tmps).run P w' = .ok (if h : vs.toArray.size = 1 then vs.toArray[0] else .tuple vs.toArray) w' := by
   rw [results_eq, Array.mapM_eq_mapM_toList]
   simp only [Sem.run_bind, Sem.run_map, hr]
   rfl
  refine ⟨_, hrun, ?_⟩
  simp only [retI1] at hp
  cases h2 : purDs S'.heap rs with
  | none => rw [h2] at hp; exact hp.elim
  | some p =>
  obtain ⟨rs', ep⟩ := p
  rw [h2] at hp
  obtain ⟨h3, hj⟩ := hp
  obtain ⟨C1, hP, hl', hv'⟩ := purDs_sound (w := w') (B := B') rs vs C' S'.heap rs' ep hR'.ok.heap hR'.ok.fb hl hv h2
  obtain ⟨hjl, hjσ, hjb⟩ := hP.ok.rep j _ hj
  let C2 : Cx := ⟨C1.F, C.σ, C.live⟩
  have he : Ext C w C2 w' := ⟨fun b o h => hP.ext.F _ _ (hR'.ext.F _ _ h), fun b o h => hR'.ext.blk b o h, fun _ h => h, fun _ _ => rfl⟩
  have hnew : ∀ b o, C1.F b o → C.F b o ∨ M' b := fun b o hbo => (hP.new b o hbo).elim (hR'.new b o) .inr
  have hcase : ∀ id b, appEff H [(i0, some (Go.Proofs.YtobglplholhkcaaGreatDoor.rowB pn e k ys))] id = some b → (id = i0 ∧ b = Go.Proofs.YtobglplholhkcaaGreatDoor.rowB pn e k ys) ∨ (id ≠ i0 ∧ H id = some b) := by
   intro id b hb'
   simp only [appEff, upd] at hb'
   split at hb'
   ·rename_i hid; injection hb' with hb'; exact .inl ⟨hid, hb'.symm⟩
   ·rename_i hid; exact .inr ⟨hid, hb'⟩
  refine ⟨_, C2, rfl, hR'.below.mono (fun k' _ hk' => hM'M k' hk'), he, ?_, ?_, hP.fb, fun id hid => .inl hid, fun b o hbo => (hnew b o hbo).imp id (hM'M b)⟩
  ·rw [← h3]
   exact mkRes_rep hl' (fun i v d hi hd => (hv' i v d hi hd).1.ext (C' := C2) ⟨fun _ _ h => h, fun _ _ _ => rfl, fun _ h => h.elim, fun _ h => h.elim⟩)
  ·have hvec : BRep C2 w' 0 i0 (.vec e k ys false) := by
    simp only [BRep] at hjb ⊢
    rw [hjσ] at hjb
    exact hjb
   refine ⟨fun id b hb' => ?_, fun id b hb' g hg => ?_, fun id kk cs hb' => ?_, fun id id' b b' hb' hb'' hne2 g hg hg' => ?_⟩
   ·rcases hcase id b hb' with ⟨rfl, rfl⟩ | ⟨hid, h4⟩
    ·refine ⟨hl0, ?_⟩
     cases pn with
     | none => exact hvec
     | some u => exact ⟨hB0.1, hvec⟩
    ·obtain ⟨k1, k2⟩ := hH.rep id b h4
     refine ⟨k1, k2.keep k1 he (fun g hg => ?_) (fun g o hg hgo => ?_)⟩
     ·refine hR'.below.block g (k2.lt g hg).2 ?_
      rintro (hg2 | hge)
      ·exact hH.apart id i0 _ _ h4 hb0 hid g hg hg2
      ·have := (k2.lt g hg).2; omega
     ·rcases hnew g o hgo with h6 | hg2 | hge
      ·exact h6
      ·exact absurd hg2 (hH.apart id i0 _ _ h4 hb0 hid g hg)
      ·have := (k2.lt g hg).2; omega
   ·rcases hcase id b hb' with ⟨rfl, rfl⟩ | ⟨hid, h4⟩
    ·exact hH.own _ _ hb0 g hg
    ·exact hH.own _ _ h4 g hg
   ·rcases hcase id _ hb' with ⟨rfl, h4⟩ | ⟨hid, h4⟩
    ·cases pn <;> cases h4
    ·exact hH.pin id kk cs h4
   ·have hx : ∀ id b, appEff H [(i0, some (Go.Proofs.YtobglplholhkcaaGreatDoor.rowB pn e k ys))] id = some b → ∃ b', H id = some b' := by
     intro id b hb'
     rcases hcase id b hb' with ⟨rfl, _⟩ | ⟨_, h4⟩
     ·exact ⟨_, hb0⟩
     ·exact ⟨_, h4⟩
    obtain ⟨b1, e1⟩ := hx id b hb'
    obtain ⟨b2, e2⟩ := hx id' b' hb''
    exact hH.apart _ _ _ _ e1 e2 hne2 g hg hg'
 cases ex with
 | normal => exact fin hq
 | ret => exact fin hq
 | exit id => exact hq.elim
 | goto l => exact hq.elim
 | panic ch => exact hq.elim
 | outgrown => exact hq.elim
end
section
variable {w : World} {C : Cx} {B : Bx} {H : Nat → Option Blk} {j nid : Nat}
def keep1 (j nid : Nat) (H : Nat → Option Blk) : D → Option (D × Eff)
 | .own id n => if id = j then some (.own nid n, []) else pur1 H (.own id n)
 | d => pur1 H d
def keepL (j nid : Nat) (H : Nat → Option Blk) : List D → Option (List D × Eff)
 | [] => some ([], [])
 | d :: ds => match keep1 j nid H d with
  | some (d', e) => match keepL j nid (appEff H e) ds with
   | some (ds', e') => some (d' :: ds', e ++ e')
   | none => none
  | none => none
def keepD (j nid : Nat) (H : Nat → Option Blk) : D → Option (D × Eff)
 | .agg ds => match keepL j nid H ds with
  | some (ds', e) => some (.agg ds', e)
  | none => none
 | d => keep1 j nid H d
def keepDs (j nid : Nat) (H : Nat → Option Blk) : List D → Option (List D × Eff)
 | [] => some ([], [])
 | d :: ds => match keepD j nid H d with
  | some (d', e) => match keepDs j nid (appEff H e) ds with
   | some (ds', e') => some (d' :: ds', e ++ e')
   | none => none
  | none => none
def RepK (j nid : Nat) (C : Cx) (w : World) (v : Value) (d : D) : Prop := ∀ C2 : Cx, (∀ b o, C.F b o → C2.F b o) → C2.live nid → C2.σ nid = C.σ j → Rep w C2 v d
theorem RepK.pub {C' : Cx} {H' : Nat → Option Blk} {v : Value} {d : D} (h : RepK j nid C w v d) (p : Pub C w B H C' H') : RepK j nid C' w v d :=
 fun C2 h1 h2 h3 => h C2 (fun b o hb => h1 b o (p.ext.F b o hb)) h2 (h3.trans (by rw [p.σ]))
theorem keep1_sound {d d' : D} {ep : Eff} {v : Value} (hH : HOK C w B H) (hF : FB C w) (h : keep1 j nid H d = some (d', ep)) (hv : Rep w C v d) : ∃ C', Pub C w B H C' (appEff H ep) ∧ RepK j nid C' w v d' := by
 have pure : ∀ e : D, pur1 H e = some (d', ep) → Rep w C v e → ∃ C', Pub C w B H C' (appEff H ep) ∧ RepK j nid C' w v d' := by
  intro e he hr
  obtain ⟨C', p1, p2, _⟩ := pur1_sound hH hF he hr
  exact ⟨C', p1, fun C2 h1 _ _ => p2.ext ⟨h1, fun _ _ _ => rfl, fun _ h => h.elim, fun _ h => h.elim⟩⟩
 unfold keep1 at h
 split at h
 ·rename_i id n
  split at h
  ·rename_i hid
   subst hid
   simp at h
   obtain ⟨rfl, rfl⟩ := h
   refine ⟨C, Pub.refl hH hF, fun C2 _ h2 h3 => ?_⟩
   cases hv with
   | own _ _ c A hl hm hs => exact .own nid n c A h2 hm (h3.trans hs)
  ·exact pure _ h hv
 ·exact pure _ h hv
theorem keepL_sound : ∀ (ds : List D) (vs : List Value) (C : Cx) (H : Nat → Option Blk) (ds' : List D) (ep : Eff), HOK C w B H → FB C w → vs.length = ds.length → (∀ (i : Nat) v d, vs[i]? = some v → ds[i]? = some d → Rep w C v d) → keepL j nid H ds = some (ds', ep) →
  ∃ C', Pub C w B H C' (appEff H ep) ∧ vs.length = ds'.length ∧ ∀ (i : Nat) v d, vs[i]? = some v → ds'[i]? = some d → RepK j nid C' w v d := by
 intro ds
 induction ds with
 | nil =>
  intro vs C H ds' ep hH hF hl _ h
  simp [keepL] at h
  obtain ⟨rfl, rfl⟩ := h
  exact ⟨C, Pub.refl hH hF, hl, by simp⟩
 | cons d ds ih =>
  intro vs C H ds' ep hH hF hl hR h
  cases vs with
  | nil => simp at hl
  | cons v vs =>
   simp only [keepL] at h
   cases h1 : keep1 j nid H d with
   | none => rw [h1] at h; simp at h
   | some p =>
    obtain ⟨d', e1⟩ := p
    rw [h1] at h
    simp only at h
    cases h2 : keepL j nid (appEff H e1) ds with
    | none => rw [h2] at h; simp at h
    | some q =>
     obtain ⟨ds'', e2⟩ := q
     rw [h2] at h
     simp at h
     obtain ⟨rfl, rfl⟩ := h
     obtain ⟨C1, p1, p2⟩ := keep1_sound hH hF h1 (hR 0 v d rfl rfl)
     obtain ⟨C2, p3, p4, p5⟩ := ih vs C1 _ _ _ p1.ok p1.fb (by simpa using hl) (fun i u x hu hx => (hR (i + 1) u x (by simpa using hu) (by simpa using hx)).ext p1.ext) h2
     rw [appEff_append]
     refine ⟨C2, p1.trans p3, by simpa using p4, fun i u x hu hx => ?_⟩
     cases i with
     | zero => simp at hu hx; subst hu hx; exact p2.pub p3
     | succ i => exact p5 i u x (by simpa using hu) (by simpa using hx)
theorem keepD_sound {d d' : D} {ep : Eff} {v : Value} (hH : HOK C w B H) (hF : FB C w) (h : keepD j nid H d = some (d', ep)) (hv : Rep w C v d) : ∃ C', Pub C w B H C' (appEff H ep) ∧ RepK j nid C' w v d' := by
 unfold keepD at h
 split at h
 ·rename_i ds
  cases h1 : keepL j nid H ds with
  | none => rw [h1] at h; simp at h
  | some p =>
   obtain ⟨ds', e1⟩ := p
   rw [h1] at h
   simp at h
   obtain ⟨rfl, rfl⟩ := h
   cases hv with
   | agg vs _ hl h1' hr =>
    obtain ⟨C', p1, p2, p3⟩ := keepL_sound ds vs C H ds' e1 hH hF hl hr h1
    exact ⟨C', p1, fun C2 a b c => .agg vs ds' p2 h1' fun i u x hu hx => p3 i u x hu hx C2 a b c⟩
 ·exact keep1_sound hH hF h hv
theorem keepDs_sound : ∀ (ds : List D) (vs : List Value) (C : Cx) (H : Nat → Option Blk) (ds' : List D) (ep : Eff), HOK C w B H → FB C w → vs.length = ds.length → (∀ (i : Nat) v d, vs[i]? = some v → ds[i]? = some d → Rep w C v d) → keepDs j nid H ds = some (ds', ep) →
  ∃ C', Pub C w B H C' (appEff H ep) ∧ vs.length = ds'.length ∧ ∀ (i : Nat) v d, vs[i]? = some v → ds'[i]? = some d → RepK j nid C' w v d := by
 intro ds
 induction ds with
 | nil =>
  intro vs C H ds' ep hH hF hl _ h
  simp [keepDs] at h
  obtain ⟨rfl, rfl⟩ := h
  exact ⟨C, Pub.refl hH hF, hl, by simp⟩
 | cons d ds ih =>
  intro vs C H ds' ep hH hF hl hR h
  cases vs with
  | nil => simp at hl
  | cons v vs =>
   simp only [keepDs] at h
   cases h1 : keepD j nid H d with
   | none => rw [h1] at h; simp at h
   | some p =>
    obtain ⟨d', e1⟩ := p
    rw [h1] at h
    simp only at h
    cases h2 : keepDs j nid (appEff H e1) ds with
    | none => rw [h2] at h; simp at h
    | some q =>
     obtain ⟨ds'', e2⟩ := q
     rw [h2] at h
     simp at h
     obtain ⟨rfl, rfl⟩ := h
     obtain ⟨C1, p1, p2⟩ := keepD_sound hH hF h1 (hR 0 v d rfl rfl)
     obtain ⟨C2, p3, p4, p5⟩ := ih vs C1 _ _ _ p1.ok p1.fb (by simpa using hl) (fun i u x hu hx => (hR (i + 1) u x (by simpa using hu) (by simpa using hx)).ext p1.ext) h2
     rw [appEff_append]
     refine ⟨C2, p1.trans p3, by simpa using p4, fun i u x hu hx => ?_⟩
     cases i with
     | zero => simp at hu hx; subst hu hx; exact p2.pub p3
     | succ i => exact p5 i u x (by simpa using hu) (by simpa using hx)
end
def retO1 (j nid : Nat) (e : TypeId) (k : Nat) (ys : List D) (r : D) (H : Nat → Option Blk) : Option (List D) → Prop
 | some rs => match keepDs j nid H rs with
  | some (rs', ep) => mkRes rs' = r ∧ appEff H ep j = some (.vec e k ys false)
  | none => False
 | none => False
def retO (P : Program) (fn : Func) (nid : Nat) (e : TypeId) (k : Nat) (ys : List D) (r : D) : BPost := fun x S => match x with
 | .exit _ => False
 | .goto _ => False
 | _ => ∃ j, retO1 j nid e k ys r S.heap (resD P S fn.results.toList)
section
variable {P : Program} {I : World → Prop}
theorem CallOK.own (hstab : Stab I) {f : FuncId} {fn : Func} {c : Code} {e : TypeId} {k : Nat} {ys : List D} {ds : List D} {H : Nat → Option Blk} {nid : Nat} {r : D}
  (hf : P.funcs[f]? = some fn) (hb : fn.body = some c) (hnm : fn.name ≠ "runtime.NumGoroutine") (hn : ds.length ≤ fn.ntmps) (hok : codeOk fn.ntmps c = true)
  (hds : ds.map (D.ren (rnR [])) = ds) (hdo : ds.all (D.idOk (rnR []) 0) = true)
  (h : runB P I c ⟨argL ds, heapL [], 0, fn.ntmps⟩ [] (retO P fn nid e k ys r)) : CallOK P I f ds H nid r [(nid, some (.vec e k ys false))] := by
 refine ⟨by simp [enterable, hf, hb, hnm], fun iw w C B args hI hbl hM hH hF hbase hnid hal hrep => ?_⟩
 refine calls_of_wp hf hb ?_
 let M' : Nat → Prop := fun g => w.heap.size ≤ g
 let C0 : Cx := C.ren (rnR []) 0
 let B' : Bx := ⟨M', fun p => C0.σ p⟩
 have hM'M : ∀ g, M' g → B.M g := fun g hg => hbase g hg
 let G : Gh := ⟨iw, w, C.F, B', fun g hg => hM g (hM'M g hg), hbl⟩
 have hheap0 : HOK C0 w B' (heapL []) := ⟨fun id b h => by simp [heapL, look] at h, fun id b h => by simp [heapL, look] at h, fun id k cs h => by simp [heapL, look] at h, fun id id' b b' h => by simp [heapL, look] at h⟩
 have hR : Rel I G (fun id => id < 0) ⟨argL ds, heapL [], 0, fn.ntmps⟩ C0 { tmps := args.toArray ++ Array.replicate (fn.ntmps - args.toArray.size) Go.undef, defers := [] } w := by
  refine ⟨⟨fun t => ?_, hheap0, hF, fun g hg => hg⟩, hI, BelM.refl _ _, fun b o h => .inl h, ⟨fun _ _ h => h, fun _ _ _ => rfl, fun _ h => h.elim, fun _ h => h.elim⟩, rfl, ?_, fun id h => h.1⟩
  ·simp only [argL_getD]
   by_cases ht : t < ds.length
   ·rw [show ds.getD t .any = ds[t] by simp [List.getD, ht]]
    have ha : t < args.length := by simpa [hal] using ht
    have : (args.toArray ++ Array.replicate (fn.ntmps - args.toArray.size) Go.undef).getD t Go.undef = args[t] := by
     simp [Array.getD_eq_getD_getElem?, Array.getElem?_append, ha]
    rw [this]
    have hdt : ds[t].ren (rnR []) = ds[t] := by
     have h1 := congrArg (fun l => l[t]?) hds
     simp only [List.getElem?_map, List.getElem?_eq_getElem ht, Option.map_some, Option.some.injEq] at h1
     exact h1
    have := hrep t _ (ds[t].ren (rnR [])) (List.getElem?_eq_getElem ha) (by rw [hdt]; simp [ht])
    exact this.ren (List.all_eq_true.1 hdo _ (List.getElem_mem ht))
   ·rw [show ds.getD t .any = .any by simp [List.getD, ht]]
    exact .any _
  ·simp; omega
 refine wp_mono (bwp_sound hstab c _ _ G _ _ w hok (by unfold runB goB at h; exact h) hR) ?_
 rintro ex a' w' ⟨S', C', hnt, hR', hq⟩
 have fin : (∃ j, retO1 j nid e k ys r S'.heap (resD P S' fn.results.toList)) → a'.defers = [] ∧ ∃ v, (results fn a'.tmps).run P w' = .ok v w' ∧ ∃ v' C2, Ending.returned v = .returned v' ∧ BelM B.M w w' ∧ Ext C w C2 w' ∧ Rep w' C2 v' r ∧ HOK C2 w' B (appEff H [(nid, some (.vec e k ys false))]) ∧ FB C2 w' ∧ (∀ id, C2.live id → C.live id ∨ id = nid) ∧ ∀ b o, C2.F b o → C.F b o ∨ B.M b := by
  rintro ⟨j, hp⟩
  refine ⟨hR'.defers, ?_⟩
  cases h1 : resD P S' fn.results.toList with
  | none => rw [h1] at hp; exact hp.elim
  | some rs =>
  rw [h1] at hp
  obtain ⟨vs, hr, hl, hv⟩ := resD_run (P := P) (G := G) hR'.ok _ _ h1
  have hrun : (results fn a'.tmps).run P w' = .ok (if h : vs.toArray.size = 1 then vs.toArray[0] else .tuple vs.toArray) w' := by
   rw [results_eq, Array.mapM_eq_mapM_toList]
   simp only [Sem.run_bind, Sem.run_map, hr]
   rfl
  refine ⟨_, hrun, ?_⟩
  simp only [retO1] at hp
  cases h2 : keepDs j nid S'.heap rs with
  | none => rw [h2] at hp; exact hp.elim
  | some p =>
  obtain ⟨rs', ep⟩ := p
  rw [h2] at hp
  obtain ⟨h3, hj⟩ := hp
  obtain ⟨C1, hP, hl', hv'⟩ := keepDs_sound (w := w') (B := B') (j := j) (nid := nid) rs vs C' S'.heap rs' ep hR'.ok.heap hR'.ok.fb hl hv h2
  obtain ⟨hjl, hjb⟩ := hP.ok.rep j _ hj
  let C2 : Cx := ⟨C1.F, fun id => if id = nid then C1.σ j else C.σ id, fun id => C.live id ∨ id = nid⟩
  have hσ2 : ∀ id, C.live id → C2.σ id = C.σ id := fun id hid => by
   have : id ≠ nid := fun e => hnid (e ▸ hid)
   simp only [C2, if_neg this]
  have hσn : C2.σ nid = C1.σ j := by simp only [C2, if_true]
  have he : Ext C w C2 w' := ⟨fun b o h => hP.ext.F _ _ (hR'.ext.F _ _ h), fun b o h => hR'.ext.blk b o h, fun _ h => .inl h, hσ2⟩
  have hnew : ∀ b o, C1.F b o → C.F b o ∨ M' b := fun b o hbo => (hP.new b o hbo).elim (hR'.new b o) .inr
  have hnoid : H nid = none := by
   cases hn2 : H nid with
   | none => rfl
   | some b => exact absurd (hH.rep _ _ hn2).1 hnid
  have hcase : ∀ id b, appEff H [(nid, some (Blk.vec e k ys false))] id = some b → (id = nid ∧ b = .vec e k ys false) ∨ (id ≠ nid ∧ H id = some b) := by
   intro id b hb'
   simp only [appEff, upd] at hb'
   split at hb'
   ·rename_i hid; injection hb' with hb'; exact .inl ⟨hid, hb'.symm⟩
   ·rename_i hid; exact .inr ⟨hid, hb'⟩
  have hge : ∀ g, blockOf (C1.σ j) = some g → w.heap.size ≤ g := fun g hg => hP.ok.own j _ hj g hg
  refine ⟨_, C2, rfl, hR'.below.mono (fun k' _ hk' => hM'M k' hk'), he, ?_, ?_, hP.fb, fun id hid => hid, fun b o hbo => (hnew b o hbo).imp id (hM'M b)⟩
  ·rw [← h3]
   exact mkRes_rep hl' (fun i v d hi hd => hv' i v d hi hd C2 (fun _ _ h => h) (.inr rfl) hσn)
  ·refine ⟨fun id b hb' => ?_, fun id b hb' g hg => ?_, fun id kk cs hb' => ?_, fun id id' b b' hb' hb'' hne2 g hg hg' => ?_⟩
   ·rcases hcase id b hb' with ⟨rfl, rfl⟩ | ⟨hid, h4⟩
    ·refine ⟨.inr rfl, ?_⟩
     simp only [BRep] at hjb ⊢
     rw [hσn]
     exact hjb
    ·obtain ⟨k1, k2⟩ := hH.rep id b h4
     refine ⟨.inl k1, k2.keep k1 he (fun g hg => ?_) (fun g o hg hgo => ?_)⟩
     ·refine hR'.below.block g (k2.lt g hg).2 ?_
      intro hge2
      have := (k2.lt g hg).2
      exact absurd hge2 (by omega)
     ·rcases hnew g o hgo with h6 | hge2
      ·exact h6
      ·have := (k2.lt g hg).2
       exact absurd hge2 (by omega)
   ·rcases hcase id b hb' with ⟨rfl, rfl⟩ | ⟨hid, h4⟩
    ·rw [hσn] at hg; exact hM'M g (hge g hg)
    ·rw [hσ2 id (hH.rep _ _ h4).1] at hg
     exact hH.own _ _ h4 g hg
   ·rcases hcase id _ hb' with ⟨_, h4⟩ | ⟨hid, h4⟩
    ·cases h4
    ·rw [hσ2 id (hH.rep _ _ h4).1]
     exact hH.pin id kk cs h4
   ·rcases hcase id b hb' with ⟨rfl, rfl⟩ | ⟨hid, h4⟩
    ·rw [hσn] at hg
     have h5 := hge g hg
     rcases hcase id' b' hb'' with ⟨rfl, rfl⟩ | ⟨hid', h4'⟩
     ·exact hne2 rfl
     ·rw [hσ2 id' (hH.rep _ _ h4').1] at hg'
      have := ((hH.rep _ _ h4').2.lt g hg').2
      omega
    ·rw [hσ2 id (hH.rep _ _ h4).1] at hg
     rcases hcase id' b' hb'' with ⟨rfl, rfl⟩ | ⟨hid', h4'⟩
     ·rw [hσn] at hg'
      have h5 := hge g hg'
      have := ((hH.rep _ _ h4).2.lt g hg).2
      omega
     ·rw [hσ2 id' (hH.rep _ _ h4').1] at hg'
      exact hH.apart _ _ _ _ h4 h4' hne2 g hg hg'
 cases ex with
 | normal => exact fin hq
 | ret => exact fin hq
 | exit id => exact hq.elim
 | goto l => exact hq.elim
 | panic ch => exact hq.elim
 | outgrown => exact hq.elim
end
def pureC : D → Bool
 | .int _ _ | .bool _ | .str _ | .sl _ | .nilp | .nils | .err _ | .iptr _ | .mp _ _ _ | .fsl _ => true
 | .fn _ cs => cs.all isI
 | _ => false
theorem Rep.pureC {w : World} {C : Cx} {v : Value} {x : D} (h : Rep w C v x) (hp : pureC x = true) : Rep w (cF C.F) v x := by
 cases x with
 | sl xs => exact h.slF
 | nils => cases h; exact .nils
 | int k n => cases h; exact .int _ _ (by assumption)
 | bool b => cases h; exact .bool _
 | str s => cases h; exact .str _ (by assumption)
 | nilp => cases h; exact .nilp
 | err b =>
  cases h with
  | err0 => exact .err0
  | err1 u v => exact .err1 u v
 | iptr ds => exact h.iptrF
 | mp k ks vs => exact h.mpF
 | fsl xs =>
  cases h with
  | fsl A _ hr => exact .fsl A _ hr.slF
 | fn f cs =>
  cases h with
  | fn _ vs _ hl hr =>
   refine .fn f vs _ hl fun i u y hu hy => ?_
   have hI := List.all_eq_true.1 hp y (List.mem_of_getElem? hy)
   have hyr := hr i u y hu hy
   cases y with
   | iptr ds => exact hyr.iptrF
   | _ => simp [isI] at hI
 | _ => simp [Go.Proofs.YtobglplholhkcaaGreatDoor.pureC] at hp
def D.frz1 (id : Nat) (cs : List D) : D → D
 | .ptr i off => if i = id then .iptr (cs.drop off) else .ptr i off
 | d => d
def D.frz (id : Nat) (cs : List D) : D → D
 | .fn f ds => .fn f (ds.map (D.frz1 id cs))
 | d => d.frz1 id cs
def Blk.frz (id : Nat) (cs : List D) : Blk → Blk
 | .box pn ds => .box pn (ds.map (D.frz1 id cs))
 | b => b
theorem Wk.freeze {S : AS} {id : Nat} {cs : List D} (h1 : S.heap id = some (.box none cs)) (hp : cs.all pureC = true) :
  Wk S ⟨fun t => (S.env t).frz id cs, fun j => if j = id then none else (S.heap j).map (Blk.frz id cs), S.next, S.nt⟩ := by
 refine ⟨rfl, fun I G C a w hR => ?_⟩
 have hH := hR.ok.heap
 obtain ⟨hl, g, t, vs, q1, q2, q3, q4, q5⟩ := hH.rep id _ h1
 have hsz : vs.toList.length = cs.length := q4.len
 let C' : Cx := ⟨fun b o => C.F b o ∨ (b = g ∧ o < cs.length), C.σ, C.live⟩
 have ee : Ext C w C' w := ⟨fun _ _ h => .inl h, fun _ _ _ => rfl, fun _ h => h, fun _ _ => rfl⟩
 have f1 : ∀ (v : Value) (d : D), Rep w C v d → Rep w C' v (d.frz1 id cs) := by
  intro v d hv
  cases d with
  | ptr i off =>
   simp only [D.frz1]
   split
   ·rename_i hi
    subst hi
    cases hv with
    | ptr _ _ g' hl' hs =>
     rw [q1] at hs
     injection hs with hs; injection hs with hs; injection hs with hs
     subst hs
     refine .iptr g off _ (vs.toList.drop off) (by simp [hsz]) (fun u hu => q4.one u (List.mem_of_mem_drop hu)) (fun i hi => .inr ⟨rfl, ?_⟩) (fun i u hu => ?_) (fun i u x hu hx => ?_)
     ·simp only [List.length_drop] at hi; omega
     ·rw [cell_of_row w g (off + i) vs t (0, 0) q3]; simpa using hu
     ·simp only [List.getElem?_drop] at hu hx
      exact ((q4.rep (off + i) u x hu hx).pureC (List.all_eq_true.1 hp x (List.mem_of_getElem? hx))).ext ee.cF
   ·exact hv.ext ee
  | _ => exact hv.ext ee
 have f0 : ∀ (v : Value) (d : D), Rep w C v d → Rep w C' v (d.frz id cs) := by
  intro v d hv
  cases d with
  | fn f ds =>
   cases hv with
   | fn _ us _ hl' hr =>
    refine .fn f us _ (by simpa using hl') fun i u x hu hx => ?_
    simp only [List.getElem?_map] at hx
    cases hd : ds[i]? with
    | none => rw [hd] at hx; cases hx
    | some y => rw [hd] at hx; injection hx with hx; subst hx; exact f1 u y (hr i u y hu hd)
  | _ => exact f1 v _ hv
 have hget : ∀ j b, (if j = id then none else (S.heap j).map (Blk.frz id cs)) = some b → j ≠ id ∧ ∃ b0, S.heap j = some b0 ∧ b = b0.frz id cs := by
  intro j b h
  split at h
  ·cases h
  ·rename_i hj
   cases hb : S.heap j with
   | none => rw [hb] at h; cases h
   | some b0 => rw [hb] at h; injection h with h; exact ⟨hj, b0, rfl, h.symm⟩
 have hbo : blockOf (C.σ id) = some g := by rw [q1]; rfl
 have hok : HOK C' w G.B (fun j => if j = id then none else (S.heap j).map (Blk.frz id cs)) := by
  refine ⟨fun j b h => ?_, fun j b h g' hg => ?_, fun j k ds h => ?_, fun j j' b1 b2 h1' h2' hne g' hg hg' => ?_⟩
  ·obtain ⟨hj, b0, hb0, rfl⟩ := hget j b h
   obtain ⟨k1, k2⟩ := hH.rep j b0 hb0
   have hkeep : BRep C' w 0 j b0 := k2.keep k1 ee (fun _ _ => rfl) (fun g' o hg' ho => by
    rcases ho with ho | ⟨rfl, _⟩
    ·exact ho
    ·exact absurd hbo (hH.apart j id b0 _ hb0 h1 hj _ hg'))
   refine ⟨k1, ?_⟩
   cases b0 with
   | box pn ds =>
    obtain ⟨_, _, _, z1, z2, z3, z4, z5⟩ := hkeep
    obtain ⟨g2, t2, vs2, r1, r2, r3, r4, r5⟩ := k2
    refine ⟨g2, t2, vs2, r1, r2, r3, ⟨by simpa using r4.len, r4.one, fun i u x hu hx => ?_⟩, ?_⟩
    ·simp only [List.getElem?_map] at hx
     cases hd : ds[i]? with
     | none => rw [hd] at hx; cases hx
     | some y => rw [hd] at hx; injection hx with hx; subst hx; exact f1 u y (r4.rep i u y hu hd)
    ·have : ∀ {x y : Nat}, C'.σ j = .pointer (some ⟨x, 0, none⟩) → C.σ j = .pointer (some ⟨y, 0, none⟩) → x = y := by
      intro x y hx hy
      have hx' : C.σ j = .pointer (some ⟨x, 0, none⟩) := hx
      rw [hy] at hx'
      injection hx' with hx'; injection hx' with hx'; injection hx' with hx'
      exact hx'.symm
     have := this z1 r1
     subst this
     exact z5
   | _ => exact hkeep
  ·obtain ⟨hj, b0, hb0, rfl⟩ := hget j b h
   exact hH.own j b0 hb0 g' hg
  ·obtain ⟨hj, b0, hb0, h3⟩ := hget j _ h
   cases b0 with
   | box pn ds0 =>
    simp only [Blk.frz, Blk.box.injEq] at h3
    obtain ⟨rfl, _⟩ := h3
    exact hH.pin j k ds0 hb0
   | _ => simp [Blk.frz] at h3
  ·obtain ⟨hj, b0, hb0, rfl⟩ := hget j b1 h1'
   obtain ⟨hj', b0', hb0', rfl⟩ := hget j' b2 h2'
   exact hH.apart j j' b0 b0' hb0 hb0' hne g' hg hg'
 refine ⟨C', ⟨⟨fun t => f0 _ _ (hR.ok.env t), hok, fun b o h => ?_, hR.ok.base⟩, hR.inv, hR.below, fun b o h => ?_, hR.ext.trans ee, hR.defers, hR.size, hR.live⟩⟩
 ·rcases h with h | ⟨rfl, _⟩
  ·exact hR.ok.fb b o h
  ·exact (Array.getElem?_eq_some_iff.1 q3).1
 ·rcases h with h | ⟨rfl, _⟩
  ·exact hR.new b o h
  ·exact .inr (hH.own id _ h1 _ hbo)
theorem fzs : type_of% (And.intro @D.frz.eq_1 <| And.intro @D.frz.eq_2 <| And.intro @D.frz1.eq_1 <| And.intro @D.frz1.eq_2 <| And.intro @Blk.frz.eq_1 <| And.intro @Blk.frz.eq_2 <| And.intro @isI.eq_1 <| And.intro @Option.map_some.{0, 0} @Option.map_none.{0, 0}) := And.intro @D.frz.eq_1 <| And.intro @D.frz.eq_2 <| And.intro @D.frz1.eq_1 <| And.intro @D.frz1.eq_2 <| And.intro @Blk.frz.eq_1 <| And.intro @Blk.frz.eq_2 <| And.intro @isI.eq_1 <| And.intro @Option.map_some.{0, 0} @Option.map_none.{0, 0}
theorem wkF {S : AS} {l : List (Nat × D)} {h : List (Nat × Blk)} {n : Nat} (r : List (Nat × Option Nat)) (he : wkEnv S (ro r) n l := by first | (simp -implicitDefEqProofs [kv, km, fzs, ro, dd, k]; done) | (simp -implicitDefEqProofs [kv, km, fzs, ro, dd, k, Nat.add_assoc]; done) | (simp -implicitDefEqProofs [kv, km, fzs, ro, dd, k]; omega)) (hh : wkHeap S (ro r) n h := by first | (simp -implicitDefEqProofs [kv, km, fzs, ro, dd, k]; done) | (simp -implicitDefEqProofs [kv, km, fzs, ro, dd, k, Nat.add_assoc]; done) | (simp -implicitDefEqProofs [kv, km, fzs, ro, dd, k]; omega)) : Wk S ⟨envL l, heapL h, n, S.nt⟩ := Wk.of (ro r) l h n he hh
section
variable {P : Program} {I : World → Prop} {S : AS} {k : List Kont} {Q : BPost}
theorem eWk {y : Code} (S' : AS) (hw : Wk S S') (h : runB P I y S' k Q) : extB P I .normal S (.seq y :: k) Q := by
 unfold extB goB
 unfold runB at h
 exact ⟨S', hw, h⟩
end
theorem ko : type_of% (And.intro @keep1.eq_1 <| And.intro @keep1.eq_2 <| And.intro @keepL.eq_1 <| And.intro @keepL.eq_2 <| And.intro @keepD.eq_1 <| And.intro @keepD.eq_2 <| And.intro @keepDs.eq_1 <| And.intro @keepDs.eq_2 <| And.intro @retO1.eq_1 <| And.intro @retI1.eq_1 <| And.intro @ite_true.{1} @ite_false.{1}) := And.intro @keep1.eq_1 <| And.intro @keep1.eq_2 <| And.intro @keepL.eq_1 <| And.intro @keepL.eq_2 <| And.intro @keepD.eq_1 <| And.intro @keepD.eq_2 <| And.intro @keepDs.eq_1 <| And.intro @keepDs.eq_2 <| And.intro @retO1.eq_1 <| And.intro @retI1.eq_1 <| And.intro @ite_true.{1} @ite_false.{1}
section
variable {P : Program} {fn : Func} {S : AS} {x : AExit} {v : Value} {nid : Nat} {e : TypeId} {k0 : Nat} {ys : List D} {r : D}
theorem fI (j : Nat) (h : retI1 j v e k0 ys r S.heap (resD P S fn.results.toList) := by simp -implicitDefEqProofs only [vt, vm, om, ko, ↓atI_fold, forall_const, implies_true, false_implies, sevalprocAttr, rs, dd, k, q] <;> first | rfl | exact ⟨rfl, rfl⟩ | (refine ⟨?_, ?_⟩ <;> first | rfl | (simp [List.map_append, dd]; done) | (simp [List.map_append, dd, k]; done)) | (simp [List.map_append, dd]; done) | (simp [List.map_append, dd, k]; done)) (hx : x = .ret ∨ x = .normal := by first | exact .inl rfl | exact .inr rfl) : retI P fn v e k0 ys r x S := by
 rcases hx with rfl | rfl <;> exact ⟨j, h⟩
theorem fO (j : Nat) (h : retO1 j nid e k0 ys r S.heap (resD P S fn.results.toList) := by simp -implicitDefEqProofs only [vt, vm, om, ko, ↓atI_fold, forall_const, implies_true, false_implies, sevalprocAttr, rs, dd, k, q] <;> first | rfl | exact ⟨rfl, rfl⟩ | (refine ⟨?_, ?_⟩ <;> first | rfl | (simp [List.map_append, dd]; done) | (simp [List.map_append, dd, k]; done)) | (simp [List.map_append, dd]; done) | (simp [List.map_append, dd, k]; done)) (hx : x = .ret ∨ x = .normal := by first | exact .inl rfl | exact .inr rfl) : retO P fn nid e k0 ys r x S := by
 rcases hx with rfl | rfl <;> exact ⟨j, h⟩
end
end Go.Proofs.YtobglplholhkcaaGreatDoor
