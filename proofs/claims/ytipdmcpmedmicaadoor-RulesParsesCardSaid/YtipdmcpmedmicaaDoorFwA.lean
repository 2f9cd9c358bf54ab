/- Abstract values, and when a value of the model stands for one. Own definitions and lemmas; no condition. -/
import Derived.WalkKit
import Derived.WalkSpells
import Derived.WalkLawsBesides
import Derived.KernelRfl
import Derived.Orders
import Derived.Laws.AppendOwn
import Derived.Laws.Rows
import Derived.Laws.Cells
set_option linter.unusedSimpArgs false
set_option linter.unusedVariables false
namespace Go.Proofs.YtipdmcpmedmicaaDoor
open Go.RowKit

/-- Abstract values. -/
inductive D where
  | any
  | undef
  | int (k : IntKind) (n : Int)
  | bool (b : Bool)
  | str (s : List UInt8)
  | sl (xs : List D)
  | agg (ds : List D)
  | tup (ds : List D)
  | ptr (id off : Nat)
  | vptr (id k i off : Nat)
  | own (id n : Nat)
  | nilp
  | nils
  | err (b : Bool)
  | iptr (ds : List D)
  | fn (f : FuncId) (caps : List D)
  | sp (id : Nat)
  | omp (id : Nat)
  | mp (k : IntKind) (ks : List Int) (vs : List D)
instance : Inhabited D := ⟨.any⟩
/-- The cells of an abstract value. -/
def D.cells : D → List D
  | .agg ds => ds
  | d => [d]

/-- F: the cells that nobody writes any more; σ: what stands for an own block; live: the ids that have been made. -/
structure Cx where
  F : Nat → Nat → Prop
  σ : Nat → Value
  live : Nat → Prop

def kLo : IntKind → Int
  | .i8 => -128 | .i16 => -32768 | .i32 => -2147483648 | .i64 => -9223372036854775808 | _ => 0
def kHi : IntKind → Int
  | .i8 => 127 | .i16 => 32767 | .i32 => 2147483647 | .i64 => 9223372036854775807 | .u8 => 255 | .u16 => 65535 | .u32 => 4294967295 | .u64 => 18446744073709551615
/-- A number of a kind. -/
def inR (k : IntKind) (n : Int) : Prop := kLo k ≤ n ∧ n ≤ kHi k
instance (k : IntKind) (n : Int) : Decidable (inR k n) := inferInstanceAs (Decidable (_ ∧ _))
/-- No own block is there. -/
def cF (F : Nat → Nat → Prop) : Cx := ⟨F, fun _ => Go.undef, fun _ => False⟩
/-- A value of the model stands for an abstract value. What lies in an immutable slice stands for its parts without own blocks. -/
inductive Rep (w : World) : Cx → Value → D → Prop
  | any {C : Cx} (v : Value) : Rep w C v .any
  | undef {C : Cx} : Rep w C Go.undef .undef
  | int {C : Cx} (k : IntKind) (n : Int) (h : inR k n) : Rep w C (.int k n) (.int k n)
  | bool {C : Cx} (b : Bool) : Rep w C (.bool b) (.bool b)
  | str {C : Cx} (l : List UInt8) (h : l.length ≤ maxLen) : Rep w C (.string ⟨l.toArray⟩) (.str l)
  | agg {C : Cx} (vs : List Value) (ds : List D) (hl : vs.length = ds.length) (h1 : ∀ v ∈ vs, v.oneCell' = true) (h : ∀ (i : Nat) v d, vs[i]? = some v → ds[i]? = some d → Rep w C v d) : Rep w C (.agg vs.toArray) (.agg ds)
  | tup {C : Cx} (vs : List Value) (ds : List D) (hl : vs.length = ds.length) (h : ∀ (i : Nat) v d, vs[i]? = some v → ds[i]? = some d → Rep w C v d) : Rep w C (.tuple vs.toArray) (.tup ds)
  | ptr {C : Cx} (id off g : Nat) (hl : C.live id) (h : C.σ id = .pointer (some ⟨g, 0, none⟩)) : Rep w C (.pointer (some ⟨g, off, none⟩)) (.ptr id off)
  | vptr {C : Cx} (id k i off g n c : Nat) (hl : C.live id) (h : C.σ id = .slice (some ⟨g, 0, none⟩) n c) : Rep w C (.pointer (some ⟨g, i * k + off, none⟩)) (.vptr id k i off)
  | own {C : Cx} (id n c : Nat) (A : Option Addr) (hl : C.live id) (hm : n ≤ maxLen) (h : C.σ id = .slice A n c) : Rep w C (.slice A n c) (.own id n)
  | nilp {C : Cx} : Rep w C (.pointer none) .nilp
  | err0 {C : Cx} : Rep w C .nilIface (.err false)
  | err1 {C : Cx} (u : TypeId) (v : Value) : Rep w C (.iface u v) (.err true)
  | nils {C : Cx} : Rep w C (.slice none 0 0) .nils
  | sl0 {C : Cx} (A : Option Addr) (c : Nat) (h : c ≤ maxLen) : Rep w C (.slice A 0 c) (.sl [])
  | sl {C : Cx} (b off k c : Nat) (xs : List D) (vals : List Value) (hc : xs.length ≤ c) (hm : c ≤ maxLen) (hk : ∀ x ∈ xs, x.cells.length = k)
      (hl : vals.length = (xs.flatMap D.cells).length) (h1 : ∀ v ∈ vals, v.oneCell' = true) (hF : ∀ i, i < vals.length → C.F b (off + i)) (hcell : ∀ (i : Nat) v, vals[i]? = some v → w.cell? ⟨b, off + i, none⟩ = some v)
      (h : ∀ (i : Nat) v d, vals[i]? = some v → (xs.flatMap D.cells)[i]? = some d → Rep w (cF C.F) v d) : Rep w C (.slice (some ⟨b, off, none⟩) xs.length c) (.sl xs)
  | iptr {C : Cx} (b off : Nat) (ds : List D) (vals : List Value)
      (hl : vals.length = ds.length) (h1 : ∀ v ∈ vals, v.oneCell' = true) (hF : ∀ i, i < vals.length → C.F b (off + i)) (hcell : ∀ (i : Nat) v, vals[i]? = some v → w.cell? ⟨b, off + i, none⟩ = some v)
      (h : ∀ (i : Nat) v d, vals[i]? = some v → ds[i]? = some d → Rep w (cF C.F) v d) : Rep w C (.pointer (some ⟨b, off, none⟩)) (.iptr ds)
  | fn {C : Cx} (f : FuncId) (vs : List Value) (ds : List D) (hl : vs.length = ds.length) (h : ∀ (i : Nat) v d, vs[i]? = some v → ds[i]? = some d → Rep w C v d) : Rep w C (.func (.func f) #[] vs.toArray) (.fn f ds)
  | sp0 {C : Cx} (id : Nat) (hl : C.live id) : Rep w C (.pointer none) (.sp id)
  | sp1 {C : Cx} (id g : Nat) (hl : C.live id) (h : C.σ id = .pointer (some ⟨g, 0, none⟩)) : Rep w C (.pointer (some ⟨g, 0, none⟩)) (.sp id)
  | omp {C : Cx} (id g : Nat) (hl : C.live id) (h : C.σ id = .map (some g)) : Rep w C (.map (some g)) (.omp id)
  | mp {C : Cx} (g clock : Nat) (k : IntKind) (ks : List Int) (es : Array MapEntry) (vs : List D) (hF : C.F g 0) (hh : w.heap[g]? = some (.map es clock)) (hk : es.toList.map MapEntry.key = ks.map (Value.int k)) (hl : es.toList.length = vs.length)
      (h : ∀ (i : Nat) e d, es.toList[i]? = some e → vs[i]? = some d → Rep w (cF C.F) e.val d) : Rep w C (.map (some g)) (.mp k ks vs)

/-- Later: what is immutable has stayed, what has been made is there. -/
structure Ext (C : Cx) (w : World) (C' : Cx) (w' : World) : Prop where
  F : ∀ b o, C.F b o → C'.F b o
  blk : ∀ b o, C.F b o → w'.heap[b]? = w.heap[b]?
  live : ∀ id, C.live id → C'.live id
  σ : ∀ id, C.live id → C'.σ id = C.σ id

theorem Ext.cell {C C' : Cx} {w w' : World} (e : Ext C w C' w') : ∀ b o, C.F b o → w'.cell? ⟨b, o, none⟩ = w.cell? ⟨b, o, none⟩ := fun b o h => World.cell?_of_block (e.blk b o h)
theorem Ext.refl (C : Cx) (w : World) : Ext C w C w := ⟨fun _ _ h => h, fun _ _ _ => rfl, fun _ h => h, fun _ _ => rfl⟩
theorem Ext.trans {C C' C'' : Cx} {w w' w'' : World} (h : Ext C w C' w') (k : Ext C' w' C'' w'') : Ext C w C'' w'' :=
  ⟨fun b o x => k.F b o (h.F b o x), fun b o x => (k.blk b o (h.F b o x)).trans (h.blk b o x), fun i x => k.live i (h.live i x),
    fun i x => (k.σ i (h.live i x)).trans (h.σ i x)⟩

theorem Ext.cF {C C' : Cx} {w w' : World} (e : Ext C w C' w') : Ext (cF C.F) w (cF C'.F) w' := ⟨e.F, e.blk, fun _ h => h.elim, fun _ h => h.elim⟩
theorem Rep.ext {C : Cx} {w w' : World} {v : Value} {d : D} (h : Rep w C v d) : ∀ {C' : Cx}, Ext C w C' w' → Rep w' C' v d := by
  induction h with
  | any v => intro C' e; exact .any v
  | undef => intro C' e; exact .undef
  | int k n h => intro C' e; exact .int k n h
  | bool b => intro C' e; exact .bool b
  | str l h => intro C' e; exact .str l h
  | agg vs ds hl h1 _ ih => intro C' e; exact .agg vs ds hl h1 fun i v d hv hd => ih i v d hv hd e
  | tup vs ds hl _ ih => intro C' e; exact .tup vs ds hl fun i v d hv hd => ih i v d hv hd e
  | ptr id off g hl h => intro C' e; exact .ptr id off g (e.live _ hl) ((e.σ _ hl).trans h)
  | vptr id k i off g n c hl h => intro C' e; exact .vptr id k i off g n c (e.live _ hl) ((e.σ _ hl).trans h)
  | own id n c A hl hm h => intro C' e; exact .own id n c A (e.live _ hl) hm ((e.σ _ hl).trans h)
  | nilp => intro C' e; exact .nilp
  | err0 => intro C' e; exact .err0
  | err1 u v => intro C' e; exact .err1 u v
  | nils => intro C' e; exact .nils
  | sl0 A c h => intro C' e; exact .sl0 A c h
  | sl b off k c xs vals hc hm hk hl h1 hF hcell _ ih =>
    intro C' e
    exact .sl b off k c xs vals hc hm hk hl h1 (fun i hi => e.F _ _ (hF i hi)) (fun i v hv => (e.cell _ _ (hF i (List.getElem?_eq_some_iff.1 hv).1)).trans (hcell i v hv)) fun i v d hv hd => ih i v d hv hd e.cF
  | iptr b off ds vals hl h1 hF hcell _ ih =>
    intro C' e
    exact .iptr b off ds vals hl h1 (fun i hi => e.F _ _ (hF i hi)) (fun i v hv => (e.cell _ _ (hF i (List.getElem?_eq_some_iff.1 hv).1)).trans (hcell i v hv)) fun i v d hv hd => ih i v d hv hd e.cF
  | fn f vs ds hl _ ih => intro C' e; exact .fn f vs ds hl fun i v d hv hd => ih i v d hv hd e
  | sp0 id hl => intro C' e; exact .sp0 id (e.live _ hl)
  | sp1 id g hl h => intro C' e; exact .sp1 id g (e.live _ hl) ((e.σ _ hl).trans h)
  | omp id g hl h => intro C' e; exact .omp id g (e.live _ hl) ((e.σ _ hl).trans h)
  | mp g clock k ks es vs hF hh hk hl _ ih => intro C' e; exact .mp g clock k ks es vs (e.F _ _ hF) ((e.blk _ _ hF).trans hh) hk hl fun i v d hv hd => ih i v d hv hd e.cF

/-- A list of one-cell values stands for a list. -/
structure RepL (C : Cx) (w : World) (vs : List Value) (ds : List D) : Prop where
  len : vs.length = ds.length
  one : ∀ v ∈ vs, v.oneCell' = true
  rep : ∀ (i : Nat) v d, vs[i]? = some v → ds[i]? = some d → Rep w C v d
theorem RepL.ext {C C' : Cx} {w w' : World} (e : Ext C w C' w') {vs : List Value} {ds : List D} (h : RepL C w vs ds) : RepL C' w' vs ds :=
  ⟨h.len, h.one, fun i v d hv hd => (h.rep i v d hv hd).ext e⟩
theorem cF_ext {C : Cx} {w : World} : Ext (cF C.F) w C w := ⟨fun _ _ h => h, fun _ _ _ => rfl, fun _ h => h.elim, fun _ h => h.elim⟩
theorem RepL.nil {C : Cx} {w : World} : RepL C w [] [] := ⟨rfl, by simp, by simp⟩
theorem RepL.agg {C : Cx} {w : World} {vs : List Value} {ds : List D} (h : RepL C w vs ds) : Rep w C (.agg vs.toArray) (.agg ds) := .agg vs ds h.len h.one h.rep
theorem RepL.drop {C : Cx} {w : World} {vs : List Value} {ds : List D} (h : RepL C w vs ds) (n : Nat) : RepL C w (vs.drop n) (ds.drop n) :=
  ⟨by simp [h.len], fun v hv => h.one v (List.mem_of_mem_drop hv), fun i v d hv hd => h.rep (n + i) v d (by simpa using hv) (by simpa using hd)⟩
theorem RepL.take {C : Cx} {w : World} {vs : List Value} {ds : List D} (h : RepL C w vs ds) (n : Nat) : RepL C w (vs.take n) (ds.take n) :=
  ⟨by simp [h.len], fun v hv => h.one v (List.mem_of_mem_take hv), fun i v d hv hd => by
    rw [List.getElem?_take] at hv hd
    split at hv
    · rename_i hi; rw [if_pos hi] at hd; exact h.rep i v d hv hd
    · cases hv⟩
theorem RepL.append {C : Cx} {w : World} {vs us : List Value} {ds es : List D} (h : RepL C w vs ds) (k : RepL C w us es) : RepL C w (vs ++ us) (ds ++ es) := by
  refine ⟨by simp [h.len, k.len], fun v hv => ?_, fun i v d hv hd => ?_⟩
  · rcases List.mem_append.1 hv with hv | hv
    · exact h.one v hv
    · exact k.one v hv
  · by_cases hi : i < vs.length
    · rw [List.getElem?_append_left hi] at hv
      rw [List.getElem?_append_left (h.len ▸ hi)] at hd
      exact h.rep i v d hv hd
    · rw [List.getElem?_append_right (by omega)] at hv
      rw [List.getElem?_append_right (by have := h.len; omega), ← h.len] at hd
      exact k.rep _ v d hv hd
theorem RepL.set {C : Cx} {w : World} {vs : List Value} {ds : List D} (h : RepL C w vs ds) (i : Nat) {v : Value} {d : D} (h1 : v.oneCell' = true) (hr : Rep w C v d) : RepL C w (vs.set i v) (ds.set i d) := by
  refine ⟨by simp [h.len], fun u hu => ?_, fun j u e hu he => ?_⟩
  · rcases List.mem_or_eq_of_mem_set hu with hu | rfl
    · exact h.one u hu
    · exact h1
  · rw [List.getElem?_set] at hu he
    by_cases hij : i = j
    · subst hij
      simp only [if_true] at hu he
      split at hu
      · rename_i hlt
        rw [if_pos (h.len ▸ hlt)] at he
        injection hu with hu; injection he with he
        subst hu he; exact hr
      · cases hu
    · rw [if_neg hij] at hu he
      exact h.rep j u e hu he
theorem RepL.one1 {C : Cx} {w : World} {v : Value} {d : D} (h1 : v.oneCell' = true) (h : Rep w C v d) : RepL C w [v] [d] :=
  ⟨rfl, by simpa using h1, fun i u e hu he => by
    cases i with
    | zero => simp at hu he; subst hu he; exact h
    | succ i => simp at hu⟩

/-- Blocks of the call's own. -/
inductive Blk where
  | box (pn : Option Nat) (cells : List D)
  | bbox (T : TypeId) (cells : List D)
  | vec (e : TypeId) (k : Nat) (xs : List D) (pub : Bool)
  | iter (s : List UInt8) (pos : Nat)
  | mp (k : IntKind) (ks : List Int) (vs : List D) (pub : Bool)

/-- A block of the model stands for an own block. -/
def BRep (C : Cx) (w : World) (B : Nat) (id : Nat) : Blk → Prop
  | .box _ ds => ∃ g t vs, C.σ id = .pointer (some ⟨g, 0, none⟩) ∧ B ≤ g ∧ w.heap[g]? = some (.cells vs t (0, 0)) ∧ RepL C w vs.toList ds ∧ ∀ o, ¬ C.F g o
  | .vec e k xs pub => ∃ vals, w.ownsRow B e k (C.σ id) xs.length vals ∧ (∀ x ∈ xs, x.cells.length = k) ∧ RepL (cF C.F) w vals (xs.flatMap D.cells) ∧
      ∀ g, (C.σ id).ownBlock = some g → (∀ o, C.F g o → pub = true ∧ o < xs.length * k) ∧ (pub = true → ∀ o, o < xs.length * k → C.F g o)
  | .bbox T ds => ∃ g vs, C.σ id = .pointer (some ⟨g, 0, none⟩) ∧ B ≤ g ∧ w.heap[g]? = some (.cells vs T (0, 0)) ∧ RepL C w vs.toList ds ∧ ∀ o, ¬ C.F g o
  | .iter s pos => ∃ g, C.σ id = .pointer (some ⟨g, 0, none⟩) ∧ B ≤ g ∧ w.heap[g]? = some (.stringIter ⟨s.toArray⟩ pos) ∧ s.length ≤ maxLen ∧ ∀ o, ¬ C.F g o
  | .mp k ks vs pub => ∃ g clock es, C.σ id = .map (some g) ∧ B ≤ g ∧ w.heap[g]? = some (.map es clock) ∧ es.toList.map MapEntry.key = ks.map (Value.int k) ∧ es.toList.length = vs.length ∧
      (∀ (i : Nat) e d, es.toList[i]? = some e → vs[i]? = some d → Rep w (cF C.F) e.val d) ∧ (pub = false → ∀ o, ¬ C.F g o) ∧ (pub = true → C.F g 0)
/-- The block that an id stands at. -/
def blockOf : Value → Option Nat
  | .pointer (some a) => some a.block
  | .slice (some a) _ _ => some a.block
  | .map (some g) => some g
  | _ => none
end Go.Proofs.YtipdmcpmedmicaaDoor
