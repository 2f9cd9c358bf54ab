/- Texts of one proof, put together (FwA, FwB, FwC, FwD, FwE, FwF, FwG, FwH, FwI, FwJ, FwMp, FwK, FwL, FwM, FwN, FwO). No condition but those that each theorem states. -/
import Derived.WalkKit
import Derived.WalkSpells
import Derived.WalkLawsBesides
import Derived.KernelRfl
import Derived.Orders
import Derived.Laws.AppendOwn
import Derived.Laws.Rows
import Derived.Laws.Cells
import Derived.Laws.AppendOwnNone
import Derived.Laws.StructEq
import Derived.Laws.BytesArg
import Derived.MapKept
set_option linter.unusedSimpArgs false
set_option linter.unusedVariables false
namespace Go.Proofs.YtejeinnfompgpaaGreatDoor
open Go.RowKit
inductive D where
 | any
 | undef
 | int (k:IntKind) (n:Int)
 | bool (b:Bool)
 | str (s:List UInt8)
 | sl (xs:List D)
 | agg (ds:List D)
 | tup (ds:List D)
 | ptr (id off:Nat)
 | vptr (id k i off:Nat)
 | own (id n:Nat)
 | nilp
 | nils
 | err (b:Bool)
 | iptr (ds:List D)
 | fn (f:FuncId) (caps:List D)
 | sp (id:Nat)
 | omp (id:Nat)
 | mp (k:IntKind) (ks:List Int) (vs:List D)
 | fsl (xs:List D)
instance:Inhabited D:=⟨.any⟩
def D.cells:D→List D
 | .agg ds=>ds
 | d=>[d]
structure Cx where
 F:Nat→Nat→Prop
 σ:Nat→Value
 live:Nat→Prop
def kLo:IntKind→Int
 | .i8=>-128|.i16=>-32768|.i32=>-2147483648|.i64=>-9223372036854775808|_=>0
def kHi:IntKind→Int
 | .i8=>127|.i16=>32767|.i32=>2147483647|.i64=>9223372036854775807|.u8=>255|.u16=>65535|.u32=>4294967295|.u64=>18446744073709551615
def inR (k:IntKind)(n:Int):Prop:=kLo k≤n∧n≤kHi k
instance (k:IntKind)(n:Int):Decidable (inR k n):=inferInstanceAs (Decidable (_∧_))
def cF (F:Nat→Nat→Prop):Cx:=⟨F,fun _=>Go.undef,fun _=>False⟩
inductive Rep(w:World):Cx→Value→D→Prop
 | any {C:Cx} (v:Value):Rep w C v .any
 | undef {C:Cx}:Rep w C Go.undef .undef
 | int {C:Cx} (k:IntKind) (n:Int) (h:inR k n):Rep w C (.int k n) (.int k n)
 | bool {C:Cx} (b:Bool):Rep w C (.bool b) (.bool b)
 | str {C:Cx} (l:List UInt8) (h:l.length≤maxLen):Rep w C (.string ⟨l.toArray⟩) (.str l)
 | agg {C:Cx} (vs:List Value) (ds:List D) (hl:vs.length=ds.length) (h1:∀ v ∈ vs,v.oneCell'=true) (h:∀ (i:Nat) v d,vs[i]? = some v→ds[i]? = some d→Rep w C v d):Rep w C (.agg vs.toArray) (.agg ds)
 | tup {C:Cx} (vs:List Value) (ds:List D) (hl:vs.length=ds.length) (h:∀ (i:Nat) v d,vs[i]? = some v→ds[i]? = some d→Rep w C v d):Rep w C (.tuple vs.toArray) (.tup ds)
 | ptr {C:Cx} (id off g:Nat) (hl:C.live id) (h:C.σ id=.pointer (some ⟨g,0,none⟩)):Rep w C (.pointer (some ⟨g,off,none⟩)) (.ptr id off)
 | vptr {C:Cx} (id k i off g n c:Nat) (hl:C.live id) (h:C.σ id=.slice (some ⟨g,0,none⟩) n c):Rep w C (.pointer (some ⟨g,i * k+off,none⟩)) (.vptr id k i off)
 | own {C:Cx} (id n c:Nat) (A:Option Addr) (hl:C.live id) (hm:n≤maxLen) (h:C.σ id=.slice A n c):Rep w C (.slice A n c) (.own id n)
 | nilp {C:Cx}:Rep w C (.pointer none) .nilp
 | err0 {C:Cx}:Rep w C .nilIface (.err false)
 | err1 {C:Cx} (u:TypeId) (v:Value):Rep w C (.iface u v) (.err true)
 | nils {C:Cx}:Rep w C (.slice none 0 0) .nils
 | sl0 {C:Cx} (A:Option Addr) (c:Nat) (h:c≤maxLen):Rep w C (.slice A 0 c) (.sl [])
 | sl {C:Cx} (b off k c:Nat) (xs:List D) (vals:List Value) (hc:xs.length≤c) (hm:c≤maxLen) (hk:∀ x ∈ xs,x.cells.length=k)
   (hl:vals.length=(xs.flatMap D.cells).length) (h1:∀ v ∈ vals,v.oneCell'=true) (hF:∀ i,i < vals.length→C.F b (off+i)) (hcell:∀ (i:Nat) v,vals[i]? = some v→w.cell? ⟨b,off+i,none⟩=some v)
   (h:∀ (i:Nat) v d,vals[i]? = some v→(xs.flatMap D.cells)[i]? = some d→Rep w (cF C.F) v d):Rep w C (.slice (some ⟨b,off,none⟩) xs.length c) (.sl xs)
 | iptr {C:Cx} (b off:Nat) (ds:List D) (vals:List Value)
   (hl:vals.length=ds.length) (h1:∀ v ∈ vals,v.oneCell'=true) (hF:∀ i,i < vals.length→C.F b (off+i)) (hcell:∀ (i:Nat) v,vals[i]? = some v→w.cell? ⟨b,off+i,none⟩=some v)
   (h:∀ (i:Nat) v d,vals[i]? = some v→ds[i]? = some d→Rep w (cF C.F) v d):Rep w C (.pointer (some ⟨b,off,none⟩)) (.iptr ds)
 | fn {C:Cx} (f:FuncId) (vs:List Value) (ds:List D) (hl:vs.length=ds.length) (h:∀ (i:Nat) v d,vs[i]? = some v→ds[i]? = some d→Rep w C v d):Rep w C (.func (.func f) #[] vs.toArray) (.fn f ds)
 | sp0 {C:Cx} (id:Nat) (hl:C.live id):Rep w C (.pointer none) (.sp id)
 | sp1 {C:Cx} (id g:Nat) (hl:C.live id) (h:C.σ id=.pointer (some ⟨g,0,none⟩)):Rep w C (.pointer (some ⟨g,0,none⟩)) (.sp id)
 | omp {C:Cx} (id g:Nat) (hl:C.live id) (h:C.σ id=.map (some g)):Rep w C (.map (some g)) (.omp id)
 | mp {C:Cx} (g clock:Nat) (k:IntKind) (ks:List Int) (es:Array MapEntry) (vs:List D) (hF:C.F g 0) (hh:w.heap[g]? = some (.map es clock)) (hk:es.toList.map MapEntry.key=ks.map (Value.int k)) (hl:es.toList.length=vs.length)
   (h:∀ (i:Nat) e d,es.toList[i]? = some e→vs[i]? = some d→Rep w (cF C.F) e.val d):Rep w C (.map (some g)) (.mp k ks vs)
 | fsl {C:Cx} (A:Option Addr) (xs:List D) (h:Rep w C (.slice A xs.length xs.length) (.sl xs)):Rep w C (.slice A xs.length xs.length) (.fsl xs)
structure Ext(C:Cx)(w:World)(C':Cx)(w':World):Prop where
 F:∀ b o,C.F b o→C'.F b o
 blk:∀ b o,C.F b o→w'.heap[b]? = w.heap[b]?
 live:∀ id,C.live id→C'.live id
 σ:∀ id,C.live id→C'.σ id=C.σ id
theorem Ext.cell{C C':Cx}{w w':World}(e:Ext C w C' w'):∀ b o,C.F b o→w'.cell? ⟨b,o,none⟩=w.cell? ⟨b,o,none⟩:=fun b o h=>World.cell?_of_block (e.blk b o h)
theorem Ext.refl(C:Cx)(w:World):Ext C w C w:=⟨fun _ _ h=>h,fun _ _ _=>rfl,fun _ h=>h,fun _ _=>rfl⟩
theorem Ext.trans{C C' C'':Cx}{w w' w'':World}(h:Ext C w C' w')(k:Ext C' w' C'' w''):Ext C w C'' w'' :=
 ⟨fun b o x=>k.F b o (h.F b o x),fun b o x=>(k.blk b o (h.F b o x)).trans (h.blk b o x),fun i x=>k.live i (h.live i x),
  fun i x=>(k.σ i (h.live i x)).trans (h.σ i x)⟩
theorem Ext.cF{C C':Cx}{w w':World}(e:Ext C w C' w'):Ext (cF C.F) w (cF C'.F) w':=⟨e.F,e.blk,fun _ h=>h.elim,fun _ h=>h.elim⟩
theorem Rep.ext{C:Cx}{w w':World}{v:Value}{d:D}(h:Rep w C v d):∀ {C':Cx},Ext C w C' w'→Rep w' C' v d:=by
 induction h with
 | any v=>intro C' e;exact .any v
 | undef=>intro C' e;exact .undef
 | int k n h=>intro C' e;exact .int k n h
 | bool b=>intro C' e;exact .bool b
 | str l h=>intro C' e;exact .str l h
 | agg vs ds hl h1 _ ih=>intro C' e;exact .agg vs ds hl h1 fun i v d hv hd=>ih i v d hv hd e
 | tup vs ds hl _ ih=>intro C' e;exact .tup vs ds hl fun i v d hv hd=>ih i v d hv hd e
 | ptr id off g hl h=>intro C' e;exact .ptr id off g (e.live _ hl) ((e.σ _ hl).trans h)
 | vptr id k i off g n c hl h=>intro C' e;exact .vptr id k i off g n c (e.live _ hl) ((e.σ _ hl).trans h)
 | own id n c A hl hm h=>intro C' e;exact .own id n c A (e.live _ hl) hm ((e.σ _ hl).trans h)
 | nilp=>intro C' e;exact .nilp
 | err0=>intro C' e;exact .err0
 | err1 u v=>intro C' e;exact .err1 u v
 | nils=>intro C' e;exact .nils
 | sl0 A c h=>intro C' e;exact .sl0 A c h
 | sl b off k c xs vals hc hm hk hl h1 hF hcell _ ih =>
  intro C' e
  exact .sl b off k c xs vals hc hm hk hl h1 (fun i hi=>e.F _ _ (hF i hi)) (fun i v hv=>(e.cell _ _ (hF i (List.getElem?_eq_some_iff.1 hv).1)).trans (hcell i v hv)) fun i v d hv hd=>ih i v d hv hd e.cF
 | iptr b off ds vals hl h1 hF hcell _ ih =>
  intro C' e
  exact .iptr b off ds vals hl h1 (fun i hi=>e.F _ _ (hF i hi)) (fun i v hv=>(e.cell _ _ (hF i (List.getElem?_eq_some_iff.1 hv).1)).trans (hcell i v hv)) fun i v d hv hd=>ih i v d hv hd e.cF
 | fn f vs ds hl _ ih=>intro C' e;exact .fn f vs ds hl fun i v d hv hd=>ih i v d hv hd e
 | sp0 id hl=>intro C' e;exact .sp0 id (e.live _ hl)
 | sp1 id g hl h=>intro C' e;exact .sp1 id g (e.live _ hl) ((e.σ _ hl).trans h)
 | omp id g hl h=>intro C' e;exact .omp id g (e.live _ hl) ((e.σ _ hl).trans h)
 | mp g clock k ks es vs hF hh hk hl _ ih=>intro C' e;exact .mp g clock k ks es vs (e.F _ _ hF) ((e.blk _ _ hF).trans hh) hk hl fun i v d hv hd=>ih i v d hv hd e.cF
 | fsl A xs _ ih=>intro C' e;exact .fsl A xs (ih e)
structure RepL(C:Cx)(w:World)(vs:List Value)(ds:List D):Prop where
 len:vs.length=ds.length
 one:∀ v ∈ vs,v.oneCell'=true
 rep:∀ (i:Nat) v d,vs[i]? = some v→ds[i]? = some d→Rep w C v d
theorem RepL.ext{C C':Cx}{w w':World}(e:Ext C w C' w'){vs:List Value}{ds:List D}(h:RepL C w vs ds):RepL C' w' vs ds :=
 ⟨h.len,h.one,fun i v d hv hd=>(h.rep i v d hv hd).ext e⟩
theorem cF_ext{C:Cx}{w:World}:Ext (cF C.F) w C w:=⟨fun _ _ h=>h,fun _ _ _=>rfl,fun _ h=>h.elim,fun _ h=>h.elim⟩
theorem RepL.nil{C:Cx}{w:World}:RepL C w [] []:=⟨rfl,by simp,by simp⟩
theorem RepL.agg{C:Cx}{w:World}{vs:List Value}{ds:List D}(h:RepL C w vs ds):Rep w C (.agg vs.toArray) (.agg ds):=.agg vs ds h.len h.one h.rep
theorem RepL.drop{C:Cx}{w:World}{vs:List Value}{ds:List D}(h:RepL C w vs ds)(n:Nat):RepL C w (vs.drop n) (ds.drop n) :=
 ⟨by simp[h.len],fun v hv=>h.one v (List.mem_of_mem_drop hv),fun i v d hv hd=>h.rep (n+i) v d (by simpa using hv) (by simpa using hd)⟩
theorem RepL.take{C:Cx}{w:World}{vs:List Value}{ds:List D}(h:RepL C w vs ds)(n:Nat):RepL C w (vs.take n) (ds.take n) :=
 ⟨by simp[h.len],fun v hv=>h.one v (List.mem_of_mem_take hv),fun i v d hv hd=>by
  rw[List.getElem?_take] at hv hd
  split at hv
  ·rename_i hi;rw[if_pos hi] at hd;exact h.rep i v d hv hd
  ·cases hv⟩
theorem RepL.append{C:Cx}{w:World}{vs us:List Value}{ds es:List D}(h:RepL C w vs ds)(k:RepL C w us es):RepL C w (vs++us) (ds++es):=by
 refine⟨by simp[h.len,k.len],fun v hv=>?_,fun i v d hv hd=>?_⟩
 ·rcases List.mem_append.1 hv with hv|hv
  ·exact h.one v hv
  exact k.one v hv
 by_cases hi:i < vs.length
 ·rw[List.getElem?_append_left hi] at hv;rw[List.getElem?_append_left (h.len ▸ hi)] at hd;exact h.rep i v d hv hd
 rw[List.getElem?_append_right (by omega)] at hv;rw[List.getElem?_append_right (by have:=h.len;omega),← h.len] at hd;exact k.rep _ v d hv hd
theorem RepL.set{C:Cx}{w:World}{vs:List Value}{ds:List D}(h:RepL C w vs ds)(i:Nat){v:Value}{d:D}(h1:v.oneCell'=true)(hr:Rep w C v d):RepL C w (vs.set i v) (ds.set i d):=by
 refine⟨by simp[h.len],fun u hu=>?_,fun j u e hu he=>?_⟩
 ·rcases List.mem_or_eq_of_mem_set hu with hu|rfl
  ·exact h.one u hu
  exact h1
 rw[List.getElem?_set] at hu he;by_cases hij:i=j
 ·subst hij;simp only[if_true] at hu he;split at hu
  ·rename_i hlt
   rw[if_pos (h.len ▸ hlt)] at he;injection hu with hu;injection he with he;subst hu he;exact hr
  cases hu
 rw[if_neg hij] at hu he;exact h.rep j u e hu he
theorem RepL.one1{C:Cx}{w:World}{v:Value}{d:D}(h1:v.oneCell'=true)(h:Rep w C v d):RepL C w [v] [d] :=
 ⟨rfl,by simpa using h1,fun i u e hu he=>by
  cases i with
  | zero=>simp at hu he;subst hu he;exact h
  | succ i=>simp at hu⟩
inductive Blk where
 | box (pn:Option Nat) (cells:List D)
 | bbox (T:TypeId) (cells:List D)
 | vec (e:TypeId) (k:Nat) (xs:List D) (pub:Bool)
 | iter (s:List UInt8) (pos:Nat)
 | mp (k:IntKind) (ks:List Int) (vs:List D) (pub:Bool)
 | mat (e:TypeId) (k:Nat) (xs:List D)
 | lrow (v:Value) (e:TypeId) (k:Nat) (xs:List D)
def BRep (C:Cx)(w:World)(B:Nat)(id:Nat):Blk→Prop
 | .box _ ds=>∃ g t vs,C.σ id=.pointer (some ⟨g,0,none⟩)∧B≤g∧w.heap[g]? = some (.cells vs t (0,0))∧RepL C w vs.toList ds∧∀ o,¬ C.F g o
 | .vec e k xs pub=>∃ vals,w.ownsRow B e k (C.σ id) xs.length vals∧(∀ x ∈ xs,x.cells.length=k)∧RepL (cF C.F) w vals (xs.flatMap D.cells) ∧
   ∀ g,(C.σ id).ownBlock=some g→(∀ o,C.F g o→pub=true∧o < xs.length * k)∧(pub=true→∀ o,o < xs.length * k→C.F g o)
 | .bbox T ds=>∃ g vs,C.σ id=.pointer (some ⟨g,0,none⟩)∧B≤g∧w.heap[g]? = some (.cells vs T (0,0))∧RepL C w vs.toList ds∧∀ o,¬ C.F g o
 | .iter s pos=>∃ g,C.σ id=.pointer (some ⟨g,0,none⟩)∧B≤g∧w.heap[g]? = some (.stringIter ⟨s.toArray⟩ pos)∧s.length≤maxLen∧∀ o,¬ C.F g o
 | .mp k ks vs pub=>∃ g clock es,C.σ id=.map (some g)∧B≤g∧w.heap[g]? = some (.map es clock)∧es.toList.map MapEntry.key=ks.map (Value.int k)∧es.toList.length=vs.length ∧
   (∀ (i:Nat) e d,es.toList[i]? = some e→vs[i]? = some d→Rep w (cF C.F) e.val d)∧(pub=false→∀ o,¬ C.F g o)∧(pub=true→C.F g 0)
 | .mat e k xs=>∃ vals,w.ownsRow B e k (C.σ id) xs.length vals∧(∀ x ∈ xs,x.cells.length=k)∧RepL C w vals (xs.flatMap D.cells)∧∀ g,(C.σ id).ownBlock=some g→∀ o,¬ C.F g o
 | .lrow v e k xs=>C.σ id=v∧∃ vals,w.ownsRow B e k (C.σ id) xs.length vals∧(∀ x ∈ xs,x.cells.length=k)∧RepL (cF C.F) w vals (xs.flatMap D.cells) ∧
   ∀ g,(C.σ id).ownBlock=some g→(∀ o,C.F g o→false=true∧o < xs.length * k)∧(false=true→∀ o,o < xs.length * k→C.F g o)
def blockOf:Value→Option Nat
 | .pointer (some a)=>some a.block
 | .slice (some a) _ _=>some a.block
 | .map (some g)=>some g
 | _=>none
def upd {α:Type}(f:Nat→α)(i:Nat)(x:α):Nat→α:=fun j=>if j=i then x else f j
structure AS where
 env:Nat→D
 heap:Nat→Option Blk
 next:Nat
 nt:Nat
def D.ok1:D→Bool
 | .any|.undef|.tup _|.agg _=>false
 | _=>true
def D.okS:D→Bool
 | .agg _=>true
 | d=>d.ok1
def cD1:Value→D
 | .int k n=>if inR k n then .int k n else .any
 | .bool b=>.bool b
 | .string s=>if s.data.toList.length≤maxLen then .str s.data.toList else .any
 | .pointer none=>.nilp
 | .slice none 0 0=>.nils
 | .nilIface=>.err false
 | _=>.any
def cD:Value→D
 | .agg cs=>if cs.toList.all (·.oneCell') then .agg (cs.toList.map cD1) else .any
 | v=>cD1 v
def AS.val(S:AS):Operand→D
 | .tmp t=>S.env t
 | .const v=>cD v
 | .global _=>.any
 | .func f=>.fn f []
section types
variable (P:Program)
def szT (t:TypeId):Option Nat:=(P.info? t).map (·.size)
def bytesT(t:TypeId):Option Nat:=(P.info? t).map (·.bytes)
def aggT (t:TypeId):Option Bool:=(P.underlying t).map fun|.struct _|.array _ _=>true|_=>false
def fldT (t:TypeId)(i:Nat):Option (Nat × TypeId):=match P.underlying t with|some (.struct fs)=>(fs[i]?).map fun f=>(f.offset,f.type)|_=>none
def sliceT(t:TypeId):Option TypeId:=match P.underlying t with|some (.slice e)=>some e|_=>none
def arrT (t:TypeId):Option (Nat × TypeId):=match P.underlying t with|some (.array n e)=>some (n,e)|_=>none
def strT (t:TypeId):Bool:=match P.underlying t with|some .string=>true|_=>false
def intT (t:TypeId):Option IntKind:=match P.underlying t with|some (.int k)=>some k|_=>none
def u8T (t:TypeId):Bool:=match P.underlying t with
 | some (.slice e)=>match P.underlying e with
  | some (.int .u8)=>true
  | _=>false
 | _=>false
def fullT(t:TypeId):Bool:=match P.underlying t with
 | some (.struct fs)=>fs.toList.map (·.name) == ["Text", "Column", "Quoted"]
 | _=>false
def nilE (t:TypeId):Bool:=match P.underlying t with
 | some (.slice e)=>match P.underlying e with
  | some (.struct fs)=>fs.toList.map (·.name) == ["part", "cost"]
  | _=>false
 | _=>false
def froT (t:TypeId):Bool:=match P.underlying t with
 | some (.struct fs)=>fs.toList.map (·.name) == ["Strength", "Ragged", "Row", "Event", "Fast", "Gap", "Shot"]
 | _=>false
def intD:D→Bool
 | .int _ _=>true
 | _=>false
def mkZ (z z':D):Bool→D
 | true=>z
 | false=>z'
def ptrT (t:TypeId):Bool:=match P.underlying t with|some (.pointer _)=>true|_=>false
def ifaceT(t:TypeId):Bool:=match P.underlying t with|some (.interface _)=>true|_=>false
def isConst:Operand→Bool
 | .const _=>true
 | _=>false
def bytesD:List D→Option (List UInt8)
 | []=>some []
 | .int .u8 n::l=>match bytesD l with
  | some s=>some (UInt8.ofNat n.toNat::s)
  | none=>none
 | _::_=>none
def bytesOf(l:List Int):List UInt8:=l.map fun n=>UInt8.ofNat n.toNat
theorem bytesD_map(l:List Int):bytesD (l.map (D.int .u8))=some (bytesOf l):=by
 induction l with
 | nil=>rfl
 | cons a t ih=>simp only[List.map_cons,bytesD,ih,bytesOf]
theorem bytesD_snoc(l:List Int)(n:Int):bytesD (l.map (D.int .u8)++[D.int .u8 n])=some (bytesOf (l++[n])):=by
 rw[← bytesD_map,List.map_append];rfl
theorem bytesD_snoc2(l:List Int)(n m:Int):bytesD (l.map (D.int .u8)++[D.int .u8 n,D.int .u8 m])=some (bytesOf (l++[n,m])):=by
 rw[← bytesD_map,List.map_append];rfl
theorem bytesD_app(l m:List Int):bytesD (l.map (D.int .u8)++m.map (D.int .u8))=some (bytesOf (l++m)):=by
 rw[← bytesD_map,List.map_append]
def replL{α:Type}(n:Nat)(x:α):List α:=List.replicate n x
def zeroD(t:TypeId):Option D:=((P.info? t).bind (·.zero)).map cD
def zOne (t:TypeId):Bool:=match (P.info? t).bind (·.zero) with
 | some v=>v.oneCell'
 | none=>false
def kc (t:TypeId):Nat:=match P.underlying t with
 | some .bool=>1
 | some (.int _)=>2
 | some .string=>3
 | _=>0
def eqTf (t:TypeId):Option (List Nat):=match P.underlying t with
 | some (.struct fs)=>if !P.stoodInHeld t&&!P.eqGuardType P.depth t&&(fs.toList.zipIdx.all fun p=>p.1.name != "_" && p.1.offset == p.2&&kc P p.1.type != 0) then some (fs.toList.map fun f=>kc P f.type) else none
 | _=>none
def fks (t:TypeId):Option (List Nat):=if kc P t != 0 then some [kc P t] else match eqTf P t with
 | some ks=>if szT P t=some ks.length∧aggT P t=some true then some ks else none
 | none=>none
def offsK:Nat→List Field→Option (List Nat)
 | _,[]=>some []
 | o,f::fs=>if f.name != "_" && f.offset == o then(match fks P f.type with
  | some ks=>match offsK (o+ks.length) fs with
   | some r=>some (ks++r)
   | none=>none
  | none=>none) else none
def eqTs (t:TypeId):Option (List Nat):=match P.underlying t with
 | some (.struct fs)=>if !P.stoodInHeld t&&!P.eqGuardType P.depth t then offsK P 0 fs.toList else none
 | _=>none
def loadD(t:TypeId)(ds:List D):Option D :=
 match aggT P t with
 | some true=>match szT P t with
  | some n=>if n≤ds.length then some (.agg (ds.take n)) else none
  | none=>none
 | some false=>ds.head?
 | none=>none
def putD (ds:List D)(off:Nat)(x:D):List D:=ds.take off++x.cells++ds.drop (off+x.cells.length)
def fillD(place:Nat→Option (Nat × Nat)):List D→List (Nat × D)→Option (List D)
 | ds,[]=>some ds
 | ds,(i,x)::rest=>match place i with
  | some (off,n)=>if x.okS&&(x.cells.length == n)&&decide (off+n≤ds.length) then fillD place (putD ds off x) rest else none
  | none=>none
def placeT(t:TypeId)(i:Nat):Option (Nat × Nat) :=
 match fldT P t i with
 | some (off,ft)=>(szT P ft).map fun n=>(off,n)
 | none=>match arrT P t with
  | some (_,e)=>(szT P e).map fun n=>(i * n,n)
  | none=>none
def eqK:List Nat→List D→List D→Option Bool
 | [],[],[]=>some true
 | 1::ks,.bool a::xs,.bool b::ys=>match eqK ks xs ys with
  | some r=>some ((a == b)&&r)
  | none=>none
 | 2::ks,.int k a::xs,.int k' b::ys=>if k=k' then(match eqK ks xs ys with
  | some r=>some ((a == b)&&r)
  | none=>none) else none
 | 3::ks,.str a::xs,.str b::ys=>match eqK ks xs ys with
  | some r=>some ((a == b)&&r)
  | none=>none
 | _,_,_=>none
def eqR (op:BinOp):Option Bool→Option D
 | some r=>match op with
  | .eql=>some (.bool r)
  | .neq=>some (.bool !r)
  | _=>none
 | none=>none
def shrZ (k:IntKind)(x y:Int):Int:=x.fdiv (2 ^ (min y.toNat k.bits))
def andZ (k:IntKind)(x y:Int):Int:=k.wrap (BitVec.ofInt k.bits x &&& BitVec.ofInt k.bits y).toNat
def shOp (op:BinOp)(k:IntKind)(x y:Int):Option D :=
 match op with
 | .shr=>if 0≤y then some (.int k (shrZ k x y)) else none
 | _=>none
def intOp(op:BinOp)(k:IntKind)(x y:Int):Option D :=
 match op with
 | .add=>some (.int k (k.wrap (x+y)))
 | .sub=>some (.int k (k.wrap (x - y)))
 | .mul=>some (.int k (k.wrap (x * y)))
 | .quo=>if y=0 then none else some (.int k (k.wrap (x.tdiv y)))
 | .rem=>if y=0 then none else some (.int k (x.tmod y))
 | .eql=>some (.bool (x == y))
 | .neq=>some (.bool (x != y))
 | .lss=>some (.bool (decide (x < y)))
 | .leq=>some (.bool (decide (x≤y)))
 | .gtr=>some (.bool (decide (y < x)))
 | .geq=>some (.bool (decide (y≤x)))
 | .shr=>if y=1 then some (.int k (x.fdiv 2)) else none
 | .and=>some (.int k (andZ k x y))
 | _=>none
def strOp(op:BinOp)(x y:List UInt8):Option D :=
 match op with
 | .add=>if x.length+y.length≤maxLen then some (.str (x++y)) else none
 | .eql=>some (.bool (x == y))
 | .neq=>some (.bool (!(x == y)))
 | .lss=>some (.bool (Op.bytesLess x y))
 | .leq=>some (.bool (Op.bytesLess x y||x == y))
 | .gtr=>some (.bool (!(Op.bytesLess x y||x == y)))
 | .geq=>some (.bool (!Op.bytesLess x y))
 | _=>none
def elemsD(H:Nat→Option Blk):D→Option (List D)
 | .sl xs=>some xs
 | .nils=>some []
 | .own id n=>match H id with
  | some (.vec _ _ xs _)=>if xs.length=n then some xs else none
  | _=>none
 | .fsl xs=>some xs
 | _=>none
def lenD:D→Option Int
 | .str s=>some s.length
 | .sl xs=>some xs.length
 | .nils=>some 0
 | .own _ n=>some n
 | _=>none
def buildT(t:TypeId):Bool:=match P.underlying t with
 | some (.struct fs)=>fs.toList.all fun f=>(szT P f.type).isSome
 | some (.array _ e)=>(szT P e).isSome
 | _=>false
def loD:Option D→Option Nat
 | none=>some 0
 | some (.int _ n)=>if 0≤n then some n.toNat else none
 | _=>none
def hiD (len:Nat):Option D→Option Nat
 | none=>some len
 | some (.int _ n)=>if 0≤n∧n.toNat≤len then some n.toNat else none
 | _=>none
def slOk (t:TypeId)(xs:List D):Bool:=match sliceT P t with
 | some e=>(szT P e).isSome&&xs.all (fun x=>decide (szT P e=some x.cells.length))
 | none=>false
abbrev Eff:=List (Nat × Option Blk)
def appEff(H:Nat→Option Blk):Eff→(Nat→Option Blk)
 | []=>H
 | (id,b)::rest=>appEff (upd H id b) rest
def isI:D→Bool
 | .iptr _=>true
 | _=>false
def pur1 (H:Nat→Option Blk):D→Option (D × Eff)
 | .int k n=>some (.int k n,[])
 | .bool b=>some (.bool b,[])
 | .str s=>some (.str s,[])
 | .sl xs=>some (.sl xs,[])
 | .nilp=>some (.nilp,[])
 | .err b=>some (.err b,[])
 | .iptr ds=>some (.iptr ds,[])
 | .fn f cs=>if cs.all isI=true then some (.fn f cs,[]) else none
 | .mp k ks vs=>some (.mp k ks vs,[])
 | .omp id=>match H id with
  | some (.mp k ks vs _)=>some (.mp k ks vs,[(id,some (.mp k ks vs true))])
  | _=>none
 | .nils=>some (.sl [],[])
 | .own id n=>match H id with
  | some (.vec e k xs _)=>if xs.length=n then some (.sl xs,[(id,some (.vec e k xs true))]) else none
  | _=>none
 | .fsl xs=>some (.fsl xs,[])
 | _=>none
def purL (H:Nat→Option Blk):List D→Option (List D × Eff)
 | []=>some ([],[])
 | d::ds=>match pur1 H d with
  | some (d',e)=>match purL (appEff H e) ds with
   | some (ds',e')=>some (d'::ds',e++e')
   | none=>none
  | none=>none
def purD (H:Nat→Option Blk):D→Option (D × Eff)
 | .agg ds=>match purL H ds with
  | some (ds',e)=>some (.agg ds',e)
  | none=>none
 | d=>pur1 H d
def purDs(H:Nat→Option Blk):List D→Option (List D × Eff)
 | []=>some ([],[])
 | d::ds=>match purD H d with
  | some (d',e)=>match purDs (appEff H e) ds with
   | some (ds',e')=>some (d'::ds',e++e')
   | none=>none
  | none=>none
def purX (H:Nat→Option Blk):D→Option (D × Eff)
 | .ptr id off=>some (.ptr id off,[])
 | d=>purD H d
def purXs(H:Nat→Option Blk):List D→Option (List D × Eff)
 | []=>some ([],[])
 | d::ds=>match purX H d with
  | some (d',e)=>match purXs (appEff H e) ds with
   | some (ds',e')=>some (d'::ds',e++e')
   | none=>none
  | none=>none
def lookV{α:Type}:List Int→List α→Int→α→α
 | a::ks,x::xs,n,z=>if a=n then x else lookV ks xs n z
 | _,_,_,z=>z
def putK:List Int→Int→List Int
 | [],n=>[n]
 | a::ks,n=>if a=n then a::ks else a::putK ks n
def putV {α:Type}:List Int→List α→Int→α→List α
 | a::ks,x::xs,n,y=>if a=n then y::xs else x::putV ks xs n y
 | _,_,_,y=>[y]
def bldT (t:TypeId):Bool:=match P.underlying t with
 | some (.struct fs)=>fs.size == 2&&(fs.toList.map (·.name) == ["addr", "buf"])
 | _=>false
def selfD(nid:Nat):List D→List D
 | []=>[]
 | .nilp::l=>.sp nid::selfD nid l
 | d::l=>d::selfD nid l
def mapKT(t:TypeId):Option (IntKind × TypeId):=match P.underlying t with
 | some (.map kt e)=>match P.underlying kt with
  | some (.int k)=>some (k,e)
  | _=>none
 | _=>none
def mapD (H:Nat→Option Blk):D→Option (IntKind × List Int × List D)
 | .mp k ks vs=>some (k,ks,vs)
 | .omp id=>match H id with
  | some (.mp k ks vs _)=>some (k,ks,vs)
  | _=>none
 | _=>none
def decL (l:List UInt8):Nat × Nat :=
 match l with
 | []=>(0xFFFD,1)
 | a::r =>
  let b0:=a.toNat
  let c1:=match r[0]? with|some b=>b.toNat / 64 == 2|none=>false
  let c2:=match r[1]? with|some b=>b.toNat / 64 == 2|none=>false
  let c3:=match r[2]? with|some b=>b.toNat / 64 == 2|none=>false
  let x1:=(r.getD 0 0).toNat
  let x2:=(r.getD 1 0).toNat
  let x3:=(r.getD 2 0).toNat
  if b0 < 0x80 then(b0,1)
  else if b0 / 32 == 6&&c1 then
   let c:=(b0 % 32) * 64+x1 % 64
   if c ≥ 0x80 then(c,2) else(0xFFFD,1)
  else if b0 / 16 == 14&&c1&&c2 then
   let c:=(b0 % 16) * 4096+(x1 % 64) * 64+x2 % 64
   if c ≥ 0x800&&Utf8.valid c then(c,3) else(0xFFFD,1)
  else if b0 / 8 == 30&&c1&&c2&&c3 then
   let c:=(b0 % 8) * 262144+(x1 % 64) * 4096+(x2 % 64) * 64+x3 % 64
   if c ≥ 0x10000&&Utf8.valid c then(c,4) else(0xFFFD,1)
  else(0xFFFD,1)
def runeAt(s:List UInt8)(pos:Nat):Int:=(decL (s.drop pos)).1
def widthAt(s:List UInt8)(pos:Nat):Nat:=(decL (s.drop pos)).2
def abuiltin(c:Call)(nid:Nat)(S:AS):Option (D × Eff) :=
 match c.callee,c.args.toList,c.argTypes.toList with
 | .builtin .len,[x],[t]=>match S.val x with
  | .str s=>if strT P t then some (.int .i64 s.length,[]) else none
  | .sl xs=>if(sliceT P t).isSome then some (.int .i64 xs.length,[]) else none
  | .nils=>if(sliceT P t).isSome then some (.int .i64 0,[]) else none
  | .own _ n=>if(sliceT P t).isSome then some (.int .i64 n,[]) else none
  | _=>none
 | .builtin .append,[s,x],[t,t'] =>
  match sliceT P t with
  | some e=>match szT P e,bytesT P e,elemsD S.heap (S.val s),elemsD S.heap (S.val x) with
   | some k,some by_,some xs,some ys =>
    if t=t'∧0 < k∧(zeroD P e).any (fun z=>z.okS&&(z.cells.length == k))=true∧(∀ y ∈ ys,y.okS=true∧y.cells.length=k)∧xs.length+ys.length≤maxLen∧(xs.length+ys.length) * by_≤140737488355328 then
     match S.val s with
     | .nils=>some (.own nid ys.length,[(nid,some (.vec e k ys false))])
     | .own id _=>match S.heap id with
      | some (.vec e' k' _ false)=>if e=e'∧k=k' then some (.own nid (xs.length+ys.length),[(id,none),(nid,some (.vec e k (xs++ys) false))]) else none
      | _=>none
     | .fsl _=>if 0 < ys.length∧(∀ y ∈ xs,y.cells.length=k) then some (.own nid (xs.length+ys.length),[(nid,some (.vec e k (xs++ys) false))]) else none
     | _=>none
    else none
   | _,_,_,_=>none
  | none=>none
 | .builtin .min,[x,y],_=>match S.val x,S.val y with
  | .int k a,.int k' b=>if k=k' then some (.int k (if b < a then b else a),[]) else none
  | _,_=>none
 | .builtin .max,[x,y],_=>match S.val x,S.val y with
  | .int k a,.int k' b=>if k=k' then some (.int k (if b > a then b else a),[]) else none
  | _,_=>none
 | _,_,_=>none
def D.isAg:D→Bool
 | .agg _=>true
 | .int _ _|.bool _|.str _|.sl _|.nils|.fsl _|.err _|.nilp|.iptr _|.mp _ _ _|.any|.undef|.tup _|.ptr _ _|.vptr _ _ _ _|.own _ _|.fn _ _|.sp _|.omp _=>false
def matS (b:Blk)(t:TypeId)(id k i off:Nat)(x:D):Option Eff:=match b with
 | .mat e k' xs=>if k=k'∧off=0∧x.okS=true∧x.cells.length=k∧szT P t=some k∧i < xs.length then some [(id,some (.mat e k (xs.set i x)))] else none
 | .vec e k' xs false=>match x with
  | .own j n=>if(sliceT P e).isSome=true∧k=k'∧off=0∧k=1∧szT P t=some 1∧i < xs.length then some [(id,some (.mat e k (xs.set i (.own j n))))] else none
  | _=>none
 | _=>none
def bsR (nid len:Nat)(e:TypeId)(k:Nat)(xs:List D)(ep:Eff):Bool→D × Eff
 | true=>(.fsl xs,ep++[(nid,some (.vec e k xs true))])
 | false=>(.own nid len,ep++[(nid,some (.vec e k xs false))])
def boxR (nid:Nat)(x:D):Bool→D × Eff
 | true=>(.iptr x.cells,[])
 | false=>(.ptr nid 0,[(nid,some (.box none x.cells))])
def aop (o:Op)(nid:Nat)(S:AS):Option (D × Eff) :=
 match o with
 | .move x=>some (S.val x,[])
 | .assign x=>some (S.val x,[])
 | .pick c a b=>match S.val c with
  | .bool t=>some (if t then S.val a else S.val b,[])
  | _=>none
 | .alloc e=>match zeroD P e with
  | some z=>if(z.okS||zOne P e)=true then some (.ptr nid 0,[(nid,some (if bldT P e then .bbox e (selfD nid z.cells) else .box none z.cells))]) else none
  | none=>none
 | .box e x=>if(S.val x).okS then some (boxR nid (S.val x) (froT P e&&(S.val x).cells.all intD)) else none
 | .build t parts=>match zeroD P t,buildT P t with
  | some (.agg ds),true=>(fillD (placeT P t) ds (parts.toList.map fun p=>(p.1,S.val p.2))).map fun ds'=>(.agg ds',[])
  | _,_=>none
 | .buildSlice t len parts=>match sliceT P t with
  | some e=>match szT P e with
   | some k=>match purDs S.heap (parts.toList.map fun p=>S.val p.2) with
    | some (xs,ep)=>if parts.toList.map (·.1)=List.range len∧(∀ x ∈ xs,x.cells.length=k)∧len * k≤2 ^ 24∧0 < k∧(zeroD P e).any (fun z=>z.okS&&(z.cells.length == k))=true then
     some (bsR nid len e k xs ep (fullT P e)) else none
    | none=>none
   | none=>none
  | none=>none
 | .load t a=>match S.val a with
  | .ptr id off=>match S.heap id with
   | some (.box _ cs)=>(loadD P t (cs.drop off)).map fun d=>(d,[])
   | _=>none
  | .vptr id k i off=>match S.heap id with
   | some (.vec _ k' xs _)=>if k=k' then(match xs[i]? with|some x=>(loadD P t (x.cells.drop off)).map fun d=>(d,[])|none=>none) else none
   | some (.mat _ k' xs)=>if k=k' then(match xs[i]? with|some x=>(loadD P t (x.cells.drop off)).map fun d=>(d,[])|none=>none) else none
   | some (.lrow _ _ k' xs)=>if k=k' then(match xs[i]? with|some x=>(loadD P t (x.cells.drop off)).map fun d=>(d,[])|none=>none) else none
   | _=>none
  | .iptr ds=>(loadD P t ds).map fun d=>(d,[])
  | _=>none
 | .store t a x=>match S.val a with
  | .ptr id off=>match S.heap id with
   | some (.box pn cs)=>if(S.val x).okS∧szT P t=some (S.val x).cells.length∧off+(S.val x).cells.length≤cs.length then some (.undef,[(id,some (.box pn (putD cs off (S.val x))))]) else none
   | _=>none
  | .vptr id k i off=>match S.heap id with
   | none=>none
   | some b=>match matS P b t id k i off (S.val x) with
   | some eff=>some (.undef,eff)
   | none=>match purD S.heap (S.val x) with
   | some (x',ep)=>match appEff S.heap ep id with
    | some (.vec e k' xs false)=>match xs[i]? with
     | some y=>if k=k'∧szT P t=some x'.cells.length∧off+x'.cells.length≤k then
       some (.undef,ep++[(id,some (.vec e k' (xs.set i (if off=0∧x'.cells.length=k∧(x'.isAg||!y.isAg)=true then x' else .agg (putD y.cells off x'))) false))]) else none
     | none=>none
    | some (.lrow u e k' xs)=>match xs[i]? with
     | some y=>if k=k'∧szT P t=some x'.cells.length∧off+x'.cells.length≤k then
       some (.undef,ep++[(id,some (.lrow u e k' (xs.set i (if off=0∧x'.cells.length=k∧(x'.isAg||!y.isAg)=true then x' else .agg (putD y.cells off x')))))]) else none
     | none=>none
    | _=>none
   | none=>none
  | _=>none
 | .nilCheck x=>match S.val x with
  | .ptr id off=>some (.ptr id off,[])
  | .vptr id k i off=>some (.vptr id k i off,[])
  | .iptr ds=>some (.iptr ds,[])
  | .fn f cs=>some (.fn f cs,[])
  | _=>none
 | .binOp op t x y _=>match S.val x,S.val y with
  | .int k a,.int k' b=>if k=k' then(intOp op k a b).map fun d=>(d,[]) else(shOp op k a b).map fun d=>(d,[])
  | .str a,.str b=>(strOp op a b).map fun d=>(d,[])
  | .bool a,.bool b=>if kc P t=1 then(eqR op (some (a == b))).map fun d=>(d,[]) else none
  | .agg xs,.agg ys=>match eqTs P t with
   | some ks=>(eqR op (eqK ks xs ys)).map fun d=>(d,[])
   | none=>none
  | .err b,.err false=>if isConst y&&ifaceT P t then(eqR op (some !b)).map fun d=>(d,[]) else none
  | .ptr _ _,.nilp=>if ptrT P t then(eqR op (some false)).map fun d=>(d,[]) else none
  | _,_=>none
 | .unOp op _ x=>match op,S.val x with
  | .not,.bool b=>some (.bool !b,[])
  | .neg,.int k n=>some (.int k (k.wrap (0 - n)),[])
  | _,_=>none
 | .convert src dst x=>if(aggT P src).isSome then(match S.val x with
  | .int _ n=>match intT P dst with
   | some k=>some (.int k (k.wrap n),[])
   | none=>if strT P dst then some (.str (Utf8.encode n).data.toList,[]) else none
  | .str s=>if strT P dst then some (.str s,[]) else none
  | dx=>if u8T P src&&strT P dst then(match elemsD S.heap dx with
   | some xs=>(bytesD xs).map fun s=>(.str s,[])
   | none=>none) else none) else none
 | .slice t x lo hi none=>match S.val x with
  | .str s=>if strT P t then(match loD (lo.map S.val),hiD s.length (hi.map S.val) with
   | some l,some h=>if l≤h then some (.str ((s.drop l).take (h - l)),[]) else none
   | _,_=>none) else none
  | .sl xs=>if slOk P t xs then(match loD (lo.map S.val),hiD xs.length (hi.map S.val) with
   | some l,some h=>if l≤h then some (.sl ((xs.drop l).take (h - l)),[]) else none
   | _,_=>none) else none
  | .own id n=>match S.heap id with
   | some (.vec e k xs _)=>if xs.length=n∧slOk P t xs=true then(match loD (lo.map S.val),hiD xs.length (hi.map S.val) with
    | some l,some h=>if l≤h then some (.sl ((xs.drop l).take (h - l)),[(id,some (.vec e k xs true))]) else none
    | _,_=>none) else none
   | _=>none
  | .nils=>if slOk P t []=true then(match loD (lo.map S.val),hiD 0 (hi.map S.val) with
   | some l,some h=>if l≤h then some (.nils,[]) else none
   | _,_=>none) else none
  | .iptr ds=>if lo.isNone&&hi.isNone then(match arrT P t with
   | some (len,e)=>if szT P e=some 1∧len≤ds.length∧len≤maxLen∧(ds.take len).all intD=true then some (.fsl (ds.take len),[]) else none
   | none=>none) else none
  | _=>none
 | .fieldAddr s x f=>match fldT P s f with
  | some (fo,ft)=>if szT P ft=some 0∨szT P ft=none then none else match S.val x with
   | .ptr id off=>some (.ptr id (off+fo),[])
   | .vptr id k i off=>some (.vptr id k i (off+fo),[])
   | .iptr ds=>some (.iptr (ds.drop fo),[])
   | _=>none
  | none=>none
 | .field s x f=>match fldT P s f,S.val x with
  | some (fo,ft),.agg ds=>(loadD P ft (ds.drop fo)).map fun d=>(d,[])
  | _,_=>none
 | .indexAddr t x i=>match S.val i with
  | .int _ n=>match S.val x with
   | .sl xs=>match sliceT P t with
    | some e=>match szT P e,(if 0≤n then xs[n.toNat]? else none) with
     | some k,some y=>if y.cells.length=k then some (.iptr y.cells,[]) else none
     | _,_=>none
    | none=>none
   | .own id m=>match sliceT P t,S.heap id with
    | some e,some _=>match szT P e with
     | some k=>if 0≤n∧n < m then some (.vptr id k n.toNat 0,[]) else none
     | none=>none
    | _,_=>none
   | .ptr id off=>match arrT P t with
    | some (len,e)=>match szT P e with
     | some k=>if 0≤n∧n < len then some (.ptr id (off+n.toNat * k),[]) else none
     | none=>none
    | none=>none
   | .iptr ds=>match arrT P t with
    | some (len,e)=>match szT P e with
     | some k=>if 0≤n∧n < len then some (.iptr (ds.drop (n.toNat * k)),[]) else none
     | none=>none
    | none=>none
   | _=>none
  | _=>none
 | .index t x i=>match S.val i with
  | .int _ n=>match S.val x with
   | .str s=>if strT P t then(match (if 0≤n then s[n.toNat]? else none) with|some b=>some (.int .u8 b.toNat,[])|none=>none) else none
   | .agg ds=>match arrT P t with
    | some (len,e)=>match szT P e with
     | some k=>if 0≤n∧n < len then(loadD P e (ds.drop (n.toNat * k))).map fun d=>(d,[]) else none
     | none=>none
    | none=>none
   | _=>none
  | _=>none
 | .extract t i=>match S.val t with
  | .tup ds=>(ds[i]?).map fun d=>(d,[])
  | _=>none
 | .makeSlice t l c=>match S.val l,S.val c with
  | .int _ n,.int _ m=>match sliceT P t with
   | some e=>match szT P e,bytesT P e,zeroD P e with
    | some k,some by_,some z=>match purD (fun _=>none) z with
     | some (z',[])=>if n=m∧0≤n∧n≤(maxLen:Int)∧n * by_≤140737488355328∧z.okS=true∧z.cells.length=k∧z'.cells.length=k then some (.own nid n.toNat,[(nid,some (.vec e k (replL n.toNat (mkZ z z' (nilE P e))) false))]) else none
     | _=>none
    | _,_,_=>none
   | none=>none
  | _,_=>none
 | .call c=>abuiltin P c nid S
 | .makeFunc (.func f) ⟨[]⟩ cs=>some (.fn f (cs.toList.map S.val),[])
 | .range t x=>match S.val x with
  | .str s=>if strT P t then some (.ptr nid 0,[(nid,some (.iter s 0))]) else none
  | _=>none
 | .next it true=>match S.val it with
  | .ptr id 0=>match S.heap id with
   | some (.iter s pos)=>if pos < s.length then some (.tup [.bool true,.int .i64 pos,.int .i32 (runeAt s pos)],[(id,some (.iter s (pos+widthAt s pos)))]) else some (.tup [.bool false],[])
   | _=>none
  | _=>none
 | .makeMap t r=>match mapKT P t,(match r with|none=>true|some x=>match S.val x with|.int _ _=>true|_=>false) with
  | some (k,_),true=>some (.omp nid,[(nid,some (.mp k [] [] false))])
  | _,_=>none
 | .lookup t x i ok=>match mapKT P t,S.val i,mapD S.heap (S.val x) with
  | some (k,e),.int k' n,some (k'',ks,vs)=>if k=k'∧k=k'' then(match zeroD P e with
   | some z=>some (if ok then .tup [lookV ks vs n z,.bool (ks.contains n)] else lookV ks vs n z,[])
   | none=>none) else none
  | _,_,_=>none
 | .mapUpdate t m i v=>match mapKT P t,S.val m,S.val i,purD S.heap (S.val v) with
  | some (k,_),.omp id,.int k' n,some (v',ep)=>match appEff S.heap ep id with
   | some (.mp k'' ks vs false)=>if k=k'∧k=k'' then some (.undef,ep++[(id,some (.mp k (putK ks n) (putV ks vs n v') false))]) else none
   | _=>none
  | _,_,_,_=>none
 | _=>none
end types
structure BelM(M:Nat→Prop)(w w':World):Prop where
 os:w'.os=w.os
 tape:w'.tape=w.tape
 output:w'.output=w.output
 size:w.heap.size≤w'.heap.size
 block:∀ k,k < w.heap.size→¬ M k→w'.heap[k]? = w.heap[k]?
theorem BelM.refl(M:Nat→Prop)(w:World):BelM M w w:=⟨rfl,rfl,rfl,Nat.le_refl _,fun _ _ _=>rfl⟩
theorem BelM.trans{M:Nat→Prop}{a b c:World}(h:BelM M a b)(k:BelM M b c):BelM M a c :=
 ⟨k.os.trans h.os,k.tape.trans h.tape,k.output.trans h.output,Nat.le_trans h.size k.size,fun i hi hm=>(k.block i (Nat.lt_of_lt_of_le hi h.size) hm).trans (h.block i hi hm)⟩
theorem BelM.alloc{M:Nat→Prop}{a w:World}(h:BelM M a w)(o:Obj):BelM M a (w.alloc o) :=
 h.trans ⟨rfl,rfl,rfl,by simp,fun k hk _=>Below.heap_alloc w o k hk⟩
theorem BelM.of{M:Nat→Prop}{w w':World}(h:Below w.heap.size w w'):BelM M w w':=⟨h.os,h.tape,h.output,h.size,fun k hk _=>h.block k hk⟩
theorem BelM.to{w w':World}(h:BelM (fun k=>w.heap.size≤k) w w'):Below w.heap.size w w':=⟨h.os,h.tape,h.output,h.size,fun k hk=>h.block k hk (by omega)⟩
structure Bx where
 M:Nat→Prop
 p:Nat→Value
structure HOK(C:Cx)(w:World)(B:Bx)(H:Nat→Option Blk):Prop where
 rep:∀ id b,H id=some b→C.live id∧BRep C w 0 id b
 own:∀ id b,H id=some b→∀ g,blockOf (C.σ id)=some g→B.M g
 pin:∀ id k cs,H id=some (.box (some k) cs)→C.σ id=B.p k
 apart:∀ id id' b b',H id=some b→H id'=some b'→id≠id'→∀ g,blockOf (C.σ id)=some g→blockOf (C.σ id')≠some g
def FB (C:Cx)(w:World):Prop:=∀ b o,C.F b o→b < w.heap.size
def OpOK (P:Program)(o:Oper)(a:Act)(w:World)(C:Cx)(B:Bx)(H:Nat→Option Blk)(nid:Nat)(d:D)(eff:Eff):Prop :=
 ∃ nx v w' C',(execOp a.eval o).run P w=.ok nx w'∧(nx=.value v∨(nx=.skip∧v=Go.undef))∧BelM B.M w w'∧Ext C w C' w'∧Rep w' C' v d∧HOK C' w' B (appEff H eff)∧FB C' w'∧(∀ id,C'.live id→C.live id∨id=nid)∧∀ b o,C'.F b o→C.F b o∨B.M b
section
variable {P:Program}{o:Oper}{a:Act}{w:World}{C:Cx}{B:Bx}{H:Nat→Option Blk}{nid:Nat}{d:D}{S:AS}
theorem OpOK.same{v:Value}(hH:HOK C w B H)(hF:FB C w)(hr:(execOp a.eval o).run P w=.ok (.value v) w)(h:Rep w C v d):OpOK P o a w C B H nid d [] :=
 ⟨_,v,w,C,hr,.inl rfl,BelM.refl _ _,Ext.refl _ _,h,hH,hF,fun _ h=>.inl h,fun _ _ h=>.inl h⟩
theorem wrap_inR(k:IntKind)(n:Int):inR k (k.wrap n):=by
 unfold inR
 cases k<;>simp only[kLo,kHi,IntKind.wrap,IntKind.bits,IntKind.signed]
 all_goals
  simp only[Bool.true_and,Bool.false_and,decide_eq_true_eq,Bool.false_eq_true,if_false]
  (try split)<;>(simp at *;omega)
theorem tmod_le_self(x y:Int)(h:0≤x):x.tmod y≤x:=by
 rw[Int.tmod_eq_emod_of_nonneg h];rcases Int.lt_trichotomy y 0 with hy|rfl|hy
 ·have h1:=Int.emod_lt_of_neg x hy;have h2:=Int.emod_nonneg x (show y≠0 by omega);by_cases hh:x < -y
  ·rw[← Int.emod_neg,Int.emod_eq_of_lt h hh];omega
  omega
 ·simp
 have h1:=Int.emod_lt_of_pos x hy;by_cases hh:x < y
 ·rw[Int.emod_eq_of_lt h hh];omega
 omega
theorem tmod_inR{k:IntKind}{x:Int}(y:Int)(h:inR k x):inR k (x.tmod y):=by
 have h0:kLo k≤0∧0≤kHi k:=by cases k<;>decide
 unfold inR at *;rcases Int.le_total 0 x with hx|hx
 ·have h1:=Int.tmod_nonneg y hx;have h2:=tmod_le_self x y hx;omega
 have h1:=Int.tmod_nonneg y (show 0≤-x by omega);have h2:=tmod_le_self (-x) y (by omega);rw[Int.neg_tmod] at h1 h2;omega
theorem len_inR{n:Nat}(h:n≤maxLen):inR .i64 n:=by
 unfold inR;simp only[kLo,kHi];unfold maxLen at h;omega
theorem str_of(s:ByteArray):(⟨s.data.toList.toArray⟩:ByteArray)=s:=by cases s;simp
theorem rep_cD1(v:Value):Rep w C v (cD1 v):=by
 unfold cD1;split<;>try exact .any _
 ·split
  ·exact .int _ _ (by assumption)
  exact .any _
 ·exact .bool _
 ·split
  ·rename_i s h;have:=Rep.str (C:=C) (w:=w) s.data.toList h;rwa[str_of] at this
  exact .any _
 ·exact .nilp
 ·exact .nils
 exact .err0
theorem rep_cD(v:Value):Rep w C v (cD v):=by
 unfold cD
 split
 ·rename_i cs
  split
  ·rename_i h
   have:=Rep.agg (C:=C) (w:=w) cs.toList (cs.toList.map cD1) (by simp) (fun v hv=>by simpa using List.all_eq_true.1 h v hv) (fun i v d hv hd=>by
    simp only[List.getElem?_map,hv,Option.map_some,Option.some.injEq] at hd
    subst hd;exact rep_cD1 v)
   simpa using this
  ·exact .any _
 ·exact rep_cD1 v
def EnvOK(C:Cx)(w:World)(a:Act)(env:Nat→D):Prop:=∀ t,Rep w C (a.tmps.getD t Go.undef) (env t)
theorem EnvOK.val(h:EnvOK C w a S.env)(x:Operand):Rep w C (a.eval x) (S.val x):=by
 cases x with
 | tmp t=>exact h t
 | const v=>exact rep_cD v
 | global g=>exact .any _
 | func f=>exact .fn f [] [] rfl (by simp)
theorem Rep.cellsS{v:Value}(h:Rep w C v d)(ho:d.okS=true):RepL C w v.cells.toList d.cells:=by
 cases h with
 | agg vs ds hl h1 h=>exact⟨by simpa[Value.cells,D.cells] using hl,by simpa[Value.cells] using h1,by simpa[Value.cells,D.cells] using h⟩
 | any|undef|tup=>simp[D.okS,D.ok1] at ho
 | int k n h=>exact RepL.one1 rfl (.int k n h)
 | bool b=>exact RepL.one1 rfl (.bool b)
 | str l h=>exact RepL.one1 rfl (.str l h)
 | ptr id off g hl h=>exact RepL.one1 rfl (.ptr id off g hl h)
 | vptr id k i off g n c hl h=>exact RepL.one1 rfl (.vptr id k i off g n c hl h)
 | own id n c A hl hm h=>exact RepL.one1 rfl (.own id n c A hl hm h)
 | nilp=>exact RepL.one1 rfl .nilp
 | err0=>exact RepL.one1 rfl .err0
 | err1 u v=>exact RepL.one1 rfl (.err1 u v)
 | nils=>exact RepL.one1 rfl .nils
 | sl0 A c h=>exact RepL.one1 rfl (.sl0 A c h)
 | sl b off k c xs vals hc hm hk hl h1 hF hcell h=>exact RepL.one1 rfl (.sl b off k c xs vals hc hm hk hl h1 hF hcell h)
 | iptr b off ds vals hl h1 hF hcell h=>exact RepL.one1 rfl (.iptr b off ds vals hl h1 hF hcell h)
 | fn f vs ds hl h=>exact RepL.one1 rfl (.fn f vs ds hl h)
 | sp0 id hl=>exact RepL.one1 rfl (.sp0 id hl)
 | sp1 id g hl h=>exact RepL.one1 rfl (.sp1 id g hl h)
 | omp id g hl h=>exact RepL.one1 rfl (.omp id g hl h)
 | mp g clock k ks es vs hF hh hk hl h=>exact RepL.one1 rfl (.mp g clock k ks es vs hF hh hk hl h)
 | fsl A xs h=>exact RepL.one1 rfl (.fsl A xs h)
theorem aggT_run{t:TypeId}{b:Bool}(h:aggT P t=some b):(isAgg t).run P w=.ok b w:=by
 unfold aggT at h
 cases hu:P.underlying t with
 | none=>rw[hu] at h;simp at h
 | some u =>
  rw[hu] at h
  simp only[Option.map_some,Option.some.injEq] at h
  have hr:(underlying t).run P w=.ok u w:=by simp[underlying,hu]
  simp only[isAgg,Sem.run_bind,hr,Result.andThen_ok]
  rw[← h]
  cases u<;>rfl
theorem szT_run{t:TypeId}{n:Nat}(h:szT P t=some n):(sizeOf t).run P w=.ok n w:=by
 unfold szT at h
 cases hu:P.info? t with
 | none=>rw[hu] at h;simp at h
 | some u =>
  rw[hu] at h
  simp only[Option.map_some,Option.some.injEq] at h
  simp[sizeOf,typeInfo,hu,h]
theorem addr_add(b off n:Nat):(⟨b,off,none⟩:Addr).add n=⟨b,off+n,none⟩:=by
 unfold Addr.add;split
 ·rename_i h;subst h;rfl
 rfl
theorem loadD_run{t:TypeId}{ds:List D}{vals:List Value}{b off:Nat}(hL:RepL C w vals ds)(hcell:∀ (i:Nat) v,vals[i]? = some v→w.cell? ⟨b,off+i,none⟩=some v)(h:loadD P t ds=some d) :
  ∃ v,(Instr.loadAt t (.pointer (some ⟨b,off,none⟩))).run P w=.ok v w∧Rep w C v d:=by
 unfold loadD at h
 cases ha:aggT P t with
 | none=>rw[ha] at h;simp at h
 | some x =>
  rw[ha] at h
  cases x with
  | true =>
   simp only at h
   cases hn:szT P t with
   | none=>rw[hn] at h;simp at h
   | some n =>
    rw[hn] at h
    simp only at h
    split at h
    ·rename_i hle
     simp only[Option.some.injEq] at h
     subst h
     have hlen:(vals.take n).length=n:=by rw[List.length_take,hL.len];omega
     refine⟨.agg (vals.take n).toArray,?_,(hL.take n).agg⟩
     have hlc:=run_loadCells_list (P:=P) (w:=w) ⟨b,off,none⟩ (vals.take n) (fun j v hv=>by
      rw[addr_add]
      rw[List.getElem?_take] at hv
      split at hv
      ·exact hcell j v hv
      ·cases hv)
     rw[hlen] at hlc
     simp[Instr.loadAt,Instr.sureAddr,loadVar,aggT_run ha,szT_run hn,hlc]
    ·simp at h
  | false =>
   simp only at h
   cases ds with
   | nil=>simp at h
   | cons e ds =>
    simp at h
    subst h
    cases hv:vals with
    | nil=>have:=hL.len;rw[hv] at this;simp at this
    | cons v vs =>
     refine⟨v,?_,hL.rep 0 v e (by rw[hv];rfl) rfl⟩
     have hc:=hcell 0 v (by rw[hv];rfl)
     simp only[Nat.add_zero] at hc
     simp[Instr.loadAt,Instr.sureAddr,loadVar,aggT_run ha,hc]
theorem part_run{t:TypeId}{ds:List D}{vs:List Value}{off:Nat}(hL:RepL C w vs ds)(h:loadD P t (ds.drop off)=some d) :
  ∃ v,(part t vs.toArray off).run P w=.ok v w∧Rep w C v d:=by
 unfold loadD at h
 cases ha:aggT P t with
 | none=>rw[ha] at h;simp at h
 | some x =>
  rw[ha] at h
  cases x with
  | true =>
   simp only at h
   cases hn:szT P t with
   | none=>rw[hn] at h;simp at h
   | some n =>
    rw[hn] at h
    simp only at h
    split at h
    ·rename_i hle
     simp only[Option.some.injEq] at h
     subst h
     refine⟨.agg ((vs.drop off).take n).toArray,?_,((hL.drop off).take n).agg⟩
     simp only[part,Sem.run_bind,aggT_run ha,Result.andThen_ok,if_true,szT_run hn,Sem.run_pure,Result.ok.injEq,Value.agg.injEq,and_true]
     apply Array.ext'
     simp
    ·simp at h
  | false =>
   simp only at h
   cases hd:ds.drop off with
   | nil=>rw[hd] at h;simp at h
   | cons e r =>
    rw[hd] at h
    simp at h
    subst h
    have h0:ds[off]? = some e:=by rw[← List.head?_drop,hd];rfl
    have hv:off < vs.length:=by have:=(List.getElem?_eq_some_iff.1 h0).1;have:=hL.len;omega
    refine⟨vs[off],?_,hL.rep off _ e (List.getElem?_eq_getElem hv) h0⟩
    simp[part,aggT_run ha,hv]
end
section
variable {P:Program}{o:Oper}{a:Act}{w w':World}{C C':Cx}{B:Bx}{H:Nat→Option Blk}{nid:Nat}{d:D}{S:AS}
theorem BRep.keep{B:Nat}{id:Nat}{b:Blk}(h:BRep C w B id b)(hl:C.live id)(e:Ext C w C' w')(hb:∀ g,blockOf (C.σ id)=some g→w'.heap[g]? = w.heap[g]?)(hF:∀ g o,blockOf (C.σ id)=some g→C'.F g o→C.F g o):BRep C' w' B id b:=by
 have hs:=e.σ id hl
 have key:∀ (et:TypeId) (k:Nat) (xs:List D) (pub:Bool),BRep C w B id (.vec et k xs pub)→BRep C' w' B id (.vec et k xs pub):=by
  intro et k xs pub h
  obtain⟨vals,h1,h2,h3,h4⟩:=h
  refine⟨vals,?_,h2,h3.ext e.cF,?_⟩
  ·rw[hs]
   refine⟨h1.1,?_⟩
   rcases h1.2 with h0|⟨g,cap,cur,hv,hB,hh,hr⟩
   ·exact .inl h0
   ·exact .inr ⟨g,cap,cur,hv,hB,(hb g (by rw[hv];rfl)).trans hh,hr⟩
  ·intro g hg
   rw[hs] at hg
   have hbl:blockOf (C.σ id)=some g:=by
    cases hv:C.σ id<;>rw[hv] at hg<;>simp[Value.ownBlock] at hg
    rename_i A _ _
    cases A with
    | none=>simp at hg
    | some A=>simpa[Value.ownBlock,blockOf] using hg
   obtain⟨k1,k2⟩:=h4 g hg
   exact⟨fun o ho=>k1 o (hF g o hbl ho),fun hp o ho=>e.F g o (k2 hp o ho)⟩
 cases b with
 | box pn ds =>
  obtain⟨g,t,vs,h1,h2,h3,h4,h5⟩:=h
  have hg:blockOf (C.σ id)=some g:=by rw[h1];rfl
  exact⟨g,t,vs,hs.trans h1,h2,(hb g hg).trans h3,h4.ext e,fun o ho=>h5 o (hF g o hg ho)⟩
 | vec et k xs pub=>exact key et k xs pub h
 | lrow u et k xs=>exact⟨hs.trans h.1,key et k xs false h.2⟩
 | mat et k xs =>
  obtain⟨vals,h1,h2,h3,h4⟩:=h
  refine⟨vals,?_,h2,h3.ext e,?_⟩
  ·rw[hs]
   refine⟨h1.1,?_⟩
   rcases h1.2 with h0|⟨g,cap,cur,hv,hB,hh,hr⟩
   ·exact .inl h0
   ·exact .inr ⟨g,cap,cur,hv,hB,(hb g (by rw[hv];rfl)).trans hh,hr⟩
  ·intro g hg o ho
   rw[hs] at hg
   have hbl:blockOf (C.σ id)=some g:=by
    cases hv:C.σ id<;>rw[hv] at hg<;>simp[Value.ownBlock] at hg
    rename_i A _ _
    cases A with
    | none=>simp at hg
    | some A=>simpa[Value.ownBlock,blockOf] using hg
   exact h4 g hg o (hF g o hbl ho)
 | bbox T ds =>
  obtain⟨g,vs,h1,h2,h3,h4,h5⟩:=h
  have hg:blockOf (C.σ id)=some g:=by rw[h1];rfl
  exact⟨g,vs,hs.trans h1,h2,(hb g hg).trans h3,h4.ext e,fun o ho=>h5 o (hF g o hg ho)⟩
 | iter s pos =>
  obtain⟨g,h1,h2,h3,h4,h5⟩:=h
  have hg:blockOf (C.σ id)=some g:=by rw[h1];rfl
  exact⟨g,hs.trans h1,h2,(hb g hg).trans h3,h4,fun o ho=>h5 o (hF g o hg ho)⟩
 | mp k ks vs pub =>
  obtain⟨g,clock,es,h1,h2,h3,h4,h5,h6,h7,h8⟩:=h
  have hg:blockOf (C.σ id)=some g:=by rw[h1];rfl
  exact⟨g,clock,es,hs.trans h1,h2,(hb g hg).trans h3,h4,h5,fun i v d hv hd=>(h6 i v d hv hd).ext e.cF,fun hp o ho=>h7 hp o (hF g o hg ho),fun hp=>e.F g 0 (h8 hp)⟩
theorem BRep.lt{B:Nat}{id:Nat}{b:Blk}(h:BRep C w B id b):∀ g,blockOf (C.σ id)=some g→B≤g∧g < w.heap.size:=by
 intro g hg
 cases b with
 | box pn ds =>
  obtain⟨g',t,vs,h1,h2,h3,_⟩:=h
  rw[h1] at hg;simp[blockOf] at hg;subst hg
  exact⟨h2,(Array.getElem?_eq_some_iff.1 h3).1⟩
 | vec et k xs pub =>
  obtain⟨vals,h1,_⟩:=h
  rcases h1.2 with⟨h0,_⟩|⟨g',cap,cur,hv,hB,hh,hr⟩
  ·rw[h0] at hg;simp[blockOf] at hg
  ·rw[hv] at hg;simp[blockOf] at hg;subst hg
   exact⟨hB,(Array.getElem?_eq_some_iff.1 hh).1⟩
 | mat et k xs =>
  obtain⟨vals,h1,_⟩:=h
  rcases h1.2 with⟨h0,_⟩|⟨g',cap,cur,hv,hB,hh,hr⟩
  ·rw[h0] at hg;simp[blockOf] at hg
  ·rw[hv] at hg;simp[blockOf] at hg;subst hg
   exact⟨hB,(Array.getElem?_eq_some_iff.1 hh).1⟩
 | lrow u et k xs =>
  obtain⟨_,vals,h1,_⟩:=h
  rcases h1.2 with⟨h0,_⟩|⟨g',cap,cur,hv,hB,hh,hr⟩
  ·rw[h0] at hg;simp[blockOf] at hg
  ·rw[hv] at hg;simp[blockOf] at hg;subst hg
   exact⟨hB,(Array.getElem?_eq_some_iff.1 hh).1⟩
 | bbox T ds =>
  obtain⟨g',vs,h1,h2,h3,_⟩:=h
  rw[h1] at hg;simp[blockOf] at hg;subst hg
  exact⟨h2,(Array.getElem?_eq_some_iff.1 h3).1⟩
 | iter s pos =>
  obtain⟨g',h1,h2,h3,_⟩:=h
  rw[h1] at hg;simp[blockOf] at hg;subst hg
  exact⟨h2,(Array.getElem?_eq_some_iff.1 h3).1⟩
 | mp k ks vs pub =>
  obtain⟨g',clock,es,h1,h2,h3,_⟩:=h
  rw[h1] at hg;simp[blockOf] at hg;subst hg
  exact⟨h2,(Array.getElem?_eq_some_iff.1 h3).1⟩
def Cx.new(C:Cx)(nid:Nat)(v:Value):Cx:=⟨C.F,upd C.σ nid v,fun id=>C.live id∨id=nid⟩
theorem Cx.new_ext(hn:¬ C.live nid)(v:Value)(hc:∀ b o,C.F b o→w'.heap[b]? = w.heap[b]?):Ext C w (C.new nid v) w' :=
 ⟨fun _ _ h=>h,hc,fun _ h=>.inl h,fun id h=>by
  have:id≠nid:=fun e=>hn (e ▸ h)
  simp[Cx.new,upd,this]⟩
theorem HOK.add{b:Blk}{v:Value}(hH:HOK C w B H)(hn:¬ C.live nid)(e:Ext C w (C.new nid v) w')(hb:∀ g,g < w.heap.size→w'.heap[g]? = w.heap[g]?)(hnew:BRep (C.new nid v) w' 0 nid b)(hbase:∀ g,w.heap.size≤g→B.M g)(hpin:∀ k cs,b≠.box (some k) cs)(hlt:∀ g,blockOf v=some g→w.heap.size≤g) :
  HOK (C.new nid v) w' B (upd H nid (some b)):=by
 have hs:(C.new nid v).σ nid=v:=by simp[Cx.new,upd]
 refine⟨fun id b' h=>?_,fun id b' h g hg=>by
  by_cases hi:id=nid
  ·subst hi
   rw[hs] at hg
   exact hbase g (hlt g hg)
  ·simp[upd,hi] at h
   rw[e.σ id (hH.rep id b' h).1] at hg
   exact hH.own id b' h g hg,fun id k cs h=>by
  by_cases hi:id=nid
  ·subst hi
   simp[upd] at h
   exact absurd h (hpin k cs)
  ·simp[upd,hi] at h
   rw[e.σ id (hH.rep id _ h).1]
   exact hH.pin id k cs h,fun id id' b1 b2 h1 h2 hne g hg hg'=>?_⟩
 ·by_cases hi:id=nid
  ·subst hi
   simp[upd] at h;subst h
   exact⟨.inr rfl,hnew⟩
  ·simp[upd,hi] at h
   obtain⟨k1,k2⟩:=hH.rep id b' h
   exact⟨.inl k1,k2.keep k1 e (fun g hg=>hb g (k2.lt g hg).2) (fun g o _ h=>h)⟩
 ·by_cases hi:id=nid
  ·subst hi
   have hi':id'≠id:=fun e=>hne e.symm
   simp[upd,hi'] at h2
   obtain⟨k1,k2⟩:=hH.rep id' b2 h2
   rw[e.σ id' k1] at hg'
   rw[hs] at hg
   have:=hlt g hg
   have:=(k2.lt g hg').2
   omega
  ·simp[upd,hi] at h1
   obtain⟨k1,k2⟩:=hH.rep id b1 h1
   rw[e.σ id k1] at hg
   by_cases hi':id'=nid
   ·subst hi'
    rw[hs] at hg'
    have:=hlt g hg'
    have:=(k2.lt g hg).2
    omega
   ·simp[upd,hi'] at h2
    obtain⟨k3,k4⟩:=hH.rep id' b2 h2
    rw[e.σ id' k3] at hg'
    exact hH.apart id id' b1 b2 h1 h2 hne g hg hg'
theorem HOK.change{id:Nat}{b b':Blk}(hH:HOK C w B H)(hi:H id=some b)(e:Ext C w C w')(hb:∀ g,blockOf (C.σ id)≠some g→g < w.heap.size→w'.heap[g]? = w.heap[g]?)(hpin:∀ k cs,b'=.box (some k) cs→C.σ id=B.p k)(hnew:BRep C w' 0 id b'):HOK C w' B (upd H id (some b')):=by
 refine⟨fun j bj h=>?_,fun j bj h g hg=>?_,fun j k cs h=>?_,fun j j' b1 b2 h1 h2 hne g hg hg'=>?_⟩
 ·by_cases hj:j=id
  ·subst hj;simp[upd] at h;subst h;exact⟨(hH.rep j b hi).1,hnew⟩
  simp[upd,hj] at h;obtain⟨k1,k2⟩:=hH.rep j bj h;exact⟨k1,k2.keep k1 e (fun g hg=>hb g (hH.apart j id bj b h hi hj g hg) (k2.lt g hg).2) (fun g o _ h=>h)⟩
 ·by_cases hj:j=id
  ·subst hj;exact hH.own j b hi g hg
  simp[upd,hj] at h;exact hH.own j bj h g hg
 ·by_cases hj:j=id
  ·subst hj;simp[upd] at h;exact hpin k cs h
  simp[upd,hj] at h;exact hH.pin j k cs h
 by_cases hj:j=id
 ·subst hj;have hj':j'≠j:=fun e=>hne e.symm;simp[upd,hj'] at h2;exact hH.apart j j' b b2 hi h2 hne g hg hg'
 simp[upd,hj] at h1;by_cases hj':j'=id
 ·subst hj';exact hH.apart j j' b1 b h1 hi hne g hg hg'
 simp[upd,hj'] at h2;exact hH.apart j j' b1 b2 h1 h2 hne g hg hg'
theorem HOK.drop(hH:HOK C w B H)(id:Nat):HOK C w B (upd H id none):=by
 refine⟨fun j bj h=>?_,fun j bj h=>?_,fun j k cs h=>?_,fun j j' b1 b2 h1 h2 hne=>?_⟩
 ·by_cases hj:j=id
  ·subst hj;simp[upd] at h
  simp[upd,hj] at h;exact hH.rep j bj h
 ·by_cases hj:j=id
  ·subst hj;simp[upd] at h
  simp[upd,hj] at h;exact hH.own j bj h
 ·by_cases hj:j=id
  ·subst hj;simp[upd] at h
  simp[upd,hj] at h;exact hH.pin j k cs h
 by_cases hj:j=id
 ·subst hj;simp[upd] at h1
 simp[upd,hj] at h1;by_cases hj':j'=id
 ·subst hj';simp[upd] at h2
 simp[upd,hj'] at h2;exact hH.apart j j' b1 b2 h1 h2 hne
theorem FB.alloc(hF:FB C w)(ob:Obj):∀ b o,C.F b o→(w.alloc ob).heap[b]? = w.heap[b]?:=fun b o h=>Below.heap_alloc w ob b (hF b o h)
theorem nolt(hF:FB C w)(o:Nat):¬ C.F w.heap.size o:=fun h=>by have:=hF _ _ h;omega
theorem ok_box{t:TypeId}{vs:Array Value}{ds:List D}(hH:HOK C w B H)(hF:FB C w)(hB:∀ g,w.heap.size≤g→B.M g)(hn:¬ C.live nid)(hL:RepL C w vs.toList ds)
  (hr:(execOp a.eval o).run P w=.ok (.value (.pointer (some ⟨w.heap.size,0,none⟩))) (w.alloc (.cells vs t))):OpOK P o a w C B H nid (.ptr nid 0) [(nid,some (.box none ds))]:=by
 have e:=Cx.new_ext (w:=w) (w':=w.alloc (.cells vs t)) hn (.pointer (some ⟨w.heap.size,0,none⟩)) (hF.alloc _)
 have hs:(C.new nid (.pointer (some ⟨w.heap.size,0,none⟩))).σ nid=.pointer (some ⟨w.heap.size,0,none⟩):=by simp[Cx.new,upd]
 refine⟨_,_,_,C.new nid (.pointer (some ⟨w.heap.size,0,none⟩)),hr,.inl rfl,(BelM.refl _ _).alloc _,e,.ptr nid 0 _ (.inr rfl) hs,?_,?_,fun id h=>h,fun _ _ h=>.inl h⟩
 ·refine HOK.add hH hn e (fun g hg=>Below.heap_alloc w _ g hg) ⟨w.heap.size,t,vs,hs,Nat.zero_le _,heap_alloc_new w _,hL.ext e,nolt hF⟩ hB (fun k cs h=>by cases h) ?_
  intro g hg;simp[blockOf] at hg;omega
 ·intro b o h;have:=hF b o h;simp;omega
theorem ownsRow_new(e:TypeId)(k n:Nat)(vals:List Value)(hl:vals.length=n * k)(hm:n≤maxLen):(w.alloc (.cells vals.toArray e)).ownsRow 0 e k (.slice (some ⟨w.heap.size,0,none⟩) n n) n vals :=
 ⟨hl,.inr ⟨w.heap.size,n,vals.toArray,rfl,Nat.zero_le _,heap_alloc_new w _,Nat.le_refl _,hm,by simpa using hl,by rw[← hl];simp⟩⟩
theorem own_le{B:Nat}{v:Value}{et:TypeId}{k n:Nat}{vals:List Value}(h:w.ownsRow B et k v n vals):n≤maxLen:=by
 rcases h.2 with⟨_,rfl⟩|⟨g,cap,cur,_,_,_,h1,h2,_⟩
 ·exact Nat.zero_le _
 omega
theorem ok_vec{et:TypeId}{k:Nat}{v:Value}{xs:List D}{vals:List Value}(hH:HOK C w B H)(hF:FB C w)(hn:¬ C.live nid)(hk:∀ x ∈ xs,x.cells.length=k)
  (hL:RepL (cF C.F) w vals (xs.flatMap D.cells)) (hown:w'.ownsRow 0 et k v xs.length vals) (hg:∀ g,g < w.heap.size→w'.heap[g]? = w.heap[g]?) (hbel:BelM B.M w w') (hbase:∀ g,w.heap.size≤g→B.M g) (hnew:∀ g,v.ownBlock=some g→w.heap.size≤g)
  (hr:(execOp a.eval o).run P w=.ok (.value v) w'):OpOK P o a w C B H nid (.own nid xs.length) [(nid,some (.vec et k xs false))]:=by
 have e:=Cx.new_ext (w:=w) (w':=w') hn v (fun b o h=>hg b (hF b o h))
 have hs:(C.new nid v).σ nid=v:=by simp[Cx.new,upd]
 have hv:∃ A c,v=.slice A xs.length c:=by
  rcases hown.2 with⟨h1,h2⟩|⟨g,cap,cur,h1,_⟩
  ·exact⟨none,0,by rw[h2,h1]⟩
  ·exact⟨_,_,h1⟩
 obtain⟨A,c,rfl⟩:=hv
 refine⟨_,_,_,_,hr,.inl rfl,hbel,e,.own nid xs.length c A (.inr rfl) (own_le hown) hs,?_,?_,fun id h=>h,fun _ _ h=>.inl h⟩
 ·refine HOK.add hH hn e hg ⟨vals,by rw[hs];exact hown,hk,hL.ext e.cF,?_⟩ hbase (fun k cs h=>by cases h) ?_
  ·intro g hg'
   rw[hs] at hg'
   have:=hnew g hg'
   refine⟨fun o ho=>?_,fun h=>by cases h⟩
   have:=hF g o ho
   omega
  ·intro g hg'
   refine hnew g ?_
   cases A with
   | none=>simp[blockOf] at hg'
   | some A=>simpa[Value.ownBlock,blockOf] using hg'
 ·intro b o h;have:=hF b o h;have:=hbel.size;omega
theorem appEff_append(H:Nat→Option Blk):∀ (e e':Eff),appEff H (e++e')=appEff (appEff H e) e'
 | [],_=>rfl
 | (_,_)::e,e'=>by simp only[List.cons_append,appEff];exact appEff_append _ e e'
structure Pub(C:Cx)(w:World)(B:Bx)(H:Nat→Option Blk)(C':Cx)(H':Nat→Option Blk):Prop where
 ext:Ext C w C' w
 σ:C'.σ=C.σ
 live:C'.live=C.live
 ok:HOK C' w B H'
 fb:FB C' w
 new:∀ b o,C'.F b o→C.F b o∨B.M b
theorem Pub.refl(hH:HOK C w B H)(hF:FB C w):Pub C w B H C H:=⟨Ext.refl _ _,rfl,rfl,hH,hF,fun _ _ h=>.inl h⟩
theorem Pub.trans{C'':Cx}{H' H'':Nat→Option Blk}(h:Pub C w B H C' H')(k:Pub C' w B H' C'' H''):Pub C w B H C'' H'' :=
 ⟨h.ext.trans k.ext,k.σ.trans h.σ,k.live.trans h.live,k.ok,k.fb,fun b o x=>by
  rcases k.new b o x with x|x
  ·exact h.new b o x
  ·exact .inr x⟩
theorem HOK.own_upd{id:Nat}{b b':Blk}(hH:HOK C w B H)(hi:H id=some b):∀ j bj,upd H id (some b') j=some bj→∀ g,blockOf (C.σ j)=some g→B.M g:=by
 intro j bj h g hg;by_cases hj:j=id
 ·subst hj;exact hH.own j b hi g hg
 simp[upd,hj] at h;exact hH.own j bj h g hg
theorem HOK.pin_upd{id:Nat}{b':Blk}(hH:HOK C w B H)(hb:∀ k cs,b'≠.box (some k) cs):∀ j k cs,upd H id (some b') j=some (.box (some k) cs)→C.σ j=B.p k:=by
 intro j k cs h;by_cases hj:j=id
 ·subst hj;simp[upd] at h;exact absurd h (hb k cs)
 simp[upd,hj] at h;exact hH.pin j k cs h
theorem pub_vec{id:Nat}{e:TypeId}{k:Nat}{xs:List D}{p:Bool}(hH:HOK C w B H)(hF:FB C w)(hi:H id=some (.vec e k xs p)) :
  ∃ C',Pub C w B H C' (upd H id (some (.vec e k xs true)))∧∀ v,Rep w C v (.own id xs.length)→Rep w (cF C'.F) v (.sl xs):=by
 obtain⟨hl,vals,q1,q2,q3,q4⟩:=hH.rep id _ hi
 let C':Cx:=⟨fun b o=>C.F b o∨((C.σ id).ownBlock=some b∧o < xs.length * k),C.σ,C.live⟩
 have ee:Ext C w C' w:=⟨fun _ _ h=>.inl h,fun _ _ _=>rfl,fun _ h=>h,fun _ _=>rfl⟩
 have hown:∀ g,(C.σ id).ownBlock=some g→blockOf (C.σ id)=some g:=by
  intro g hg
  cases hv:C.σ id<;>rw[hv] at hg<;>simp[Value.ownBlock] at hg
  rename_i A _ _
  cases A with
  | none=>simp at hg
  | some A=>simpa[Value.ownBlock,blockOf] using hg
 refine⟨C',⟨ee,rfl,rfl,⟨fun j bj h=>?_,hH.own_upd hi,hH.pin_upd (fun k cs h=>by cases h),fun j j' b1 b2 h1 h2 hne g hg hg'=>?_⟩,?_,?_⟩,?_⟩
 ·by_cases hj:j=id
  ·subst hj
   simp[upd] at h;subst h
   refine⟨hl,vals,q1,q2,q3.ext ee.cF,fun g hg=>⟨fun o ho=>?_,fun _ o ho=>.inr ⟨hg,ho⟩⟩⟩
   rcases ho with ho|ho
   ·exact⟨rfl,((q4 g hg).1 o ho).2⟩
   ·exact⟨rfl,ho.2⟩
  ·simp[upd,hj] at h
   obtain⟨k1,k2⟩:=hH.rep j bj h
   refine⟨k1,k2.keep k1 ee (fun g _=>rfl) (fun g o hg ho=>?_)⟩
   rcases ho with ho|ho
   ·exact ho
   ·exact absurd (hown g ho.1) (hH.apart j id bj _ h hi hj g hg)
 ·have get:∀ j b,upd H id (some (.vec e k xs true)) j=some b→∃ b',H j=some b':=by
   intro j b h
   by_cases hj:j=id
   ·subst hj;exact⟨_,hi⟩
   ·simp[upd,hj] at h;exact⟨b,h⟩
  obtain⟨b1',h1'⟩:=get j b1 h1
  obtain⟨b2',h2'⟩:=get j' b2 h2
  exact hH.apart j j' b1' b2' h1' h2' hne g hg hg'
 ·intro b o ho
  rcases ho with ho|ho
  ·exact hF b o ho
  ·exact(q1.lt b ho.1).2
 ·intro b o ho
  rcases ho with ho|ho
  ·exact .inl ho
  ·exact .inr (hH.own id _ hi b (hown b ho.1))
 ·intro v hv
  generalize hn:xs.length=n at hv
  cases hv with
  | own _ _ c A hl' hm' hσ =>
   subst hn
   rw[hσ] at q1 q4
   rcases q1.2 with⟨r1,r2⟩|⟨g,cap,cur,r1,r2,r3,r4,r5,r6,r7⟩
   ·have hx:xs=[]:=List.eq_nil_of_length_eq_zero r2
    subst hx
    injection r1 with r1 _ r3
    subst r3
    exact .sl0 _ _ (Nat.zero_le _)
   ·injection r1 with r1 _ rc
    subst r1 rc
    have hlen:=q1.1
    refine .sl g 0 k c xs vals r4 r5 q2 q3.len q3.one (fun i hi=>?_) (fun i v hv=>?_) (fun i v d hv hd=>?_)
    ·right
     exact⟨by rw[hσ];rfl,by omega⟩
    ·have:=q1.cells (g:=g) rfl i v hv
     unfold Addr.add at this
     split at this
     ·rename_i h0;subst h0;exact this
     ·exact this
    ·exact(q3.rep i v d hv hd).ext ⟨fun _ _ h=>.inl h,fun _ _ _=>rfl,fun _ h=>h.elim,fun _ h=>h.elim⟩
theorem pub_mp{id:Nat}{k:IntKind}{ks:List Int}{vs:List D}{p:Bool}(hH:HOK C w B H)(hF:FB C w)(hi:H id=some (.mp k ks vs p)) :
  ∃ C',Pub C w B H C' (upd H id (some (.mp k ks vs true)))∧∀ v,Rep w C v (.omp id)→Rep w (cF C'.F) v (.mp k ks vs):=by
 obtain⟨k0,g,clock,es,q1,q2,q3,q4,q5,q6,q7,q8⟩:=hH.rep id _ hi
 have hlt:g < w.heap.size:=(Array.getElem?_eq_some_iff.1 q3).1
 let C':Cx:=⟨fun b o=>C.F b o∨(b=g∧o=0),C.σ,C.live⟩
 have ee:Ext C w C' w:=⟨fun _ _ h=>.inl h,fun _ _ _=>rfl,fun _ h=>h,fun _ _=>rfl⟩
 refine⟨C',⟨ee,rfl,rfl,⟨fun j bj h=>?_,hH.own_upd hi,hH.pin_upd (fun k cs h=>by cases h),fun j j' b1 b2 h1 h2 hne g' hg hg'=>?_⟩,fun b o h=>?_,fun b o h=>?_⟩,fun v hv=>?_⟩
 ·by_cases hj:j=id
  ·subst hj
   simp[upd] at h;subst h
   exact⟨k0,g,clock,es,q1,q2,q3,q4,q5,fun i v d hv hd=>(q6 i v d hv hd).ext ee.cF,(fun h=>by cases h),fun _=>.inr ⟨rfl,rfl⟩⟩
  ·simp[upd,hj] at h
   obtain⟨k1,k2⟩:=hH.rep j bj h
   refine⟨k1,k2.keep k1 ee (fun _ _=>rfl) (fun g' o hg' ho=>?_)⟩
   rcases ho with ho|⟨rfl,rfl⟩
   ·exact ho
   ·exact absurd hg' (hH.apart id j _ bj hi h (fun e=>hj e.symm) _ (by rw[q1];rfl))
 ·by_cases hj:j=id
  ·subst hj
   have hj':j'≠j:=fun e=>hne e.symm
   simp[upd,hj'] at h2
   exact hH.apart j j' _ b2 hi h2 hne g' hg hg'
  ·simp[upd,hj] at h1
   by_cases hj':j'=id
   ·subst hj'
    exact hH.apart j j' b1 _ h1 hi hne g' hg hg'
   ·simp[upd,hj'] at h2
    exact hH.apart j j' b1 b2 h1 h2 hne g' hg hg'
 ·rcases h with h|⟨rfl,rfl⟩
  ·exact hF b o h
  ·exact hlt
 ·rcases h with h|⟨rfl,rfl⟩
  ·exact .inl h
  ·exact .inr (hH.own id _ hi b (by rw[q1];rfl))
 ·cases hv with
  | omp _ g' hl hσ =>
   rw[hσ] at q1
   injection q1 with q1;injection q1 with q1
   subst q1
   exact .mp g' clock k ks es vs (.inr ⟨rfl,rfl⟩) q3 q4 q5 fun i v d hv hd=>(q6 i v d hv hd).ext ee.cF
theorem Rep.slF{v:Value}{xs:List D}(h:Rep w C v (.sl xs)):Rep w (cF C.F) v (.sl xs):=by
 cases h with
 | sl0 A c hm=>exact .sl0 A c hm
 | sl b off k c _ vals hc hm hk hl h1 hF hcell h=>exact .sl b off k c _ vals hc hm hk hl h1 hF hcell h
theorem Rep.iptrF{v:Value}{ds:List D}(h:Rep w C v (.iptr ds)):Rep w (cF C.F) v (.iptr ds):=by
 cases h with
 | iptr b off _ vals hl h1 hF hcell h=>exact .iptr b off _ vals hl h1 hF hcell h
theorem Rep.mpF{v:Value}{k:IntKind}{ks:List Int}{vs:List D}(h:Rep w C v (.mp k ks vs)):Rep w (cF C.F) v (.mp k ks vs):=by
 cases h with
 | mp g clock _ _ es _ hF hh hk hl h=>exact .mp g clock _ _ es _ hF hh hk hl h
theorem pur1_sound{d':D}{ep:Eff}{v:Value}(hH:HOK C w B H)(hF:FB C w)(h:pur1 H d=some (d',ep))(hv:Rep w C v d):∃ C',Pub C w B H C' (appEff H ep)∧Rep w (cF C'.F) v d'∧(d'.ok1=true):=by
 have hv0:=hv
 cases hv<;>simp[pur1] at h
 case int hi=>obtain⟨rfl,rfl⟩:=h;exact⟨C,Pub.refl hH hF,.int _ _ hi,rfl⟩
 case bool=>obtain⟨rfl,rfl⟩:=h;exact⟨C,Pub.refl hH hF,.bool _,rfl⟩
 case str hl=>obtain⟨rfl,rfl⟩:=h;exact⟨C,Pub.refl hH hF,.str _ hl,rfl⟩
 case own id n c A hm hl hσ =>
  cases hb:H id with
  | none=>rw[hb] at h;simp at h
  | some b =>
   rw[hb] at h
   cases b<;>simp at h
   rename_i et k xs p
   obtain⟨rfl,rfl,rfl⟩:=h
   obtain⟨C',h1,h2⟩:=pub_vec hH hF hb
   exact⟨C',h1,h2 _ (.own id _ c A hl hm hσ),rfl⟩
 case omp id g hl hσ =>
  cases hb:H id with
  | none=>rw[hb] at h;simp at h
  | some b =>
   rw[hb] at h
   cases b<;>simp at h
   rename_i k ks vs p
   obtain⟨rfl,rfl⟩:=h
   obtain⟨C',h1,h2⟩:=pub_mp hH hF hb
   exact⟨C',h1,h2 _ (.omp id g hl hσ),rfl⟩
 case mp=>obtain⟨rfl,rfl⟩:=h;exact⟨C,Pub.refl hH hF,hv0.mpF,rfl⟩
 case fsl A xs hr=>obtain⟨rfl,rfl⟩:=h;exact⟨C,Pub.refl hH hF,.fsl A _ hr.slF,rfl⟩
 case fn f vs ds hl hr =>
  obtain⟨hi,rfl,rfl⟩:=h
  refine⟨C,Pub.refl hH hF,.fn f vs _ hl fun i u x hu hx=>?_,rfl⟩
  have hI:=hi x (List.mem_of_getElem? hx)
  have hxr:=hr i u x hu hx
  cases x with
  | iptr ds=>exact hxr.iptrF
  | _=>simp[isI] at hI
 case nilp=>obtain⟨rfl,rfl⟩:=h;exact⟨C,Pub.refl hH hF,.nilp,rfl⟩
 case err0=>obtain⟨rfl,rfl⟩:=h;exact⟨C,Pub.refl hH hF,.err0,rfl⟩
 case err1 u v=>obtain⟨rfl,rfl⟩:=h;exact⟨C,Pub.refl hH hF,.err1 u v,rfl⟩
 case nils=>obtain⟨rfl,rfl⟩:=h;exact⟨C,Pub.refl hH hF,.sl0 _ _ (Nat.zero_le _),rfl⟩
 case sl0 A c hm=>obtain⟨rfl,rfl⟩:=h;exact⟨C,Pub.refl hH hF,.sl0 _ _ hm,rfl⟩
 case sl=>obtain⟨rfl,rfl⟩:=h;exact⟨C,Pub.refl hH hF,hv0.slF,rfl⟩
 case iptr=>obtain⟨rfl,rfl⟩:=h;exact⟨C,Pub.refl hH hF,hv0.iptrF,rfl⟩
theorem purL_sound:∀ (ds:List D) (vs:List Value) (C:Cx) (H:Nat→Option Blk) (ds':List D) (ep:Eff),HOK C w B H→FB C w→RepL C w vs ds→purL H ds=some (ds',ep)→∃ C',Pub C w B H C' (appEff H ep)∧RepL (cF C'.F) w vs ds':=by
 intro ds
 induction ds with
 | nil =>
  intro vs C H ds' ep hH hF hL h
  simp[purL] at h
  obtain⟨rfl,rfl⟩:=h
  have:vs=[]:=List.eq_nil_of_length_eq_zero hL.len
  subst this
  exact⟨C,Pub.refl hH hF,RepL.nil⟩
 | cons d ds ih =>
  intro vs C H ds' ep hH hF hL h
  cases vs with
  | nil=>have:=hL.len;simp at this
  | cons v vs =>
   simp only[purL] at h
   cases h1:pur1 H d with
   | none=>rw[h1] at h;simp at h
   | some p =>
    obtain⟨d',e1⟩:=p
    rw[h1] at h
    simp only at h
    cases h2:purL (appEff H e1) ds with
    | none=>rw[h2] at h;simp at h
    | some q =>
     obtain⟨ds'',e2⟩:=q
     rw[h2] at h
     simp at h
     obtain⟨rfl,rfl⟩:=h
     obtain⟨C1,p1,p2,_⟩:=pur1_sound hH hF h1 (hL.rep 0 v d rfl rfl)
     have hL':RepL C1 w vs ds:=by
      have:=(hL.drop 1).ext p1.ext
      simpa using this
     obtain⟨C2,p3,p4⟩:=ih vs C1 _ _ _ p1.ok p1.fb hL' h2
     rw[appEff_append]
     refine⟨C2,p1.trans p3,?_⟩
     have h0:RepL (cF C2.F) w [v] [d']:=RepL.one1 (hL.one v (by simp)) (p2.ext p3.ext.cF)
     exact h0.append p4
theorem purD_sound{d':D}{ep:Eff}{v:Value}(hH:HOK C w B H)(hF:FB C w)(h:purD H d=some (d',ep))(hv:Rep w C v d):∃ C',Pub C w B H C' (appEff H ep)∧Rep w (cF C'.F) v d'∧d'.okS=true:=by
 unfold purD at h
 split at h
 ·rename_i ds
  cases h1:purL H ds with
  | none=>rw[h1] at h;simp at h
  | some p =>
   obtain⟨ds',e1⟩:=p
   rw[h1] at h
   simp at h
   obtain⟨rfl,rfl⟩:=h
   cases hv with
   | agg vs _ hl h2 h3 =>
    obtain⟨C',p1,p2⟩:=purL_sound ds vs C H ds' e1 hH hF ⟨hl,h2,h3⟩ h1
    exact⟨C',p1,p2.agg,rfl⟩
 ·obtain⟨C',p1,p2,p3⟩:=pur1_sound hH hF h hv
  refine⟨C',p1,p2,?_⟩
  cases d'<;>simp_all[D.okS,D.ok1]
theorem purDs_sound:∀ (ds:List D) (vs:List Value) (C:Cx) (H:Nat→Option Blk) (ds':List D) (ep:Eff),HOK C w B H→FB C w→vs.length=ds.length→(∀ (i:Nat) v d,vs[i]? = some v→ds[i]? = some d→Rep w C v d)→purDs H ds=some (ds',ep) →
  ∃ C',Pub C w B H C' (appEff H ep)∧vs.length=ds'.length∧∀ (i:Nat) v d,vs[i]? = some v→ds'[i]? = some d→Rep w (cF C'.F) v d∧d.okS=true:=by
 intro ds
 induction ds with
 | nil =>
  intro vs C H ds' ep hH hF hl _ h
  simp[purDs] at h
  obtain⟨rfl,rfl⟩:=h
  exact⟨C,Pub.refl hH hF,hl,by simp⟩
 | cons d ds ih =>
  intro vs C H ds' ep hH hF hl hR h
  cases vs with
  | nil=>simp at hl
  | cons v vs =>
   simp only[purDs] at h
   cases h1:purD H d with
   | none=>rw[h1] at h;simp at h
   | some p =>
    obtain⟨d',e1⟩:=p
    rw[h1] at h
    simp only at h
    cases h2:purDs (appEff H e1) ds with
    | none=>rw[h2] at h;simp at h
    | some q =>
     obtain⟨ds'',e2⟩:=q
     rw[h2] at h
     simp at h
     obtain⟨rfl,rfl⟩:=h
     obtain⟨C1,p1,p2,p2'⟩:=purD_sound hH hF h1 (hR 0 v d rfl rfl)
     obtain⟨C2,p3,p4,p5⟩:=ih vs C1 _ _ _ p1.ok p1.fb (by simpa using hl) (fun i u x hu hx=>(hR (i+1) u x (by simpa using hu) (by simpa using hx)).ext p1.ext) h2
     rw[appEff_append]
     refine⟨C2,p1.trans p3,by simpa using p4,fun i u x hu hx=>?_⟩
     cases i with
     | zero=>simp at hu hx;subst hu hx;exact⟨p2.ext p3.ext.cF,p2'⟩
     | succ i=>exact p5 i u x (by simpa using hu) (by simpa using hx)
theorem purXs_sound:∀ (ds:List D) (vs:List Value) (C:Cx) (H:Nat→Option Blk) (ds':List D) (ep:Eff),HOK C w B H→FB C w→vs.length=ds.length→(∀ (i:Nat) v d,vs[i]? = some v→ds[i]? = some d→Rep w C v d)→purXs H ds=some (ds',ep) →
  ∃ C',Pub C w B H C' (appEff H ep)∧vs.length=ds'.length∧∀ (i:Nat) v d,vs[i]? = some v→ds'[i]? = some d→Rep w C' v d:=by
 intro ds
 induction ds with
 | nil =>
  intro vs C H ds' ep hH hF hl _ h
  simp[purXs] at h
  obtain⟨rfl,rfl⟩:=h
  exact⟨C,Pub.refl hH hF,hl,by simp⟩
 | cons d ds ih =>
  intro vs C H ds' ep hH hF hl hR h
  cases vs with
  | nil=>simp at hl
  | cons v vs =>
   simp only[purXs] at h
   cases h1:purX H d with
   | none=>rw[h1] at h;simp at h
   | some p =>
    obtain⟨d',e1⟩:=p
    rw[h1] at h
    simp only at h
    cases h2:purXs (appEff H e1) ds with
    | none=>rw[h2] at h;simp at h
    | some q =>
     obtain⟨ds'',e2⟩:=q
     rw[h2] at h
     simp at h
     obtain⟨rfl,rfl⟩:=h
     have hd:∃ C1,Pub C w B H C1 (appEff H e1)∧Rep w C1 v d':=by
      unfold purX at h1
      split at h1
      ·simp at h1
       obtain⟨rfl,rfl⟩:=h1
       exact⟨C,Pub.refl hH hF,hR 0 v _ rfl rfl⟩
      ·obtain⟨C1,p1,p2,_⟩:=purD_sound hH hF h1 (hR 0 v _ rfl rfl)
       exact⟨C1,p1,p2.ext ⟨fun _ _ h=>h,fun _ _ _=>rfl,fun _ h=>h.elim,fun _ h=>h.elim⟩⟩
     obtain⟨C1,p1,p2⟩:=hd
     obtain⟨C2,p3,p4,p5⟩:=ih vs C1 _ _ _ p1.ok p1.fb (by simpa using hl) (fun i u x hu hx=>(hR (i+1) u x (by simpa using hu) (by simpa using hx)).ext p1.ext) h2
     rw[appEff_append]
     refine⟨C2,p1.trans p3,by simpa using p4,fun i u x hu hx=>?_⟩
     cases i with
     | zero=>simp at hu hx;subst hu hx;exact p2.ext p3.ext
     | succ i=>exact p5 i u x (by simpa using hu) (by simpa using hx)
theorem ok_full{et:TypeId}{k:Nat}{A:Option Addr}{xs:List D}{vals:List Value}(hH:HOK C w B H)(hF:FB C w)(hn:¬ C.live nid)(hk:∀ x ∈ xs,x.cells.length=k)
  (hL:RepL (cF C.F) w vals (xs.flatMap D.cells)) (hown:w'.ownsRow 0 et k (.slice A xs.length xs.length) xs.length vals) (hg:∀ g,g < w.heap.size→w'.heap[g]? = w.heap[g]?) (hbel:BelM B.M w w') (hbase:∀ g,w.heap.size≤g→B.M g) (hnew:∀ g,(Value.slice A xs.length xs.length).ownBlock=some g→w.heap.size≤g)
  (hr:(execOp a.eval o).run P w=.ok (.value (.slice A xs.length xs.length)) w'):OpOK P o a w C B H nid (.fsl xs) [(nid,some (.vec et k xs true))]:=by
 obtain⟨nx,v,w1,C1,h1,h2,h3,h4,h5,h6,h7,h8,h9⟩:=ok_vec hH hF hn hk hL hown hg hbel hbase hnew hr
 rw[hr] at h1
 injection h1 with h1 h1'
 subst h1 h1'
 have hv:v=.slice A xs.length xs.length:=by
  rcases h2 with h2|⟨h2,_⟩
  ·injection h2 with h2;exact h2.symm
  ·cases h2
 subst hv
 obtain⟨C',p,hp⟩:=pub_vec (id:=nid) (e:=et) (k:=k) (xs:=xs) (p:=false) h6 h7 (by simp[appEff,upd])
 refine⟨_,_,_,C',hr,.inl rfl,h3,h4.trans p.ext,.fsl A xs ((hp _ h5).ext cF_ext),?_,p.fb,fun id hl=>h8 id (by rw[← p.live];exact hl),fun b o hF=>(p.new b o hF).elim (h9 b o) .inr⟩
 have q:=p.ok
 have e:upd (appEff H [(nid,some (.vec et k xs false))]) nid (some (.vec et k xs true))=appEff H [(nid,some (.vec et k xs true))]:=by
  funext j
  simp only[appEff,upd]
  split<;>rfl
 rw[e] at q
 exact q
theorem OpOK.after{eff ep:Eff}(p:Pub C w B H C' (appEff H ep))(h:OpOK P o a w C' B (appEff H ep) nid d eff):OpOK P o a w C B H nid d (ep++eff):=by
 obtain⟨nx,v,w',C2,h1,h2,h3,h4,h5,h6,h7,h8,h9⟩:=h;refine⟨nx,v,w',C2,h1,h2,h3,p.ext.trans h4,h5,by rw[appEff_append];exact h6,h7,fun id hl=>?_,fun b o hF=>(h9 b o hF).elim (p.new b o) .inr⟩;rw[← p.live];exact h8 id hl
end
section
variable {P:Program}{o:Oper}{a:Act}{w w':World}{C C':Cx}{B:Bx}{nid:Nat}{d:D}{S:AS}{eff:Eff}
theorem underlying_run{t:TypeId}{u:TypeDesc}(h:P.underlying t=some u):(underlying t).run P w=.ok u w:=by simp[underlying,h]
theorem sliceT_under{t e:TypeId}(h:sliceT P t=some e):P.underlying t=some (.slice e):=by
 unfold sliceT at h;split at h
 ·rename_i e' hu;simp at h;subst h;exact hu
 simp at h
theorem arrT_under{t e:TypeId}{n:Nat}(h:arrT P t=some (n,e)):P.underlying t=some (.array n e):=by
 unfold arrT at h;split at h
 ·rename_i n' e' hu;simp at h;obtain⟨rfl,rfl⟩:=h;exact hu
 simp at h
theorem strT_under{t:TypeId}(h:strT P t=true):P.underlying t=some .string:=by
 unfold strT at h;split at h
 ·rename_i hu;exact hu
 simp at h
theorem intT_under{t:TypeId}{k:IntKind}(h:intT P t=some k):P.underlying t=some (.int k):=by
 unfold intT at h;split at h
 ·rename_i k' hu;simp at h;subst h;exact hu
 simp at h
theorem fldT_under{t ft:TypeId}{i fo:Nat}(h:fldT P t i=some (fo,ft)):∃ fs f,P.underlying t=some (.struct fs)∧fs[i]? = some f∧f.offset=fo∧f.type=ft:=by
 unfold fldT at h;split at h
 ·rename_i fs hu
  cases hf:fs[i]? with
  | none=>rw[hf] at h;simp at h
  | some f=>rw[hf] at h;simp at h;exact⟨fs,f,hu,hf,h.1,h.2⟩
 ·simp at h
theorem szT_info{t:TypeId}{n:Nat}(h:szT P t=some n):∃ i,P.info? t=some i∧i.size=n:=by
 unfold szT at h
 cases hu:P.info? t with
 | none=>rw[hu] at h;simp at h
 | some u=>rw[hu] at h;simp at h;exact⟨u,rfl,h⟩
theorem bytesT_info{t:TypeId}{n:Nat}{i:TypeInfo}(h:bytesT P t=some n)(hi:P.info? t=some i):i.bytes=n:=by
 unfold bytesT at h;rw[hi] at h;simpa using h
theorem zeroD_info{t:TypeId}{z:D}(h:zeroD P t=some z):∃ i v,P.info? t=some i∧i.zero=some v∧cD v=z:=by
 unfold zeroD at h
 cases hu:P.info? t with
 | none=>rw[hu] at h;simp at h
 | some u =>
  rw[hu] at h
  cases hz:u.zero with
  | none=>simp[hz] at h
  | some v=>simp[hz] at h;exact⟨u,v,rfl,hz,h⟩
theorem zeroD_run{t:TypeId}{z:D}(h:zeroD P t=some z):∃ v,(zeroValue t).run P w=.ok v w∧Rep w C v z:=by
 obtain⟨i,v,hi,hz,hc⟩:=zeroD_info h;exact⟨v,by simp[zeroValue,typeInfo,hi,hz],hc ▸ rep_cD v⟩
theorem zero_cells{t:TypeId}{z:D}(h:zeroD P t=some z)(ho:(z.okS||zOne P t)=true):∃ v,(zeroValue t).run P w=.ok v w∧RepL C w v.cells.toList z.cells:=by
 obtain⟨i,v,hi,hz,hc⟩:=zeroD_info h
 have hR:Rep w C v z:=hc ▸ rep_cD v
 refine⟨v,by simp[zeroValue,typeInfo,hi,hz],?_⟩
 cases hok:z.okS with
 | true=>exact hR.cellsS hok
 | false =>
  have h1:v.oneCell'=true:=by simpa[hok,zOne,hi,hz] using ho
  have h2:v.cells.toList=[v]:=by cases v<;>first|rfl|simp[Value.oneCell'] at h1
  have h3:z.cells=[z]:=by cases z<;>first|rfl|simp[D.okS] at hok
  rw[h2,h3];exact RepL.one1 h1 hR
structure StOK(C:Cx)(w:World)(a:Act)(B:Bx)(S:AS):Prop where
 env:EnvOK C w a S.env
 heap:HOK C w B S.heap
 fb:FB C w
 base:∀ g,w.heap.size≤g→B.M g
section pures
theorem s_move(hS:StOK C w a B S)(x:Operand)(ho:o.op=.move x):OpOK P o a w C B S.heap nid (S.val x) [] :=
 .same hS.heap hS.fb (by simp only[execOp,ho];rfl) (hS.env.val x)
theorem s_assign(hS:StOK C w a B S)(x:Operand)(ho:o.op=.assign x):OpOK P o a w C B S.heap nid (S.val x) [] :=
 .same hS.heap hS.fb (by simp only[execOp,ho];rfl) (hS.env.val x)
theorem s_pick(hS:StOK C w a B S)(c x y:Operand)(t:Bool)(hc:S.val c=.bool t)(ho:o.op=.pick c x y):OpOK P o a w C B S.heap nid (if t then S.val x else S.val y) []:=by
 have h:=hS.env.val c;rw[hc] at h;generalize hv:a.eval c=v at h;cases h;refine .same (v:=if t then a.eval x else a.eval y) hS.heap hS.fb ?_ ?_
 ·simp only[execOp,ho,hv];cases t<;>rfl
 cases t
 ·exact hS.env.val y
 exact hS.env.val x
theorem s_nilCheck(hS:StOK C w a B S)(x:Operand)(d:D)(hx:S.val x=d)(hd:(∃ id off,d=.ptr id off)∨(∃ id k i off,d=.vptr id k i off)∨(∃ ds,d=.iptr ds)∨(∃ f cs,d=.fn f cs))(ho:o.op=.nilCheck x):OpOK P o a w C B S.heap nid d []:=by
 have h:=hS.env.val x;rw[hx] at h;refine .same (v:=a.eval x) hS.heap hS.fb ?_ h;simp only[execOp,ho];generalize a.eval x=v at h;rcases hd with⟨id,off,rfl⟩|⟨id,k,i,off,rfl⟩|⟨ds,rfl⟩|⟨f,cs,rfl⟩<;>cases h<;>rfl
theorem s_unNot(hS:StOK C w a B S)(x:Operand)(t:TypeId)(b:Bool)(hx:S.val x=.bool b)(ho:o.op=.unOp .not t x):OpOK P o a w C B S.heap nid (.bool !b) []:=by
 have h:=hS.env.val x;rw[hx] at h;generalize hv:a.eval x=v at h;cases h;exact .same hS.heap hS.fb (by simp[execOp,ho,hv,Op.unary]) (.bool _)
theorem s_unNeg(hS:StOK C w a B S)(x:Operand)(t:TypeId)(k:IntKind)(n:Int)(hx:S.val x=.int k n)(ho:o.op=.unOp .neg t x):OpOK P o a w C B S.heap nid (.int k (k.wrap (0 - n))) []:=by
 have h:=hS.env.val x;rw[hx] at h;generalize hv:a.eval x=v at h;cases h;exact .same hS.heap hS.fb (by simp only[execOp,ho,hv,Op.unary,Op.intArith];rfl) (.int _ _ (wrap_inR _ _))
theorem s_binInt(hS:StOK C w a B S)(op:BinOp)(t t':TypeId)(x y:Operand)(k:IntKind)(m n:Int)(hx:S.val x=.int k m)(hy:S.val y=.int k n)(hd:intOp op k m n=some d)(ho:o.op=.binOp op t x y t'):OpOK P o a w C B S.heap nid d []:=by
 have h:=hS.env.val x
 have h':=hS.env.val y
 rw[hx] at h
 rw[hy] at h'
 generalize hv:a.eval x=v at h
 generalize hu:a.eval y=u at h'
 cases h with
 | int _ _ hm =>
 cases h'
 have hg:∀ (e:BinOp),(eqGuard e t x y (.int k m) (.int k n)).run P w=.ok () w:=by
  intro e;unfold eqGuard;split<;>rfl
 cases op<;>simp only[intOp,Option.some.injEq,reduceCtorEq] at hd
 case quo|rem =>
  split at hd
  ·cases hd
  ·rename_i hn
   simp only[Option.some.injEq] at hd
   subst hd
   exact .same hS.heap hS.fb (by simp only[execOp,ho,hv,hu,Sem.run_bind,hg,Result.andThen_ok,binOp,Op.intDiv,hn,ne_eq,not_true_eq_false,if_false];rfl) (.int _ _ (by first|exact wrap_inR _ _|exact tmod_inR _ hm))
 case and =>
  subst hd
  refine .same hS.heap hS.fb ?_ (.int _ _ (wrap_inR _ _))
  simp only[execOp,ho,hv,hu,Sem.run_bind,hg,Result.andThen_ok,binOp,Op.intBits,ne_eq,not_true_eq_false,if_false]
  rfl
 case shr =>
  split at hd
  ·rename_i hn
   subst hn
   simp only[Option.some.injEq] at hd
   subst hd
   refine .same hS.heap hS.fb (v:=.int k (m.fdiv 2)) ?_ (.int _ _ ?_)
   ·have hb:min (1:Int).toNat k.bits=1:=by cases k<;>rfl
    simp only[execOp,ho,hv,hu,Sem.run_bind,hg,Result.andThen_ok,binOp,Op.shift]
    rw[if_neg (by decide),hb]
    rfl
   ·rw[Int.fdiv_eq_ediv_of_nonneg m (show(0:Int)≤2 by decide)]
    unfold inR at hm ⊢
    cases k<;>simp only[kLo,kHi] at hm ⊢<;>omega
  ·cases hd
 all_goals
  subst hd
  refine .same hS.heap hS.fb ?_ (by first|exact .int _ _ (wrap_inR _ _)|exact .bool _)
  simp only[execOp,ho,hv,hu,Sem.run_bind,hg,Result.andThen_ok,binOp,Op.intArith,Op.intCmp,ne_eq,not_true_eq_false,if_false]
  rfl
theorem s_binShr(hS:StOK C w a B S)(op:BinOp)(t t':TypeId)(x y:Operand)(k k':IntKind)(m n:Int)(hx:S.val x=.int k m)(hy:S.val y=.int k' n)(hd:shOp op k m n=some d)(ho:o.op=.binOp op t x y t'):OpOK P o a w C B S.heap nid d []:=by
 have h:=hS.env.val x
 have h':=hS.env.val y
 rw[hx] at h
 rw[hy] at h'
 generalize hv:a.eval x=v at h
 generalize hu:a.eval y=u at h'
 cases h with
 | int _ _ hm =>
 cases h'
 unfold shOp at hd
 split at hd
 ·split at hd
  ·rename_i hn
   simp only[Option.some.injEq] at hd
   subst hd
   have hg:(eqGuard .shr t x y (.int k m) (.int k' n)).run P w=.ok () w:=rfl
   refine .same hS.heap hS.fb (v:=.int k (shrZ k m n)) ?_ (.int _ _ ?_)
   ·simp only[execOp,ho,hv,hu,Sem.run_bind,hg,Result.andThen_ok,binOp,Op.shift]
    rw[if_neg (by omega)]
    rfl
   ·unfold shrZ
    have hp:(0:Int) < 2 ^ (min n.toNat k.bits):=Int.pow_pos (by decide)
    rw[Int.fdiv_eq_ediv_of_nonneg m (Int.le_of_lt hp)]
    have h1:0≤m→0≤m / 2 ^ (min n.toNat k.bits)∧m / 2 ^ (min n.toNat k.bits)≤m:=fun h=>⟨Int.ediv_nonneg h (Int.le_of_lt hp),Int.ediv_le_self _ h⟩
    have h2:m < 0→m / 2 ^ (min n.toNat k.bits) < 0∧m≤m / 2 ^ (min n.toNat k.bits):=fun h=>⟨Int.ediv_neg_of_neg_of_pos h hp,by
     have:=Int.le_ediv_of_mul_le hp (a:=m) (b:=m) (by
      have h3:(1:Int)≤2 ^ (min n.toNat k.bits):=hp
      have h4:=Int.mul_le_mul_of_nonneg_right h3 (show 0≤-m by omega)
      rw[Int.one_mul,Int.mul_neg,Int.mul_comm] at h4
      omega)
     exact this⟩
    generalize m / 2 ^ (min n.toNat k.bits)=q at h1 h2
    unfold inR at hm ⊢
    by_cases h:0≤m
    ·have:=h1 h
     cases k<;>simp only[kLo,kHi] at hm ⊢<;>omega
    ·have:=h2 (by omega)
     cases k<;>simp only[kLo,kHi] at hm ⊢<;>omega
  ·cases hd
 ·cases hd
theorem s_binStr(hS:StOK C w a B S)(op:BinOp)(t t':TypeId)(x y:Operand)(m n:List UInt8)(hx:S.val x=.str m)(hy:S.val y=.str n)(hd:strOp op m n=some d)(ho:o.op=.binOp op t x y t'):OpOK P o a w C B S.heap nid d []:=by
 have h:=hS.env.val x
 have h':=hS.env.val y
 rw[hx] at h
 rw[hy] at h'
 generalize hv:a.eval x=v at h
 generalize hu:a.eval y=u at h'
 cases h
 cases h'
 have hg:∀ (e:BinOp),(eqGuard e t x y (.string ⟨m.toArray⟩) (.string ⟨n.toArray⟩)).run P w=.ok () w:=by
  intro e;unfold eqGuard;split<;>rfl
 have tl:∀ l:List UInt8,(⟨l.toArray⟩:ByteArray).toList=l:=fun l=>by simp[ByteArray.toList_eq]
 cases op<;>simp only[strOp,Option.some.injEq,reduceCtorEq] at hd
 case add =>
  split at hd
  ·rename_i hle
   simp only[Option.some.injEq] at hd
   subst hd
   refine .same (v:=.string ⟨(m++n).toArray⟩) hS.heap hS.fb ?_ (.str _ (by simpa using hle))
   have hs:¬ (((⟨m.toArray⟩:ByteArray).size+(⟨n.toArray⟩:ByteArray).size:Nat):Int) > IntKind.i64.max:=by
    have:(⟨m.toArray⟩:ByteArray).size+(⟨n.toArray⟩:ByteArray).size=m.length+n.length:=by simp[ByteArray.size]
    rw[this]
    have:IntKind.i64.max=9223372036854775807:=by decide
    rw[this];unfold maxLen at hle;omega
   simp only[execOp,ho,hv,hu,Sem.run_bind,hg,Result.andThen_ok,binOp,Op.stringOp,hs,if_false,Sem.run_pure]
   congr 3
  ·cases hd
 all_goals
  subst hd
  refine .same hS.heap hS.fb ?_ (.bool _)
  simp only[execOp,ho,hv,hu,Sem.run_bind,hg,Result.andThen_ok,binOp,Op.stringOp,tl]
  rfl
theorem s_binBool(hS:StOK C w a B S)(op:BinOp)(t t':TypeId)(x y:Operand)(m n:Bool)(hx:S.val x=.bool m)(hy:S.val y=.bool n)(hk:kc P t=1)(hd:eqR op (some (m == n))=some d)(ho:o.op=.binOp op t x y t'):OpOK P o a w C B S.heap nid d []:=by
 have h:=hS.env.val x
 have h':=hS.env.val y
 rw[hx] at h
 rw[hy] at h'
 generalize hv:a.eval x=v at h
 generalize hu:a.eval y=u at h'
 cases h
 cases h'
 have hg:∀ (e:BinOp),(eqGuard e t x y (.bool m) (.bool n)).run P w=.ok () w:=by
  intro e;unfold eqGuard;split<;>rfl
 have hb:P.underlying t=some .bool:=by
  unfold kc at hk;split at hk<;>first|assumption|(simp at hk)
 have he:(Op.equal t (.bool m) (.bool n)).run P w=.ok (m == n) w:=run_equalIn_bool' w 9999 t m n hb
 cases op<;>simp only[eqR,Option.some.injEq,reduceCtorEq] at hd
 all_goals
  subst hd
  refine .same hS.heap hS.fb ?_ (.bool _)
  simp only[execOp,ho,hv,hu,Sem.run_bind,hg,Result.andThen_ok,binOp,he]
  rfl
end pures
theorem eqFields_run(nn:Nat):∀ (fs:List Field) (i:Nat) (vs us:List Value) (xs ys:List D) (r:Bool),RepL C w vs xs→RepL C w us ys→(fs.zipIdx i).all (fun p=>p.1.name != "_" && p.1.offset == p.2&&kc P p.1.type != 0)=true→eqK (fs.map fun f=>kc P f.type) (xs.drop i) (ys.drop i)=some r→(Op.eqFields (nn+1) vs.toArray us.toArray fs).run P w=.ok r w:=by
 intro fs
 induction fs with
 | nil =>
  intro i vs us xs ys r _ _ _ h
  cases hx:xs.drop i<;>cases hy:ys.drop i<;>rw[hx,hy] at h<;>simp[eqK] at h
  subst h
  rfl
 | cons f fs ih =>
  intro i vs us xs ys r hL hM hf h
  simp only[List.zipIdx_cons,List.all_cons,Bool.and_eq_true,bne_iff_ne,ne_eq,beq_iff_eq] at hf
  obtain⟨⟨⟨hnm,hoff⟩,hk0⟩,hf'⟩:=hf
  simp only[List.map_cons] at h
  have hagg:∀ k,kc P f.type=k→k≠0→aggT P f.type=some false:=by
   intro k hk hk'
   unfold kc at hk
   unfold aggT
   split at hk<;>rename_i hu<;>first|(rw[hu];rfl)|exact absurd hk.symm hk'
  have prt:∀ (zs:List Value) (ds:List D) (d0:D) (rest:List D),RepL C w zs ds→ds.drop i=d0::rest→∃ v,(part f.type zs.toArray f.offset).run P w=.ok v w∧Rep w C v d0:=by
   intro zs ds d0 rest hz hd
   refine part_run (P:=P) hz ?_
   rw[hoff,hd]
   simp[loadD,hagg _ rfl hk0]
  have drop1:∀ (ds:List D) d0 rest,ds.drop i=d0::rest→ds.drop (i+1)=rest:=by
   intro ds d0 rest hd
   rw[← List.drop_drop,hd];rfl
  have fin:∀ (u v:Value) (b c:Bool),(Op.equalIn (nn+1) f.type u v).run P w=.ok b w→(part f.type vs.toArray f.offset).run P w=.ok u w→(part f.type us.toArray f.offset).run P w=.ok v w→(Op.eqFields (nn+1) vs.toArray us.toArray fs).run P w=.ok c w→(Op.eqFields (nn+1) vs.toArray us.toArray (f::fs)).run P w=.ok (b&&c) w:=by
   intro u v b c h1 h2 h3 h4
   simp only[Op.eqFields,ne_eq,hnm,not_false_eq_true,if_true,Sem.run_bind,h2,h3,h1,Result.andThen_ok]
   cases b
   ·simp
   ·simpa using h4
  cases hx:xs.drop i with
  | nil=>rw[hx] at h;cases kc P f.type<;>simp[eqK] at h
  | cons x0 xr =>
   cases hy:ys.drop i with
   | nil=>rw[hx,hy] at h;simp[eqK] at h
   | cons y0 yr =>
    rw[hx,hy] at h
    obtain⟨u,hu,hur⟩:=prt vs xs x0 xr hL hx
    obtain⟨v,hv,hvr⟩:=prt us ys y0 yr hM hy
    have ih':=fun r' hr'=>ih (i+1) vs us xs ys r' hL hM hf' (by rw[drop1 _ _ _ hx,drop1 _ _ _ hy];exact hr')
    unfold eqK at h
    split at h
    ·simp_all
    ·rename_i ks a xs' b ys' e1 e2 e3
     injection e1 with e1 e1';injection e2 with e2 e2';injection e3 with e3 e3'
     subst e2 e3 e2' e3' e1'
     cases hur;cases hvr
     split at h
     ·rename_i r' hr'
      simp at h;subst h
      refine fin _ _ _ _ (run_equalIn_bool' w nn _ a b ?_) hu hv (ih' r' hr')
      unfold kc at e1;split at e1<;>first|assumption|(simp at e1)
     ·simp at h
    ·rename_i ks k a xs' k' b ys' e1 e2 e3
     injection e1 with e1 e1';injection e2 with e2 e2';injection e3 with e3 e3'
     subst e2 e3 e2' e3' e1'
     cases hur;cases hvr
     split at h
     ·rename_i hkk
      subst hkk
      split at h
      ·rename_i r' hr'
       simp at h;subst h
       have hint:∃ k',P.underlying f.type=some (.int k'):=by
        unfold kc at e1;split at e1<;>first|exact⟨_,by assumption⟩|(simp at e1)
       obtain⟨k',hint⟩:=hint
       exact fin _ _ _ _ (run_equalIn_int w nn _ k k' a b hint) hu hv (ih' r' hr')
      ·simp at h
     ·simp at h
    ·rename_i ks a xs' b ys' e1 e2 e3
     injection e1 with e1 e1';injection e2 with e2 e2';injection e3 with e3 e3'
     subst e2 e3 e2' e3' e1'
     cases hur;cases hvr
     split at h
     ·rename_i r' hr'
      simp at h;subst h
      have tl:∀ l:List UInt8,(⟨l.toArray⟩:ByteArray).toList=l:=fun l=>by simp[ByteArray.toList_eq]
      have hstr:P.underlying f.type=some .string:=by
       unfold kc at e1;split at e1<;>first|assumption|(simp at e1)
      have:=run_equalIn_string (P:=P) w nn f.type ⟨a.toArray⟩ ⟨b.toArray⟩ hstr
      rw[tl,tl] at this
      exact fin _ _ _ _ this hu hv (ih' r' hr')
     ·simp at h
    ·simp at h
theorem eqK_append:∀ (k1 k2:List Nat) (xs ys:List D) (r:Bool),eqK (k1++k2) xs ys=some r→∃ b c,eqK k1 (xs.take k1.length) (ys.take k1.length)=some b∧eqK k2 (xs.drop k1.length) (ys.drop k1.length)=some c∧r=(b&&c)∧k1.length≤xs.length∧k1.length≤ys.length
 | [],k2,xs,ys,r,h=>⟨true,r,by simp[eqK],by simpa using h,by simp,by simp,by simp⟩
 | k::k1,k2,xs,ys,r,h=>by
  simp only[List.cons_append] at h
  unfold eqK at h
  split at h
  ·simp_all
  ·rename_i _ _ ks a xs' b ys' e1
   injection e1 with e1 e1'
   subst e1 e1'
   cases hr:eqK (k1++k2) xs' ys' with
   | none=>rw[hr] at h;cases h
   | some r' =>
    rw[hr] at h
    obtain⟨b1,c1,h1,h2,h3,h4,h5⟩:=eqK_append k1 k2 xs' ys' r' hr
    refine⟨(a == b)&&b1,c1,by simp[eqK,h1],by simpa using h2,?_,by simpa using h4,by simpa using h5⟩
    simp at h
    rw[← h,h3,Bool.and_assoc]
  ·rename_i _ _ ks kk a xs' kk' b ys' e1
   injection e1 with e1 e1'
   subst e1 e1'
   split at h
   ·rename_i hkk
    cases hr:eqK (k1++k2) xs' ys' with
    | none=>rw[hr] at h;cases h
    | some r' =>
     rw[hr] at h
     obtain⟨b1,c1,h1,h2,h3,h4,h5⟩:=eqK_append k1 k2 xs' ys' r' hr
     refine⟨(a == b)&&b1,c1,by simp[eqK,h1,hkk],by simpa using h2,?_,by simpa using h4,by simpa using h5⟩
     simp at h
     rw[← h,h3,Bool.and_assoc]
   ·cases h
  ·rename_i _ _ ks a xs' b ys' e1
   injection e1 with e1 e1'
   subst e1 e1'
   cases hr:eqK (k1++k2) xs' ys' with
   | none=>rw[hr] at h;cases h
   | some r' =>
    rw[hr] at h
    obtain⟨b1,c1,h1,h2,h3,h4,h5⟩:=eqK_append k1 k2 xs' ys' r' hr
    refine⟨(a == b)&&b1,c1,by simp[eqK,h1],by simpa using h2,?_,by simpa using h4,by simpa using h5⟩
    simp at h
    rw[← h,h3,Bool.and_assoc]
  ·cases h
theorem eqField1(nn:Nat)(f:Field)(hnm:f.name ≠ "_")(k1:List Nat)(hk:fks P f.type=some k1)(vs us:List Value)(xs ys:List D)(b:Bool)(hL:RepL C w vs xs)(hM:RepL C w us ys)(h:eqK k1 ((xs.drop f.offset).take k1.length) ((ys.drop f.offset).take k1.length)=some b) :
  ∃ u v,(part f.type vs.toArray f.offset).run P w=.ok u w∧(part f.type us.toArray f.offset).run P w=.ok v w∧(Op.equalIn (nn+2) f.type u v).run P w=.ok b w:=by
 unfold fks at hk
 split at hk
 ·rename_i hk0
  have hk0:kc P f.type≠0:=by simpa using hk0
  injection hk with hk
  subst hk
  have hagg:aggT P f.type=some false:=by
   generalize hkk:kc P f.type=k at hk0
   unfold kc at hkk
   unfold aggT
   split at hkk<;>rename_i hu<;>first|(rw[hu];rfl)|exact absurd hkk.symm hk0
  have prt:∀ (zs:List Value) (ds:List D) (d0:D) (rest:List D),RepL C w zs ds→ds.drop f.offset=d0::rest→∃ v,(part f.type zs.toArray f.offset).run P w=.ok v w∧Rep w C v d0:=by
   intro zs ds d0 rest hz hd
   refine part_run (P:=P) hz ?_
   rw[hd]
   simp[loadD,hagg]
  cases hx:xs.drop f.offset with
  | nil=>rw[hx] at h;generalize kc P f.type=k at *;cases hy:ys.drop f.offset<;>rw[hy] at h<;>simp[eqK] at h
  | cons x0 xr =>
   cases hy:ys.drop f.offset with
   | nil=>rw[hx,hy] at h;simp[eqK] at h
   | cons y0 yr =>
    rw[hx,hy] at h
    obtain⟨u,hu,hur⟩:=prt vs xs x0 xr hL hx
    obtain⟨v,hv,hvr⟩:=prt us ys y0 yr hM hy
    refine⟨u,v,hu,hv,?_⟩
    simp only[List.length_cons,List.length_nil,Nat.zero_add,List.take_succ_cons,List.take_zero] at h
    unfold eqK at h
    split at h
    ·simp_all
    ·rename_i ks a xs' b' ys' e1 e2 e3
     injection e1 with e1 e1';injection e2 with e2 e2';injection e3 with e3 e3'
     subst e2 e3 e2' e3' e1'
     cases hur;cases hvr
     simp[eqK] at h
     subst h
     exact run_equalIn_bool' w (nn+1) _ a b' (by unfold kc at e1;split at e1<;>first|assumption|(simp at e1))
    ·rename_i ks k a xs' k' b' ys' e1 e2 e3
     injection e1 with e1 e1';injection e2 with e2 e2';injection e3 with e3 e3'
     subst e2 e3 e2' e3' e1'
     cases hur;cases hvr
     split at h
     ·rename_i hkk
      subst hkk
      simp[eqK] at h
      subst h
      have hint:∃ k',P.underlying f.type=some (.int k'):=by
       unfold kc at e1;split at e1<;>first|exact⟨_,by assumption⟩|(simp at e1)
      obtain⟨k',hint⟩:=hint
      exact run_equalIn_int w (nn+1) _ k k' a b' hint
     ·cases h
    ·rename_i ks a xs' b' ys' e1 e2 e3
     injection e1 with e1 e1';injection e2 with e2 e2';injection e3 with e3 e3'
     subst e2 e3 e2' e3' e1'
     cases hur;cases hvr
     simp[eqK] at h
     subst h
     have tl:∀ l:List UInt8,(⟨l.toArray⟩:ByteArray).toList=l:=fun l=>by simp[ByteArray.toList_eq]
     have hstr:P.underlying f.type=some .string:=by
      unfold kc at e1;split at e1<;>first|assumption|(simp at e1)
     have:=run_equalIn_string (P:=P) w (nn+1) f.type ⟨a.toArray⟩ ⟨b'.toArray⟩ hstr
     rw[tl,tl] at this
     exact this
    ·cases h
 ·split at hk
  ·rename_i ks he
   split at hk
   ·rename_i hsz
    injection hk with hk
    subst hk
    have hlen:=eqK_append ks [] ((xs.drop f.offset).take ks.length) ((ys.drop f.offset).take ks.length) b (by simpa using h)
    obtain⟨_,_,_,_,_,hl1,hl2⟩:=hlen
    rw[List.length_take] at hl1 hl2
    have prt:∀ (zs:List Value) (ds:List D),RepL C w zs ds→ks.length≤(ds.drop f.offset).length→∃ v,(part f.type zs.toArray f.offset).run P w=.ok v w∧Rep w C v (.agg ((ds.drop f.offset).take ks.length)):=by
     intro zs ds hz hd
     refine part_run (P:=P) hz ?_
     simp only[loadD,hsz.2,hsz.1]
     rw[if_pos hd]
    obtain⟨u,hu,hur⟩:=prt vs xs hL (by omega)
    obtain⟨v,hv,hvr⟩:=prt us ys hM (by omega)
    refine⟨u,v,hu,hv,?_⟩
    unfold eqTf at he
    split at he
    ·rename_i fs hun
     split at he
     ·rename_i hc
      simp only[Bool.and_eq_true,Bool.not_eq_true'] at hc
      obtain⟨⟨hst,heg⟩,hal⟩:=hc
      simp at he
      have hfo:P.fieldsOf f.type=fs:=by simp[Program.fieldsOf,hun]
      generalize hA:(xs.drop f.offset).take ks.length=A at *
      generalize hB:(ys.drop f.offset).take ks.length=B at *
      cases hur with
      | agg vs' _ hl1 ho1 hr1 =>
       cases hvr with
       | agg us' _ hl2 ho2 hr2 =>
        have:=run_equalIn_struct (P:=P) w (nn+1) f.type vs'.toArray us'.toArray (by rw[hfo];exact hun) hst
        rw[hfo,eqFields_run nn fs.toList 0 vs' us' A B b ⟨hl1,ho1,hr1⟩ ⟨hl2,ho2,hr2⟩ hal (by rw[he];simpa using h)] at this
        exact this
     ·cases he
    ·cases he
   ·cases hk
  ·cases hk
theorem eqFields2_run(nn:Nat):∀ (fs:List Field) (o:Nat) (ks:List Nat) (vs us:List Value) (xs ys:List D) (r:Bool),offsK P o fs=some ks→RepL C w vs xs→RepL C w us ys→eqK ks (xs.drop o) (ys.drop o)=some r→(Op.eqFields (nn+2) vs.toArray us.toArray fs).run P w=.ok r w:=by
 intro fs
 induction fs with
 | nil =>
  intro o ks vs us xs ys r ho _ _ h
  simp[offsK] at ho
  subst ho
  cases hx:xs.drop o<;>cases hy:ys.drop o<;>rw[hx,hy] at h<;>simp[eqK] at h
  subst h
  rfl
 | cons f fs ih =>
  intro o ks vs us xs ys r ho hL hM h
  simp only[offsK] at ho
  split at ho
  ·rename_i hc
   simp only[Bool.and_eq_true,bne_iff_ne,ne_eq,beq_iff_eq] at hc
   obtain⟨hnm,hoff⟩:=hc
   cases hf:fks P f.type with
   | none=>rw[hf] at ho;cases ho
   | some k1 =>
    rw[hf] at ho
    simp only at ho
    cases hr:offsK P (o+k1.length) fs with
    | none=>rw[hr] at ho;cases ho
    | some k2 =>
     rw[hr] at ho
     simp at ho
     subst ho
     obtain⟨b,c,h1,h2,rfl,_,_⟩:=eqK_append k1 k2 _ _ r h
     obtain⟨u,v,hu,hv,he⟩:=eqField1 (P:=P) nn f hnm k1 hf vs us xs ys b hL hM (by rw[hoff];exact h1)
     have ih':=ih (o+k1.length) k2 vs us xs ys c hr hL hM (by rw[List.drop_drop,List.drop_drop] at h2;exact h2)
     simp only[Op.eqFields,ne_eq,hnm,not_false_eq_true,if_true,Sem.run_bind,hu,hv,he,Result.andThen_ok]
     cases b
     ·simp
     ·simpa using ih'
  ·cases ho
section pures
theorem s_binAgg(hS:StOK C w a B S)(op:BinOp)(t t':TypeId)(x y:Operand)(m n:List D)(ks:List Nat)(r:Bool)(hx:S.val x=.agg m)(hy:S.val y=.agg n)(hk:eqTs P t=some ks)(hr:eqK ks m n=some r)(hd:eqR op (some r)=some d)(ho:o.op=.binOp op t x y t'):OpOK P o a w C B S.heap nid d []:=by
 have h:=hS.env.val x
 have h':=hS.env.val y
 rw[hx] at h
 rw[hy] at h'
 generalize hv:a.eval x=v at h
 generalize hu:a.eval y=u at h'
 unfold eqTs at hk
 split at hk
 ·rename_i fs hun
  split at hk
  ·rename_i hc
   simp only[Bool.and_eq_true,Bool.not_eq_true'] at hc
   obtain⟨hst,heg⟩:=hc
   cases h with
   | agg vs _ hl1 ho1 hr1 =>
    cases h' with
    | agg us _ hl2 ho2 hr2 =>
     have hfo:P.fieldsOf t=fs:=by simp[Program.fieldsOf,hun]
     have he:(Op.equal t (.agg vs.toArray) (.agg us.toArray)).run P w=.ok r w:=by
      have:=run_equalIn_struct (P:=P) w 9999 t vs.toArray us.toArray (by rw[hfo];exact hun) hst
      rw[hfo,eqFields2_run 9997 fs.toList 0 ks vs us m n r hk ⟨hl1,ho1,hr1⟩ ⟨hl2,ho2,hr2⟩ (by simpa using hr)] at this
      exact this
     have hg:∀ (e:BinOp),(eqGuard e t x y (.agg vs.toArray) (.agg us.toArray)).run P w=.ok () w:=by
      intro e
      unfold eqGuard
      cases e<;>simp[heg]
     cases op<;>simp only[eqR,Option.some.injEq,reduceCtorEq] at hd
     all_goals
      subst hd
      refine .same hS.heap hS.fb ?_ (.bool _)
      simp only[execOp,ho,hv,hu,Sem.run_bind,hg,Result.andThen_ok,binOp,he]
      rfl
  ·simp at hk
 ·simp at hk
theorem s_convInt(hS:StOK C w a B S)(src dst:TypeId)(x:Operand)(k k':IntKind)(n:Int)(hx:S.val x=.int k n)(hk:intT P dst=some k')(hs:∃ u,P.underlying src=some u)(ho:o.op=.convert src dst x):OpOK P o a w C B S.heap nid (.int k' (k'.wrap n)) []:=by
 have h:=hS.env.val x;rw[hx] at h;generalize hv:a.eval x=v at h;cases h;obtain⟨u,hu⟩:=hs;refine .same hS.heap hS.fb ?_ (.int _ _ (wrap_inR _ _));simp only[execOp,ho,hv,convert,Sem.run_bind,underlying_run hu,Result.andThen_ok,underlying_run (intT_under hk)];cases u<;>rfl
theorem s_extract(hS:StOK C w a B S)(t:Operand)(i:Nat)(ds:List D)(hx:S.val t=.tup ds)(hd:ds[i]? = some d)(ho:o.op=.extract t i):OpOK P o a w C B S.heap nid d []:=by
 have h:=hS.env.val t
 rw[hx] at h
 generalize hv:a.eval t=v at h
 cases h with
 | tup vs _ hl h =>
  have hi:i < vs.length:=by have:=(List.getElem?_eq_some_iff.1 hd).1;omega
  refine .same (v:=vs[i]) hS.heap hS.fb ?_ (h i _ d (List.getElem?_eq_getElem hi) hd)
  simp[execOp,ho,hv,Instr.extract,hi]
end pures
end
section
variable {P:Program}{o:Oper}{a:Act}{w w':World}{C C':Cx}{B:Bx}{nid:Nat}{d:D}{S:AS}{eff:Eff}
theorem aggT_some{t:TypeId}(h:(aggT P t).isSome=true):∃ u,P.underlying t=some u:=by
 unfold aggT at h
 cases hu:P.underlying t with
 | none=>rw[hu] at h;simp at h
 | some u=>exact⟨u,rfl⟩
theorem flat_split(k:Nat):∀ (xs:List D),(∀ x ∈ xs,x.cells.length=k)→∀ i y,xs[i]? = some y→((xs.flatMap D.cells).drop (i * k)).take k=y.cells:=by
 intro xs
 induction xs with
 | nil=>intro _ i y h;simp at h
 | cons x t ih =>
  intro hk i y h
  have hx:=hk x (by simp)
  cases i with
  | zero =>
   simp at h;subst h
   simp only[Nat.zero_mul,List.drop_zero,List.flatMap_cons]
   rw[← hx,List.take_left]
  | succ i =>
   simp at h
   rw[List.flatMap_cons,Nat.succ_mul,Nat.add_comm,← List.drop_drop]
   rw[show List.drop k (x.cells++List.flatMap D.cells t)=List.flatMap D.cells t by rw[← hx];simp]
   exact ih (fun x hx=>hk x (by simp[hx])) i y h
theorem flat_len2(k:Nat)(xs:List D)(h:∀ x ∈ xs,x.cells.length=k):(xs.flatMap D.cells).length=xs.length * k:=by
 induction xs with
 | nil=>simp
 | cons x t ih=>rw[List.flatMap_cons,List.length_append,h x (by simp),ih (fun x hx=>h x (by simp[hx])),List.length_cons,Nat.succ_mul];omega
theorem bsize(l:List UInt8):(⟨l.toArray⟩:ByteArray).size=l.length:=by show l.toArray.size=_;simp
section pures
theorem s_convStr(hS:StOK C w a B S)(src dst:TypeId)(x:Operand)(s:List UInt8)(hx:S.val x=.str s)(hk:strT P dst=true)(hs:∃ u,P.underlying src=some u)(ho:o.op=.convert src dst x):OpOK P o a w C B S.heap nid (.str s) []:=by
 have h:=hS.env.val x;rw[hx] at h;refine .same hS.heap hS.fb ?_ h;generalize hv:a.eval x=v at h;cases h;obtain⟨u,hu⟩:=hs;simp only[execOp,ho,hv,convert,Sem.run_bind,underlying_run hu,Result.andThen_ok,underlying_run (strT_under hk)];cases u<;>rfl
theorem enc_len(n:Int):(Utf8.encode n).data.toList.length≤4:=by
 unfold Utf8.encode;dsimp only;generalize (if Utf8.valid n=true then n.toNat else Utf8.runeError)=c;by_cases h1:c < 128
 ·rw[if_pos h1];simp
 rw[if_neg h1];by_cases h2:c < 2048
 ·rw[if_pos h2];simp
 rw[if_neg h2];by_cases h3:c < 65536
 ·rw[if_pos h3];simp
 rw[if_neg h3];simp
theorem s_convIntStr(hS:StOK C w a B S)(src dst:TypeId)(x:Operand)(k:IntKind)(n:Int)(hx:S.val x=.int k n)(hk:strT P dst=true)(hs:∃ u,P.underlying src=some u)(ho:o.op=.convert src dst x):OpOK P o a w C B S.heap nid (.str (Utf8.encode n).data.toList) []:=by
 have h:=hS.env.val x;rw[hx] at h;generalize hv:a.eval x=v at h;cases h;obtain⟨u,hu⟩:=hs;refine .same (v:=.string (Utf8.encode n)) hS.heap hS.fb ?_ ?_
 ·simp only[execOp,ho,hv,convert,Sem.run_bind,underlying_run hu,Result.andThen_ok,underlying_run (strT_under hk)];cases u<;>rfl
 have h1:=Rep.str (w:=w) (C:=C) (Utf8.encode n).data.toList (by have:=enc_len n;unfold maxLen;omega);have h2:(⟨(Utf8.encode n).data.toList.toArray⟩:ByteArray)=Utf8.encode n:=by cases Utf8.encode n;simp
 rw[h2] at h1;exact h1
theorem s_binErr(hS:StOK C w a B S)(op:BinOp)(t t':TypeId)(x y:Operand)(b:Bool)(hx:S.val x=.err b)(hy:S.val y=.err false)(hc:isConst y=true)(hk:ifaceT P t=true)(hd:eqR op (some !b)=some d)(ho:o.op=.binOp op t x y t'):OpOK P o a w C B S.heap nid d []:=by
 have h:=hS.env.val x
 have h':=hS.env.val y
 rw[hx] at h
 rw[hy] at h'
 have hu:∃ ms,P.underlying t=some (.interface ms):=by
  unfold ifaceT at hk
  split at hk
  ·exact⟨_,by assumption⟩
  ·simp at hk
 obtain⟨ms,hu⟩:=hu
 have hu':P.underlying t=some (.interface (P.methodsAt t)):=by simp[Program.methodsAt,hu]
 cases y with
 | const yv =>
  generalize hv:a.eval x=v at h
  generalize hw:a.eval (.const yv)=u at h'
  cases h'
  cases h with
  | err0 =>
   have he:(Op.equal t .nilIface .nilIface).run P w=.ok true w:=by
    exact run_equalIn_nil_nil w 9999 t hu'
   cases op<;>simp only[eqR,Option.some.injEq,reduceCtorEq] at hd
   all_goals
    subst hd
    refine .same hS.heap hS.fb ?_ (.bool _)
    simp only[execOp,ho,hv,hw,eqGuard_nil_constR,binOp,Sem.run_bind,Sem.run_pure,Result.andThen_ok,he]
    rfl
  | err1 tu vu =>
   have he:(Op.equal t (.iface tu vu) .nilIface).run P w=.ok false w:=by
    exact run_equalIn_held_nil w 9999 t tu vu hu'
   cases op<;>simp only[eqR,Option.some.injEq,reduceCtorEq] at hd
   all_goals
    subst hd
    refine .same hS.heap hS.fb ?_ (.bool _)
    have hg:∀ (e:BinOp),(eqGuard e t x (.const yv) (.iface tu vu) .nilIface)=pure ():=by intro e;cases e<;>rfl
    simp only[execOp,ho,hv,hw,hg,binOp,Sem.run_bind,Sem.run_pure,Result.andThen_ok,he]
    rfl
 | tmp t=>simp[isConst] at hc
 | global g=>simp[isConst] at hc
 | func f=>simp[isConst] at hc
theorem s_binPtr(hS:StOK C w a B S)(op:BinOp)(t t':TypeId)(x y:Operand)(id off:Nat)(hx:S.val x=.ptr id off)(hy:S.val y=.nilp)(hk:ptrT P t=true)(hd:eqR op (some false)=some d)(ho:o.op=.binOp op t x y t'):OpOK P o a w C B S.heap nid d []:=by
 have h:=hS.env.val x
 have h':=hS.env.val y
 rw[hx] at h
 rw[hy] at h'
 have hu:P.underlying t=some (.pointer (P.pointee t)):=by
  unfold ptrT at hk
  split at hk
  ·rename_i e he;simp[Program.pointee,he]
  ·simp at hk
 generalize hv:a.eval x=v at h
 generalize hw:a.eval y=u at h'
 cases h'
 cases h with
 | ptr _ _ g hl hs =>
  have hg:∀ (e:BinOp),(eqGuard e t x y (.pointer (some ⟨g,off,none⟩)) (.pointer none))=pure ():=by intro e;cases e<;>rfl
  cases op<;>simp only[eqR,Option.some.injEq,reduceCtorEq] at hd
  ·subst hd
   refine .same hS.heap hS.fb ?_ (.bool _)
   simp only[execOp,ho,hv,hw,hg,Sem.run_bind,Sem.run_pure,Result.andThen_ok,run_eql_pointer_nil w t _ hu]
   rfl
  ·subst hd
   refine .same hS.heap hS.fb ?_ (.bool _)
   simp only[execOp,ho,hv,hw,hg,Sem.run_bind,Sem.run_pure,Result.andThen_ok,run_neq_pointer_nil w t _ hu]
   rfl
theorem bytesD_some:∀ {xs:List D} {s:List UInt8},bytesD xs=some s→∃ l:List Int,xs=l.map (D.int .u8)∧s=bytesOf l
 | [],s,h=>⟨[],rfl,by simpa[bytesD,bytesOf] using h.symm⟩
 | x::xs,s,h=>by
  unfold bytesD at h
  split at h
  ·simp at *
  ·rename_i n l e
   split at h
   ·rename_i s' hs'
    injection e with e1 e2
    subst e1 e2
    obtain⟨l,rfl,rfl⟩:=bytesD_some hs'
    exact⟨n::l,rfl,by simpa[bytesOf] using h.symm⟩
   ·simp at h
  ·simp at h
theorem u8T_under{t:TypeId}(h:u8T P t=true):∃ e,P.underlying t=some (.slice e)∧P.underlying e=some (.int .u8):=by
 unfold u8T at h;split at h
 ·rename_i e he
  split at h
  ·exact⟨e,he,by assumption⟩
  simp at h
 simp at h
theorem flatU8(l:List Int):(l.map (D.int .u8)).flatMap D.cells=l.map (D.int .u8):=by
 induction l with
 | nil=>rfl
 | cons a t ih=>simp only[List.map_cons,List.flatMap_cons,ih,D.cells,List.singleton_append]
theorem repU8{w:World}{C:Cx}{vals:List Value}{l:List Int}(h:RepL C w vals (l.map (D.int .u8))):vals=l.map (Value.int .u8):=by
 apply List.ext_getElem?;intro i;by_cases hi:i < vals.length
 ·have hl:i < l.length:=by have:=h.len;simp at this;omega
  have:=h.rep i _ (.int .u8 l[i]) (List.getElem?_eq_getElem hi) (by simp[hl]);rw[List.getElem?_eq_getElem hi];simp only[List.getElem?_map,List.getElem?_eq_getElem hl,Option.map_some];generalize vals[i]=u at this;cases this;rfl
 have hl:¬ i < l.length:=by have:=h.len;simp at this;omega
 rw[List.getElem?_eq_none (by omega),List.getElem?_eq_none (by simp;omega)]
theorem s_convBytes(hS:StOK C w a B S)(src dst:TypeId)(x:Operand)(xs:List D)(s:List UInt8)(hx:elemsD S.heap (S.val x)=some xs)(hs:bytesD xs=some s)(hsrc:u8T P src=true)(hdst:strT P dst=true)(ho:o.op=.convert src dst x):OpOK P o a w C B S.heap nid (.str s) []:=by
 obtain⟨l,rfl,rfl⟩:=bytesD_some hs
 obtain⟨e,hu,he⟩:=u8T_under hsrc
 have hd:=strT_under hdst
 have h:=hS.env.val x
 have fin:∀ (b off cap:Nat),a.eval x=.slice (some ⟨b,off,none⟩) l.length cap→l.length≤maxLen→(∀ (i:Nat) v,(l.map (Value.int .u8))[i]? = some v→w.cell? ⟨b,off+i,none⟩=some v)→OpOK P o a w C B S.heap nid (.str (bytesOf l)) []:=by
  intro b off cap hv hm hcell
  refine .same hS.heap hS.fb ?_ (.str (bytesOf l) (by simpa[bytesOf] using hm))
  have:=run_convert_bytes_arg (P:=P) w src e hu he b off l.length cap l rfl (fun i hi=>hcell i _ (by simp[hi,List.getD])) dst hd
  simp only[execOp,ho,hv,Sem.run_bind,this,Result.andThen_ok]
  rfl
 have fin0:∀ (A:Option Addr) (cap:Nat),a.eval x=.slice A 0 cap→l=[]→OpOK P o a w C B S.heap nid (.str (bytesOf l)) []:=by
  intro A cap hv hl
  subst hl
  refine .same hS.heap hS.fb ?_ (.str (bytesOf []) (Nat.zero_le _))
  cases A with
  | none =>
   have:=run_convert_bytes_nil (P:=P) w src e hu he 0 cap dst hd
   simp only[execOp,ho,hv,Sem.run_bind,this,Result.andThen_ok]
   rfl
  | some A =>
   have:=run_convert_bytes_string (P:=P) w src dst e (some A) 0 cap hu he hd
   rw[run_bytesToString (P:=P) w A 0 cap [] (by have:=run_loadCells_list (P:=P) w A [] (by simp);simpa using this)] at this
   simp only[execOp,ho,hv,Sem.run_bind,this,Result.andThen_ok]
   rfl
 generalize hv:a.eval x=v at h
 generalize hdx:S.val x=dx at h hx
 cases h<;>simp only[elemsD,reduceCtorEq,Option.some.injEq] at hx
 case nils=>exact fin0 _ _ hv (by simpa using hx.symm)
 case sl0 A c hm=>exact fin0 _ _ hv (by simpa using hx.symm)
 case sl =>
  rename_i b off k c ys vals hc hm hk hl h1 hcell hF h
  subst hx
  rw[flatU8] at h hl
  have hvals:=repU8 ⟨hl,h1,h⟩
  subst hvals
  refine fin b off c (by rw[hv];simp) (by simp at hc;omega) hcell
 case fsl A ys h' =>
  generalize Value.slice A ys.length ys.length=vv at h' hv
  cases h' with
  | sl0 A c hm=>exact fin0 A c hv (by simpa using hx.symm)
  | sl b off k c _ vals hc hm hk hl h1 hF hcell h =>
   subst hx
   rw[flatU8] at h hl
   have hvals:=repU8 ⟨hl,h1,h⟩
   subst hvals
   refine fin b off c (by rw[hv];simp) (by simp at hc;omega) hcell
 case own id n c A hm hl hσ =>
  cases hb:S.heap id with
  | none=>rw[hb] at hx;simp at hx
  | some bk =>
   rw[hb] at hx
   cases bk<;>simp at hx
   rename_i et k ys pub
   obtain⟨hln,rfl⟩:=hx
   obtain⟨_,vals,q1,q2,q3,q4⟩:=hS.heap.rep id _ hb
   rw[flatU8] at q3
   have hvals:=repU8 q3
   subst hvals
   rw[hσ] at q1
   have hq:=q1
   obtain⟨hlen,hrow⟩:=q1
   rcases hrow with⟨hnil,h0⟩|⟨g,cap,cur,hsl,hB,hheap,hcap,hmax,hcur,htake⟩
   ·injection hnil with e1 e2 e3
    subst e1 e2 e3
    exact fin0 none 0 hv (by simpa using h0)
   ·injection hsl with e1 e2 e3
    subst e1 e3
    have hn:n=l.length:=by simpa using hln.symm
    subst hn
    refine fin g 0 _ hv (by assumption) (fun i v hi=>?_)
    have:=hq.cells (g:=g) rfl i v hi
    rw[addr_add] at this
    exact this
theorem s_fieldAddr(hS:StOK C w a B S)(s:TypeId)(x:Operand)(f fo:Nat)(ft:TypeId)(n:Nat)(hf:fldT P s f=some (fo,ft))(hn:szT P ft=some n)(hn0:n≠0)(dx:D)(hx:S.val x=dx)
  (hd:(∃ id off,dx=.ptr id off∧d=.ptr id (off+fo))∨(∃ id k i off,dx=.vptr id k i off∧d=.vptr id k i (off+fo))∨(∃ ds,dx=.iptr ds∧d=.iptr (ds.drop fo))) (ho:o.op=.fieldAddr s x f):OpOK P o a w C B S.heap nid d []:=by
 obtain⟨fs,fl,hu,hfl,rfl,rfl⟩:=fldT_under hf
 have h:=hS.env.val x
 rw[hx] at h
 have run:∀ b off,a.eval x=.pointer (some ⟨b,off,none⟩)→(execOp a.eval o).run P w=.ok (.value (.pointer (some ⟨b,off+fl.offset,none⟩))) w:=by
  intro b off hv
  simp[execOp,ho,hv,Instr.fieldAt,underlying_run hu,hfl,Instr.sureAddr,fieldPlace,szT_run hn,hn0,addr_add]
 rcases hd with⟨id,off,rfl,rfl⟩|⟨id,k,i,off,rfl,rfl⟩|⟨ds,rfl,rfl⟩
 ·generalize hv:a.eval x=v at h
  cases h with
  | ptr _ _ g hl h=>exact .same hS.heap hS.fb (run _ _ hv) (.ptr _ _ g hl h)
 ·generalize hv:a.eval x=v at h
  cases h with
  | vptr _ _ _ _ g n c hl h =>
   have:=run _ _ hv
   rw[Nat.add_assoc] at this
   exact .same hS.heap hS.fb this (.vptr _ _ _ _ g n c hl h)
 ·generalize hv:a.eval x=v at h
  cases h with
  | iptr b off _ vals hl h1 hF hcell h =>
   refine .same hS.heap hS.fb (run _ _ hv) (.iptr b _ _ (vals.drop fl.offset) (by simp[hl]) (fun v hv=>h1 v (List.mem_of_mem_drop hv)) (fun i hi=>?_) (fun i v hv=>?_) (fun i v e hv he=>h (fl.offset+i) v e (by simpa using hv) (by simpa using he)))
   ·rw[Nat.add_assoc];exact hF _ (by simp at hi;omega)
   ·rw[Nat.add_assoc];exact hcell _ _ (by simpa using hv)
theorem s_field(hS:StOK C w a B S)(s:TypeId)(x:Operand)(f fo:Nat)(ft:TypeId)(hf:fldT P s f=some (fo,ft))(ds:List D)(hx:S.val x=.agg ds)(hd:loadD P ft (ds.drop fo)=some d)(ho:o.op=.field s x f):OpOK P o a w C B S.heap nid d []:=by
 obtain⟨fs,fl,hu,hfl,rfl,rfl⟩:=fldT_under hf
 have h:=hS.env.val x
 rw[hx] at h
 generalize hv:a.eval x=v at h
 cases h with
 | agg vs _ hl h1 h =>
  obtain⟨u,hr,hR⟩:=part_run (P:=P) ⟨hl,h1,h⟩ hd
  refine .same hS.heap hS.fb ?_ hR
  simp[execOp,ho,hv,Instr.field,underlying_run hu,hfl,asAgg,hr]
theorem s_loadBox(hS:StOK C w a B S)(t:TypeId)(x:Operand)(id off:Nat)(pn:Option Nat)(cs:List D)(hx:S.val x=.ptr id off)(hb:S.heap id=some (.box pn cs))(hd:loadD P t (cs.drop off)=some d)(ho:o.op=.load t x):OpOK P o a w C B S.heap nid d []:=by
 have h:=hS.env.val x
 rw[hx] at h
 generalize hv:a.eval x=v at h
 cases h with
 | ptr _ _ g hl h =>
  obtain⟨_,g',t',vs,h1,h2,h3,h4,h5⟩:=hS.heap.rep id _ hb
  rw[h] at h1
  injection h1 with h1;injection h1 with h1;injection h1 with h1
  subst h1
  obtain⟨u,hr,hR⟩:=loadD_run (P:=P) (b:=g) (off:=off) (h4.drop off) (fun i v hi=>by
   rw[cell_of_row w g (off+i) vs t' (0,0) h3];simpa using hi) hd
  exact .same hS.heap hS.fb (by simp[execOp,ho,hv,hr]) hR
theorem s_loadI(hS:StOK C w a B S)(t:TypeId)(x:Operand)(ds:List D)(hx:S.val x=.iptr ds)(hd:loadD P t ds=some d)(ho:o.op=.load t x):OpOK P o a w C B S.heap nid d []:=by
 have h:=hS.env.val x
 rw[hx] at h
 generalize hv:a.eval x=v at h
 cases h with
 | iptr b off _ vals hl h1 hF hcell h =>
  obtain⟨u,hr,hR⟩:=loadD_run (P:=P) (C:=cF C.F) ⟨hl,h1,h⟩ hcell hd
  exact .same hS.heap hS.fb (by simp[execOp,ho,hv,hr]) (hR.ext cF_ext)
theorem s_loadRow(hS:StOK C w a B S)(t:TypeId)(x:Operand)(id k i off:Nat)(e:TypeId)(xs:List D)(y:D)(b:Blk)(hbb:(∃ pub,b=.vec e k xs pub)∨∃ u,b=.lrow u e k xs)(hx:S.val x=.vptr id k i off)(hb:S.heap id=some b)(hy:xs[i]? = some y)(hd:loadD P t (y.cells.drop off)=some d)(ho:o.op=.load t x):OpOK P o a w C B S.heap nid d []:=by
 have h:=hS.env.val x
 rw[hx] at h
 generalize hv:a.eval x=v at h
 cases h with
 | vptr _ _ _ _ g n c hl h =>
  obtain⟨vals,h1,h2,h3⟩:∃ vals,w.ownsRow 0 e k (C.σ id) xs.length vals∧(∀ x ∈ xs,x.cells.length=k)∧RepL (cF C.F) w vals (xs.flatMap D.cells):=by
   rcases hbb with⟨pub,rfl⟩|⟨u,rfl⟩
   ·obtain⟨_,vals,h1,h2,h3,_⟩:=hS.heap.rep id _ hb;exact⟨vals,h1,h2,h3⟩
   ·obtain⟨_,_,vals,h1,h2,h3,_⟩:=hS.heap.rep id _ hb;exact⟨vals,h1,h2,h3⟩
  rw[h] at h1
  have hc:=h1.cells (g:=g) rfl
  have hyk:y.cells.length=k:=h2 y (List.mem_of_getElem? hy)
  have hsub:RepL (cF C.F) w (((vals.drop (i * k)).take k).drop off) (y.cells.drop off):=by
   have:=((h3.drop (i * k)).take k)
   rw[flat_split k xs h2 i y hy] at this
   exact this.drop off
  obtain⟨u,hr,hR⟩:=loadD_run (P:=P) (b:=g) (off:=i * k+off) hsub (fun j v hj=>by
   have hj':((vals.drop (i * k)).take k)[off+j]? = some v:=by simpa using hj
   rw[List.getElem?_take] at hj'
   split at hj'
   ·have:=hc (i * k+(off+j)) v (by simpa using hj')
    rw[addr_add] at this
    simpa[Nat.add_assoc] using this
   ·cases hj') hd
  exact .same hS.heap hS.fb (by simp[execOp,ho,hv,hr]) (hR.ext cF_ext)
theorem s_loadVec(hS:StOK C w a B S)(t:TypeId)(x:Operand)(id k i off:Nat)(e:TypeId)(xs:List D)(pub:Bool)(y:D)(hx:S.val x=.vptr id k i off)(hb:S.heap id=some (.vec e k xs pub))(hy:xs[i]? = some y)(hd:loadD P t (y.cells.drop off)=some d)(ho:o.op=.load t x):OpOK P o a w C B S.heap nid d [] :=
 s_loadRow hS t x id k i off e xs y _ (.inl ⟨pub,rfl⟩) hx hb hy hd ho
theorem s_loadMat(hS:StOK C w a B S)(t:TypeId)(x:Operand)(id k i off:Nat)(e:TypeId)(xs:List D)(y:D)(hx:S.val x=.vptr id k i off)(hb:S.heap id=some (.mat e k xs))(hy:xs[i]? = some y)(hd:loadD P t (y.cells.drop off)=some d)(ho:o.op=.load t x):OpOK P o a w C B S.heap nid d []:=by
 have h:=hS.env.val x
 rw[hx] at h
 generalize hv:a.eval x=v at h
 cases h with
 | vptr _ _ _ _ g n c hl h =>
  obtain⟨_,vals,h1,h2,h3,h4⟩:=hS.heap.rep id _ hb
  rw[h] at h1
  have hc:=h1.cells (g:=g) rfl
  have hyk:y.cells.length=k:=h2 y (List.mem_of_getElem? hy)
  have hsub:RepL C w (((vals.drop (i * k)).take k).drop off) (y.cells.drop off):=by
   have:=((h3.drop (i * k)).take k)
   rw[flat_split k xs h2 i y hy] at this
   exact this.drop off
  obtain⟨u,hr,hR⟩:=loadD_run (P:=P) (b:=g) (off:=i * k+off) hsub (fun j v hj=>by
   have hj':((vals.drop (i * k)).take k)[off+j]? = some v:=by simpa using hj
   rw[List.getElem?_take] at hj'
   split at hj'
   ·have:=hc (i * k+(off+j)) v (by simpa using hj')
    rw[addr_add] at this
    simpa[Nat.add_assoc] using this
   ·cases hj') hd
  exact .same hS.heap hS.fb (by simp[execOp,ho,hv,hr]) hR
theorem s_len(hS:StOK C w a B S)(x:Operand)(t:TypeId)(d0:D)(n:Int)(hx:S.val x=d0)(hn:lenD d0=some n)(ht:(∃ s,d0=.str s∧strT P t=true)∨((∀ s,d0≠.str s)∧(sliceT P t).isSome=true))(ho:o.op=.call { callee:=.builtin .len,args:=#[x],argTypes:=#[t] }):OpOK P o a w C B S.heap nid (.int .i64 n) []:=by
 have h:=hS.env.val x
 rw[hx] at h
 rcases ht with⟨s,rfl,ht⟩|⟨hns,ht⟩
 ·simp[lenD] at hn;subst hn
  generalize hv:a.eval x=v at h
  cases h with
  | str _ hm =>
  refine .same hS.heap hS.fb ?_ (.int _ _ (len_inR hm))
  simp[execOp,ho,hv,resolve,invoke,builtin,Builtin.len_,underlying_run (strT_under ht),goInt,bsize]
 ·obtain⟨e,he⟩:=Option.isSome_iff_exists.1 ht
  have hsl:∃ A m c,a.eval x=.slice A m c∧(m:Int)=n∧m≤maxLen:=by
   generalize hv:a.eval x=v at h
   cases h<;>simp[lenD] at hn
   case str l hl=>exact absurd rfl (hns l)
   case own A hm hl h=>exact⟨_,_,_,rfl,hn,hm⟩
   case nils=>exact⟨none,0,0,rfl,by simpa using hn,Nat.zero_le _⟩
   case sl0 A c h=>exact⟨_,_,_,rfl,by simpa using hn,Nat.zero_le _⟩
   case sl=>exact⟨_,_,_,rfl,hn,by omega⟩
  obtain⟨A,m,c,hv,rfl,hm⟩:=hsl
  refine .same hS.heap hS.fb ?_ (.int _ _ (len_inR hm))
  simp[execOp,ho,hv,resolve,invoke,builtin,Builtin.len_,underlying_run (sliceT_under he),goInt]
theorem s_min(hS:StOK C w a B S)(x y:Operand)(ts:Array TypeId)(k:IntKind)(m n:Int)(hx:S.val x=.int k m)(hy:S.val y=.int k n)(ho:o.op=.call { callee:=.builtin .min,args:=#[x,y],argTypes:=ts }):OpOK P o a w C B S.heap nid (.int k (if n < m then n else m)) []:=by
 have h:=hS.env.val x
 have h':=hS.env.val y
 rw[hx] at h
 rw[hy] at h'
 generalize hv:a.eval x=v at h
 generalize hu:a.eval y=u at h'
 cases h with
 | int _ _ h1 =>
 cases h' with
 | int _ _ h2 =>
 exact .same hS.heap hS.fb (by simp[execOp,ho,hv,hu,resolve,invoke,builtin,Builtin.min_,Builtin.min2]) (.int _ _ (by split<;>assumption))
theorem s_max(hS:StOK C w a B S)(x y:Operand)(ts:Array TypeId)(k:IntKind)(m n:Int)(hx:S.val x=.int k m)(hy:S.val y=.int k n)(ho:o.op=.call { callee:=.builtin .max,args:=#[x,y],argTypes:=ts }):OpOK P o a w C B S.heap nid (.int k (if n > m then n else m)) []:=by
 have h:=hS.env.val x
 have h':=hS.env.val y
 rw[hx] at h
 rw[hy] at h'
 generalize hv:a.eval x=v at h
 generalize hu:a.eval y=u at h'
 cases h with
 | int _ _ h1 =>
 cases h' with
 | int _ _ h2 =>
 exact .same hS.heap hS.fb (by simp[execOp,ho,hv,hu,resolve,invoke,builtin,Builtin.max_,Builtin.max2]) (.int _ _ (by split<;>assumption))
theorem s_indexStr(hS:StOK C w a B S)(t:TypeId)(x i:Operand)(s:List UInt8)(k:IntKind)(n:Int)(b:UInt8)(hx:S.val x=.str s)(hi:S.val i=.int k n)(h0:0≤n)(hb:s[n.toNat]? = some b)(ht:strT P t=true)(ho:o.op=.index t x i):OpOK P o a w C B S.heap nid (.int .u8 b.toNat) []:=by
 have h:=hS.env.val x
 have h':=hS.env.val i
 rw[hx] at h
 rw[hi] at h'
 generalize hv:a.eval x=v at h
 generalize hu:a.eval i=u at h'
 cases h
 cases h'
 refine .same hS.heap hS.fb ?_ (.int _ _ (by have:=b.toNat_lt;unfold inR;simp only[kLo,kHi];omega))
 have hlt:=(List.getElem?_eq_some_iff.1 hb)
 obtain⟨hlt,hbe⟩:=hlt
 have hbb:(⟨s.toArray⟩:ByteArray)[n.toNat]? = some b:=by
  rw[getElem?_pos (⟨s.toArray⟩:ByteArray) n.toNat (by rw[bsize];exact hlt)]
  simp only[Option.some.injEq]
  show s.toArray[n.toNat]=b
  simpa using hbe
 simp[execOp,ho,hv,hu,Instr.index,asIntOf,underlying_run (strT_under ht),h0,hbb]
theorem s_indexArr(hS:StOK C w a B S)(t e:TypeId)(len sz:Nat)(x i:Operand)(ds:List D)(k:IntKind)(n:Int)(hx:S.val x=.agg ds)(hi:S.val i=.int k n)(h0:0≤n)(h1:n < len)(ht:arrT P t=some (len,e))(hs:szT P e=some sz)(hd:loadD P e (ds.drop (n.toNat * sz))=some d)(ho:o.op=.index t x i):OpOK P o a w C B S.heap nid d []:=by
 have h:=hS.env.val x
 have h':=hS.env.val i
 rw[hx] at h
 rw[hi] at h'
 generalize hv:a.eval x=v at h
 generalize hu:a.eval i=u at h'
 cases h'
 cases h with
 | agg vs _ hl hone h =>
  obtain⟨u,hr,hR⟩:=part_run (P:=P) ⟨hl,hone,h⟩ hd
  exact .same hS.heap hS.fb (by simp[execOp,ho,hv,hu,Instr.index,asIntOf,underlying_run (arrT_under ht),h0,h1,szT_run hs,hr]) hR
theorem s_indexAddrSl(hS:StOK C w a B S)(t e:TypeId)(sz:Nat)(x i:Operand)(xs:List D)(y:D)(k:IntKind)(n:Int)(hx:S.val x=.sl xs)(hi:S.val i=.int k n)(h0:0≤n)(hy:xs[n.toNat]? = some y)(ht:sliceT P t=some e)(hs:szT P e=some sz)(hyk:y.cells.length=sz)(ho:o.op=.indexAddr t x i):OpOK P o a w C B S.heap nid (.iptr y.cells) []:=by
 have h:=hS.env.val x
 have h':=hS.env.val i
 rw[hx] at h
 rw[hi] at h'
 generalize hv:a.eval x=v at h
 generalize hu:a.eval i=u at h'
 cases h'
 have hlt:=(List.getElem?_eq_some_iff.1 hy).1
 cases h with
 | sl0 A c h=>simp at hy
 | sl b off k' c _ vals hc hm hk hl hone hF hcell h =>
  have hkk:k'=sz:=by rw[← hk y (List.mem_of_getElem? hy)];exact hyk
  subst hkk
  have hsp:=flat_split k' xs hk n.toNat y hy
  have hL:RepL (cF C.F) w ((vals.drop (n.toNat * k')).take k') y.cells:=by
   have:=((RepL.mk hl hone h).drop (n.toNat * k')).take k'
   rwa[hsp] at this
  have hfl:=flat_len2 k' xs hk
  have hmul:n.toNat * k'+k'≤xs.length * k':=by rw[← Nat.succ_mul];exact Nat.mul_le_mul_right _ hlt
  refine .same (v:=.pointer (some ⟨b,off+n.toNat * k',none⟩)) hS.heap hS.fb ?_ (.iptr b _ _ _ hL.len hL.one (fun j hj=>?_) (fun j v hj=>?_) hL.rep)
  ·have h1:n < xs.length:=by omega
   simp[execOp,ho,hv,hu,Instr.indexAt,asIntOf,underlying_run (sliceT_under ht),h0,h1,szT_run hs,addr_add]
  ·rw[Nat.add_assoc]
   simp at hj
   exact hF _ (by rw[hl,hfl];omega)
  ·rw[Nat.add_assoc]
   rw[List.getElem?_take] at hj
   split at hj
   ·exact hcell _ _ (by simpa using hj)
   ·cases hj
theorem s_indexAddrOwn(hS:StOK C w a B S)(t e:TypeId)(sz:Nat)(x i:Operand)(id m:Nat)(k:IntKind)(n:Int)(b:Blk)(hx:S.val x=.own id m)(hi:S.val i=.int k n)(h0:0≤n)(h1:n < m)(ht:sliceT P t=some e)(hs:szT P e=some sz)(hb:S.heap id=some b)(ho:o.op=.indexAddr t x i):OpOK P o a w C B S.heap nid (.vptr id sz n.toNat 0) []:=by
 have h:=hS.env.val x
 have h':=hS.env.val i
 rw[hx] at h
 rw[hi] at h'
 generalize hv:a.eval x=v at h
 generalize hu:a.eval i=u at h'
 cases h'
 cases h with
 | own _ _ c A hl hmm h =>
  obtain⟨_,hr⟩:=hS.heap.rep id b hb
  have hA:∃ g,A=some ⟨g,0,none⟩:=by
   cases b with
   | box pn ds=>obtain⟨g,t,vs,q,_⟩:=hr;rw[h] at q;cases q
   | bbox T ds=>obtain⟨g,vs,q,_⟩:=hr;rw[h] at q;cases q
   | iter s pos=>obtain⟨g,q,_⟩:=hr;rw[h] at q;cases q
   | mp k ks vs pub=>obtain⟨g,cl,es,q,_⟩:=hr;rw[h] at q;cases q
   | lrow u e' k' xs =>
    obtain⟨_,vals,q,_⟩:=hr
    rcases q.2 with⟨q1,q2⟩|⟨g,cap,cur,q1,_⟩
    ·rw[h] at q1;injection q1 with _ q1;omega
    ·rw[h] at q1;injection q1 with q1;exact⟨g,q1⟩
   | mat e' k' xs =>
    obtain⟨vals,q,_⟩:=hr
    rcases q.2 with⟨q1,q2⟩|⟨g,cap,cur,q1,_⟩
    ·rw[h] at q1;injection q1 with _ q1;omega
    ·rw[h] at q1;injection q1 with q1;exact⟨g,q1⟩
   | vec e' k' xs pub =>
    obtain⟨vals,q,_⟩:=hr
    rcases q.2 with⟨q1,q2⟩|⟨g,cap,cur,q1,_⟩
    ·rw[h] at q1;injection q1 with _ q1;omega
    ·rw[h] at q1;injection q1 with q1;exact⟨g,q1⟩
  obtain⟨g,rfl⟩:=hA
  refine .same (v:=.pointer (some ⟨g,n.toNat * sz+0,none⟩)) hS.heap hS.fb ?_ (.vptr id sz n.toNat 0 g m c hl h)
  simp[execOp,ho,hv,hu,Instr.indexAt,asIntOf,underlying_run (sliceT_under ht),h0,h1,szT_run hs,addr_add]
theorem s_indexAddrArr(hS:StOK C w a B S)(t e:TypeId)(len sz:Nat)(x i:Operand)(id off:Nat)(k:IntKind)(n:Int)(hx:S.val x=.ptr id off)(hi:S.val i=.int k n)(h0:0≤n)(h1:n < len)(ht:arrT P t=some (len,e))(hs:szT P e=some sz)(ho:o.op=.indexAddr t x i):OpOK P o a w C B S.heap nid (.ptr id (off+n.toNat * sz)) []:=by
 have h:=hS.env.val x
 have h':=hS.env.val i
 rw[hx] at h
 rw[hi] at h'
 generalize hv:a.eval x=v at h
 generalize hu:a.eval i=u at h'
 cases h'
 cases h with
 | ptr _ _ g hl h =>
  refine .same hS.heap hS.fb ?_ (.ptr id _ g hl h)
  simp[execOp,ho,hv,hu,Instr.indexAt,Instr.sureAddr,asIntOf,underlying_run (arrT_under ht),h0,h1,szT_run hs,addr_add]
theorem s_indexAddrI(hS:StOK C w a B S)(t e:TypeId)(len sz:Nat)(x i:Operand)(ds:List D)(k:IntKind)(n:Int)(hx:S.val x=.iptr ds)(hi:S.val i=.int k n)(h0:0≤n)(h1:n < len)(ht:arrT P t=some (len,e))(hs:szT P e=some sz)(ho:o.op=.indexAddr t x i):OpOK P o a w C B S.heap nid (.iptr (ds.drop (n.toNat * sz))) []:=by
 have h:=hS.env.val x
 have h':=hS.env.val i
 rw[hx] at h
 rw[hi] at h'
 generalize hv:a.eval x=v at h
 generalize hu:a.eval i=u at h'
 cases h'
 cases h with
 | iptr b off _ vals hl h1v hF hcell hrep =>
  refine .same (v:=.pointer (some ⟨b,off+n.toNat * sz,none⟩)) hS.heap hS.fb ?_ (.iptr b _ _ (vals.drop (n.toNat * sz)) (by simp[hl]) (fun v hv=>h1v v (List.mem_of_mem_drop hv)) (fun i hi=>?_) (fun i v hv=>?_) (fun i v d hv hd=>?_))
  ·simp[execOp,ho,hv,hu,Instr.indexAt,Instr.sureAddr,asIntOf,underlying_run (arrT_under ht),h0,h1,szT_run hs,addr_add]
  ·have:=hF (n.toNat * sz+i) (by simp at hi;omega)
   rw[← Nat.add_assoc] at this
   exact this
  ·have:=hcell (n.toNat * sz+i) v (by simpa using hv)
   rw[← Nat.add_assoc] at this
   exact this
  ·exact hrep (n.toNat * sz+i) v d (by simpa using hv) (by simpa using hd)
theorem s_sliceI(hS:StOK C w a B S)(t e:TypeId)(len:Nat)(x:Operand)(ds:List D)(hx:S.val x=.iptr ds)(ht:arrT P t=some (len,e))(hs:szT P e=some 1)(hle:len≤ds.length)(hm:len≤maxLen)(hint:(ds.take len).all intD=true)(ho:o.op=.slice t x none none none):OpOK P o a w C B S.heap nid (.fsl (ds.take len)) []:=by
 have h:=hS.env.val x
 rw[hx] at h
 generalize hv:a.eval x=v at h
 have hc1:∀ d ∈ ds.take len,d.cells=[d]:=fun d hd=>by
  have:=List.all_eq_true.1 hint d hd
  cases d<;>first|rfl|(simp[intD] at this)
 have hfl:∀ (l:List D),(∀ d ∈ l,d.cells=[d])→l.flatMap D.cells=l:=by
  intro l
  induction l with
  | nil=>intro _;rfl
  | cons d l ih=>intro hl;rw[List.flatMap_cons,hl d (by simp),ih (fun y hy=>hl y (by simp[hy]))];rfl
 have hlen:(ds.take len).length=len:=by rw[List.length_take];omega
 cases h with
 | iptr b off _ vals hl h1v hF hcell hrep =>
  have hvl:(vals.take len).length=len:=by rw[List.length_take];omega
  have hr:Rep w C (.slice (some ⟨b,off,none⟩) (ds.take len).length (ds.take len).length) (.sl (ds.take len)) :=
   .sl b off 1 (ds.take len).length (ds.take len) (vals.take len) (Nat.le_refl _) (by rw[hlen];exact hm) (fun d hd=>by rw[hc1 d hd];rfl) (by rw[hfl _ hc1,hvl,hlen]) (fun v hv=>h1v v (List.mem_of_mem_take hv)) (fun i hi=>hF i (by rw[hvl] at hi;omega))
    (fun i v hv=>hcell i v (by rw[List.getElem?_take] at hv;split at hv;exact hv;cases hv)) (fun i v d hv hd=>by
     rw[hfl _ hc1] at hd
     rw[List.getElem?_take] at hv hd
     split at hv
     ·rename_i hi;rw[if_pos hi] at hd;exact hrep i v d hv hd
     ·cases hv)
  refine .same (v:=.slice (some ⟨b,off,none⟩) (ds.take len).length (ds.take len).length) hS.heap hS.fb ?_ (.fsl _ _ hr)
  rw[hlen]
  by_cases h0:len=0
  ·subst h0
   simp[execOp,ho,hv,Instr.sliceAt,Instr.sureAddr,Instr.sliceBounds,underlying_run (arrT_under ht),szT_run hs]
  ·simp[execOp,ho,hv,Instr.sliceAt,Instr.sureAddr,Instr.sliceBounds,underlying_run (arrT_under ht),szT_run hs,h0,addr_add]
end pures
end
section
variable {P:Program}{o:Oper}{a:Act}{w w':World}{C C':Cx}{B:Bx}{nid:Nat}{d:D}{S:AS}{eff:Eff}
theorem loD_run{x:Option Operand}{l y:Nat}{c:BoundsCode}(hE:EnvOK C w a S.env)(h:loD (x.map S.val)=some l)(hy:l≤y) :
  (match x.map a.eval with|some v=>Instr.sliceBound v y c|none=>pure 0:Sem Nat).run P w=.ok l w:=by
 cases x with
 | none=>simp[loD] at h;subst h;rfl
 | some x =>
  simp only[Option.map_some] at h ⊢
  have hr:=hE.val x
  generalize S.val x=dx at h hr
  cases dx<;>simp[loD] at h
  rename_i k n
  generalize hv:a.eval x=v at hr
  cases hr
  obtain⟨h0,h1⟩:=h
  have:n≤y:=by omega
  simp[Instr.sliceBound,asIntOf,h0,this,h1]
theorem hiD_run{x:Option Operand}{len cap h:Nat}{c:BoundsCode}(hE:EnvOK C w a S.env)(hh:hiD len (x.map S.val)=some h)(hc:len≤cap) :
  (match x.map a.eval with|some v=>Instr.sliceBound v cap c|none=>pure len:Sem Nat).run P w=.ok h w∧h≤len:=by
 cases x with
 | none=>simp[hiD] at hh;subst hh;exact⟨rfl,Nat.le_refl _⟩
 | some x =>
  simp only[Option.map_some] at hh ⊢
  have hr:=hE.val x
  generalize S.val x=dx at hh hr
  cases dx<;>simp[hiD] at hh
  rename_i k n
  generalize hv:a.eval x=v at hr
  cases hr
  obtain⟨⟨h0,h2⟩,h1⟩:=hh
  have:n≤cap:=by omega
  refine⟨?_,by omega⟩
  simp[Instr.sliceBound,asIntOf,h0,this,h1]
theorem bounds_run{lo hi:Option Operand}{len cap l h:Nat}(isS:Bool)(hE:EnvOK C w a S.env)(hl:loD (lo.map S.val)=some l)(hh:hiD len (hi.map S.val)=some h)(hle:l≤h)(hc:len≤cap) :
  (Instr.sliceBounds isS len cap (lo.map a.eval) (hi.map a.eval) none).run P w=.ok (l,h,cap) w∧h≤len:=by
 have h1:=fun c=>hiD_run (P:=P) (c:=c) hE hh hc
 have h2:=fun c=>loD_run (P:=P) (c:=c) (y:=h) hE hl hle
 refine⟨?_,(h1 .index).2⟩
 have k1:=fun c=>(h1 c).1
 unfold Instr.sliceBounds
 cases lo<;>cases hi<;>simp only[Option.map_none,Option.map_some] at k1 h2 ⊢
 ·have e1:len=h:=by have:=k1 .index;injection this
  have e2:0=l:=by have:=h2 .index;injection this
  subst e1 e2;rfl
 ·have e2:0=l:=by have:=h2 .index;injection this
  subst e2
  simp only[Sem.run_bind,Sem.run_pure,Result.andThen_ok,k1]
 ·have e1:len=h:=by have:=k1 .index;injection this
  subst e1
  simp only[Sem.run_bind,Sem.run_pure,Result.andThen_ok,Option.isSome_none,Bool.false_eq_true,if_false,h2]
 ·simp only[Sem.run_bind,Sem.run_pure,Result.andThen_ok,Option.isSome_none,Bool.false_eq_true,if_false,k1,h2]
section pures
theorem s_sliceStr(hS:StOK C w a B S)(t:TypeId)(x:Operand)(lo hi:Option Operand)(s:List UInt8)(l h:Nat)(hx:S.val x=.str s)(ht:strT P t=true)(hl:loD (lo.map S.val)=some l)(hh:hiD s.length (hi.map S.val)=some h)(hle:l≤h)(ho:o.op=.slice t x lo hi none):OpOK P o a w C B S.heap nid (.str ((s.drop l).take (h - l))) []:=by
 have hr:=hS.env.val x
 rw[hx] at hr
 generalize hv:a.eval x=v at hr
 cases hr with
 | str _ hm =>
  obtain⟨hb,hb2⟩:=bounds_run (P:=P) (cap:=s.length) false hS.env hl hh hle (Nat.le_refl _)
  refine .same (v:=.string ⟨((s.drop l).take (h - l)).toArray⟩) hS.heap hS.fb ?_ (.str _ (by simp;omega))
  have e1:(⟨s.toArray⟩:ByteArray).extract l h=⟨((s.drop l).take (h - l)).toArray⟩:=by
   apply ByteArray.ext
   simp
  simp only[execOp,ho,hv,Instr.sliceAt,Instr.slice,Sem.run_bind,underlying_run (strT_under ht),Result.andThen_ok,Option.map_none,Option.isSome_none,Bool.false_eq_true,if_false,bsize,hb,Sem.run_pure,e1]
theorem sliceSl_core{C1:Cx}(hE:EnvOK C w a S.env)(t:TypeId)(x:Operand)(lo hi:Option Operand)(xs:List D)(l h:Nat)(hr:Rep w C1 (a.eval x) (.sl xs))(ht:(sliceT P t).isSome=true)(hsz:∀ e,sliceT P t=some e→(szT P e).isSome=true∧∀ x ∈ xs,szT P e=some x.cells.length)(hl:loD (lo.map S.val)=some l)(hh:hiD xs.length (hi.map S.val)=some h)(hle:l≤h)(ho:o.op=.slice t x lo hi none):∃ v,(execOp a.eval o).run P w=.ok (.value v) w∧Rep w C1 v (.sl ((xs.drop l).take (h - l))):=by
 obtain⟨e,he⟩:=Option.isSome_iff_exists.1 ht
 obtain⟨hz,hz'⟩:=hsz e he
 obtain⟨sz,hsz⟩:=Option.isSome_iff_exists.1 hz
 have run:∀ A n c,a.eval x=.slice A n c→n=xs.length→n≤c→∃ A',(execOp a.eval o).run P w=.ok (.value (.slice A' (h - l) (c - l))) w∧h≤xs.length∧(c≠l→A'=A.map (·.add (l * sz)))∧l≤c:=by
  intro A n c hv hn hc
  subst hn
  obtain⟨hb,hb2⟩:=bounds_run (P:=P) (cap:=c) true hE hl hh hle hc
  refine⟨if c=l then A else A.map (·.add (l * sz)),?_,hb2,fun hne=>by rw[if_neg hne],by omega⟩
  simp only[execOp,ho,hv,Instr.sliceAt,Instr.slice,Sem.run_bind,underlying_run (sliceT_under he),Result.andThen_ok,Option.map_none,hb,szT_run hsz,Sem.run_pure]
 generalize hv:a.eval x=v at hr
 cases hr with
 | sl0 A c hm =>
  obtain⟨A',r1,r2,_,r3⟩:=run A 0 c hv rfl (by omega)
  have h0:h - l=0:=by simp at r2;omega
  rw[h0] at r1 ⊢
  refine⟨_,r1,?_⟩
  simp
  exact .sl0 _ _ (by omega)
 | sl b off k c _ vals hc hm hk hlv h1 hF hcell hrep =>
  obtain⟨A',r1,r2,r3,r4⟩:=run _ _ c hv rfl hc
  have hlen:((xs.drop l).take (h - l)).length=h - l:=by rw[List.length_take,List.length_drop];omega
  by_cases h0:h - l=0
  ·rw[h0] at r1 ⊢
   refine⟨_,r1,?_⟩
   simp
   exact .sl0 _ _ (by omega)
  ·have hne:c≠l:=by omega
   have hx0:∃ x0,x0 ∈ xs:=by cases xs with|nil=>simp at r2;omega|cons x _=>exact⟨x,by simp⟩
   obtain⟨x0,hx0⟩:=hx0
   have hksz:k=sz:=by have h1:=hz' x0 hx0;rw[hsz] at h1;injection h1 with h1;rw[h1];exact(hk x0 hx0).symm
   subst hksz
   rw[r3 hne] at r1
   have hsub:RepL (cF C1.F) w ((vals.drop (l * k)).take ((h - l) * k)) (((xs.drop l).take (h - l)).flatMap D.cells):=by
    have e1:((xs.drop l).take (h - l)).flatMap D.cells=((xs.flatMap D.cells).drop (l * k)).take ((h - l) * k):=by
     have q1:∀ (n:Nat) (ys:List D),(∀ y ∈ ys,y.cells.length=k)→(ys.drop n).flatMap D.cells=(ys.flatMap D.cells).drop (n * k):=by
      intro n
      induction n with
      | zero=>intro ys _;simp
      | succ n ih =>
       intro ys hy
       cases ys with
       | nil=>simp
       | cons y ys =>
        rw[List.drop_succ_cons,ih ys (fun z hz=>hy z (by simp[hz])),List.flatMap_cons,Nat.succ_mul,Nat.add_comm,← List.drop_drop]
        congr 1
        rw[← hy y (by simp)];simp
     have q2:∀ (n:Nat) (ys:List D),(∀ y ∈ ys,y.cells.length=k)→(ys.take n).flatMap D.cells=(ys.flatMap D.cells).take (n * k):=by
      intro n
      induction n with
      | zero=>intro ys _;simp
      | succ n ih =>
       intro ys hy
       cases ys with
       | nil=>simp
       | cons y ys =>
        rw[List.take_succ_cons,List.flatMap_cons,List.flatMap_cons,ih ys (fun z hz=>hy z (by simp[hz])),Nat.succ_mul,List.take_append,hy y (by simp)]
        rw[show n * k+k - k=n * k by omega,List.take_of_length_le (l:=y.cells) (by rw[hy y (by simp)];omega)]
     rw[q2 _ _ (fun y hy=>hk y (List.mem_of_mem_drop hy)),q1 _ _ hk]
    rw[e1]
    exact((RepL.mk hlv h1 hrep).drop (l * k)).take ((h - l) * k)
   have hfl:=flat_len2 k xs hk
   have hmul:l * k+(h - l) * k≤xs.length * k:=by rw[← Nat.add_mul];exact Nat.mul_le_mul_right _ (by omega)
   refine⟨_,r1,?_⟩
   have:=Rep.sl (C:=C1) (w:=w) b (off+l * k) k (c - l) ((xs.drop l).take (h - l)) _ (by rw[hlen];omega) (by omega) (fun x hx=>hk x (List.mem_of_mem_drop (List.mem_of_mem_take hx))) hsub.len hsub.one (fun i hi=>?_) (fun i v hi=>?_) hsub.rep
   ·rw[hlen] at this
    simpa[addr_add] using this
   ·rw[Nat.add_assoc]
    simp at hi
    exact hF _ (by rw[hlv,hfl];omega)
   ·rw[Nat.add_assoc]
    rw[List.getElem?_take] at hi
    split at hi
    ·exact hcell _ _ (by simpa using hi)
    ·cases hi
theorem s_sliceSl(hS:StOK C w a B S)(t:TypeId)(x:Operand)(lo hi:Option Operand)(xs:List D)(l h:Nat)(hx:S.val x=.sl xs)(ht:(sliceT P t).isSome=true)(hsz:∀ e,sliceT P t=some e→(szT P e).isSome=true∧∀ x ∈ xs,szT P e=some x.cells.length)(hl:loD (lo.map S.val)=some l)(hh:hiD xs.length (hi.map S.val)=some h)(hle:l≤h)(ho:o.op=.slice t x lo hi none):OpOK P o a w C B S.heap nid (.sl ((xs.drop l).take (h - l))) []:=by
 obtain⟨v,h1,h2⟩:=sliceSl_core (P:=P) (o:=o) (C1:=C) hS.env t x lo hi xs l h (by have:=hS.env.val x;rw[hx] at this;exact this) ht hsz hl hh hle ho;exact .same hS.heap hS.fb h1 h2
theorem s_sliceNils(hS:StOK C w a B S)(t:TypeId)(x:Operand)(lo hi:Option Operand)(l h:Nat)(hx:S.val x=.nils)(hk:slOk P t []=true)(hl:loD (lo.map S.val)=some l)(hh:hiD 0 (hi.map S.val)=some h)(hle:l≤h)(ho:o.op=.slice t x lo hi none):OpOK P o a w C B S.heap nid .nils []:=by
 have hr:=hS.env.val x
 rw[hx] at hr
 generalize hv:a.eval x=v at hr
 cases hr with
 | nils =>
  unfold slOk at hk
  cases he:sliceT P t with
  | none=>rw[he] at hk;cases hk
  | some e =>
   rw[he] at hk
   simp at hk
   obtain⟨sz,hsz⟩:=Option.isSome_iff_exists.1 hk
   obtain⟨hb,hb2⟩:=bounds_run (P:=P) (cap:=0) true hS.env hl hh hle (Nat.le_refl _)
   obtain rfl:h=0:=by omega
   obtain rfl:l=0:=by omega
   refine .same (v:=.slice none 0 0) hS.heap hS.fb ?_ .nils
   simp[execOp,ho,hv,Instr.sliceAt,Instr.slice,Sem.run_bind,underlying_run (sliceT_under he),Result.andThen_ok,Option.map_none,hb,szT_run hsz,Sem.run_pure]
theorem s_sliceOwn(hS:StOK C w a B S)(t:TypeId)(x:Operand)(lo hi:Option Operand)(id:Nat)(e:TypeId)(k:Nat)(pb:Bool)(xs:List D)(l h:Nat)(hx:S.val x=.own id xs.length)(hb:S.heap id=some (.vec e k xs pb))(ht:(sliceT P t).isSome=true)(hsz:∀ e,sliceT P t=some e→(szT P e).isSome=true∧∀ x ∈ xs,szT P e=some x.cells.length)(hl:loD (lo.map S.val)=some l)(hh:hiD xs.length (hi.map S.val)=some h)(hle:l≤h)(ho:o.op=.slice t x lo hi none):OpOK P o a w C B S.heap nid (.sl ((xs.drop l).take (h - l))) [(id,some (.vec e k xs true))]:=by
 obtain⟨C1,hP,hr⟩:=pub_vec hS.heap hS.fb hb;obtain⟨v,h1,h2⟩:=sliceSl_core (P:=P) (o:=o) (C1:=cF C1.F) hS.env t x lo hi xs l h (hr _ (by have:=hS.env.val x;rw[hx] at this;exact this)) ht hsz hl hh hle ho;exact OpOK.after (ep:=[(id,some (.vec e k xs true))]) (eff:=[]) hP (.same hP.ok hP.fb h1 (h2.ext cF_ext))
end pures
theorem putD_rep{vs us:List Value}{ds:List D}{x:D}{off:Nat}(h:RepL C w vs ds)(k:RepL C w us x.cells):RepL C w (vs.take off++us++vs.drop (off+us.length)) (putD ds off x):=by
 unfold putD;rw[k.len];exact((h.take off).append k).append (h.drop _)
theorem s_storeBox(hS:StOK C w a B S)(t:TypeId)(x y:Operand)(id off:Nat)(pn:Option Nat)(cs:List D)(hx:S.val x=.ptr id off)(hb:S.heap id=some (.box pn cs))(hok:(S.val y).okS=true)(hsz:szT P t=some (S.val y).cells.length)(hle:off+(S.val y).cells.length≤cs.length)(ho:o.op=.store t x y) :
  OpOK P o a w C B S.heap nid .undef [(id,some (.box pn (putD cs off (S.val y))))]:=by
 have h:=hS.env.val x
 rw[hx] at h
 generalize hv:a.eval x=v at h
 cases h with
 | ptr _ _ g hl h =>
  obtain⟨_,g',t',vs,h1,h2,h3,h4,h5⟩:=hS.heap.rep id _ hb
  rw[h] at h1
  injection h1 with h1;injection h1 with h1;injection h1 with h1
  subst h1
  have hy:=(hS.env.val y).cellsS hok
  have hlen:=hy.len
  have hst:=run_storeCells_at P g off t' (a.eval y).cells.toList 0 vs w h3 (by have:=h4.len;simp at this hlen;simp;omega) hy.one
  simp only[Nat.add_zero] at hst
  generalize hW:w.setRow g (vs.toList.take off++(a.eval y).cells.toList++vs.toList.drop (off+(a.eval y).cells.toList.length)).toArray=W at hst
  have hWo:∀ k,k≠g→W.heap[k]? = w.heap[k]?:=by intro k hk;rw[← hW];exact setRow_other w g k _ hk
  have hWs:W.heap.size=w.heap.size:=by rw[← hW];simp
  have hext:Ext C w C W:=⟨fun _ _ h=>h,fun b o hF=>hWo b (fun e=>h5 o (e ▸ hF)),fun _ h=>h,fun _ _=>rfl⟩
  refine⟨.skip,Go.undef,W,C,?_,.inr ⟨rfl,rfl⟩,?_,hext,.undef,?_,?_,fun _ h=>.inl h,fun _ _ h=>.inl h⟩
  ·simp only[execOp,ho,hv,Instr.storeAt,Instr.sureAddr,storeVar,Sem.run_bind,Sem.run_pure,Result.andThen_ok,szT_run hsz]
   have hne:¬ ((a.eval y).cells.size≠(S.val y).cells.length):=by simpa using hlen
   simp only[hne,if_false,Result.andThen_ok,hst]
  ·refine⟨by rw[← hW];rfl,by rw[← hW];rfl,by rw[← hW];rfl,by omega,fun k _ hk=>hWo k (fun e=>hk (e ▸ hS.heap.own id _ hb g (by rw[h];rfl)))⟩
  ·refine HOK.change hS.heap hb hext (fun k hk _=>hWo k (fun e=>hk (by rw[e,h];rfl))) (fun k cs' e=>hS.heap.pin id k cs (by simp only[Blk.box.injEq] at e;rw[hb,e.1])) ⟨g,t',(vs.toList.take off++(a.eval y).cells.toList++vs.toList.drop (off+(a.eval y).cells.toList.length)).toArray,h,h2,?_,?_,h5⟩
   ·rw[← hW];exact setRow_heap w g vs _ t' _ h3
   ·simpa using putD_rep (h4.ext hext) (hy.ext hext)
  ·intro b o hF;rw[hWs];exact hS.fb b o hF
theorem s_box(hS:StOK C w a B S)(hn:¬ C.live nid)(e:TypeId)(x:Operand)(hok:(S.val x).okS=true)(ho:o.op=.box e x):OpOK P o a w C B S.heap nid (.ptr nid 0) [(nid,some (.box none (S.val x).cells))] :=
 ok_box (t:=e) hS.heap hS.fb hS.base hn ((hS.env.val x).cellsS hok) (by simp[execOp,ho,Instr.box,newVar,newRow])
theorem s_boxI(hS:StOK C w a B S)(e:TypeId)(x:Operand)(hok:(S.val x).okS=true)(hint:(S.val x).cells.all intD=true)(ho:o.op=.box e x):OpOK P o a w C B S.heap nid (.iptr (S.val x).cells) []:=by
 have hL:=(hS.env.val x).cellsS hok;have hF:=hS.fb;have hrun:(execOp a.eval o).run P w=.ok (.value (.pointer (some ⟨w.heap.size,0,none⟩))) (w.alloc (.cells (a.eval x).cells e)):=by simp[execOp,ho,Instr.box,newVar,newRow]
 let C':Cx:=⟨fun b o=>C.F b o∨b=w.heap.size,C.σ,C.live⟩;have ee:Ext C w C' (w.alloc (.cells (a.eval x).cells e)):=⟨fun _ _ h=>.inl h,fun b o hb=>Below.heap_alloc w _ b (hF b o hb),fun _ h=>h,fun _ _=>rfl⟩;refine⟨_,_,_,C',hrun,.inl rfl,(BelM.refl _ _).alloc _,ee,?_,?_,?_,fun id h=>.inl h,?_⟩
 ·refine .iptr w.heap.size 0 _ (a.eval x).cells.toList hL.len hL.one (fun i _=>.inr rfl) (fun i v hv=>?_) (fun i v d hv hd=>?_)
  ·rw[World.cell?];simp only[Nat.zero_add,World.alloc,Array.getElem?_push_size];simpa using hv
  have h1:=hL.rep i v d hv hd;have h2:=List.all_eq_true.1 hint d (List.mem_of_getElem? hd);cases d<;>first|(simp[intD] at h2;done)|skip
  cases h1;exact .int _ _ (by assumption)
 ·refine⟨fun id b hb=>?_,hS.heap.own,hS.heap.pin,hS.heap.apart⟩;obtain⟨h1,h2⟩:=hS.heap.rep id b hb;refine⟨h1,h2.keep h1 ee (fun g hg=>Below.heap_alloc w _ g (h2.lt g hg).2) (fun g o hg h=>?_)⟩;rcases h with h|h
  ·exact h
  have:=(h2.lt g hg).2;omega
 ·intro b o h;rcases h with h|h
  ·have:=hF b o h;show b < (w.heap.push _).size;rw[Array.size_push];omega
  show b < (w.heap.push _).size;rw[Array.size_push];omega
 intro b o h;rcases h with h|h
 ·exact .inl h
 exact .inr (hS.base b (by omega))
theorem s_alloc(hS:StOK C w a B S)(hn:¬ C.live nid)(e:TypeId)(z:D)(hz:zeroD P e=some z)(hok:(z.okS||zOne P e)=true)(ho:o.op=.alloc e):OpOK P o a w C B S.heap nid (.ptr nid 0) [(nid,some (.box none z.cells))]:=by
 obtain⟨v,hr,hR⟩:=zero_cells (C:=C) (w:=w) hz hok;exact ok_box (t:=e) hS.heap hS.fb hS.base hn hR (by simp[execOp,ho,Instr.alloc,hr,newVar,newRow])
theorem selfD_rep{C:Cx}{w:World}{nid:Nat}(hl:C.live nid):∀ (ds:List D) (vs:List Value),RepL C w vs ds→RepL C w vs (selfD nid ds)
 | [],vs,h=>h
 | d::ds,[],h=>by have:=h.len;simp at this
 | d::ds,v::vs,h=>by
  have h1:=h.rep 0 v d rfl rfl
  have h2:RepL C w vs ds:=⟨by have:=h.len;simpa using this,fun u hu=>h.one u (by simp[hu]),fun i u e hu he=>h.rep (i+1) u e (by simpa using hu) (by simpa using he)⟩
  have h3:=selfD_rep hl ds vs h2
  have ho:=h.one v (by simp)
  by_cases hd:d=.nilp
  ·subst hd
   cases h1
   simp only[selfD]
   exact(RepL.one1 ho (.sp0 nid hl)).append h3
  ·have e:selfD nid (d::ds)=d::selfD nid ds:=by cases d<;>first|rfl|exact absurd rfl hd
   rw[e]
   exact(RepL.one1 ho h1).append h3
theorem s_allocB(hS:StOK C w a B S)(hn:¬ C.live nid)(e:TypeId)(z:D)(hz:zeroD P e=some z)(hok:(z.okS||zOne P e)=true)(ho:o.op=.alloc e):OpOK P o a w C B S.heap nid (.ptr nid 0) [(nid,some (.bbox e (selfD nid z.cells)))]:=by
 obtain⟨v,hr,hL⟩:=zero_cells (C:=C) (w:=w) hz hok;have hF:=hS.fb;have hrun:(execOp a.eval o).run P w=.ok (.value (.pointer (some ⟨w.heap.size,0,none⟩))) (w.alloc (.cells v.cells e)):=by simp[execOp,ho,Instr.alloc,hr,newVar,newRow]
 have e1:=Cx.new_ext (w:=w) (w':=w.alloc (.cells v.cells e)) hn (.pointer (some ⟨w.heap.size,0,none⟩)) (hF.alloc _);have hs:(C.new nid (.pointer (some ⟨w.heap.size,0,none⟩))).σ nid=.pointer (some ⟨w.heap.size,0,none⟩):=by simp[Cx.new,upd]
 refine⟨_,_,_,C.new nid (.pointer (some ⟨w.heap.size,0,none⟩)),hrun,.inl rfl,(BelM.refl _ _).alloc _,e1,.ptr nid 0 _ (.inr rfl) hs,?_,?_,fun id h=>h,fun _ _ h=>.inl h⟩
 ·refine HOK.add hS.heap hn e1 (fun g hg=>Below.heap_alloc w _ g hg) ⟨w.heap.size,v.cells,hs,Nat.zero_le _,heap_alloc_new w _,selfD_rep (C:=C.new nid (.pointer (some ⟨w.heap.size,0,none⟩))) (Or.inr rfl) _ _ (hL.ext e1),nolt hF⟩ hS.base (fun k cs h=>by cases h) ?_;intro g hg;simp[blockOf] at hg;omega
 intro b o h;have:=hF b o h;simp;omega
end
section
variable {P:Program}{o:Oper}{a:Act}{w w':World}{C C':Cx}{B:Bx}{nid:Nat}{d:D}{S:AS}{eff:Eff}
theorem fold_set(off:Nat):∀ (vs:List Value) (j:Nat) (arr:Array Value),off+j+vs.length≤arr.size →
  (vs.zipIdx j).foldl (fun(cs:Array Value) (p:Value × Nat)=>cs.setIfInBounds (off+p.2) p.1) arr=(arr.toList.take (off+j)++vs++arr.toList.drop (off+j+vs.length)).toArray:=by
 intro vs
 induction vs with
 | nil=>intro j arr h;simp
 | cons v vs ih =>
  intro j arr h
  simp only[List.length_cons] at h
  rw[List.zipIdx_cons,List.foldl_cons,ih (j+1) _ (by simp;omega)]
  apply congrArg
  have hlt:off+j < arr.toList.length:=by simp;omega
  simp only[Array.toList_setIfInBounds,List.length_cons]
  rw[← Nat.add_assoc off j 1,List.take_set,List.drop_set_of_lt (by omega),show off+j+1+vs.length=off+j+(vs.length+1) by omega]
  rw[List.take_succ_eq_append_getElem hlt,List.set_append_right _ _ (by simp;omega)]
  simp[List.length_take,Nat.min_eq_left (Nat.le_of_lt hlt)]
  rw[show off+j - min (off+j) arr.size=0 by omega]
  simp
theorem fill_rep(place:Nat→Option (Nat × Nat)):∀ (parts:List (Nat × Value)) (dp:List (Nat × D)) (cells:Array Value) (ds ds':List D),RepL C w cells.toList ds →
  parts.length=dp.length→(∀ (i:Nat) p q,parts[i]? = some p→dp[i]? = some q→p.1=q.1∧Rep w C p.2 q.2)→fillD place ds dp=some ds' →
  ∃ cells',Instr.fill place cells parts=some cells'∧RepL C w cells'.toList ds':=by
 intro parts
 induction parts with
 | nil =>
  intro dp cells ds ds' hL hlen _ h
  cases dp with
  | nil=>simp[fillD] at h;subst h;exact⟨cells,rfl,hL⟩
  | cons _ _=>simp at hlen
 | cons p parts ih =>
  intro dp cells ds ds' hL hlen hR h
  cases dp with
  | nil=>simp at hlen
  | cons q dp =>
   obtain⟨i,v⟩:=p
   obtain⟨i',x⟩:=q
   obtain⟨h1,h2⟩:=hR 0 _ _ rfl rfl
   simp only at h1 h2
   subst h1
   simp only[fillD] at h
   cases hp:place i with
   | none=>rw[hp] at h;simp at h
   | some on =>
    obtain⟨off,n⟩:=on
    rw[hp] at h
    simp only[Bool.and_eq_true,beq_iff_eq,decide_eq_true_eq] at h
    split at h
    ·rename_i hc
     obtain⟨⟨hok,hn⟩,hle⟩:=hc
     have hx:=h2.cellsS hok
     have hsz:v.cells.size=n:=by have:=hx.len;simp at this;omega
     have hcs:cells.size=ds.length:=by simpa using hL.len
     have hfold:=fold_set off v.cells.toList 0 cells (by simp;omega)
     obtain⟨cells',hf,hL'⟩:=ih dp (v.cells.toList.zipIdx.foldl (fun(cs:Array Value) (p:Value × Nat)=>cs.setIfInBounds (off+p.2) p.1) cells) (putD ds off x) ds'
      (by rw[hfold];simp only[Nat.add_zero];exact putD_rep hL hx) (by simpa using hlen) (fun j p q hp hq=>hR (j+1) p q (by simpa using hp) (by simpa using hq)) h
     refine⟨cells',?_,hL'⟩
     simp only[Instr.fill,hp]
     rw[if_neg (by simp;omega)]
     rw[← hf]
     congr 1
     rw[← Array.foldl_toList,Array.toList_zipIdx]
    ·simp at h
theorem mapM_sizes:∀ (fs:List Field),(∀ f ∈ fs,(szT P f.type).isSome=true)→(fs.mapM (m:=Sem) fun f=>do pure (f.offset,← sizeOf f.type)).run P w=.ok (fs.map fun f=>(f.offset,(szT P f.type).getD 0)) w:=by
 intro fs
 induction fs with
 | nil=>intro _;rfl
 | cons f fs ih =>
  intro h
  obtain⟨n,hn⟩:=Option.isSome_iff_exists.1 (h f (by simp))
  simp only[List.mapM_cons,Sem.run_bind,szT_run hn,Result.andThen_ok,Sem.run_pure,ih (fun g hg=>h g (by simp[hg])),List.map_cons,hn,Option.getD_some]
theorem s_build(hS:StOK C w a B S)(t:TypeId)(parts:Array (Nat × Operand))(ds ds':List D)(hz:zeroD P t=some (.agg ds))(hb:buildT P t=true)(hf:fillD (placeT P t) ds (parts.toList.map fun p=>(p.1,S.val p.2))=some ds')(ho:o.op=.build t parts):OpOK P o a w C B S.heap nid (.agg ds') []:=by
 obtain⟨z,hzr,hzR⟩:=zeroD_run (C:=C) (w:=w) hz
 have hcells:=hzR.cellsS rfl
 have hrel:∀ (i:Nat) p q,(parts.map fun p=>(p.1,a.eval p.2)).toList[i]? = some p→(parts.toList.map fun p=>(p.1,S.val p.2))[i]? = some q→p.1=q.1∧Rep w C p.2 q.2:=by
  intro i p q hp hq
  simp only[Array.toList_map,List.getElem?_map] at hp hq
  cases hi:parts.toList[i]? with
  | none=>rw[hi] at hp;simp at hp
  | some r =>
   rw[hi] at hp hq
   simp at hp hq
   subst hp hq
   exact⟨rfl,hS.env.val _⟩
 unfold buildT at hb
 cases hu:P.underlying t with
 | none=>rw[hu] at hb;simp at hb
 | some u =>
  rw[hu] at hb
  cases u<;>simp only[Bool.false_eq_true] at hb
  case struct fs =>
   have hfl:∀ i off n,placeT P t i=some (off,n)→((fs.toList.map fun f=>(f.offset,(szT P f.type).getD 0)).toArray)[i]? = some (off,n):=by
    intro i off n h
    unfold placeT fldT arrT at h
    rw[hu] at h
    simp only at h
    cases hi:fs[i]? with
    | none=>rw[hi] at h;simp at h
    | some f =>
     rw[hi] at h
     simp at h
     obtain⟨h1,rfl⟩:=h
     simp[hi,h1]
   have hfill:∀ (dp:List (Nat × D)) (ds ds':List D),fillD (placeT P t) ds dp=some ds'→fillD (((fs.toList.map fun f=>(f.offset,(szT P f.type).getD 0)).toArray)[·]?) ds dp=some ds':=by
    intro dp
    induction dp with
    | nil=>intro ds ds' h;exact h
    | cons q dp ih =>
     intro ds ds' h
     obtain⟨i,x⟩:=q
     simp only[fillD] at h ⊢
     cases hp:placeT P t i with
     | none=>rw[hp] at h;simp at h
     | some on =>
      obtain⟨off,n⟩:=on
      rw[hp] at h
      rw[hfl i off n hp]
      simp only at h ⊢
      split at h
      ·rename_i hc;rw[if_pos hc];exact ih _ _ h
      ·simp at h
   obtain⟨cells',h1,h2⟩:=fill_rep (C:=C) (w:=w) _ (parts.map fun p=>(p.1,a.eval p.2)).toList _ z.cells ds ds' hcells (by simp) hrel (hfill _ _ _ hf)
   refine .same (v:=.agg cells') hS.heap hS.fb ?_ (by simpa using h2.agg)
   have hm:=mapM_sizes (P:=P) (w:=w) fs.toList (fun f hf=>List.all_eq_true.1 hb f hf)
   simp only[execOp,ho,Instr.build,Sem.run_bind,hzr,Result.andThen_ok,underlying_run hu,Array.mapM_eq_mapM_toList,Sem.run_map,hm,h1,Sem.run_pure]
  case array n e =>
   obtain⟨k,he⟩:=Option.isSome_iff_exists.1 hb
   have hfl:∀ i,placeT P t i=some (i * k,k):=by
    intro i
    unfold placeT fldT arrT
    rw[hu]
    simp[he]
   obtain⟨cells',h1,h2⟩:=fill_rep (C:=C) (w:=w) (fun i=>some (i * k,k)) (parts.map fun p=>(p.1,a.eval p.2)).toList _ z.cells ds ds' hcells (by simp) hrel (by rw[show(fun i=>some (i * k,k))=placeT P t from funext fun i=>(hfl i).symm];exact hf)
   refine .same (v:=.agg cells') hS.heap hS.fb ?_ (by simpa using h2.agg)
   simp only[execOp,ho,Instr.build,Sem.run_bind,hzr,Result.andThen_ok,underlying_run hu,szT_run he,h1,Sem.run_pure]
end
section
variable {P:Program}{o:Oper}{a:Act}{w w':World}{C C':Cx}{B:Bx}{nid:Nat}{d:D}{S:AS}{eff:Eff}
theorem putD_mid(A xs ys:List D)(x:D)(h:xs.length=x.cells.length):putD (A++(xs++ys)) A.length x=A++(x.cells++ys):=by
 unfold putD;rw[List.take_left,← h,← List.drop_drop,List.drop_left,List.drop_left,List.append_assoc]
theorem fillD_all(k:Nat):∀ (xs:List D) (done:List D) (j:Nat),(∀ x ∈ xs,x.okS=true∧x.cells.length=k)→done.length=j * k →
  fillD (fun i=>some (i * k,k)) (done++List.replicate (xs.length * k) .any) ((List.range' j xs.length).zip xs)=some (done++xs.flatMap D.cells):=by
 intro xs
 induction xs with
 | nil=>intro done j _ _;simp[fillD]
 | cons x xs ih =>
  intro done j h hd
  obtain⟨h1,h2⟩:=h x (by simp)
  simp only[List.length_cons,List.range'_succ,List.zip_cons_cons,fillD]
  rw[if_pos (by simp[h1,h2,hd,Nat.succ_mul])]
  have e1:done++List.replicate ((xs.length+1) * k) D.any=done++(List.replicate k .any++List.replicate (xs.length * k) .any):=by
   rw[List.replicate_append_replicate];congr 2;rw[Nat.succ_mul];omega
  rw[e1,← hd,putD_mid done _ _ x (by simp[h2]),← List.append_assoc,ih (done++x.cells) (j+1) (fun y hy=>h y (by simp[hy])) (by rw[List.length_append,hd,h2,Nat.succ_mul])]
  simp
theorem s_buildSlice(hS:StOK C w a B S)(hn:¬ C.live nid)(t e:TypeId)(len k:Nat)(parts:Array (Nat × Operand))(z:D)(xs:List D)(ep:Eff)(ht:sliceT P t=some e)(hk:szT P e=some k)(hpur:purDs S.heap (parts.toList.map fun p=>S.val p.2)=some (xs,ep))(hp:parts.toList.map (·.1)=List.range len)
  (hx:∀ x ∈ xs,x.cells.length=k) (hm:len * k≤2 ^ 24) (hk0:0 < k) (hz:zeroD P e=some z) (hzo:z.okS=true) (hzl:z.cells.length=k) (ho:o.op=.buildSlice t len parts) :
  OpOK P o a w C B S.heap nid (.own nid len) (ep++[(nid,some (.vec e k xs false))]):=by
 have hlen:parts.toList.length=len:=by have:=congrArg List.length hp;simpa using this
 obtain⟨C1,hP,hvl,hvr⟩:=purDs_sound (w:=w) (B:=B) _ (parts.toList.map fun p=>a.eval p.2) C S.heap xs ep hS.heap hS.fb (by simp) (fun i v d hv hd=>by
  simp only[List.getElem?_map] at hv hd
  cases hi:parts.toList[i]? with
  | none=>rw[hi] at hv;simp at hv
  | some r=>rw[hi] at hv hd;simp at hv hd;subst hv hd;exact hS.env.val _) hpur
 refine OpOK.after hP ?_
 have hn1:¬ C1.live nid:=by rw[hP.live];exact hn
 obtain⟨zv,hzr,hzR⟩:=zeroD_run (C:=cF C1.F) (w:=w) hz
 have hzc:=hzR.cellsS hzo
 have hzs:zv.cells.size=k:=by have:=hzc.len;simp at this;omega
 have hxl:xs.length=len:=by rw[← hvl];simp[← hlen]
 have hinit:RepL (cF C1.F) w ((Array.range (len * k)).map (zv.cells[· % zv.cells.size]!)).toList (List.replicate (xs.length * k) .any):=by
  refine⟨by simp[hxl],fun v hv=>?_,fun i v d hv hd=>?_⟩
  ·simp at hv
   obtain⟨i,hi,rfl⟩:=hv
   have hlt:i % zv.cells.size < zv.cells.size:=Nat.mod_lt _ (by omega)
   rw[getElem!_pos zv.cells (i % zv.cells.size) hlt]
   exact hzc.one _ (by simp)
  ·rw[List.getElem?_replicate] at hd
   split at hd
   ·injection hd with hd;subst hd;exact .any _
   ·cases hd
 have hrel:∀ (i:Nat) p q,(parts.map fun p=>(p.1,a.eval p.2)).toList[i]? = some p→((List.range' 0 xs.length).zip xs)[i]? = some q→p.1=q.1∧Rep w (cF C1.F) p.2 q.2:=by
  intro i p q hp' hq
  rw[List.getElem?_zip_eq_some] at hq
  simp only[Array.toList_map,List.getElem?_map] at hp'
  cases hi:parts.toList[i]? with
  | none=>rw[hi] at hp';simp at hp'
  | some r =>
   rw[hi] at hp'
   simp at hp'
   subst hp'
   have h1:(parts.toList.map (·.1))[i]? = some r.1:=by simp[hi]
   rw[hp] at h1
   obtain⟨hq1,hq2⟩:=hq
   have hlt:i < len:=by have:=(List.getElem?_eq_some_iff.1 h1).1;simpa using this
   rw[List.getElem?_range hlt] at h1
   rw[List.getElem?_range' (by omega)] at hq1
   injection h1 with h1
   injection hq1 with hq1
   exact⟨by simp;omega,(hvr i _ _ (by simp[hi]) hq2).1⟩
 have hxs:∀ x ∈ xs,x.okS=true∧x.cells.length=k:=by
  intro x hx'
  obtain⟨i,hi⟩:=List.getElem?_of_mem hx'
  have hil:i < (parts.toList.map fun p=>a.eval p.2).length:=by rw[hvl];exact(List.getElem?_eq_some_iff.1 hi).1
  exact⟨(hvr i _ x (List.getElem?_eq_getElem hil) hi).2,hx x hx'⟩
 obtain⟨cells',h1,h2⟩:=fill_rep (C:=cF C1.F) (w:=w) (fun i=>some (i * k,k)) (parts.map fun p=>(p.1,a.eval p.2)).toList ((List.range' 0 xs.length).zip xs) _ _ _ hinit (by simp[hxl,hlen]) hrel
  (by have:=fillD_all k xs [] 0 hxs (by simp);simpa using this)
 have hcl:cells'.toList.length=len * k:=by rw[h2.len,flat_len2 k xs hx,hxl]
 have hrun:(execOp a.eval o).run P w=.ok (.value (.slice (some ⟨w.heap.size,0,none⟩) len len)) (w.alloc (.cells cells' e)):=by
  have hnot:¬ (len * k > 2 ^ 24):=by omega
  simp only[execOp,ho,Instr.buildSlice,Sem.run_bind,underlying_run (sliceT_under ht),Result.andThen_ok,szT_run hk,hnot,if_false,Sem.run_pure]
  by_cases h0:len * k=0
  ·simp only[h0,if_true,Sem.run_bind,Sem.run_pure,Result.andThen_ok] at h1 ⊢
   have e0:(Array.range 0).map (fun x=>(#[]:Array Value)[x % (#[]:Array Value).size]!)=(Array.range 0).map (zv.cells[· % zv.cells.size]!):=by simp
   rw[e0,h1]
   rfl
  ·simp only[h0,if_false,Sem.run_bind,hzr,Result.andThen_ok,Sem.run_pure,h1]
   rfl
 have hml:len≤maxLen:=by
  have:len≤len * k:=Nat.le_mul_of_pos_right _ hk0
  unfold maxLen;omega
 have hown:=ownsRow_new (w:=w) e k len cells'.toList hcl hml
 rw[Array.toArray_toList] at hown
 have:=ok_vec (w':=w.alloc (.cells cells' e)) (xs:=xs) (P:=P) (o:=o) (a:=a) hP.ok hP.fb hn1 hx h2 (by rw[hxl];exact hown) (fun g hg=>Below.heap_alloc w _ g hg) ((BelM.refl _ _).alloc _) hS.base (fun g hg=>by simp[Value.ownBlock] at hg;omega) hrun
 rw[hxl] at this
 exact this
theorem s_buildFull(hS:StOK C w a B S)(hn:¬ C.live nid)(t e:TypeId)(len k:Nat)(parts:Array (Nat × Operand))(z:D)(xs:List D)(ep:Eff)(ht:sliceT P t=some e)(hk:szT P e=some k)(hpur:purDs S.heap (parts.toList.map fun p=>S.val p.2)=some (xs,ep))(hp:parts.toList.map (·.1)=List.range len)
  (hx:∀ x ∈ xs,x.cells.length=k) (hm:len * k≤2 ^ 24) (hk0:0 < k) (hz:zeroD P e=some z) (hzo:z.okS=true) (hzl:z.cells.length=k) (ho:o.op=.buildSlice t len parts) :
  OpOK P o a w C B S.heap nid (.fsl xs) (ep++[(nid,some (.vec e k xs true))]):=by
 have hlen:parts.toList.length=len:=by have:=congrArg List.length hp;simpa using this
 obtain⟨C1,hP,hvl,hvr⟩:=purDs_sound (w:=w) (B:=B) _ (parts.toList.map fun p=>a.eval p.2) C S.heap xs ep hS.heap hS.fb (by simp) (fun i v d hv hd=>by
  simp only[List.getElem?_map] at hv hd
  cases hi:parts.toList[i]? with
  | none=>rw[hi] at hv;simp at hv
  | some r=>rw[hi] at hv hd;simp at hv hd;subst hv hd;exact hS.env.val _) hpur
 refine OpOK.after hP ?_
 have hn1:¬ C1.live nid:=by rw[hP.live];exact hn
 obtain⟨zv,hzr,hzR⟩:=zeroD_run (C:=cF C1.F) (w:=w) hz
 have hzc:=hzR.cellsS hzo
 have hzs:zv.cells.size=k:=by have:=hzc.len;simp at this;omega
 have hxl:xs.length=len:=by rw[← hvl];simp[← hlen]
 have hinit:RepL (cF C1.F) w ((Array.range (len * k)).map (zv.cells[· % zv.cells.size]!)).toList (List.replicate (xs.length * k) .any):=by
  refine⟨by simp[hxl],fun v hv=>?_,fun i v d hv hd=>?_⟩
  ·simp at hv
   obtain⟨i,hi,rfl⟩:=hv
   have hlt:i % zv.cells.size < zv.cells.size:=Nat.mod_lt _ (by omega)
   rw[getElem!_pos zv.cells (i % zv.cells.size) hlt]
   exact hzc.one _ (by simp)
  ·rw[List.getElem?_replicate] at hd
   split at hd
   ·injection hd with hd;subst hd;exact .any _
   ·cases hd
 have hrel:∀ (i:Nat) p q,(parts.map fun p=>(p.1,a.eval p.2)).toList[i]? = some p→((List.range' 0 xs.length).zip xs)[i]? = some q→p.1=q.1∧Rep w (cF C1.F) p.2 q.2:=by
  intro i p q hp' hq
  rw[List.getElem?_zip_eq_some] at hq
  simp only[Array.toList_map,List.getElem?_map] at hp'
  cases hi:parts.toList[i]? with
  | none=>rw[hi] at hp';simp at hp'
  | some r =>
   rw[hi] at hp'
   simp at hp'
   subst hp'
   have h1:(parts.toList.map (·.1))[i]? = some r.1:=by simp[hi]
   rw[hp] at h1
   obtain⟨hq1,hq2⟩:=hq
   have hlt:i < len:=by have:=(List.getElem?_eq_some_iff.1 h1).1;simpa using this
   rw[List.getElem?_range hlt] at h1
   rw[List.getElem?_range' (by omega)] at hq1
   injection h1 with h1
   injection hq1 with hq1
   exact⟨by simp;omega,(hvr i _ _ (by simp[hi]) hq2).1⟩
 have hxs:∀ x ∈ xs,x.okS=true∧x.cells.length=k:=by
  intro x hx'
  obtain⟨i,hi⟩:=List.getElem?_of_mem hx'
  have hil:i < (parts.toList.map fun p=>a.eval p.2).length:=by rw[hvl];exact(List.getElem?_eq_some_iff.1 hi).1
  exact⟨(hvr i _ x (List.getElem?_eq_getElem hil) hi).2,hx x hx'⟩
 obtain⟨cells',h1,h2⟩:=fill_rep (C:=cF C1.F) (w:=w) (fun i=>some (i * k,k)) (parts.map fun p=>(p.1,a.eval p.2)).toList ((List.range' 0 xs.length).zip xs) _ _ _ hinit (by simp[hxl,hlen]) hrel
  (by have:=fillD_all k xs [] 0 hxs (by simp);simpa using this)
 have hcl:cells'.toList.length=len * k:=by rw[h2.len,flat_len2 k xs hx,hxl]
 have hrun:(execOp a.eval o).run P w=.ok (.value (.slice (some ⟨w.heap.size,0,none⟩) len len)) (w.alloc (.cells cells' e)):=by
  have hnot:¬ (len * k > 2 ^ 24):=by omega
  simp only[execOp,ho,Instr.buildSlice,Sem.run_bind,underlying_run (sliceT_under ht),Result.andThen_ok,szT_run hk,hnot,if_false,Sem.run_pure]
  by_cases h0:len * k=0
  ·simp only[h0,if_true,Sem.run_bind,Sem.run_pure,Result.andThen_ok] at h1 ⊢
   have e0:(Array.range 0).map (fun x=>(#[]:Array Value)[x % (#[]:Array Value).size]!)=(Array.range 0).map (zv.cells[· % zv.cells.size]!):=by simp
   rw[e0,h1]
   rfl
  ·simp only[h0,if_false,Sem.run_bind,hzr,Result.andThen_ok,Sem.run_pure,h1]
   rfl
 have hml:len≤maxLen:=by
  have:len≤len * k:=Nat.le_mul_of_pos_right _ hk0
  unfold maxLen;omega
 have hown:=ownsRow_new (w:=w) e k len cells'.toList hcl hml
 rw[Array.toArray_toList] at hown
 subst hxl
 refine ok_full (w':=w.alloc (.cells cells' e)) (xs:=xs) (P:=P) (o:=o) (a:=a) hP.ok hP.fb hn1 hx h2 hown (fun g hg=>Below.heap_alloc w _ g hg) ((BelM.refl _ _).alloc _) hS.base (fun g hg=>by simp[Value.ownBlock] at hg;omega) hrun
theorem rep_int1'{w:World}{C:Cx}{v:Value}{k:IntKind}{n:Int}(h:Rep w C v (.int k n)):v=.int k n:=by cases h;rfl
theorem flat_rep(k:Nat)(z:D)(hz:z.cells.length=k):∀ (n i:Nat),i < n * k→((List.replicate n z).flatMap D.cells)[i]? = z.cells[i % k]?
 | 0,i,h=>by simp at h
 | n+1,i,h=>by
  rw[List.replicate_succ,List.flatMap_cons]
  by_cases hi:i < k
  ·rw[List.getElem?_append_left (by omega),Nat.mod_eq_of_lt hi]
  ·rw[List.getElem?_append_right (by omega),hz,flat_rep k z hz n (i - k) (by rw[Nat.succ_mul] at h;omega),Nat.mod_eq_sub_mod (a:=i) (by omega)]
theorem pur1_none{d d':D}{ep:Eff}{v:Value}(h:pur1 (fun _=>none) d=some (d',ep))(hv:Rep w C v d):ep=[]∧Rep w (cF C.F) v d'∧d'.ok1=true:=by
 have hv0:=hv
 cases hv<;>simp[pur1] at h
 case int hi=>obtain⟨rfl,rfl⟩:=h;exact⟨rfl,.int _ _ hi,rfl⟩
 case bool=>obtain⟨rfl,rfl⟩:=h;exact⟨rfl,.bool _,rfl⟩
 case str hl=>obtain⟨rfl,rfl⟩:=h;exact⟨rfl,.str _ hl,rfl⟩
 case nilp=>obtain⟨rfl,rfl⟩:=h;exact⟨rfl,.nilp,rfl⟩
 case err0=>obtain⟨rfl,rfl⟩:=h;exact⟨rfl,.err0,rfl⟩
 case err1 u v=>obtain⟨rfl,rfl⟩:=h;exact⟨rfl,.err1 u v,rfl⟩
 case nils=>obtain⟨rfl,rfl⟩:=h;exact⟨rfl,.sl0 _ _ (Nat.zero_le _),rfl⟩
 case sl0 A c hm=>obtain⟨rfl,rfl⟩:=h;exact⟨rfl,.sl0 _ _ hm,rfl⟩
 case sl=>obtain⟨rfl,rfl⟩:=h;exact⟨rfl,hv0.slF,rfl⟩
 case iptr=>obtain⟨rfl,rfl⟩:=h;exact⟨rfl,hv0.iptrF,rfl⟩
 case mp=>obtain⟨rfl,rfl⟩:=h;exact⟨rfl,hv0.mpF,rfl⟩
 case fsl A xs hr=>obtain⟨rfl,rfl⟩:=h;exact⟨rfl,.fsl A _ hr.slF,rfl⟩
 case fn f vs ds hl hr =>
  obtain⟨hi,rfl,rfl⟩:=h
  refine⟨rfl,.fn f vs _ hl fun i u x hu hx=>?_,rfl⟩
  have hI:=hi x (List.mem_of_getElem? hx)
  have hxr:=hr i u x hu hx
  cases x with
  | iptr ds=>exact hxr.iptrF
  | _=>simp[isI] at hI
theorem purL_none:∀ (ds:List D) (vs:List Value) (ds':List D) (ep:Eff),RepL C w vs ds→purL (fun _=>none) ds=some (ds',ep)→ep=[]∧RepL (cF C.F) w vs ds'
 | [],vs,ds',ep,hL,h=>by
  simp[purL] at h;obtain⟨rfl,rfl⟩:=h
  have:vs=[]:=List.eq_nil_of_length_eq_zero hL.len
  subst this;exact⟨rfl,RepL.nil⟩
 | d::ds,[],ds',ep,hL,h=>by have:=hL.len;simp at this
 | d::ds,v::vs,ds',ep,hL,h=>by
  simp only[purL] at h
  cases h1:pur1 (fun _=>none) d with
  | none=>rw[h1] at h;simp at h
  | some p =>
   obtain⟨d1,e1⟩:=p
   rw[h1] at h
   obtain⟨rfl,hr,ho1⟩:=pur1_none h1 (hL.rep 0 v d rfl rfl)
   simp only[appEff] at h
   cases h2:purL (fun _=>none) ds with
   | none=>rw[h2] at h;simp at h
   | some q =>
    obtain⟨d2,e2⟩:=q
    rw[h2] at h
    obtain⟨rfl,hr2⟩:=purL_none ds vs d2 e2 ⟨by have:=hL.len;simpa using this,fun u hu=>hL.one u (by simp[hu]),fun i u e hu he=>hL.rep (i+1) u e (by simpa using hu) (by simpa using he)⟩ h2
    simp at h;obtain⟨rfl,rfl⟩:=h
    exact⟨rfl,(RepL.one1 (hL.one v (by simp)) hr).append hr2⟩
theorem purD_none{d d':D}{v:Value}{ep:Eff}(h:purD (fun _=>none) d=some (d',ep))(hv:Rep w C v d):Rep w (cF C.F) v d'∧d'.okS=true:=by
 unfold purD at h
 split at h
 ·rename_i ds
  cases h1:purL (fun _=>none) ds with
  | none=>rw[h1] at h;simp at h
  | some p =>
   rw[h1] at h
   simp at h
   obtain⟨rfl,rfl⟩:=h
   cases hv with
   | agg vs _ hl ho hr =>
    obtain⟨_,h3⟩:=purL_none ds vs p.1 p.2 ⟨hl,ho,hr⟩ h1
    exact⟨h3.agg,rfl⟩
 ·obtain⟨_,h1,h2⟩:=pur1_none h hv
  refine⟨h1,?_⟩
  cases d'<;>first|exact h2|rfl
theorem s_makeSlice(hS:StOK C w a B S)(hn:¬ C.live nid)(t e:TypeId)(k by_:Nat)(l c:Operand)(k1 k2:IntKind)(n:Int)(z z':D)(hl:S.val l=.int k1 n)(hc:S.val c=.int k2 n)(ht:sliceT P t=some e)(hk:szT P e=some k)(hb:bytesT P e=some by_)(hz:zeroD P e=some z)
  (hp:purD (fun _=>none) z=some (z',[])) (h0:0≤n) (hm:n≤(maxLen:Int)) (hby:n * by_≤140737488355328) (hzo:z.okS=true) (hzl:z.cells.length=k) (hzl':z'.cells.length=k) (ho:o.op=.makeSlice t l c) :
  OpOK P o a w C B S.heap nid (.own nid n.toNat) [(nid,some (.vec e k (replL n.toNat (mkZ z z' (nilE P e))) false))]:=by
 unfold replL
 obtain⟨zv,hzr,hzR⟩:=zeroD_run (C:=cF C.F) (w:=w) hz
 obtain⟨hr1,hok1⟩:=purD_none hp hzR
 have hr2:Rep w (cF C.F) zv (mkZ z z' (nilE P e)):=by
  cases nilE P e
  ·exact hr1
  ·exact hzR
 have hok2:(mkZ z z' (nilE P e)).okS=true:=by
  cases nilE P e
  ·exact hok1
  ·exact hzo
 have hzl2:(mkZ z z' (nilE P e)).cells.length=k:=by
  cases nilE P e
  ·exact hzl'
  ·exact hzl
 generalize mkZ z z' (nilE P e)=z2 at hr2 hok2 hzl2 ⊢
 have hzc:=hr2.cellsS hok2
 have hzs:zv.cells.size=k:=by have:=hzc.len;simp at this;omega
 obtain⟨m,rfl⟩:∃ m:Nat,n=(m:Int):=⟨n.toNat,by omega⟩
 simp only[Int.toNat_natCast]
 have hxk:∀ x ∈ List.replicate m z2,x.cells.length=k:=fun x hx=>by rw[List.eq_of_mem_replicate hx];exact hzl2
 have hfl:((List.replicate m z2).flatMap D.cells).length=m * k:=by rw[flat_len2 k _ hxk,List.length_replicate]
 let cells:=(Array.range (m * k)).map (zv.cells[· % zv.cells.size]!)
 have hcl:cells.toList.length=m * k:=by simp[cells]
 have hat:∀ i,i < m * k→zv.cells.toList[i % k]? = some (zv.cells[i % zv.cells.size]!):=by
  intro i hi
  have hk0:0 < k:=by
   rcases Nat.eq_zero_or_pos k with h|h
   ·subst h;simp at hi
   ·exact h
  have hlt:i % zv.cells.size < zv.cells.size:=Nat.mod_lt _ (by omega)
  rw[getElem!_pos zv.cells (i % zv.cells.size) hlt,← hzs]
  simp[hlt]
 have hL:RepL (cF C.F) w cells.toList ((List.replicate m z2).flatMap D.cells):=by
  refine⟨by rw[hcl,hfl],fun v hv=>?_,fun i v d hv hd=>?_⟩
  ·simp[cells] at hv
   obtain⟨i,hi,rfl⟩:=hv
   exact hzc.one _ (List.mem_of_getElem? (hat i hi))
  ·have hi:i < m * k:=by have:=(List.getElem?_eq_some_iff.1 hd).1;omega
   rw[flat_rep k z2 hzl2 m i hi] at hd
   have hv':v=zv.cells[i % zv.cells.size]!:=by
    simp[cells,hi] at hv
    exact hv.symm
   exact hzc.rep (i % k) v d (by rw[hat i hi,hv']) hd
 have hle:=rep_int1' (by have:=hS.env.val l;rw[hl] at this;exact this)
 have hce:=rep_int1' (by have:=hS.env.val c;rw[hc] at this;exact this)
 have hw:IntKind.i64.wrap (m:Int)=m:=IntWalk.i64_in _ (by unfold maxLen at hm;omega)
 have hml:m≤maxLen:=by omega
 have hrun:(execOp a.eval o).run P w=.ok (.value (.slice (some ⟨w.heap.size,0,none⟩) m m)) (w.alloc (.cells cells e)):=by
  obtain⟨i,hi,_⟩:=szT_info hk
  have hbi:i.bytes=by_:=bytesT_info hb hi
  have hti:(typeInfo e).run P w=.ok i w:=by simp[typeInfo,hi]
  have h1:¬ ((m:Int) < 0):=by omega
  have h2:¬ ((by_:Int) * (m:Int) > 2 ^ 48):=by rw[Int.mul_comm];omega
  have ha:∀ k:IntKind,(asInt (.int k (m:Int))).run P w=.ok (m:Int) w:=fun k=>rfl
  have hcond:(decide ((m:Int) < 0)||decide ((i.bytes:Int) * (m:Int) > 2 ^ 48)||decide ((m:Int) < 0)||decide ((m:Int) > (m:Int)))=false:=by
   rw[hbi];simp only[h1,h2,decide_false,Bool.false_or];simp
  simp only[execOp,ho,hle,hce,Instr.makeSlice,Sem.run_bind,underlying_run (sliceT_under ht),Result.andThen_ok,Sem.run_pure,ha,hti,hcond,Bool.false_eq_true,if_false,run_askRoom,szT_run hk,hw,Int.toNat_natCast]
  by_cases hz0:m * k=0
  ·have e0:cells=#[]:=by simp[cells,hz0]
   simp only[hz0,if_true,Sem.run_bind,Sem.run_pure,Result.andThen_ok,e0]
   have e1:(Array.range 0).map (fun x=>(#[]:Array Value)[x % (#[]:Array Value).size]!)=#[]:=by simp
   rw[e1]
   rfl
  ·simp only[hz0,if_false,Sem.run_bind,hzr,Sem.run_pure,Result.andThen_ok]
   rfl
 have hown:=ownsRow_new (w:=w) e k m cells.toList hcl hml
 rw[Array.toArray_toList] at hown
 have:=ok_vec (w':=w.alloc (.cells cells e)) (xs:=List.replicate m z2) (P:=P) (o:=o) (a:=a) hS.heap hS.fb hn hxk hL (by rw[List.length_replicate];exact hown) (fun g hg=>Below.heap_alloc w _ g hg) ((BelM.refl _ _).alloc _) hS.base (fun g hg=>by simp[Value.ownBlock] at hg;omega) hrun
 rw[List.length_replicate] at this
 exact this
end
section
variable {P:Program}{o:Oper}{a:Act}{w w':World}{C C':Cx}{B:Bx}{nid:Nat}{d:D}{S:AS}{eff:Eff}{H:Nat→Option Blk}
theorem srcOf{v:Value}{dx:D}{ys:List D}(hr:Rep w C v dx)(hH:HOK C w B H)(h:elemsD H dx=some ys) :
  ∃ A c news,v=.slice A ys.length c∧RepL (cF C.F) w news (ys.flatMap D.cells)∧((∃ b off,A=some ⟨b,off,none⟩∧∀ (i:Nat) u,news[i]? = some u→w.cell? ((⟨b,off,none⟩:Addr).add i)=some u)∨(ys=[]∧news=[])):=by
 cases dx<;>simp[elemsD] at h
 case own id n =>
  cases hr with
  | own _ _ c A hl hmm hs =>
   cases hb:H id with
   | none=>rw[hb] at h;simp at h
   | some b =>
    rw[hb] at h
    cases b<;>simp at h
    rename_i e k xs pub
    obtain⟨h1,rfl⟩:=h
    obtain⟨_,vals,h2,h3,h4,_⟩:=hH.rep id _ hb
    subst h1
    rw[hs] at h2
    rcases h2.2 with⟨q1,q2⟩|⟨g,cap,cur,q1,_⟩
    ·have hx:xs=[]:=List.eq_nil_of_length_eq_zero q2
     subst hx
     have hv:vals=[]:=List.eq_nil_of_length_eq_zero (by simpa using h4.len)
     subst hv
     exact⟨A,c,[],rfl,h4,.inr ⟨rfl,rfl⟩⟩
    ·injection q1 with q1
     subst q1
     exact⟨_,c,vals,rfl,h4,.inl ⟨g,0,rfl,h2.cells (g:=g) rfl⟩⟩
 case nils =>
  subst h
  cases hr
  exact⟨none,0,[],rfl,RepL.nil,.inr ⟨rfl,rfl⟩⟩
 case sl xs =>
  subst h
  cases hr with
  | sl0 A c hm=>exact⟨A,c,[],rfl,RepL.nil,.inr ⟨rfl,rfl⟩⟩
  | sl b off k c _ vals hc hm hk hl h1 hF hcell hrep =>
   exact⟨_,_,vals,rfl,⟨hl,h1,hrep⟩,.inl ⟨b,off,rfl,fun i u hu=>by rw[addr_add];exact hcell i u hu⟩⟩
 case fsl xs =>
  subst h
  cases hr with
  | fsl A _ hr =>
   generalize Value.slice A xs.length xs.length=vv at hr ⊢
   cases hr with
   | sl0 A c hm=>exact⟨A,c,[],rfl,RepL.nil,.inr ⟨rfl,rfl⟩⟩
   | sl b off k c _ vals hc hm hk hl h1 hF hcell hrep =>
    exact⟨_,c,vals,rfl,⟨hl,h1,hrep⟩,.inl ⟨b,off,rfl,fun i u hu=>by rw[addr_add];exact hcell i u hu⟩⟩
theorem run_append_none(t e ty:TypeId)(k:Nat)(base:Option Addr)(n cap c:Nat)(ht:P.underlying t=some (.slice e))(hk:szT P e=some k)(hn:n≤cap) :
  (Builtin.append_ #[t,t] ty #[.slice base n cap,.slice none 0 c]).run P w=.ok (.slice base n cap) w:=by
 cases base<;>simp[Builtin.append_,underlying_run ht,szT_run hk,Builtin.lenOf,hn,Builtin.firstCells,storeCells]
theorem run_append_own2(t ty e:TypeId)(i:TypeInfo)(z:Value)(k bytes:Nat)(ht:P.underlying t=some (.slice e))(hi:P.info? e=some i)(hz:i.zero=some z)
  (hsize:i.size=k) (hby:i.bytes=bytes) (hzs:z.cells.size=k) (v:Value) (n:Nat) (xs:List Value) (hown:w.ownsRow 0 e k v n xs)
  (A:Option Addr) (m c:Nat) (news:List Value) (hl:news.length=m * k) (hA:(∃ ad,A=some ad∧∀ (j:Nat) u,news[j]? = some u→w.cell? (ad.add j)=some u)∨(m=0∧A=none)) (h1:∀ u ∈ news,u.oneCell'=true)
  (h63:n+m≤maxLen) (hbytes:(n+m) * bytes≤140737488355328) :
  ∃ v' w',(Builtin.append_ #[t,t] ty #[v,.slice A m c]).run P w=.ok v' w'∧w'.ownsRow 0 e k v' (n+m) (xs++news)∧w.grownBy w' v.ownBlock∧((∀ g,v'.ownBlock=some g→w.heap.size≤g)∨v'.ownBlock=v.ownBlock):=by
 subst hsize hby
 have hsmall:n+m≤9223372036854775807:=by simp only[maxLen] at h63;omega
 have hlen:(xs++news).length=(n+m) * i.size:=by rw[List.length_append,hown.1,hl,Nat.add_mul]
 have hnil:m=0→news=[]:=fun h=>List.eq_nil_of_length_eq_zero (by rw[hl,h];simp)
 have fresh:∀ (cs:Array Value) (cap:Nat),n+m≤cap→cap≤maxLen→cs.size=cap * i.size→cs.toList.take ((n+m) * i.size)=xs++news →
   (w.drew.alloc (.cells cs e)).ownsRow 0 e i.size (.slice (some ⟨w.heap.size,0,none⟩) (n+m) cap) (n+m) (xs++news)∧w.grownBy (w.drew.alloc (.cells cs e)) v.ownBlock:=fun cs cap h1 h2 h3 h4 =>
  ⟨⟨hlen,.inr ⟨w.heap.size,cap,cs,rfl,Nat.zero_le _,heap_alloc_new w.drew _,h1,h2,h3,h4⟩⟩,rfl,rfl,rfl,by simp,fun g hg _=>Below.heap_alloc w.drew _ g hg⟩
 rcases hA with⟨ad,rfl,hnews⟩|⟨rfl,rfl⟩
 ·rcases hown.2 with⟨rfl,rfl⟩|⟨g,cap,cur,rfl,hbg,hg,hnc,hcm,hcs,htake⟩
  ·have hx:xs=[]:=List.eq_nil_of_length_eq_zero (by simpa using hown.1)
   subst hx
   by_cases hm:m=0
   ·have hn:=hnil hm
    subst hm hn
    refine⟨.slice none 0 0,w,?_,World.ownsRow_nil w 0 e i.size,⟨rfl,rfl,rfl,Nat.le_refl _,fun _ _ _=>rfl⟩,.inr rfl⟩
    simp[Builtin.append_,underlying_run ht,sizeOf,typeInfo,hi,Builtin.lenOf,Builtin.firstCells,loadCells,loadCellsFrom]
   ·have hr:=run_append_nil (P:=P) w t ty e i z ht hi hz ad m c news hl hnews (by omega) (by omega) (by have hb:=hbytes;simp only[Nat.zero_add] at hb;omega)
    have hge:=grownCap_ge w m 0 e
    have hcm:=grownCap_le_maxLen w m 0 e (by simpa using h63)
    have hf:=fresh (news.toArray++Builtin.zeroCells z.cells (grownCap w m 0 e - m)) (grownCap w m 0 e) (by simpa using hge) hcm
     (by simp only[Array.size_append,List.size_toArray,size_zeroCells,hzs,hl,← Nat.add_mul];congr 1;omega) (by
      simp only[Array.toList_append,Nat.zero_add,List.nil_append,← hl];exact List.take_left)
    simp only[Nat.zero_add] at hf ⊢
    exact⟨_,_,hr,hf.1,hf.2,.inl fun g hg=>by simp[Value.ownBlock] at hg;omega⟩
  ·by_cases hroom:n+m≤cap
   ·have hfit:n * i.size+news.length≤cur.size:=by rw[hl,hcs,← Nat.add_mul];exact Nat.mul_le_mul_right _ hroom
    have hr:=run_append_room (P:=P) w t ty e i ht hi g n cap cur hg ad m c news hl hnews h1 hroom hfit
    refine⟨_,_,hr,⟨hlen,.inr ⟨g,cap,_,rfl,hbg,setRow_heap w g cur _ e _ hg,hroom,hcm,?_,?_⟩⟩,⟨rfl,rfl,rfl,by simp,fun k _ hk=>setRow_other w g k _ (fun e=>hk (by simp[Value.ownBlock,e]))⟩,.inr rfl⟩
    ·simp only[List.size_toArray,List.length_append,List.length_take,List.length_drop,Array.length_toList]
     omega
    ·rw[htake,← hlen]
     exact List.take_left
   ·have hr:=run_append_grow (P:=P) w t ty e i z ht hi hz ⟨g,0,none⟩ n cap xs hown.1 (hown.cells (g:=g) rfl) ad m c news hl hnews (by omega) (by omega) (growslice_fits (by omega) hbytes)
    have hge:=grownCap_ge w (n+m) cap e
    have hcm':=grownCap_le_maxLen w (n+m) cap e h63
    have hf:=fresh (xs.toArray++news.toArray++Builtin.zeroCells z.cells (grownCap w (n+m) cap e - (n+m))) (grownCap w (n+m) cap e) hge hcm'
     (by simp only[Array.size_append,List.size_toArray,size_zeroCells,hzs,hown.1,hl,← Nat.add_mul];congr 1;omega) (by
      simp only[Array.toList_append,List.append_assoc]
      rw[← List.append_assoc,← hlen]
      exact List.take_left)
    exact⟨_,_,hr,hf.1,hf.2,.inl fun g hg=>by simp[Value.ownBlock] at hg;omega⟩
 ·have hn:=hnil rfl
  subst hn
  have hv:∃ base cap,v=.slice base n cap∧n≤cap:=by
   rcases hown.2 with⟨rfl,rfl⟩|⟨g,cap,cur,rfl,_,_,hnc,_⟩
   ·exact⟨none,0,rfl,Nat.le_refl _⟩
   ·exact⟨_,_,rfl,hnc⟩
  obtain⟨base,cap,rfl,hnc⟩:=hv
  refine⟨_,w,run_append_none (P:=P) t e ty i.size base n cap c ht (by simp[szT,hi]) hnc,?_,⟨rfl,rfl,rfl,Nat.le_refl _,fun _ _ _=>rfl⟩,.inr rfl⟩
  simpa using hown
theorem blockOf_own{A:Option Addr}{n c:Nat}:blockOf (.slice A n c)=(Value.slice A n c).ownBlock:=by cases A<;>rfl
theorem HOK.swap{id:Nat}{b b':Blk}{v:Value}(hH:HOK C w B H)(hi:H id=some b)(hn:¬ C.live nid)(e:Ext C w (C.new nid v) w')(hb:∀ g,g < w.heap.size→blockOf (C.σ id)≠some g→w'.heap[g]? = w.heap[g]?)
  (hnew:BRep (C.new nid v) w' 0 nid b') (hbase:∀ g,w.heap.size≤g→B.M g) (hpin:∀ k cs,b'≠.box (some k) cs) (hlt:(∀ g,blockOf v=some g→w.heap.size≤g)∨blockOf v=blockOf (C.σ id)):HOK (C.new nid v) w' B (upd (upd H id none) nid (some b')):=by
 have hs:(C.new nid v).σ nid=v:=by simp[Cx.new,upd]
 have old:∀ j bj,j≠nid→upd H id none j=some bj→j≠id∧H j=some bj∧C.live j:=by
  intro j bj hj h
  by_cases hji:j=id
  ·subst hji;simp[upd] at h
  ·simp[upd,hji] at h;exact⟨hji,h,(hH.rep j bj h).1⟩
 have hup:∀ j,j≠nid→upd (upd H id none) nid (some b') j=upd H id none j:=fun j hj=>by simp[upd,hj]
 have notv:∀ j bj,j≠id→H j=some bj→∀ g,blockOf (C.σ j)=some g→blockOf v≠some g:=by
  intro j bj hj h g hg hv
  rcases hlt with h1|h1
  ·have:=h1 g hv;have:=((hH.rep j bj h).2.lt g hg).2;omega
  ·rw[h1] at hv;exact hH.apart j id bj b h hi hj g hg hv
 refine⟨fun j bj h=>?_,fun j bj h g hg=>?_,fun j k cs h=>?_,fun j j' b1 b2 h1 h2 hne g hg hg'=>?_⟩
 rotate_left
 ·by_cases hj:j=nid
  ·subst hj
   rw[hs] at hg
   rcases hlt with h1|h1
   ·exact hbase g (h1 g hg)
   ·rw[h1] at hg;exact hH.own id b hi g hg
  ·rw[hup j hj] at h
   obtain⟨hji,h,hl⟩:=old j bj hj h
   rw[e.σ j hl] at hg
   exact hH.own j bj h g hg
 ·by_cases hj:j=nid
  ·subst hj
   simp[upd] at h
   exact absurd h (hpin k cs)
  ·rw[hup j hj] at h
   obtain⟨hji,h,hl⟩:=old j _ hj h
   rw[e.σ j hl]
   exact hH.pin j k cs h
 rotate_left
 ·by_cases hj:j=nid
  ·subst hj
   simp[upd] at h;subst h
   exact⟨.inr rfl,hnew⟩
  ·rw[hup j hj] at h
   obtain⟨hji,h,hl⟩:=old j bj hj h
   have k2:=(hH.rep j bj h).2
   exact⟨.inl hl,k2.keep hl e (fun g hg=>hb g (k2.lt g hg).2 (fun h'=>hH.apart j id bj b h hi hji g hg h')) (fun g o _ h=>h)⟩
 ·by_cases hj:j=nid
  ·subst hj
   have hj':j'≠j:=fun e=>hne e.symm
   rw[hup j' hj'] at h2
   obtain⟨hji,h2,hl⟩:=old j' b2 hj' h2
   rw[e.σ j' hl] at hg'
   rw[hs] at hg
   exact notv j' b2 hji h2 g hg' hg
  ·rw[hup j hj] at h1
   obtain⟨hji,h1,hl⟩:=old j b1 hj h1
   rw[e.σ j hl] at hg
   by_cases hj':j'=nid
   ·subst hj'
    rw[hs] at hg'
    exact notv j b1 hji h1 g hg hg'
   ·rw[hup j' hj'] at h2
    obtain⟨hji',h2,hl'⟩:=old j' b2 hj' h2
    rw[e.σ j' hl'] at hg'
    exact hH.apart j j' b1 b2 h1 h2 hne g hg hg'
theorem infoOf{e:TypeId}{k by_:Nat}{z:D}(hk:szT P e=some k)(hb:bytesT P e=some by_)(hz:zeroD P e=some z)(hzo:z.okS=true)(hzl:z.cells.length=k) :
  ∃ i zv,P.info? e=some i∧i.zero=some zv∧i.size=k∧i.bytes=by_∧zv.cells.size=k:=by
 obtain⟨i,h1,h2⟩:=szT_info hk
 obtain⟨i',zv,h3,h4,h5⟩:=zeroD_info hz
 rw[h1] at h3
 injection h3 with h3
 subst h3
 refine⟨i,zv,h1,h4,h2,bytesT_info hb h1,?_⟩
 have hr:Rep default (cF fun _ _=>False) zv z:=h5 ▸ rep_cD zv
 have:=(hr.cellsS hzo).len
 simp at this
 omega
theorem s_appendNil(hS:StOK C w a B S)(hn:¬ C.live nid)(s x:Operand)(t e:TypeId)(k by_:Nat)(ys:List D)(z:D)(ht:sliceT P t=some e)(hk:szT P e=some k)(hb:bytesT P e=some by_)(hz:zeroD P e=some z)(hzo:z.okS=true)(hzl:z.cells.length=k)
  (hs:S.val s=.nils) (hx:elemsD S.heap (S.val x)=some ys) (hy:∀ y ∈ ys,y.okS=true∧y.cells.length=k) (hm:ys.length≤maxLen) (hby:ys.length * by_≤140737488355328) (ho:o.op=.call { callee:=.builtin .append,args:=#[s,x],argTypes:=#[t,t] }) :
  OpOK P o a w C B S.heap nid (.own nid ys.length) [(nid,some (.vec e k ys false))]:=by
 obtain⟨i,zv,hi,hzv,hsize,hbytes,hzs⟩:=infoOf hk hb hz hzo hzl
 have hs':=hS.env.val s
 rw[hs] at hs'
 generalize hv:a.eval s=v at hs'
 cases hs'
 obtain⟨A,c,news,hvx,hL,hA⟩:=srcOf (hS.env.val x) hS.heap hx
 have hkk:∀ y ∈ ys,y.cells.length=k:=fun y h=>(hy y h).2
 have hnl:news.length=ys.length * k:=by rw[hL.len,flat_len2 k ys hkk]
 obtain⟨v',w',hr,hown,hg,hblk⟩:=run_append_own2 (P:=P) (w:=w) t o.type e i zv k by_ (sliceT_under ht) hi hzv hsize hbytes hzs (.slice none 0 0) 0 [] (World.ownsRow_nil _ _ _ _) A ys.length c news hnl
  (by
   rcases hA with⟨b,off,rfl,h⟩|⟨rfl,rfl⟩
   ·exact .inl ⟨_,rfl,h⟩
   ·cases A with
    | none=>exact .inr ⟨rfl,rfl⟩
    | some ad=>exact .inl ⟨ad,rfl,by simp⟩) hL.one (by simpa using hm) (by simpa using hby)
 simp only[Nat.zero_add,List.nil_append] at hown
 refine ok_vec (w':=w') (v:=v') hS.heap hS.fb hn hkk hL hown (fun g hg'=>hg.block g hg' (by simp[Value.ownBlock])) ⟨hg.os,hg.tape,hg.output,hg.size,fun g hg' _=>hg.block g hg' (by simp[Value.ownBlock])⟩ hS.base (fun g hg'=>?_) ?_
 ·rcases hblk with h|h
  ·exact h g hg'
  ·rw[h] at hg';simp[Value.ownBlock] at hg'
 ·simp only[execOp,ho,resolve,invoke,builtin,Sem.run_bind,Sem.run_pure,Result.andThen_ok,List.map_toArray,List.map_cons,List.map_nil,hv,hvx,hr]
theorem run_append_full(t ty e:TypeId)(i:TypeInfo)(z:Value)(k bytes:Nat)(ht:P.underlying t=some (.slice e))(hi:P.info? e=some i)(hz:i.zero=some z)
  (hsize:i.size=k) (hby:i.bytes=bytes) (hzs:z.cells.size=k) (base:Addr) (n:Nat) (xs:List Value) (hxl:xs.length=n * k) (hxc:∀ (j:Nat) u,xs[j]? = some u→w.cell? (base.add j)=some u)
  (ad:Addr) (m c:Nat) (hm0:0 < m) (news:List Value) (hl:news.length=m * k) (hnews:∀ (j:Nat) u,news[j]? = some u→w.cell? (ad.add j)=some u)
  (h63:n+m≤maxLen) (hbytes:(n+m) * bytes≤140737488355328) :
  ∃ v' w',(Builtin.append_ #[t,t] ty #[.slice (some base) n n,.slice (some ad) m c]).run P w=.ok v' w'∧w'.ownsRow 0 e k v' (n+m) (xs++news)∧w.grownBy w' none∧(∀ g,v'.ownBlock=some g→w.heap.size≤g):=by
 subst hsize hby
 have hsmall:n+m≤9223372036854775807:=by simp only[maxLen] at h63;omega
 have hlen:(xs++news).length=(n+m) * i.size:=by rw[List.length_append,hxl,hl,Nat.add_mul]
 have hr:=run_append_grow (P:=P) w t ty e i z ht hi hz base n n xs hxl hxc ad m c news hl hnews (by omega) (by omega) (growslice_fits (by omega) hbytes)
 have hge:=grownCap_ge w (n+m) n e
 have hcm':=grownCap_le_maxLen w (n+m) n e h63
 refine⟨_,_,hr,⟨hlen,.inr ⟨w.heap.size,_,xs.toArray++news.toArray++Builtin.zeroCells z.cells (grownCap w (n+m) n e - (n+m)),rfl,Nat.zero_le _,heap_alloc_new w.drew _,hge,hcm',?_,?_⟩⟩,⟨rfl,rfl,rfl,by simp,fun g hg _=>Below.heap_alloc w.drew _ g hg⟩,fun g hg=>by simp[Value.ownBlock] at hg;omega⟩
 ·simp only[Array.size_append,List.size_toArray,size_zeroCells,hzs,hxl,hl,← Nat.add_mul];congr 1;omega
 ·simp only[Array.toList_append,List.append_assoc]
  rw[← List.append_assoc,← hlen]
  exact List.take_left
theorem s_appendFull(hS:StOK C w a B S)(hn:¬ C.live nid)(s x:Operand)(t e:TypeId)(k by_:Nat)(xs ys:List D)(z:D)(ht:sliceT P t=some e)(hk:szT P e=some k)(hb:bytesT P e=some by_)(hz:zeroD P e=some z)(hzo:z.okS=true)(hzl:z.cells.length=k)
  (hs:S.val s=.fsl xs) (hx:elemsD S.heap (S.val x)=some ys) (hxk:∀ y ∈ xs,y.cells.length=k) (h0:0 < ys.length) (hy:∀ y ∈ ys,y.okS=true∧y.cells.length=k) (hm:xs.length+ys.length≤maxLen) (hby:(xs.length+ys.length) * by_≤140737488355328) (ho:o.op=.call { callee:=.builtin .append,args:=#[s,x],argTypes:=#[t,t] }) :
  OpOK P o a w C B S.heap nid (.own nid (xs.length+ys.length)) [(nid,some (.vec e k (xs++ys) false))]:=by
 obtain⟨i,zv,hi,hzv,hsize,hbytes,hzs⟩:=infoOf hk hb hz hzo hzl
 have hs':=hS.env.val s
 rw[hs] at hs'
 generalize hv:a.eval s=v at hs'
 obtain⟨A,c,news,hvx,hL,hA⟩:=srcOf (hS.env.val x) hS.heap hx
 have hkk:∀ y ∈ ys,y.cells.length=k:=fun y h=>(hy y h).2
 have hall:∀ y ∈ xs++ys,y.cells.length=k:=fun y h=>(List.mem_append.1 h).elim (hxk y) (hkk y)
 have hnl:news.length=ys.length * k:=by rw[hL.len,flat_len2 k ys hkk]
 have hA':∃ ad,A=some ad∧∀ (j:Nat) u,news[j]? = some u→w.cell? (ad.add j)=some u:=by
  rcases hA with⟨b,off,rfl,h⟩|⟨rfl,_⟩
  ·exact⟨_,rfl,h⟩
  ·simp at h0
 obtain⟨ad,rfl,hnews⟩:=hA'
 have key:∃ v' w' vals,(Builtin.append_ #[t,t] o.type #[v,.slice (some ad) ys.length c]).run P w=.ok v' w'∧RepL (cF C.F) w vals (xs.flatMap D.cells)∧w'.ownsRow 0 e k v' (xs.length+ys.length) (vals++news)∧w.grownBy w' none∧(∀ g,v'.ownBlock=some g→w.heap.size≤g):=by
  cases hs' with
  | fsl A0 _ hr =>
   generalize hz:Value.slice A0 xs.length xs.length=vv at hr
   cases hr with
   | sl0 A1 c1 hm1 =>
    injection hz with z1 z2 z3
    subst z1 z3
    simp only[List.length_nil,List.flatMap_nil,Nat.zero_add] at hm hby ⊢
    cases A0 with
    | none =>
     obtain⟨v',w',hr,hown,hg,hblk⟩:=run_append_own2 (P:=P) (w:=w) t o.type e i zv k by_ (sliceT_under ht) hi hzv hsize hbytes hzs (.slice none 0 0) 0 [] (World.ownsRow_nil _ _ _ _) (some ad) ys.length c news hnl (.inl ⟨ad,rfl,hnews⟩) hL.one (by rw[Nat.zero_add];exact hm) (by rw[Nat.zero_add];exact hby)
     rw[Nat.zero_add] at hown
     refine⟨v',w',[],hr,RepL.nil,hown,hg,fun g hg'=>?_⟩
     rcases hblk with h|h
     ·exact h g hg'
     ·rw[h] at hg';simp[Value.ownBlock] at hg'
    | some A1 =>
     obtain⟨v',w',hr,hown,hg,hblk⟩:=run_append_full (P:=P) (w:=w) t o.type e i zv k by_ (sliceT_under ht) hi hzv hsize hbytes hzs A1 0 [] (by simp) (by simp) ad ys.length c h0 news hnl hnews (by rw[Nat.zero_add];exact hm) (by rw[Nat.zero_add];exact hby)
     rw[Nat.zero_add] at hown
     exact⟨v',w',[],hr,RepL.nil,hown,hg,hblk⟩
   | sl b off k1 _ _ vals hc hm1 hk1 hl1 h11 hF1 hcell1 hrep1 =>
    injection hz with z1 z2 z3
    subst z1 z3
    have hvl:vals.length=xs.length * k:=by rw[hl1,flat_len2 k xs hxk]
    obtain⟨v',w',hr,hown,hg,hblk⟩:=run_append_full (P:=P) (w:=w) t o.type e i zv k by_ (sliceT_under ht) hi hzv hsize hbytes hzs ⟨b,off,none⟩ xs.length vals hvl (fun j u hu=>by rw[addr_add];exact hcell1 j u hu) ad ys.length c h0 news hnl hnews hm hby
    exact⟨v',w',vals,hr,⟨hl1,h11,hrep1⟩,hown,hg,hblk⟩
 obtain⟨v',w',vals,hr,hLx,hown,hg,hblk⟩:=key
 have fin:=ok_vec (P:=P) (o:=o) (a:=a) (w':=w') (v:=v') (xs:=xs++ys) hS.heap hS.fb hn hall (by rw[List.flatMap_append];exact hLx.append hL) (by rw[List.length_append];exact hown) (fun g hg'=>hg.block g hg' (by simp)) ⟨hg.os,hg.tape,hg.output,hg.size,fun g hg' _=>hg.block g hg' (by simp)⟩ hS.base (fun g hg'=>hblk g hg') (by simp only[execOp,ho,resolve,invoke,builtin,Sem.run_bind,Sem.run_pure,Result.andThen_ok,List.map_toArray,List.map_cons,List.map_nil,hv,hvx,hr])
 rw[List.length_append] at fin
 exact fin
theorem s_appendOwn(hS:StOK C w a B S)(hn:¬ C.live nid)(s x:Operand)(t e:TypeId)(k by_ id n:Nat)(xs ys:List D)(z:D)(ht:sliceT P t=some e)(hk:szT P e=some k)(hb:bytesT P e=some by_)(hz:zeroD P e=some z)(hzo:z.okS=true)(hzl:z.cells.length=k)
  (hs:S.val s=.own id n) (hid:S.heap id=some (.vec e k xs false)) (hxn:xs.length=n) (hx:elemsD S.heap (S.val x)=some ys) (hy:∀ y ∈ ys,y.okS=true∧y.cells.length=k) (hm:xs.length+ys.length≤maxLen) (hby:(xs.length+ys.length) * by_≤140737488355328) (ho:o.op=.call { callee:=.builtin .append,args:=#[s,x],argTypes:=#[t,t] }) :
  OpOK P o a w C B S.heap nid (.own nid (xs.length+ys.length)) [(id,none),(nid,some (.vec e k (xs++ys) false))]:=by
 obtain⟨i,zv,hi,hzv,hsize,hbytes,hzs⟩:=infoOf hk hb hz hzo hzl
 have hs':=hS.env.val s
 rw[hs] at hs'
 generalize hv:a.eval s=v at hs'
 cases hs' with
 | own _ _ c0 A0 hl0 hmm0 hσ =>
  obtain⟨A,c,news,hvx,hL,hA⟩:=srcOf (hS.env.val x) hS.heap hx
  have hkk:∀ y ∈ ys,y.cells.length=k:=fun y h=>(hy y h).2
  have hnl:news.length=ys.length * k:=by rw[hL.len,flat_len2 k ys hkk]
  obtain⟨_,vals,q1,q2,q3,q4⟩:=hS.heap.rep id _ hid
  rw[hσ] at q1
  obtain⟨v',w',hr,hown,hg,hblk⟩:=run_append_own2 (P:=P) (w:=w) t o.type e i zv k by_ (sliceT_under ht) hi hzv hsize hbytes hzs (.slice A0 n c0) xs.length vals q1 A ys.length c news hnl
   (by
    rcases hA with⟨b,off,rfl,h⟩|⟨rfl,rfl⟩
    ·exact .inl ⟨_,rfl,h⟩
    ·cases A with
     | none=>exact .inr ⟨rfl,rfl⟩
     | some ad=>exact .inl ⟨ad,rfl,by simp⟩) hL.one hm hby
  have hob:∀ g,(Value.slice A0 n c0).ownBlock=some g→B.M g:=fun g hg'=>hS.heap.own id _ hid g (by rw[hσ,blockOf_own];exact hg')
  have hnoF:∀ g o,(Value.slice A0 n c0).ownBlock=some g→¬ C.F g o:=fun g o hg' hF=>by
   have:=((q4 g (by rw[hσ];exact hg')).1 o hF).1;cases this
  have hcell:∀ b o,C.F b o→w'.heap[b]? = w.heap[b]?:=fun b o hF =>
   hg.block b (hS.fb b o hF) (fun h=>hnoF b o h.symm hF)
  have e':=Cx.new_ext (C:=C) (w:=w) (w':=w') hn v' hcell
  have hs2:(C.new nid v').σ nid=v':=by simp[Cx.new,upd]
  have hv':∃ A' c',v'=.slice A' (xs.length+ys.length) c':=by
   rcases hown.2 with⟨h1,h2⟩|⟨g,cap,cur,h1,_⟩
   ·exact⟨none,0,by rw[h2,h1]⟩
   ·exact⟨_,_,h1⟩
  obtain⟨A',c',rfl⟩:=hv'
  have hnew':∀ g,(Value.slice A' (xs.length+ys.length) c').ownBlock=some g→∀ o,¬ C.F g o:=by
   intro g hg' o hF
   rcases hblk with h|h
   ·have:=h g hg';have:=hS.fb g o hF;omega
   ·rw[h] at hg';exact hnoF g o hg' hF
  refine⟨_,_,w',C.new nid (.slice A' (xs.length+ys.length) c'),?_,.inl rfl,⟨hg.os,hg.tape,hg.output,hg.size,fun g hg' hm'=>hg.block g hg' (fun h=>hm' (hob g h.symm))⟩,e',.own nid _ c' A' (.inr rfl) hm hs2,?_,?_,fun id h=>h,fun _ _ h=>.inl h⟩
  ·simp only[execOp,ho,resolve,invoke,builtin,Sem.run_bind,Sem.run_pure,Result.andThen_ok,List.map_toArray,List.map_cons,List.map_nil,hv,hvx,hr]
  ·refine HOK.swap hS.heap hid hn e' (fun g hg1 hg2=>hg.block g hg1 (fun h=>hg2 (by rw[hσ,blockOf_own];exact h.symm))) ⟨vals++news,?_,?_,?_,?_⟩ hS.base (fun k cs h=>by cases h) ?_
   ·rw[hs2,List.length_append];exact hown
   ·intro y hy'
    rcases List.mem_append.1 hy' with h|h
    ·exact q2 y h
    ·exact hkk y h
   ·rw[List.flatMap_append]
    exact(q3.ext e'.cF).append (hL.ext e'.cF)
   ·intro g hg'
    rw[hs2] at hg'
    exact⟨fun o ho=>absurd ho (hnew' g hg' o),fun h=>by cases h⟩
   ·rw[hσ,blockOf_own,blockOf_own]
    exact hblk
  ·intro b o hF;have:=hS.fb b o hF;have:=hg.size;omega
end
section
variable {P:Program}{o:Oper}{a:Act}{w w':World}{C C':Cx}{B:Bx}{H:Nat→Option Blk}{nid:Nat}{d:D}{S:AS}
theorem get_at(s:List UInt8)(i:Nat)(h:i < s.length):(⟨s.toArray⟩:ByteArray).get! i=s[i]:=by
 show s.toArray[i]! = _;simp[h]
theorem decL_eq(s:List UInt8)(pos:Nat)(h:pos < s.length):Utf8.decode ⟨s.toArray⟩ pos=decL (s.drop pos):=by
 have h0:s.drop pos=s[pos]::s.drop (pos+1):=List.drop_eq_getElem_cons h
 rw[h0]
 have hsz:(⟨s.toArray⟩:ByteArray).size=s.length:=bsize s
 have hc:∀ k:Nat,(decide (pos+(k+1) < s.length)&&(((⟨s.toArray⟩:ByteArray).get! (pos+(k+1))).toNat / 64 == 2))=(match (s.drop (pos+1))[k]? with|some b=>b.toNat / 64 == 2|none=>false):=by
  intro k
  rw[List.getElem?_drop]
  by_cases hk:pos+(k+1) < s.length
  ·rw[show pos+1+k=pos+(k+1) by omega,List.getElem?_eq_getElem hk,get_at s _ hk]
   simp[hk]
  ·rw[show pos+1+k=pos+(k+1) by omega,List.getElem?_eq_none (by omega)]
   simp[hk]
 have hx:∀ k:Nat,pos+(k+1) < s.length→((⟨s.toArray⟩:ByteArray).get! (pos+(k+1))).toNat=((s.drop (pos+1)).getD k 0).toNat:=by
  intro k hk
  rw[get_at s _ hk,List.getD_eq_getElem?_getD,List.getElem?_drop,show pos+1+k=pos+(k+1) by omega,List.getElem?_eq_getElem hk]
  rfl
 have e0:((⟨s.toArray⟩:ByteArray).get! (pos+0)).toNat=s[pos].toNat:=by rw[Nat.add_zero,get_at s _ h]
 have c1:=hc 0
 have c2:=hc 1
 have c3:=hc 2
 have x1:=hx 0
 have x2:=hx 1
 have x3:=hx 2
 simp only[Nat.zero_add,Nat.reduceAdd] at c1 c2 c3 x1 x2 x3
 unfold Utf8.decode decL
 simp only[e0,hsz,c1,c2,c3,Utf8.runeError]
 by_cases k1:pos+1 < s.length
 ·simp only[x1 k1]
  by_cases k2:pos+2 < s.length
  ·simp only[x2 k2]
   by_cases k3:pos+3 < s.length
   ·simp only[x3 k3]<;>rfl
   ·have q3:(s.drop (pos+1))[2]? = none:=by rw[List.getElem?_drop,List.getElem?_eq_none (by omega)]
    simp[q3]<;>rfl
  ·have q2:(s.drop (pos+1))[1]? = none:=by rw[List.getElem?_drop,List.getElem?_eq_none (by omega)]
   simp[q2]<;>rfl
 ·have q1:(s.drop (pos+1))[0]? = none:=by rw[List.getElem?_drop,List.getElem?_eq_none (by omega)]
  simp[q1]
theorem decL_lt(l:List UInt8):(decL l).1 < 1114112+1114112:=by
 unfold decL;split
 ·decide
 rename_i a r
 have h0:=a.toNat_lt;dsimp only;repeat' split;all_goals (try dsimp only)
 all_goals omega
theorem runeAt_inR(s:List UInt8)(pos:Nat):inR .i32 (runeAt s pos):=by
 have:=decL_lt (s.drop pos);unfold runeAt inR;simp only[kLo,kHi];omega
theorem s_makeFunc(hS:StOK C w a B S)(f:FuncId)(cs:Array Operand)(ho:o.op=.makeFunc (.func f) #[] cs):OpOK P o a w C B S.heap nid (.fn f (cs.toList.map S.val)) []:=by
 refine OpOK.same hS.heap hS.fb (v:=.func (.func f) #[] (cs.toList.map a.eval).toArray) ?_ (.fn f _ _ (by simp) ?_)
 ·have harr:(cs.toList.map a.eval).toArray=cs.map a.eval:=by apply Array.ext';simp
  rw[harr]
  simp[execOp,ho,Instr.makeFunc]
 ·intro i v d hv hd
  simp only[List.getElem?_map] at hv hd
  cases hi:cs.toList[i]? with
  | none=>rw[hi] at hv;simp at hv
  | some x=>rw[hi] at hv hd;simp at hv hd;subst hv hd;exact hS.env.val x
theorem s_range(hS:StOK C w a B S)(hn:¬ C.live nid)(t:TypeId)(x:Operand)(s:List UInt8)(hx:S.val x=.str s)(ht:strT P t=true)(ho:o.op=.range t x):OpOK P o a w C B S.heap nid (.ptr nid 0) [(nid,some (.iter s 0))]:=by
 have h:=hS.env.val x
 rw[hx] at h
 generalize hv:a.eval x=v at h
 cases h with
 | str _ hm =>
  have hrun:(execOp a.eval o).run P w=.ok (.value (.pointer (some ⟨w.heap.size,0,none⟩))) (w.alloc (.stringIter ⟨s.toArray⟩ 0)):=by
   simp[execOp,ho,hv,Instr.range,run_underlying (strT_under ht)]
  have e:=Cx.new_ext (w:=w) (w':=w.alloc (.stringIter ⟨s.toArray⟩ 0)) hn (.pointer (some ⟨w.heap.size,0,none⟩)) (hS.fb.alloc _)
  have hs:(C.new nid (.pointer (some ⟨w.heap.size,0,none⟩))).σ nid=.pointer (some ⟨w.heap.size,0,none⟩):=by simp[Cx.new,upd]
  refine⟨_,_,_,C.new nid (.pointer (some ⟨w.heap.size,0,none⟩)),hrun,.inl rfl,(BelM.refl _ _).alloc _,e,.ptr nid 0 _ (.inr rfl) hs,?_,?_,fun id h=>h,fun _ _ h=>.inl h⟩
  ·refine HOK.add hS.heap hn e (fun g hg=>Below.heap_alloc w _ g hg) ⟨w.heap.size,hs,Nat.zero_le _,heap_alloc_new w _,hm,nolt hS.fb⟩ hS.base (fun k cs h=>by cases h) ?_
   intro g hg;simp[blockOf] at hg;omega
  ·intro b o h;have:=hS.fb b o h;simp;omega
theorem s_nextEnd(hS:StOK C w a B S)(it:Operand)(id:Nat)(s:List UInt8)(pos:Nat)(hx:S.val it=.ptr id 0)(hb:S.heap id=some (.iter s pos))(hp:¬ pos < s.length)(ho:o.op=.next it true):OpOK P o a w C B S.heap nid (.tup [.bool false]) []:=by
 have h:=hS.env.val it
 rw[hx] at h
 generalize hv:a.eval it=v at h
 cases h with
 | ptr _ _ g hl hσ =>
  obtain⟨_,g',q1,q2,q3,q4,q5⟩:=hS.heap.rep id _ hb
  rw[hσ] at q1
  injection q1 with q1;injection q1 with q1;injection q1 with q1
  subst q1
  refine OpOK.same hS.heap hS.fb (v:=.tuple #[.bool false]) ?_ (.tup [.bool false] [.bool false] rfl ?_)
  ·have hsz:¬ pos < (⟨s.toArray⟩:ByteArray).size:=by rw[bsize];exact hp
   simp[execOp,ho,hv,Instr.next,getObj,Sem.run,q3,hsz]
  ·intro i v d hv hd
   match i with
   | 0=>simp at hv hd;subst hv hd;exact .bool _
   | i+1=>simp at hv
theorem s_next(hS:StOK C w a B S)(it:Operand)(id:Nat)(s:List UInt8)(pos:Nat)(hx:S.val it=.ptr id 0)(hb:S.heap id=some (.iter s pos))(hp:pos < s.length)(ho:o.op=.next it true) :
  OpOK P o a w C B S.heap nid (.tup [.bool true,.int .i64 pos,.int .i32 (runeAt s pos)]) [(id,some (.iter s (pos+widthAt s pos)))]:=by
 have h:=hS.env.val it
 rw[hx] at h
 generalize hv:a.eval it=v at h
 cases h with
 | ptr _ _ g hl hσ =>
  obtain⟨_,g',q1,q2,q3,q4,q5⟩:=hS.heap.rep id _ hb
  rw[hσ] at q1
  injection q1 with q1;injection q1 with q1;injection q1 with q1
  subst q1
  have hsz:pos < (⟨s.toArray⟩:ByteArray).size:=by rw[bsize];exact hp
  have hset:=MapKept.heap_set (w:=w) (r:=g) (o':=.stringIter ⟨s.toArray⟩ (pos+widthAt s pos)) q3
  generalize hW:({ w with heap:=w.heap.setIfInBounds g (.stringIter ⟨s.toArray⟩ (pos+widthAt s pos)) }:World)=W
  have hWh:W.heap=w.heap.setIfInBounds g (.stringIter ⟨s.toArray⟩ (pos+widthAt s pos)):=by rw[← hW]
  have hWs:W.heap.size=w.heap.size:=by rw[hWh];simp
  have hWo:∀ j,j≠g→W.heap[j]? = w.heap[j]?:=by intro j hj;rw[hWh];exact hset.2 j hj
  have hrun:(execOp a.eval o).run P w=.ok (.value (.tuple #[.bool true,.int .i64 pos,.int .i32 (runeAt s pos)])) W:=by
   simp only[runeAt]
   simp[execOp,ho,hv,Instr.next,getObj,setObj,Sem.run,q3,hsz,decL_eq s pos hp,goInt]
   rw[← hW];rfl
  have hext:Ext C w C W:=⟨fun _ _ h=>h,fun b o hF=>hWo b (fun e=>q5 o (e ▸ hF)),fun _ h=>h,fun _ _=>rfl⟩
  refine⟨_,_,W,C,hrun,.inl rfl,⟨by rw[← hW],by rw[← hW],by rw[← hW],by omega,fun j _ hj=>hWo j (fun e=>hj (e ▸ hS.heap.own id _ hb g (by rw[hσ];rfl)))⟩,hext,?_,?_,?_,fun _ h=>.inl h,fun _ _ h=>.inl h⟩
  ·refine .tup [.bool true,.int .i64 pos,.int .i32 (runeAt s pos)] _ rfl ?_
   intro i v d hv hd
   match i with
   | 0=>simp at hv hd;subst hv hd;exact .bool _
   | 1=>simp at hv hd;subst hv hd;exact .int _ _ (by unfold inR;simp only[kLo,kHi];unfold maxLen at q4;omega)
   | 2=>simp at hv hd;subst hv hd;exact .int _ _ (runeAt_inR s pos)
   | i+3=>simp at hv
  ·refine HOK.change hS.heap hb hext (fun j hj _=>hWo j (fun e=>hj (by rw[e,hσ];rfl))) (fun k cs h=>by cases h) ⟨g,hσ,q2,by rw[hWh];exact hset.1,q4,q5⟩
  ·intro b o hF;rw[hWs];exact hS.fb b o hF
theorem mapKT_under{t e:TypeId}{k:IntKind}(h:mapKT P t=some (k,e)):∃ kt,P.underlying t=some (.map kt e)∧P.underlying kt=some (.int k):=by
 unfold mapKT at h;split at h
 ·rename_i kt e' hu
  split at h
  ·rename_i k' hk;simp at h;obtain⟨rfl,rfl⟩:=h;exact⟨kt,hu,hk⟩
  simp at h
 simp at h
theorem s_makeMap(hS:StOK C w a B S)(hn:¬ C.live nid)(t e:TypeId)(k:IntKind)(r:Option Operand)(ht:mapKT P t=some (k,e))(hr:(match r with|none=>true|some x=>match S.val x with|.int _ _=>true|_=>false)=true)(ho:o.op=.makeMap t r) :
  OpOK P o a w C B S.heap nid (.omp nid) [(nid,some (.mp k [] [] false))]:=by
 obtain⟨kt,hu,hk⟩:=mapKT_under ht
 have hrun:(execOp a.eval o).run P w=.ok (.value (.map (some w.heap.size))) (w.alloc (.map #[] 0)):=by
  cases r with
  | none=>simp[execOp,ho,Instr.makeMap]
  | some x =>
   have h:=hS.env.val x
   simp only at hr
   cases hx:S.val x<;>rw[hx] at h hr<;>simp at hr
   generalize hv:a.eval x=v at h
   cases h
   simp[execOp,ho,Instr.makeMap,run_underlying hu,hv,asInt,asIntOf]
 have e:=Cx.new_ext (w:=w) (w':=w.alloc (.map #[] 0)) hn (.map (some w.heap.size)) (hS.fb.alloc _)
 have hs:(C.new nid (.map (some w.heap.size))).σ nid=.map (some w.heap.size):=by simp[Cx.new,upd]
 refine⟨_,_,_,C.new nid (.map (some w.heap.size)),hrun,.inl rfl,(BelM.refl _ _).alloc _,e,.omp nid _ (.inr rfl) hs,?_,?_,fun id h=>h,fun _ _ h=>.inl h⟩
 ·refine HOK.add hS.heap hn e (fun g hg=>Below.heap_alloc w _ g hg) ⟨w.heap.size,0,#[],hs,Nat.zero_le _,heap_alloc_new w _,rfl,rfl,by simp,fun _=>nolt hS.fb,fun h=>by cases h⟩ hS.base (fun k cs h=>by cases h) ?_
  intro g hg;simp[blockOf] at hg;omega
 ·intro b o h;have:=hS.fb b o h;simp;omega
theorem find_int(k:IntKind)(n:Int):∀ (es:List MapEntry) (ks:List Int) (vs:List D) (i:Nat),es.map MapEntry.key=ks.map (Value.int k)→es.length=vs.length →
  (∃ j e,Instr.findNow (.int k) (.int k n) es i=some (some (i+j,e.val))∧es[j]? = some e∧e.key=.int k n∧ks.contains n=true∧(∀ z,vs[j]? = some (lookV ks vs n z))∧putK ks n=ks∧∀ y,putV ks vs n y=vs.set j y) ∨
  (Instr.findNow (.int k) (.int k n) es i=some none∧ks.contains n=false∧(∀ z,lookV ks vs n z=z)∧putK ks n=ks++[n]∧∀ y,putV ks vs n y=vs++[y])
 | [],ks,vs,i,hk,hl=>by
  cases ks with
  | nil=>cases vs with
   | nil=>exact .inr ⟨rfl,rfl,fun _=>rfl,rfl,fun _=>rfl⟩
   | cons v vs=>simp at hl
  | cons b ks=>simp at hk
 | e::es,ks,vs,i,hk,hl=>by
  cases ks with
  | nil=>simp at hk
  | cons b ks =>
   cases vs with
   | nil=>simp at hl
   | cons v vs =>
    simp only[List.map_cons,List.cons.injEq] at hk
    obtain⟨hk0,hk⟩:=hk
    by_cases hb:b=n
    ·subst hb
     left
     refine⟨0,e,?_,rfl,hk0,by simp,fun z=>by simp[lookV],by simp[putK],fun y=>by simp[putV]⟩
     simp[Instr.findNow,hk0,Instr.sameNow]
    ·have hs:Instr.sameNow (.int k) (.int k n) e.key=some false:=by rw[hk0];simp[Instr.sameNow];omega
     rcases find_int k n es ks vs (i+1) hk (by simpa using hl) with⟨j,e',h1,h2,h3,h4,h5,h6,h7⟩|⟨h1,h2,h3,h4,h5⟩
     ·left
      refine⟨j+1,e',?_,by simpa using h2,h3,?_,fun z=>?_,?_,fun y=>?_⟩
      ·simp only[Instr.findNow,hs,h1];rw[show i+1+j=i+(j+1) by omega]
      ·simp only[List.contains_cons,h4,Bool.or_true]
      ·simp only[lookV,hb,if_false,List.getElem?_cons_succ];exact h5 z
      ·simp only[putK,hb,if_false,h6]
      ·simp only[putV,hb,if_false,h7,List.set_cons_succ]
     ·right
      refine⟨?_,?_,fun z=>?_,?_,fun y=>?_⟩
      ·simp only[Instr.findNow,hs,h1]
      ·have:(n == b)=false:=by simp;omega
       simp only[List.contains_cons,h2,Bool.or_false,this]
      ·simp only[lookV,hb,if_false];exact h3 z
      ·simp only[putK,hb,if_false,h4,List.cons_append]
      ·simp only[putV,hb,if_false,h5,List.cons_append]
theorem mapOf{v:Value}{dx:D}{k:IntKind}{ks:List Int}{vs:List D}(hr:Rep w C v dx)(hH:HOK C w B H)(h:mapD H dx=some (k,ks,vs)) :
  ∃ g clock es,v=.map (some g)∧w.heap[g]? = some (.map es clock)∧es.toList.map MapEntry.key=ks.map (Value.int k)∧es.toList.length=vs.length∧∀ (i:Nat) e d,es.toList[i]? = some e→vs[i]? = some d→Rep w (cF C.F) e.val d:=by
 cases hr<;>simp[mapD] at h
 case omp id g hl hσ =>
  split at h
  ·rename_i k' ks' vs' p hb
   simp at h
   obtain⟨rfl,rfl,rfl⟩:=h
   obtain⟨_,g',clock,es,q1,q2,q3,q4,q5,q6,_⟩:=hH.rep id _ hb
   rw[hσ] at q1
   injection q1 with q1;injection q1 with q1
   subst q1
   exact⟨g,clock,es,rfl,q3,q4,q5,q6⟩
  ·simp at h
 case mp g clock k9 ks9 es vs9 hF hh hk hl h6 =>
  obtain⟨rfl,rfl,rfl⟩:=h
  exact⟨g,clock,es,rfl,hF,hh,hk,h6⟩
theorem s_lookup(hS:StOK C w a B S)(t e:TypeId)(x i:Operand)(ok:Bool)(k:IntKind)(n:Int)(ks:List Int)(vs:List D)(z:D)(ht:mapKT P t=some (k,e))(hi:S.val i=.int k n)(hx:mapD S.heap (S.val x)=some (k,ks,vs))(hz:zeroD P e=some z)(ho:o.op=.lookup t x i ok) :
  OpOK P o a w C B S.heap nid (if ok then .tup [lookV ks vs n z,.bool (ks.contains n)] else lookV ks vs n z) []:=by
 obtain⟨kt,hu,hk⟩:=mapKT_under ht
 obtain⟨g,clock,es,hv,hh,q1,q2,q3⟩:=mapOf (hS.env.val x) hS.heap hx
 have hiv:a.eval i=.int k n:=by
  have h:=hS.env.val i
  rw[hi] at h
  generalize a.eval i=v at h
  cases h;rfl
 obtain⟨zv,hzr,hzv⟩:=zeroD_run (P:=P) (w:=w) (C:=C) hz
 have hkey:MapKept.IsKey (.int k) (Value.int k n):=rfl
 have fin:∀ (v:Value) (b:Bool),(Instr.lookup t (.map (some g)) (.int k n) ok).run P w=.ok (if ok then .tuple #[v,.bool b] else v) w→Rep w C v (lookV ks vs n z)→ks.contains n=b→OpOK P o a w C B S.heap nid (if ok then .tup [lookV ks vs n z,.bool (ks.contains n)] else lookV ks vs n z) []:=by
  intro v b hrun hrep hb
  subst hb
  refine OpOK.same hS.heap hS.fb (v:=if ok then .tuple #[v,.bool (ks.contains n)] else v) ?_ ?_
  ·simp only[execOp,ho,hv,hiv,Sem.run_bind,hrun,Result.andThen_ok,Sem.run_pure]
  ·cases ok with
   | false=>exact hrep
   | true =>
    refine .tup [v,.bool _] _ rfl ?_
    intro i v' d hv hd
    match i with
    | 0=>simp at hv hd;subst hv hd;exact hrep
    | 1=>simp at hv hd;subst hv hd;exact .bool _
    | i+2=>simp at hv
 rcases find_int k n es.toList ks vs 0 q1 q2 with⟨j,e',h1,h2,h3,h4,h5,h6,h7⟩|⟨h1,h2,h3,h4,h5⟩
 ·refine fin e'.val true ?_ ((q3 j e' _ h2 (h5 z)).ext cF_ext) h4
  simp[Instr.lookup,run_underlying hu,MapKept.run_getObj_map hh,MapKept.run_checkKey hk hkey,MapKept.run_findKey hk h1]
 ·refine fin zv false ?_ (by rw[h3 z];exact hzv) h2
  simp[Instr.lookup,run_underlying hu,MapKept.run_getObj_map hh,MapKept.run_checkKey hk hkey,MapKept.run_findKey hk h1,hzr]
theorem s_mapUpdate(hS:StOK C w a B S)(t e:TypeId)(m i x:Operand)(id:Nat)(k:IntKind)(n:Int)(ks:List Int)(vs:List D)(v':D)(ep:Eff)(ht:mapKT P t=some (k,e))(hm:S.val m=.omp id)(hi:S.val i=.int k n)(hpur:purD S.heap (S.val x)=some (v',ep))
  (hb:appEff S.heap ep id=some (.mp k ks vs false)) (ho:o.op=.mapUpdate t m i x) :
  OpOK P o a w C B S.heap nid .undef (ep++[(id,some (.mp k (putK ks n) (putV ks vs n v') false))]):=by
 obtain⟨kt,hu,hk⟩:=mapKT_under ht
 have h0:=hS.env.val m
 rw[hm] at h0
 have hiv:a.eval i=.int k n:=by
  have h:=hS.env.val i
  rw[hi] at h
  generalize a.eval i=v at h
  cases h;rfl
 obtain⟨C1,hP,hy0,hok⟩:=purD_sound hS.heap hS.fb hpur (hS.env.val x)
 refine OpOK.after hP ?_
 have h:=h0.ext hP.ext
 have hH1:=hP.ok
 have hF1:=hP.fb
 clear h0
 generalize hv:a.eval m=v at h
 have hkey:MapKept.IsKey (.int k) (Value.int k n):=rfl
 cases h with
 | omp _ g hl hσ =>
  obtain⟨_,g',clock,es,q1,q2,q3,q4,q5,q6,q7,_⟩:=hH1.rep id _ hb
  rw[hσ] at q1
  injection q1 with q1;injection q1 with q1
  subst q1
  have hnoF:=q7 rfl
  have fin:∀ (es':Array MapEntry) (clock':Nat),(Instr.mapUpdate t (.map (some g)) (.int k n) (a.eval x)).run P w=.ok () { w with heap:=w.heap.setIfInBounds g (.map es' clock') } →
    es'.toList.map MapEntry.key=(putK ks n).map (Value.int k)→es'.toList.length=(putV ks vs n v').length→(∀ (i:Nat) e d,es'.toList[i]? = some e→(putV ks vs n v')[i]? = some d→Rep w (cF C1.F) e.val d) →
    OpOK P o a w C1 B (appEff S.heap ep) nid .undef [(id,some (.mp k (putK ks n) (putV ks vs n v') false))]:=by
   intro es' clock' hrun r1 r2 r3
   have hset:=MapKept.heap_set (w:=w) (r:=g) (o':=.map es' clock') q3
   generalize hW:({ w with heap:=w.heap.setIfInBounds g (.map es' clock') }:World)=W at hrun
   have hWh:W.heap=w.heap.setIfInBounds g (.map es' clock'):=by rw[← hW]
   have hWs:W.heap.size=w.heap.size:=by rw[hWh];simp
   have hWo:∀ j,j≠g→W.heap[j]? = w.heap[j]?:=by intro j hj;rw[hWh];exact hset.2 j hj
   have hext:Ext C1 w C1 W:=⟨fun _ _ h=>h,fun b o hF=>hWo b (fun e=>hnoF o (e ▸ hF)),fun _ h=>h,fun _ _=>rfl⟩
   refine⟨.skip,Go.undef,W,C1,?_,.inr ⟨rfl,rfl⟩,⟨by rw[← hW],by rw[← hW],by rw[← hW],by omega,fun j _ hj=>hWo j (fun e=>hj (e ▸ hH1.own id _ hb g (by rw[hσ];rfl)))⟩,hext,.undef,?_,?_,fun _ h=>.inl h,fun _ _ h=>.inl h⟩
   ·simp only[execOp,ho,hv,hiv,Sem.run_bind,hrun,Result.andThen_ok,Sem.run_pure]
   ·refine HOK.change hH1 hb hext (fun j hj _=>hWo j (fun e=>hj (by rw[e,hσ];rfl))) (fun k cs h=>by cases h) ⟨g,clock',es',hσ,q2,by rw[hWh];exact hset.1,r1,r2,fun i e d he hd=>(r3 i e d he hd).ext hext.cF,fun _=>hnoF,fun h=>by cases h⟩
   ·intro b o hF;rw[hWs];exact hF1 b o hF
  rcases find_int k n es.toList ks vs 0 q4 q5 with⟨j,e',h1,h2,h3,h4,h5,h6,h7⟩|⟨h1,h2,h3,h4,h5⟩
  ·have hj:j < es.toList.length:=(List.getElem?_eq_some_iff.1 h2).1
   have hej:es[j]? = some e':=by simpa using h2
   refine fin (es.modify j fun y=>{ y with key:=.int k n,val:=a.eval x }) clock ?_ ?_ ?_ ?_
   ·simp[Instr.mapUpdate,run_underlying hu,MapKept.run_getObj_map q3,MapKept.run_checkKey hk hkey,MapKept.run_findKey hk h1,hej,h3,MapKept.run_keyThatStays hkey,MapKept.run_setObj_map _ q3]
   ·rw[h6,← q4]
    apply List.ext_getElem?
    intro l
    simp only[List.getElem?_map,Array.getElem?_toList,Array.getElem?_modify]
    by_cases hl':j=l
    ·subst hl';simp[hej,h3]
    ·simp[hl']
   ·rw[h7];simp[← q5]
   ·intro l y d hy hd
    rw[h7] at hd
    simp only[Array.getElem?_toList,Array.getElem?_modify] at hy
    rw[List.getElem?_set] at hd
    by_cases hl':j=l
    ·subst hl'
     simp only[if_true,hej,Option.map_some,Option.some.injEq] at hy hd
     split at hd
     ·simp at hd;subst hd hy;exact hy0
     ·simp at hd
    ·simp only[hl',if_false] at hy hd
     exact q6 l y d (by simpa using hy) hd
  ·refine fin (es.push { key:=.int k n,val:=a.eval x,born:=clock }) (clock+1) ?_ ?_ ?_ ?_
   ·simp[Instr.mapUpdate,run_underlying hu,MapKept.run_getObj_map q3,MapKept.run_checkKey hk hkey,MapKept.run_findKey hk h1,MapKept.run_setObj_map _ q3]
   ·rw[h4];simp only[Array.toList_push,List.map_append,q4,List.map_cons,List.map_nil]
   ·rw[h5];simp[← q5]
   ·intro l y d hy hd
    rw[h5] at hd
    simp only[Array.toList_push] at hy
    by_cases hl':l < es.toList.length
    ·rw[List.getElem?_append_left hl'] at hy
     rw[List.getElem?_append_left (by rw[← q5];exact hl')] at hd
     exact q6 l y d hy hd
    ·rw[List.getElem?_append_right (by omega)] at hy
     rw[List.getElem?_append_right (by omega),← q5] at hd
     cases hll:l - es.toList.length with
     | zero=>rw[hll] at hy hd;simp at hy hd;subst hy hd;exact hy0
     | succ r=>rw[hll] at hy;simp at hy
end
section
variable {P:Program}{o:Oper}{a:Act}{w w':World}{C C':Cx}{B:Bx}{nid:Nat}{d:D}{S:AS}{eff:Eff}{H:Nat→Option Blk}
theorem flat_set(k:Nat):∀ (xs:List D) (i:Nat) (y:D),(∀ x ∈ xs,x.cells.length=k)→i < xs.length→(xs.set i y).flatMap D.cells=(xs.flatMap D.cells).take (i * k)++y.cells++(xs.flatMap D.cells).drop (i * k+k):=by
 intro xs
 induction xs with
 | nil=>intro i y _ h;simp at h
 | cons x xs ih =>
  intro i y hk h
  have hx:=hk x (by simp)
  cases i with
  | zero =>
   simp only[List.set_cons_zero,List.flatMap_cons,Nat.zero_mul,List.take_zero,List.nil_append,Nat.zero_add]
   rw[show List.drop k (x.cells++List.flatMap D.cells xs)=List.flatMap D.cells xs by rw[← hx];simp]
  | succ i =>
   simp only[List.set_cons_succ,List.flatMap_cons]
   rw[ih i y (fun z hz=>hk z (by simp[hz])) (by simpa using h)]
   have e1:List.take ((i+1) * k) (x.cells++List.flatMap D.cells xs)=x.cells++List.take (i * k) (List.flatMap D.cells xs):=by
    rw[List.take_append,hx,show(i+1) * k - k=i * k by rw[Nat.succ_mul];omega,List.take_of_length_le (l:=x.cells) (by rw[hx,Nat.succ_mul];omega)]
   have e2:List.drop ((i+1) * k+k) (x.cells++List.flatMap D.cells xs)=List.drop (i * k+k) (List.flatMap D.cells xs):=by
    rw[List.drop_append,hx,show(i+1) * k+k - k=i * k+k by rw[Nat.succ_mul];omega,List.drop_of_length_le (l:=x.cells) (by rw[hx,Nat.succ_mul];omega),List.nil_append]
   rw[e1,e2]
   simp[List.append_assoc]
theorem s_storeRow(hS:StOK C w a B S)(t:TypeId)(x y:Operand)(id k i off:Nat)(e:TypeId)(xs:List D)(old x':D)(ep:Eff)(hx:S.val x=.vptr id k i off)(hpur:purD S.heap (S.val y)=some (x',ep))(b b':Blk)(hbb:(b=.vec e k xs false∧b'=.vec e k (xs.set i (if off=0∧x'.cells.length=k∧(x'.isAg||!old.isAg)=true then x' else .agg (putD old.cells off x'))) false)∨∃ u,b=.lrow u e k xs∧b'=.lrow u e k (xs.set i (if off=0∧x'.cells.length=k∧(x'.isAg||!old.isAg)=true then x' else .agg (putD old.cells off x'))))(hb:appEff S.heap ep id=some b)(hold:xs[i]? = some old)
  (hsz:szT P t=some x'.cells.length) (hle:off+x'.cells.length≤k) (ho:o.op=.store t x y) :
  OpOK P o a w C B S.heap nid .undef (ep++[(id,some b')]):=by
 have h0:=hS.env.val x
 rw[hx] at h0
 obtain⟨C1,hP,hy0,hok⟩:=purD_sound hS.heap hS.fb hpur (hS.env.val y)
 refine OpOK.after hP ?_
 have h:=h0.ext hP.ext
 have hH1:=hP.ok
 have hF1:=hP.fb
 clear h0
 generalize hv:a.eval x=v at h
 cases h with
 | vptr _ _ _ _ g n c hl hσ =>
  obtain⟨vals,q1,q2,q3,q4⟩:BRep C1 w 0 id (.vec e k xs false):=by
   rcases hbb with⟨rfl,_⟩|⟨u,rfl,_⟩
   ·exact(hH1.rep id _ hb).2
   ·exact(hH1.rep id _ hb).2.2
  rw[hσ] at q1
  have hilt:=(List.getElem?_eq_some_iff.1 hold).1
  rcases q1.2 with⟨r1,r2⟩|⟨g',cap,cur,r1,r2,r3,r4,r5,r6,r7⟩
  ·cases r1
  injection r1 with r1 rn rc
  injection r1 with r1;injection r1 with r1
  subst r1
  have hy:=hy0.cellsS hok
  have hlen:=hy.len
  have hoc:old.cells.length=k:=q2 old (List.mem_of_getElem? hold)
  have hmul:i * k+k≤xs.length * k:=by rw[← Nat.succ_mul];exact Nat.mul_le_mul_right _ hilt
  have hcapk:xs.length * k≤cap * k:=Nat.mul_le_mul_right _ r4
  have hst:=run_storeCells_at P g (i * k+off) e (a.eval y).cells.toList 0 cur w r3 (by rw[hlen,r6];omega) hy.one
  simp only[Nat.add_zero] at hst
  generalize hcs:cur.toList.take (i * k+off)++(a.eval y).cells.toList++cur.toList.drop (i * k+off+(a.eval y).cells.toList.length)=cs at hst
  generalize hW:w.setRow g cs.toArray=W at hst
  have hWo:∀ j,j≠g→W.heap[j]? = w.heap[j]?:=by intro j hj;rw[← hW];exact setRow_other w g j _ hj
  have hWs:W.heap.size=w.heap.size:=by rw[← hW];simp
  have hnoF:∀ o,¬ C1.F g o:=fun o hF=>by have:=((q4 g (by rw[hσ];rfl)).1 o hF).1;cases this
  have hext:Ext C1 w C1 W:=⟨fun _ _ h=>h,fun b o hF=>hWo b (fun e=>hnoF o (e ▸ hF)),fun _ h=>h,fun _ _=>rfl⟩
  generalize hy':(if off=0∧x'.cells.length=k∧(x'.isAg||!old.isAg)=true then x' else D.agg (putD old.cells off x'))=y'
  have hyc:y'.cells=putD old.cells off x':=by
   rw[← hy']
   split
   ·rename_i h0
    unfold putD
    rw[h0.1,h0.2.1,List.take_zero,List.nil_append,List.drop_of_length_le (by omega),List.append_nil]
   ·rfl
  have hyl:y'.cells.length=k:=by
   rw[hyc];unfold putD;simp only[List.length_append,List.length_take,List.length_drop];omega
  have hcl:cur.toList.length=cap * k:=by simpa using r6
  have hvl:vals.length=xs.length * k:=q1.1
  have hcsl:cs.length=cap * k:=by rw[← hcs];simp only[List.length_append,List.length_take,List.length_drop,hlen,hcl];omega
  -- the first cells of the row
  have htake:cs.take (xs.length * k)=vals.take (i * k+off)++(a.eval y).cells.toList++vals.drop (i * k+off+(a.eval y).cells.toList.length):=by
   rw[← hcs,← r7]
   rw[List.take_append,List.take_append]
   simp only[List.length_append,List.length_take,hlen,hcl,List.take_take]
   rw[show min (i * k+off) (cap * k)=i * k+off by omega,show min (xs.length * k) (i * k+off)=min (i * k+off) (xs.length * k) by omega]
   rw[List.take_of_length_le (l:=(a.eval y).cells.toList) (by rw[hlen];omega),List.drop_take]
  have hflat:(xs.set i y').flatMap D.cells=putD (xs.flatMap D.cells) (i * k+off) x':=by
   rw[flat_set k xs i y' q2 hilt,hyc]
   have hsp:=flat_split k xs q2 i old hold
   unfold putD
   rw[← hsp]
   generalize xs.flatMap D.cells=L
   generalize x'.cells=Y at hle ⊢
   rw[List.take_take,List.drop_take,List.drop_drop,show min off k=off by omega]
   have e1:List.take (i * k) L++List.take off (List.drop (i * k) L)=List.take (i * k+off) L:=by rw[List.take_add]
   have e2:List.take (k - (off+Y.length)) (List.drop (i * k+(off+Y.length)) L)++List.drop (i * k+k) L=List.drop (i * k+off+Y.length) L:=by
    rw[show List.drop (i * k+k) L=List.drop (k - (off+Y.length)) (List.drop (i * k+(off+Y.length)) L) by rw[List.drop_drop];congr 1;omega,List.take_append_drop,Nat.add_assoc]
   rw[← e1,← e2]
   simp[List.append_assoc]
  refine⟨.skip,Go.undef,W,C1,?_,.inr ⟨rfl,rfl⟩,?_,hext,.undef,?_,?_,fun _ h=>.inl h,fun _ _ h=>.inl h⟩
  ·simp only[execOp,ho,hv,Instr.storeAt,Instr.sureAddr,storeVar,Sem.run_bind,Sem.run_pure,Result.andThen_ok,szT_run hsz]
   have hne:¬ ((a.eval y).cells.size≠x'.cells.length):=by simpa using hlen
   simp only[hne,if_false,Result.andThen_ok,hst]
  ·exact⟨by rw[← hW];rfl,by rw[← hW];rfl,by rw[← hW];rfl,by omega,fun j _ hj=>hWo j (fun e=>hj (e ▸ hH1.own id _ hb g (by rw[hσ];rfl)))⟩
  ·have hnew:BRep C1 W 0 id (.vec e k (xs.set i y') false)→BRep C1 W 0 id b':=by
    intro hn
    rcases hbb with⟨_,rfl⟩|⟨u,rfl,rfl⟩
    ·rw[hy'];exact hn
    ·rw[hy'];exact⟨(hH1.rep id _ hb).2.1,hn⟩
   refine HOK.change hH1 hb hext (fun j hj _=>hWo j (fun e=>hj (by rw[e,hσ];rfl))) (fun k cs h=>by rcases hbb with⟨_,rfl⟩|⟨u,_,rfl⟩<;>cases h) (hnew ⟨cs.take (xs.length * k),?_,?_,?_,?_⟩)
   ·rw[hσ,List.length_set]
    refine⟨by rw[List.length_take,hcsl];omega,.inr ⟨g,cap,cs.toArray,by rw[rn,rc],r2,?_,r4,r5,by simpa using hcsl,rfl⟩⟩
    rw[← hW];exact setRow_heap w g cur _ e _ r3
   ·intro z hz
    rcases List.mem_or_eq_of_mem_set hz with hz|rfl
    ·exact q2 z hz
    ·exact hyl
   ·rw[htake,hflat]
    exact putD_rep (q3.ext hext.cF) (hy.ext hext.cF)
   ·intro g' hg'
    rw[hσ] at hg'
    simp[Value.ownBlock] at hg'
    subst hg'
    exact⟨fun o hF=>absurd hF (hnoF o),fun h=>by cases h⟩
  ·intro b o hF;rw[hWs];exact hF1 b o hF
theorem s_storeVec(hS:StOK C w a B S)(t:TypeId)(x y:Operand)(id k i off:Nat)(e:TypeId)(xs:List D)(old x':D)(ep:Eff)(hx:S.val x=.vptr id k i off)(hpur:purD S.heap (S.val y)=some (x',ep))(hb:appEff S.heap ep id=some (.vec e k xs false))(hold:xs[i]? = some old)
  (hsz:szT P t=some x'.cells.length) (hle:off+x'.cells.length≤k) (ho:o.op=.store t x y) :
  OpOK P o a w C B S.heap nid .undef (ep++[(id,some (.vec e k (xs.set i (if off=0∧x'.cells.length=k∧(x'.isAg||!old.isAg)=true then x' else .agg (putD old.cells off x'))) false))]) :=
 s_storeRow hS t x y id k i off e xs old x' ep hx hpur _ _ (.inl ⟨rfl,rfl⟩) hb hold hsz hle ho
theorem s_storeMat(hS:StOK C w a B S)(t:TypeId)(x y:Operand)(id k i off:Nat)(e:TypeId)(xs:List D)(old x':D)(b:Blk)(hx:S.val x=.vptr id k i off)(hxy:S.val y=x')(hok:x'.okS=true)(hb:S.heap id=some b)(hbb:b=.mat e k xs∨b=.vec e k xs false)(hold:xs[i]? = some old)
  (hsz:szT P t=some x'.cells.length) (hoff:off=0) (hxl:x'.cells.length=k) (ho:o.op=.store t x y) :
  OpOK P o a w C B S.heap nid .undef [(id,some (.mat e k (xs.set i x')))]:=by
 have h:=hS.env.val x
 rw[hx] at h
 have hy0:=hS.env.val y
 rw[hxy] at hy0
 have hle:off+x'.cells.length≤k:=by omega
 have hH1:=hS.heap
 have hF1:=hS.fb
 generalize hv:a.eval x=v at h
 cases h with
 | vptr _ _ _ _ g n c hl hσ =>
  obtain⟨vals,q1,q2,q3,q4⟩:∃ vals,w.ownsRow 0 e k (C.σ id) xs.length vals∧(∀ x ∈ xs,x.cells.length=k)∧RepL C w vals (xs.flatMap D.cells)∧∀ g,(C.σ id).ownBlock=some g→∀ o,¬ C.F g o:=by
   rcases hbb with rfl|rfl
   ·exact(hH1.rep id _ hb).2
   ·obtain⟨_,vals,q1,q2,q3,q4⟩:=hH1.rep id _ hb
    exact⟨vals,q1,q2,q3.ext cF_ext,fun g hg o hF=>by have:=((q4 g hg).1 o hF).1;cases this⟩
  rw[hσ] at q1
  have hilt:=(List.getElem?_eq_some_iff.1 hold).1
  rcases q1.2 with⟨r1,r2⟩|⟨g',cap,cur,r1,r2,r3,r4,r5,r6,r7⟩
  ·cases r1
  injection r1 with r1 rn rc
  injection r1 with r1;injection r1 with r1
  subst r1
  have hy:=hy0.cellsS hok
  have hlen:=hy.len
  have hoc:old.cells.length=k:=q2 old (List.mem_of_getElem? hold)
  have hmul:i * k+k≤xs.length * k:=by rw[← Nat.succ_mul];exact Nat.mul_le_mul_right _ hilt
  have hcapk:xs.length * k≤cap * k:=Nat.mul_le_mul_right _ r4
  have hst:=run_storeCells_at P g (i * k+off) e (a.eval y).cells.toList 0 cur w r3 (by rw[hlen,r6];omega) hy.one
  simp only[Nat.add_zero] at hst
  generalize hcs:cur.toList.take (i * k+off)++(a.eval y).cells.toList++cur.toList.drop (i * k+off+(a.eval y).cells.toList.length)=cs at hst
  generalize hW:w.setRow g cs.toArray=W at hst
  have hWo:∀ j,j≠g→W.heap[j]? = w.heap[j]?:=by intro j hj;rw[← hW];exact setRow_other w g j _ hj
  have hWs:W.heap.size=w.heap.size:=by rw[← hW];simp
  have hnoF:∀ o,¬ C.F g o:=fun o hF=>q4 g (by rw[hσ];rfl) o hF
  have hext:Ext C w C W:=⟨fun _ _ h=>h,fun b o hF=>hWo b (fun e=>hnoF o (e ▸ hF)),fun _ h=>h,fun _ _=>rfl⟩
  generalize hy':x'=y'
  have hyc:y'.cells=putD old.cells off x':=by
   rw[← hy']
   unfold putD
   rw[hoff,hxl,List.take_zero,List.nil_append,List.drop_of_length_le (by omega),List.append_nil]
  have hyl:y'.cells.length=k:=by
   rw[hyc];unfold putD;simp only[List.length_append,List.length_take,List.length_drop];omega
  have hcl:cur.toList.length=cap * k:=by simpa using r6
  have hvl:vals.length=xs.length * k:=q1.1
  have hcsl:cs.length=cap * k:=by rw[← hcs];simp only[List.length_append,List.length_take,List.length_drop,hlen,hcl];omega
  -- the first cells of the row
  have htake:cs.take (xs.length * k)=vals.take (i * k+off)++(a.eval y).cells.toList++vals.drop (i * k+off+(a.eval y).cells.toList.length):=by
   rw[← hcs,← r7]
   rw[List.take_append,List.take_append]
   simp only[List.length_append,List.length_take,hlen,hcl,List.take_take]
   rw[show min (i * k+off) (cap * k)=i * k+off by omega,show min (xs.length * k) (i * k+off)=min (i * k+off) (xs.length * k) by omega]
   rw[List.take_of_length_le (l:=(a.eval y).cells.toList) (by rw[hlen];omega),List.drop_take]
  have hflat:(xs.set i y').flatMap D.cells=putD (xs.flatMap D.cells) (i * k+off) x':=by
   rw[flat_set k xs i y' q2 hilt,hyc]
   have hsp:=flat_split k xs q2 i old hold
   unfold putD
   rw[← hsp]
   generalize xs.flatMap D.cells=L
   generalize x'.cells=Y at hle ⊢
   rw[List.take_take,List.drop_take,List.drop_drop,show min off k=off by omega]
   have e1:List.take (i * k) L++List.take off (List.drop (i * k) L)=List.take (i * k+off) L:=by rw[List.take_add]
   have e2:List.take (k - (off+Y.length)) (List.drop (i * k+(off+Y.length)) L)++List.drop (i * k+k) L=List.drop (i * k+off+Y.length) L:=by
    rw[show List.drop (i * k+k) L=List.drop (k - (off+Y.length)) (List.drop (i * k+(off+Y.length)) L) by rw[List.drop_drop];congr 1;omega,List.take_append_drop,Nat.add_assoc]
   rw[← e1,← e2]
   simp[List.append_assoc]
  refine⟨.skip,Go.undef,W,C,?_,.inr ⟨rfl,rfl⟩,?_,hext,.undef,?_,?_,fun _ h=>.inl h,fun _ _ h=>.inl h⟩
  ·simp only[execOp,ho,hv,Instr.storeAt,Instr.sureAddr,storeVar,Sem.run_bind,Sem.run_pure,Result.andThen_ok,szT_run hsz]
   have hne:¬ ((a.eval y).cells.size≠x'.cells.length):=by simpa using hlen
   simp only[hne,if_false,Result.andThen_ok,hst]
  ·exact⟨by rw[← hW];rfl,by rw[← hW];rfl,by rw[← hW];rfl,by omega,fun j _ hj=>hWo j (fun e=>hj (e ▸ hH1.own id _ hb g (by rw[hσ];rfl)))⟩
  ·refine HOK.change hH1 hb hext (fun j hj _=>hWo j (fun e=>hj (by rw[e,hσ];rfl))) (fun k cs h=>by cases h) ⟨cs.take (xs.length * k),?_,?_,?_,?_⟩
   ·rw[hσ,List.length_set]
    refine⟨by rw[List.length_take,hcsl];omega,.inr ⟨g,cap,cs.toArray,by rw[rn,rc],r2,?_,r4,r5,by simpa using hcsl,rfl⟩⟩
    rw[← hW];exact setRow_heap w g cur _ e _ r3
   ·intro z hz
    rcases List.mem_or_eq_of_mem_set hz with hz|rfl
    ·exact q2 z hz
    ·exact hyl
   ·rw[htake,hflat]
    exact putD_rep (q3.ext hext) (hy.ext hext)
   ·intro g' hg'
    rw[hσ] at hg'
    simp[Value.ownBlock] at hg'
    subst hg'
    exact fun o hF=>hnoF o hF
  ·intro b o hF;rw[hWs];exact hF1 b o hF
theorem matS_sound(hS:StOK C w a B S)(t:TypeId)(x y:Operand)(id k i off:Nat)(eff:Eff)(bb:Blk)(hb:S.heap id=some bb)(hx:S.val x=.vptr id k i off)(hm:matS P bb t id k i off (S.val y)=some eff)(ho:o.op=.store t x y):OpOK P o a w C B S.heap nid .undef eff:=by
 unfold matS at hm;split at hm
 ·rename_i e k' xs
  split at hm
  ·rename_i hc
   obtain⟨rfl,c1,c2,c3,c4,c5⟩:=hc;simp only[Option.some.injEq] at hm;subst hm;exact s_storeMat hS t x y id k i off e xs _ _ _ hx rfl c2 hb (.inl rfl) (List.getElem?_eq_getElem c5) (by rw[c3];exact c4) c1 c3 ho
  cases hm
 ·rename_i e k' xs
  split at hm
  ·rename_i j n hy
   split at hm
   ·rename_i hc
    obtain⟨_,rfl,c1,rfl,c4,c5⟩:=hc;simp only[Option.some.injEq] at hm;subst hm;exact s_storeMat hS t x y id 1 i off e xs _ _ _ hx hy rfl hb (.inr rfl) (List.getElem?_eq_getElem c5) c4 c1 rfl ho
   cases hm
  cases hm
 cases hm
theorem abuiltin_sound(hS:StOK C w a B S)(hn:¬ C.live nid)(c:Call)(h:abuiltin P c nid S=some (d,eff))(hop:o.op=.call c):OpOK P o a w C B S.heap nid d eff:=by
 obtain⟨callee,args,argTypes⟩:=c
 obtain⟨args⟩:=args
 obtain⟨argTypes⟩:=argTypes
 unfold abuiltin at h
 simp only at h
 split at h
 case h_1 x t =>
  split at h
  ·rename_i s hx
   split at h
   ·rename_i ht;simp at h;obtain⟨rfl,rfl⟩:=h;exact s_len hS x t _ _ hx rfl (.inl ⟨s,rfl,ht⟩) hop
   ·simp at h
  ·rename_i xs hx
   split at h
   ·rename_i ht;simp at h;obtain⟨rfl,rfl⟩:=h;exact s_len hS x t _ _ hx rfl (.inr ⟨by simp,ht⟩) hop
   ·simp at h
  ·rename_i hx
   split at h
   ·rename_i ht;simp at h;obtain⟨rfl,rfl⟩:=h;exact s_len hS x t _ _ hx rfl (.inr ⟨by simp,ht⟩) hop
   ·simp at h
  ·rename_i id n hx
   split at h
   ·rename_i ht;simp at h;obtain⟨rfl,rfl⟩:=h;exact s_len hS x t _ _ hx rfl (.inr ⟨by simp,ht⟩) hop
   ·simp at h
  ·simp at h
 case h_2 s x t t' =>
  split at h
  ·rename_i e he
   split at h
   ·rename_i k by_ xs ys hk hb hxs hys
    split at h
    ·rename_i hc
     obtain⟨rfl,c1,c2,c3,c4,c5⟩:=hc
     cases hz:zeroD P e with
     | none=>rw[hz] at c2;simp at c2
     | some z =>
      rw[hz] at c2;simp at c2
      split at h
      ·rename_i hs
       simp at h;obtain⟨rfl,rfl⟩:=h
       rw[hs] at hxs
       simp[elemsD] at hxs
       subst hxs
       exact s_appendNil hS hn s x t e k by_ ys z he hk hb hz c2.1 c2.2 hs hys c3 (by simpa using c4) (by simpa using c5) hop
      ·rename_i id n hs
       split at h
       ·rename_i e' k' xs' hid
        split at h
        ·rename_i hee
         obtain⟨rfl,rfl⟩:=hee
         simp at h;obtain⟨rfl,rfl⟩:=h
         rw[hs] at hxs
         simp[elemsD,hid] at hxs
         obtain⟨hxn,rfl⟩:=hxs
         exact s_appendOwn hS hn s x t e k by_ id n _ ys z he hk hb hz c2.1 c2.2 hs hid hxn hys c3 c4 c5 hop
        ·simp at h
       ·simp at h
      ·rename_i us hs
       split at h
       ·rename_i hf
        simp at h;obtain⟨rfl,rfl⟩:=h
        rw[hs] at hxs
        simp[elemsD] at hxs
        subst hxs
        exact s_appendFull hS hn s x t e k by_ _ ys z he hk hb hz c2.1 c2.2 hs hys hf.2 hf.1 c3 c4 c5 hop
       ·simp at h
      ·simp at h
    ·simp at h
   ·simp at h
  ·simp at h
 case h_3 _ ts x y =>
  split at h
  ·rename_i k m k' n hx hy
   split at h
   ·rename_i hkk;subst hkk;simp at h;obtain⟨rfl,rfl⟩:=h;exact s_min hS x y _ k m n hx hy hop
   ·simp at h
  ·simp at h
 case h_4 _ ts x y =>
  split at h
  ·rename_i k m k' n hx hy
   split at h
   ·rename_i hkk;subst hkk;simp at h;obtain⟨rfl,rfl⟩:=h;exact s_max hS x y _ k m n hx hy hop
   ·simp at h
  ·simp at h
 case h_5=>simp at h
theorem aop_sound(hS:StOK C w a B S)(hn:¬ C.live nid)(h:aop P o.op nid S=some (d,eff)):OpOK P o a w C B S.heap nid d eff:=by
 generalize hop:o.op=op at h
 unfold aop at h
 split at h
 case h_1 x=>simp at h;obtain⟨rfl,rfl⟩:=h;exact s_move hS x hop
 case h_2 x=>simp at h;obtain⟨rfl,rfl⟩:=h;exact s_assign hS x hop
 case h_3 c x y =>
  split at h
  ·rename_i t hc;simp at h;obtain⟨rfl,rfl⟩:=h;exact s_pick hS c x y t hc hop
  ·simp at h
 case h_4 e =>
  split at h
  ·rename_i z hz
   split at h
   ·rename_i hok;simp at h;obtain⟨rfl,rfl⟩:=h;cases hb:bldT P e with
    | true=>exact s_allocB hS hn e z hz hok hop
    | false=>exact s_alloc hS hn e z hz hok hop
   ·simp at h
  ·simp at h
 case h_5 e x =>
  split at h
  ·rename_i hok
   cases hb:froT P e&&(S.val x).cells.all intD with
   | false=>rw[hb] at h;simp[boxR] at h;obtain⟨rfl,rfl⟩:=h;exact s_box hS hn e x hok hop
   | true =>
    rw[hb] at h
    simp[boxR] at h
    obtain⟨rfl,rfl⟩:=h
    simp only[Bool.and_eq_true] at hb
    exact s_boxI hS e x hok hb.2 hop
  ·simp at h
 case h_6 t parts =>
  split at h
  ·rename_i ds hz hb
   cases hf:fillD (placeT P t) ds (parts.toList.map fun p=>(p.1,S.val p.2)) with
   | none=>rw[hf] at h;simp at h
   | some ds'=>rw[hf] at h;simp at h;obtain⟨rfl,rfl⟩:=h;exact s_build hS t parts ds ds' hz hb hf hop
  ·simp at h
 case h_7 t len parts =>
  split at h
  ·rename_i e he
   split at h
   ·rename_i k hk
    split at h
    ·rename_i xs ep hpur
     split at h
     ·rename_i hc
      obtain⟨c1,c2,c3,c4,c5⟩:=hc
      injection h with hd
      cases hz:zeroD P e with
      | none=>rw[hz] at c5;simp at c5
      | some z =>
       rw[hz] at c5;simp at c5
       cases hfu:fullT P e
       rotate_left
       ·rw[hfu] at hd;injection hd with hd1 hd2;subst hd1 hd2
        exact s_buildFull hS hn t e len k parts z xs ep he hk hpur c1 c2 c3 c4 hz c5.1 c5.2 hop
       ·rw[hfu] at hd;injection hd with hd1 hd2;subst hd1 hd2
        exact s_buildSlice hS hn t e len k parts z xs ep he hk hpur c1 c2 c3 c4 hz c5.1 c5.2 hop
     ·simp at h
    ·simp at h
   ·simp at h
  ·simp at h
 case h_8 t x =>
  split at h
  ·rename_i id off hx
   split at h
   ·rename_i pn cs hb
    cases hf:loadD P t (cs.drop off) with
    | none=>rw[hf] at h;simp at h
    | some d'=>rw[hf] at h;simp at h;obtain⟨rfl,rfl⟩:=h;exact s_loadBox hS t x id off pn cs hx hb hf hop
   ·simp at h
  ·rename_i id k i off hx
   split at h
   ·rename_i e k' xs pub hb
    split at h
    ·rename_i hkk
     subst hkk
     split at h
     ·rename_i y hy
      cases hf:loadD P t (y.cells.drop off) with
      | none=>rw[hf] at h;simp at h
      | some d'=>rw[hf] at h;simp at h;obtain⟨rfl,rfl⟩:=h;exact s_loadVec hS t x id k i off e xs pub y hx hb hy hf hop
     ·simp at h
    ·simp at h
   ·rename_i e k' xs hb
    split at h
    ·rename_i hkk
     subst hkk
     split at h
     ·rename_i y hy
      cases hf:loadD P t (y.cells.drop off) with
      | none=>rw[hf] at h;simp at h
      | some d'=>rw[hf] at h;simp at h;obtain⟨rfl,rfl⟩:=h;exact s_loadMat hS t x id k i off e xs y hx hb hy hf hop
     ·simp at h
    ·simp at h
   ·rename_i u e k' xs hb
    split at h
    ·rename_i hkk
     subst hkk
     split at h
     ·rename_i y hy
      cases hf:loadD P t (y.cells.drop off) with
      | none=>rw[hf] at h;simp at h
      | some d'=>rw[hf] at h;simp at h;obtain⟨rfl,rfl⟩:=h;exact s_loadRow hS t x id k i off e xs y _ (.inr ⟨u,rfl⟩) hx hb hy hf hop
     ·simp at h
    ·simp at h
   ·simp at h
  ·rename_i ds hx
   cases hf:loadD P t ds with
   | none=>rw[hf] at h;simp at h
   | some d'=>rw[hf] at h;simp at h;obtain⟨rfl,rfl⟩:=h;exact s_loadI hS t x ds hx hf hop
  ·simp at h
 case h_9 t x y =>
  split at h
  ·rename_i id off hx
   split at h
   ·rename_i pn cs hb
    split at h
    ·rename_i hc;obtain⟨c1,c2,c3⟩:=hc;simp at h;obtain⟨rfl,rfl⟩:=h;exact s_storeBox hS t x y id off pn cs hx hb c1 c2 c3 hop
    ·simp at h
   ·simp at h
  ·rename_i id k i off hx
   split at h
   ·simp at h
   rename_i bb hbb
   split at h
   ·rename_i eff' hm
    simp at h;obtain⟨rfl,rfl⟩:=h
    exact matS_sound hS t x y id k i off eff' bb hbb hx hm hop
   split at h
   ·rename_i x' ep hpur
    split at h
    ·rename_i e k' xs hb
     split at h
     ·rename_i y' hy
      split at h
      ·rename_i hc;obtain⟨rfl,c1,c2⟩:=hc;simp only[Option.some.injEq,Prod.mk.injEq] at h;obtain⟨rfl,rfl⟩:=h;exact s_storeVec hS t x y id k i off e xs y' x' ep hx hpur hb hy c1 c2 hop
      ·simp at h
     ·simp at h
    ·rename_i u e k' xs hb
     split at h
     ·rename_i y' hy
      split at h
      ·rename_i hc;obtain⟨rfl,c1,c2⟩:=hc;simp only[Option.some.injEq,Prod.mk.injEq] at h;obtain⟨rfl,rfl⟩:=h;exact s_storeRow hS t x y id k i off e xs y' x' ep hx hpur _ _ (.inr ⟨u,rfl,rfl⟩) hb hy c1 c2 hop
      ·simp at h
     ·simp at h
    ·simp at h
   ·simp at h
  ·simp at h
 case h_10 x =>
  split at h
  ·rename_i id off hx;simp at h;obtain⟨rfl,rfl⟩:=h;exact s_nilCheck hS x _ hx (.inl ⟨_,_,rfl⟩) hop
  ·rename_i id k i off hx;simp at h;obtain⟨rfl,rfl⟩:=h;exact s_nilCheck hS x _ hx (.inr (.inl ⟨_,_,_,_,rfl⟩)) hop
  ·rename_i ds hx;simp at h;obtain⟨rfl,rfl⟩:=h;exact s_nilCheck hS x _ hx (.inr (.inr (.inl ⟨_,rfl⟩))) hop
  ·rename_i f cs hx;simp at h;obtain⟨rfl,rfl⟩:=h;exact s_nilCheck hS x _ hx (.inr (.inr (.inr ⟨_,_,rfl⟩))) hop
  ·simp at h
 case h_11 bop t x y t' =>
  split at h
  ·rename_i k m k' n hx hy
   split at h
   ·rename_i hkk
    subst hkk
    cases hf:intOp bop k m n with
    | none=>rw[hf] at h;simp at h
    | some d'=>rw[hf] at h;simp at h;obtain⟨rfl,rfl⟩:=h;exact s_binInt hS bop t t' x y k m n hx hy hf hop
   ·cases hf:shOp bop k m n with
    | none=>rw[hf] at h;simp at h
    | some d'=>rw[hf] at h;simp at h;obtain⟨rfl,rfl⟩:=h;exact s_binShr hS bop t t' x y k k' m n hx hy hf hop
  ·rename_i m n hx hy
   cases hf:strOp bop m n with
   | none=>rw[hf] at h;simp at h
   | some d'=>rw[hf] at h;simp at h;obtain⟨rfl,rfl⟩:=h;exact s_binStr hS bop t t' x y m n hx hy hf hop
  ·rename_i m n hx hy
   split at h
   ·rename_i hk
    cases hf:eqR bop (some (m == n)) with
    | none=>rw[hf] at h;simp at h
    | some d'=>rw[hf] at h;simp at h;obtain⟨rfl,rfl⟩:=h;exact s_binBool hS bop t t' x y m n hx hy hk hf hop
   ·simp at h
  ·rename_i m n hx hy
   split at h
   ·rename_i ks hk
    cases hr:eqK ks m n with
    | none=>rw[hr] at h;simp[eqR] at h
    | some r =>
     rw[hr] at h
     cases hf:eqR bop (some r) with
     | none=>rw[hf] at h;simp at h
     | some d'=>rw[hf] at h;simp at h;obtain⟨rfl,rfl⟩:=h;exact s_binAgg hS bop t t' x y m n ks r hx hy hk hr hf hop
   ·simp at h
  ·rename_i m hx hy
   split at h
   ·rename_i hk
    simp only[Bool.and_eq_true] at hk
    cases hf:eqR bop (some !m) with
    | none=>rw[hf] at h;simp at h
    | some d'=>rw[hf] at h;simp at h;obtain⟨rfl,rfl⟩:=h;exact s_binErr hS bop t t' x y m hx hy hk.1 hk.2 hf hop
   ·simp at h
  ·rename_i id off hx hy
   split at h
   ·rename_i hk
    cases hf:eqR bop (some false) with
    | none=>rw[hf] at h;simp at h
    | some d'=>rw[hf] at h;simp at h;obtain⟨rfl,rfl⟩:=h;exact s_binPtr hS bop t t' x y id off hx hy hk hf hop
   ·simp at h
  ·simp at h
 case h_12 uop t x =>
  split at h
  ·rename_i b hx;simp at h;obtain⟨rfl,rfl⟩:=h;exact s_unNot hS x t b hx hop
  ·rename_i k n hx;simp only[Option.some.injEq,Prod.mk.injEq] at h;obtain⟨rfl,rfl⟩:=h;exact s_unNeg hS x t k n hx hop
  ·simp at h
 case h_13 src dst x =>
  split at h
  ·rename_i hsrc
   split at h
   ·rename_i k n hx
    split at h
    ·rename_i k' hk;simp at h;obtain⟨rfl,rfl⟩:=h;exact s_convInt hS src dst x k k' n hx hk (aggT_some hsrc) hop
    ·split at h
     ·rename_i hk;simp at h;obtain⟨rfl,rfl⟩:=h;exact s_convIntStr hS src dst x k n hx hk (aggT_some hsrc) hop
     ·simp at h
   ·rename_i s hx
    split at h
    ·rename_i hk;simp at h;obtain⟨rfl,rfl⟩:=h;exact s_convStr hS src dst x s hx hk (aggT_some hsrc) hop
    ·simp at h
   ·split at h
    ·rename_i hc
     simp only[Bool.and_eq_true] at hc
     split at h
     ·rename_i xs hxs
      cases hf:bytesD xs with
      | none=>rw[hf] at h;simp at h
      | some s=>rw[hf] at h;simp at h;obtain⟨rfl,rfl⟩:=h;exact s_convBytes hS src dst x xs s hxs hf hc.1 hc.2 hop
     ·simp at h
    ·simp at h
  ·simp at h
 case h_14 t x lo hi =>
  split at h
  ·rename_i s hx
   split at h
   ·rename_i ht
    split at h
    ·rename_i l hh hl hhh
     split at h
     ·rename_i hle;simp at h;obtain⟨rfl,rfl⟩:=h;exact s_sliceStr hS t x lo hi s l hh hx ht hl hhh hle hop
     ·simp at h
    ·simp at h
   ·simp at h
  ·rename_i xs hx
   split at h
   ·rename_i ht
    split at h
    ·rename_i l hh hl hhh
     split at h
     ·rename_i hle
      simp at h;obtain⟨rfl,rfl⟩:=h
      unfold slOk at ht
      refine s_sliceSl hS t x lo hi xs l hh hx (by revert ht;cases sliceT P t<;>simp) (fun e he=>?_) hl hhh hle hop
      rw[he] at ht
      simp at ht
      exact ht
     ·simp at h
    ·simp at h
   ·simp at h
  ·rename_i id n hx
   split at h
   ·rename_i e k xs pb hH
    split at h
    ·rename_i hc
     obtain⟨hn,ht⟩:=hc
     subst hn
     split at h
     ·rename_i l hh hl hhh
      split at h
      ·rename_i hle
       simp at h;obtain⟨rfl,rfl⟩:=h
       unfold slOk at ht
       refine s_sliceOwn hS t x lo hi id e k pb xs l hh hx hH (by revert ht;cases sliceT P t<;>simp) (fun e he=>?_) hl hhh hle hop
       rw[he] at ht
       simp at ht
       exact ht
      ·simp at h
     ·simp at h
    ·simp at h
   ·simp at h
  ·rename_i hx
   split at h
   ·rename_i ht
    split at h
    ·rename_i l hh hl hhh
     split at h
     ·rename_i hle;simp at h;obtain⟨rfl,rfl⟩:=h;exact s_sliceNils hS t x lo hi l hh hx ht hl hhh hle hop
     ·simp at h
    ·simp at h
   ·simp at h
  ·rename_i ds hx
   split at h
   ·rename_i hb
    simp only[Bool.and_eq_true,Option.isNone_iff_eq_none] at hb
    obtain⟨rfl,rfl⟩:=hb
    split at h
    ·rename_i len e he
     split at h
     ·rename_i hc
      simp at h
      obtain⟨rfl,rfl⟩:=h
      exact s_sliceI hS t e len x ds hx he hc.1 hc.2.1 hc.2.2.1 hc.2.2.2 hop
     ·simp at h
    ·simp at h
   ·simp at h
  ·simp at h
 case h_15 s x f =>
  split at h
  ·rename_i fo ft hf
   split at h
   ·simp at h
   ·rename_i hsz
    cases hn':szT P ft with
    | none=>exact absurd (.inr hn') hsz
    | some n =>
     have hn0:n≠0:=fun e=>hsz (.inl (by rw[hn',e]))
     split at h
     ·rename_i id off hx;simp at h;obtain⟨rfl,rfl⟩:=h;exact s_fieldAddr hS s x f fo ft n hf hn' hn0 _ hx (.inl ⟨_,_,rfl,rfl⟩) hop
     ·rename_i id k i off hx;simp at h;obtain⟨rfl,rfl⟩:=h;exact s_fieldAddr hS s x f fo ft n hf hn' hn0 _ hx (.inr (.inl ⟨_,_,_,_,rfl,rfl⟩)) hop
     ·rename_i ds hx;simp at h;obtain⟨rfl,rfl⟩:=h;exact s_fieldAddr hS s x f fo ft n hf hn' hn0 _ hx (.inr (.inr ⟨_,rfl,rfl⟩)) hop
     ·simp at h
  ·simp at h
 case h_16 s x f =>
  split at h
  ·rename_i fo ft ds hf hx
   cases hd:loadD P ft (ds.drop fo) with
   | none=>rw[hd] at h;simp at h
   | some d'=>rw[hd] at h;simp at h;obtain⟨rfl,rfl⟩:=h;exact s_field hS s x f fo ft hf ds hx hd hop
  ·simp at h
 case h_17 t x i =>
  split at h
  ·rename_i k n hi
   split at h
   ·rename_i xs hx
    split at h
    ·rename_i e he
     split at h
     ·rename_i sz y hsz hy
      split at h
      ·rename_i hyk
       split at hy
       ·rename_i h0;simp at h;obtain⟨rfl,rfl⟩:=h;exact s_indexAddrSl hS t e sz x i xs y k n hx hi h0 hy he hsz hyk hop
       ·simp at hy
      ·simp at h
     ·simp at h
    ·simp at h
   ·rename_i id m hx
    split at h
    ·rename_i e b he hb
     split at h
     ·rename_i sz hsz
      split at h
      ·rename_i hc;simp at h;obtain⟨rfl,rfl⟩:=h;exact s_indexAddrOwn hS t e sz x i id m k n b hx hi hc.1 hc.2 he hsz hb hop
      ·simp at h
     ·simp at h
    ·simp at h
   ·rename_i id off hx
    split at h
    ·rename_i len e he
     split at h
     ·rename_i sz hsz
      split at h
      ·rename_i hc;simp at h;obtain⟨rfl,rfl⟩:=h;exact s_indexAddrArr hS t e len sz x i id off k n hx hi hc.1 hc.2 he hsz hop
      ·simp at h
     ·simp at h
    ·simp at h
   ·rename_i ds hx
    split at h
    ·rename_i len e he
     split at h
     ·rename_i sz hsz
      split at h
      ·rename_i hc;simp at h;obtain⟨rfl,rfl⟩:=h;exact s_indexAddrI hS t e len sz x i ds k n hx hi hc.1 hc.2 he hsz hop
      ·simp at h
     ·simp at h
    ·simp at h
   ·simp at h
  ·simp at h
 case h_18 t x i =>
  split at h
  ·rename_i k n hi
   split at h
   ·rename_i s hx
    split at h
    ·rename_i ht
     split at h
     ·rename_i b hb
      split at hb
      ·rename_i h0;simp at h;obtain⟨rfl,rfl⟩:=h;exact s_indexStr hS t x i s k n b hx hi h0 hb ht hop
      ·simp at hb
     ·simp at h
    ·simp at h
   ·rename_i ds hx
    split at h
    ·rename_i len e he
     split at h
     ·rename_i sz hsz
      split at h
      ·rename_i hc
       cases hd:loadD P e (ds.drop (n.toNat * sz)) with
       | none=>rw[hd] at h;simp at h
       | some d'=>rw[hd] at h;simp at h;obtain⟨rfl,rfl⟩:=h;exact s_indexArr hS t e len sz x i ds k n hx hi hc.1 hc.2 he hsz hd hop
      ·simp at h
     ·simp at h
    ·simp at h
   ·simp at h
  ·simp at h
 case h_19 t i =>
  split at h
  ·rename_i ds hx
   cases hd:ds[i]? with
   | none=>rw[hd] at h;simp at h
   | some d'=>rw[hd] at h;simp at h;obtain⟨rfl,rfl⟩:=h;exact s_extract hS t i ds hx hd hop
  ·simp at h
 case h_20 t l c =>
  split at h
  ·rename_i k1 n k2 m hl hc
   split at h
   ·rename_i e he
    split at h
    ·rename_i k by_ z hk hb hz
     split at h
     ·rename_i z' hp
      split at h
      ·rename_i hcd
       obtain⟨rfl,h0,hm,hby,hzo,hzl,hzl'⟩:=hcd
       simp at h;obtain⟨rfl,rfl⟩:=h
       exact s_makeSlice hS hn t e k by_ l c k1 k2 n z z' hl hc he hk hb hz hp h0 hm hby hzo hzl hzl' hop
      ·simp at h
     ·simp at h
    ·simp at h
   ·simp at h
  ·simp at h
 case h_21 c=>exact abuiltin_sound hS hn c h hop
 case h_22 f cs =>
  simp only[Option.some.injEq,Prod.mk.injEq] at h;obtain⟨rfl,rfl⟩:=h;exact s_makeFunc hS f cs hop
 case h_23 t x =>
  split at h
  ·rename_i s hx
   split at h
   ·rename_i ht;simp at h;obtain⟨rfl,rfl⟩:=h;exact s_range hS hn t x s hx ht hop
   ·simp at h
  ·simp at h
 case h_24 it =>
  split at h
  ·rename_i id hx
   split at h
   ·rename_i s pos hb
    split at h
    ·rename_i hp;simp at h;obtain⟨rfl,rfl⟩:=h;exact s_next hS it id s pos hx hb hp hop
    ·rename_i hp;simp at h;obtain⟨rfl,rfl⟩:=h;exact s_nextEnd hS it id s pos hx hb hp hop
   ·simp at h
  ·simp at h
 case h_25 t r =>
  split at h
  ·rename_i k e ht hr;simp at h;obtain⟨rfl,rfl⟩:=h;exact s_makeMap hS hn t e k r ht hr hop
  ·simp at h
 case h_26 t x i ok =>
  split at h
  ·rename_i k e k' n k'' ks vs ht hi hx
   split at h
   ·rename_i hc
    obtain⟨rfl,rfl⟩:=hc
    split at h
    ·rename_i z hz;simp only[Option.some.injEq,Prod.mk.injEq] at h;obtain⟨rfl,rfl⟩:=h;exact s_lookup hS t e x i ok k n ks vs z ht hi hx hz hop
    ·simp at h
   ·simp at h
  ·simp at h
 case h_27 t m i x =>
  split at h
  ·rename_i k e id k' n v' ep ht hm hi hpur
   split at h
   ·rename_i k'' ks vs hb
    split at h
    ·rename_i hc
     obtain⟨rfl,rfl⟩:=hc
     simp only[Option.some.injEq,Prod.mk.injEq] at h;obtain⟨rfl,rfl⟩:=h
     exact s_mapUpdate hS t e m i x id k n ks vs v' ep ht hm hi hpur hb hop
    ·simp at h
   ·simp at h
  ·simp at h
 case h_28=>simp at h
end
def enterable(P:Program)(f:FuncId):Bool:=match P.funcs[f]? with
 | some fn=>fn.name != "runtime.NumGoroutine" && fn.body.isSome
 | none=>false
def AFun (P:Program)(I:World→Prop)(f:FuncId)(ds:List D)(r:D):Prop :=
 enterable P f=true∧∀ (w:World) (F:Nat→Nat→Prop) (args:List Value),I w→FB (cF F) w→args.length=ds.length→(∀ (i:Nat) v d,args[i]? = some v→ds[i]? = some d→Rep w (cF F) v d) →
  Calls P f args.toArray w fun e w'=>∃ v F',e=.returned v∧Below w.heap.size w w'∧Ext (cF F) w (cF F') w'∧FB (cF F') w'∧(∀ b o,F' b o→F b o∨w.heap.size≤b)∧Rep w' (cF F') v r
def Stab (I:World→Prop):Prop:=∀ w w',I w→Below w.heap.size w w'→I w'
structure Gh where
 i0:World
 w0:World
 F0:Nat→Nat→Prop
 B:Bx
 hM:∀ k,B.M k→i0.heap.size≤k
 bI:Below i0.heap.size i0 w0
def Gh.top(w:World)(F:Nat→Nat→Prop):Gh:=⟨w,w,F,⟨fun k=>w.heap.size≤k,fun _=>Go.undef⟩,fun _ h=>h,Below.refl _ _⟩
structure Rel(I:World→Prop)(G:Gh)(L:Nat→Prop)(S:AS)(C:Cx)(a:Act)(w:World):Prop where
 ok:StOK C w a G.B S
 inv:I G.i0
 below:BelM G.B.M G.w0 w
 new:∀ b o,C.F b o→G.F0 b o∨G.B.M b
 ext:Ext (cF G.F0) G.w0 C w
 defers:a.defers=[]
 size:a.tmps.size=S.nt
 live:∀ id,C.live id→L id
theorem Rel.belI{I:World→Prop}{G:Gh}{L:Nat→Prop}{S:AS}{C:Cx}{a:Act}{w:World}(h:Rel I G L S C a w):Below G.i0.heap.size G.i0 w :=
 ⟨h.below.os.trans G.bI.os,h.below.tape.trans G.bI.tape,h.below.output.trans G.bI.output,Nat.le_trans G.bI.size h.below.size,fun k hk =>
  (h.below.block k (Nat.lt_of_lt_of_le hk G.bI.size) (fun hm=>by have:=G.hM k hm;omega)).trans (G.bI.block k hk)⟩
def AS.step(S:AS)(o:Oper)(d:D)(eff:Eff):AS :=
 { S with env:=(match o.dst with|some t=>upd S.env t d|none=>S.env),heap:=appEff S.heap eff }
def gdst (ops:Array Oper)(j:Nat):Option Tmp:=match ops[j]? with
 | some o=>o.dst
 | none=>none
def awant(ops:Array Oper)(env:Nat→D)(o:Oper):Option Bool :=
 match o.guard with
 | none=>some true
 | some (j,want)=>match gdst ops j with
  | none=>some false
  | some t=>match env t with
   | .bool b=>some (if want then b else !b)
   | .undef=>some false
   | _=>none
def capOk:D→Bool
 | .agg _|.tup _|.fn _ _=>false
 | _=>true
def acallee(S:AS):Op→Option (FuncId × List D)
 | .call c=>match c.callee with
  | .value f=>match S.val f with
   | .fn g cs=>if cs.all capOk=true then some (g,c.args.toList.map S.val++cs) else none
   | _=>none
  | _=>none
 | _=>none
def dstsOk(ops:Array Oper)(nt:Nat):Bool:=ops.toList.all fun o=>match o.dst with
 | some t=>decide (t < nt)
 | none=>true
def ArgX (H:Nat→Option Blk)(ds ds':List D)(ep:Eff):Prop:=purXs H ds=some (ds',ep)∨(ds'=ds∧ep=[])
theorem ArgX_sound{w:World}{B:Bx}{ds:List D}{vs:List Value}{C:Cx}{H:Nat→Option Blk}{ds':List D}{ep:Eff}(hH:HOK C w B H)(hF:FB C w)(hl:vs.length=ds.length)(hR:∀ (i:Nat) v d,vs[i]? = some v→ds[i]? = some d→Rep w C v d)(h:ArgX H ds ds' ep) :
  ∃ C',Pub C w B H C' (appEff H ep)∧vs.length=ds'.length∧∀ (i:Nat) v d,vs[i]? = some v→ds'[i]? = some d→Rep w C' v d:=by
 rcases h with h|⟨rfl,rfl⟩
 ·exact purXs_sound ds vs C H ds' ep hH hF hl hR h
 ·exact⟨C,Pub.refl hH hF,hl,hR⟩
def CallOK(P:Program)(I:World→Prop)(f:FuncId)(ds:List D)(H:Nat→Option Blk)(nid:Nat)(d:D)(eff:Eff):Prop :=
 enterable P f=true∧∀ (i0 w:World) (C:Cx) (B:Bx) (args:List Value),I i0→Below i0.heap.size i0 w→(∀ k,B.M k→i0.heap.size≤k)→HOK C w B H→FB C w→(∀ g,w.heap.size≤g→B.M g)→¬ C.live nid→args.length=ds.length →
  (∀ (i:Nat) v d,args[i]? = some v→ds[i]? = some d→Rep w C v d) →
  Calls P f args.toArray w fun e w'=>∃ v C',e=.returned v∧BelM B.M w w'∧Ext C w C' w'∧Rep w' C' v d∧HOK C' w' B (appEff H eff)∧FB C' w'∧(∀ id,C'.live id→C.live id∨id=nid)∧∀ b o,C'.F b o→C.F b o∨B.M b
def awpO (P:Program)(I:World→Prop)(ops:Array Oper)(i:Nat)(o:Oper)(S:AS)(K:AS→Prop):Prop :=
 match awant ops S.env o with
  | some r=>if r=true then(match acallee S o.op with
   | some (f,ds)=>(match purDs S.heap ds with
    | some (ds',eff)=>∃ d,AFun P I f ds' d∧K (S.step o d eff)
    | none=>False)∨(∃ ds' ep d eff,ArgX S.heap ds ds' ep∧CallOK P I f ds' (appEff S.heap ep) (S.next+i) d eff∧K (S.step o d (ep++eff)))
   | none=>match aop P o.op (S.next+i) S with
    | some (d,eff)=>K (S.step o d eff)
    | none=>False) else K (S.step o .undef [])
  | none=>False
def awpL (P:Program)(I:World→Prop)(ops:Array Oper):List Oper→Nat→AS→(AS→Prop)→Prop
 | [],i,S,K=>K { S with next:=S.next+i }
 | o::rest,i,S,K=>awpO P I ops i o S fun S'=>awpL P I ops rest (i+1) S' K
section
variable {P:Program}{I:World→Prop}{G:Gh}{L:Nat→Prop}{S:AS}{C:Cx}{a:Act}{w:World}{ops:Array Oper}{Q:Exit→Act→World→Prop}
theorem dstsOk_at{nt j t:Nat}(hd:dstsOk ops nt=true)(hj:(ops[j]?).bind (fun o:Oper=>o.dst)=some t):t < nt:=by
 cases ho:ops[j]? with
 | none=>rw[ho] at hj;simp at hj
 | some o =>
  rw[ho] at hj
  simp at hj
  have hm:o ∈ ops.toList:=by simpa using Array.mem_of_getElem? ho
  have:=List.all_eq_true.1 hd o hm
  rw[hj] at this
  simpa using this
theorem yielded_rep{t:Nat}{env:Nat→D}(hE:EnvOK C w a env)(hs:t < a.tmps.size){want r:Bool}(h:(match env t with|.bool b=>some (if want then b else !b)|.undef=>some false|_=>none)=some r) :
  ((match a.tmps[t]? with|some (.bool b)=>some b|_=>none:Option Bool) == some want)=r:=by
 have hr:=hE t
 have hv:a.tmps[t]? = some (a.tmps.getD t Go.undef):=by simp[Array.getD,hs]
 rw[hv]
 generalize a.tmps.getD t Go.undef=v at hr
 generalize env t=d at hr h
 cases hr<;>simp at h
 ·subst h;rfl
 ·subst h;cases want<;>rename_i b<;>cases b<;>rfl
theorem wanted_rep(hR:Rel I G L S C a w){o:Oper}{r:Bool}(hd:dstsOk ops S.nt=true)(h:awant ops S.env o=some r):Region.wanted o (yielded ops a.tmps)=r:=by
 unfold awant at h
 unfold Region.wanted
 cases hg:o.guard with
 | none=>rw[hg] at h;simpa using h
 | some jw =>
  obtain⟨j,want⟩:=jw
  rw[hg] at h
  simp only at h ⊢
  unfold yielded
  have hgd:gdst ops j=(ops[j]?).bind (fun o:Oper=>o.dst):=by unfold gdst;cases ops[j]?<;>rfl
  rw[hgd] at h
  cases hj:(ops[j]?).bind (fun o:Oper=>o.dst) with
  | none=>rw[hj] at h;simp at h;subst h;simp
  | some t =>
   rw[hj] at h
   simp only[Option.bind_some] at h ⊢
   exact yielded_rep hR.ok.env (by rw[hR.size];exact dstsOk_at hd hj) h
theorem EnvOK.put{C':Cx}{w':World}{o:Oper}{v:Value}{d:D}{env:Nat→D}(hE:EnvOK C w a env)(e:Ext C w C' w')(hr:Rep w' C' v d)(hd:∀ t,o.dst=some t→t < a.tmps.size):EnvOK C' w' (a.put o.dst v) (match o.dst with|some t=>upd env t d|none=>env):=by
 intro t
 cases hdst:o.dst with
 | none=>exact(hE t).ext e
 | some t' =>
  have hlt:=hd t' hdst
  simp only[Act.put,upd]
  by_cases ht:t=t'
  ·subst ht
   simp only[if_true]
   simpa[Array.getD,hlt] using hr
  ·simp only[ht,if_false]
   have:(a.tmps.setIfInBounds t' v).getD t Go.undef=a.tmps.getD t Go.undef:=by
    simp[Array.getD_eq_getD_getElem?,Array.getElem?_setIfInBounds,Ne.symm ht]
   rw[this]
   exact(hE t).ext e
theorem put_size{o:Oper}{v:Value}:(a.put o.dst v).tmps.size=a.tmps.size:=by cases h:o.dst<;>simp[Act.put]
theorem put_defers{o:Oper}{v:Value}:(a.put o.dst v).defers=a.defers:=by cases h:o.dst<;>simp[Act.put]
theorem Rel.next{C':Cx}{w':World}{o:Oper}{v:Value}{d:D}{eff:Eff}{L':Nat→Prop}(hR:Rel I G L S C a w)(hb:BelM G.B.M w w')(e:Ext C w C' w')(hr:Rep w' C' v d)(hH:HOK C' w' G.B (appEff S.heap eff))(hF:FB C' w')
  (hn:∀ b o,C'.F b o→C.F b o∨G.B.M b) (hl:∀ id,C'.live id→L' id) (hd:∀ t,o.dst=some t→t < a.tmps.size):Rel I G L' (S.step o d eff) C' (a.put o.dst v) w' where
 ok:=⟨hR.ok.env.put e hr hd,hH,hF,fun g hg=>hR.ok.base g (Nat.le_trans hb.size hg)⟩
 inv:=hR.inv
 below:=hR.below.trans hb
 new:=fun b o h=>(hn b o h).elim (hR.new b o) .inr
 ext:=hR.ext.trans e
 defers:=by rw[put_defers];exact hR.defers
 size:=by rw[put_size];exact hR.size
 live:=hl
theorem rep_args{ds:List D}{C:Cx}{xs:List Operand}(hE:EnvOK C w a S.env)(h:xs.map S.val=ds):∀ (i:Nat) v d,(xs.map a.eval)[i]? = some v→ds[i]? = some d→Rep w C v d:=by
 subst h
 intro i v d hv hd
 simp only[List.getElem?_map] at hv hd
 cases hi:xs[i]? with
 | none=>rw[hi] at hv;simp at hv
 | some r=>rw[hi] at hv hd;simp at hv hd;subst hv hd;exact hE.val _
theorem callee_run{o:Oper}{f:FuncId}{ds:List D}(hE:EnvOK C w a S.env)(hc:acallee S o.op=some (f,ds))(he:enterable P f=true) :
  ∃ vs:List Value,(execOp a.eval o).run P w=.ok (.enter f vs.toArray) w∧vs.length=ds.length∧∀ (i:Nat) v d,vs[i]? = some v→ds[i]? = some d→Rep w C v d:=by
 unfold acallee at hc
 split at hc
 ·rename_i c hop
  split at hc
  ·rename_i x hcal
   split at hc
   ·rename_i g cs hx
    split at hc
    case isFalse=>simp at hc
    simp only[Option.some.injEq,Prod.mk.injEq] at hc
    obtain⟨rfl,hds⟩:=hc
    have hxr:=hE.val x
    rw[hx] at hxr
    generalize hv:a.eval x=v at hxr
    cases hxr with
    | fn _ vs _ hl hcs =>
     refine⟨c.args.toList.map a.eval++vs,?_,?_,?_⟩
     ·unfold enterable at he
      cases hf:P.funcs[g]? with
      | none=>rw[hf] at he;simp at he
      | some fn =>
       rw[hf] at he
       simp at he
       have hb:fn.body.isNone=false:=by cases h:fn.body<;>simp_all
       have harr:(c.args.toList.map a.eval++vs).toArray=c.args.map a.eval++vs.toArray:=by apply Array.ext';simp
       rw[harr]
       simp[execOp,hop,resolve,hcal,hv,Deferred.ofValue,invoke,callFunc,hf,he.1]
       intro h
       simp[h] at hb
     ·rw[← hds];simp[hl]
     ·subst hds
      intro i v d hv hd
      by_cases hi:i < (c.args.toList.map a.eval).length
      ·rw[List.getElem?_append_left hi] at hv
       rw[List.getElem?_append_left (by simpa using hi)] at hd
       exact rep_args hE rfl i v d hv hd
      ·rw[List.getElem?_append_right (by omega)] at hv
       rw[List.getElem?_append_right (by simpa using hi)] at hd
       simp only[List.length_map] at hv hd
       exact hcs _ v d hv hd
   ·simp at hc
  ·simp at hc
 ·simp at hc
theorem awpO_sound(hstab:Stab I)(hR:Rel I G L S C a w)(hd:dstsOk ops S.nt=true){i:Nat}{o:Oper}(ho:ops[i]? = some o)(hn:¬ L (S.next+i)){K:AS→Prop}(h:awpO P I ops i o S K){K':Act→World→Prop}
  (hK:∀ S' C' a' w',K S'→S'.nt=S.nt→S'.next=S.next→Rel I G (fun id=>L id∨id=S.next+i) S' C' a' w'→K' a' w'):wpOp P ops Q i K' a w:=by
 have hdst:∀ t,o.dst=some t→t < a.tmps.size:=fun t ht=>by rw[hR.size];exact dstsOk_at hd (j:=i) (by rw[ho];simpa using ht)
 unfold awpO at h
 unfold wpOp
 rw[ho]
 simp only
 cases hw:awant ops S.env o with
 | none=>rw[hw] at h;exact h.elim
 | some r =>
  rw[hw] at h
  rw[wanted_rep hR hd hw]
  cases r with
  | false =>
   simp only[Bool.false_eq_true,if_false] at h ⊢
   exact hK _ C _ w h rfl rfl (hR.next (BelM.refl _ _) (Ext.refl _ _) .undef hR.ok.heap hR.ok.fb (fun _ _ h=>.inl h) (fun id h=>.inl (hR.live id h)) hdst)
  | true =>
   simp only[if_true] at h ⊢
   left
   cases hc:acallee S o.op with
   | some fds =>
    obtain⟨f,ds⟩:=fds
    rw[hc] at h
    simp only at h
    rcases h with h|h
    case inr =>
     obtain⟨ds',ep,d,eff,hx,⟨hent,hA⟩,hk⟩:=h
     obtain⟨vs,hrun,hvl0,hvr0⟩:=callee_run (w:=w) hR.ok.env hc hent
     obtain⟨C1,hP,hvl,hvr⟩:=ArgX_sound (w:=w) (B:=G.B) hR.ok.heap hR.ok.fb hvl0 hvr0 hx
     unfold Oper.wp
     rw[hrun]
     simp only[Oper.upon]
     refine(hA G.i0 w C1 G.B vs hR.inv hR.belI G.hM hP.ok hP.fb hR.ok.base (fun hl=>hn (hR.live _ (by rw[← hP.live];exact hl))) hvl hvr).mono ?_
     rintro e w' ⟨v,C',rfl,hb,hext,hrep,hH,hfb,hl,hnew⟩
     refine hK _ C' _ w' hk rfl rfl (hR.next (o:=o) (L':=fun id=>L id∨id=S.next+i) hb (hP.ext.trans hext) hrep (by rw[appEff_append];exact hH) hfb (fun b o h=>(hnew b o h).elim (hP.new b o) .inr) (fun id h=>(hl id h).elim (fun h=>.inl (hR.live id (by rw[← hP.live];exact h))) .inr) hdst)
    cases hp:purDs S.heap ds with
    | none=>rw[hp] at h;exact h.elim
    | some p =>
     obtain⟨ds',eff⟩:=p
     rw[hp] at h
     obtain⟨d,⟨hent,hA⟩,hk⟩:=h
     obtain⟨vs,hrun,hvl0,hvr0⟩:=callee_run (w:=w) hR.ok.env hc hent
     obtain⟨C1,hP,hvl,hvr⟩:=purDs_sound (w:=w) (B:=G.B) ds vs C S.heap ds' eff hR.ok.heap hR.ok.fb hvl0 hvr0 hp
     have hI:I w:=hstab _ _ hR.inv hR.belI
     unfold Oper.wp
     rw[hrun]
     simp only[Oper.upon]
     refine(hA w C1.F vs hI hP.fb hvl (fun i v d hv hd=>(hvr i v d hv hd).1)).mono ?_
     rintro e w' ⟨v,F',rfl,hb,hext,hfb,hnew,hrep⟩
     -- the context behind the call
     let C2:Cx:=⟨F',C1.σ,C1.live⟩
     have he2:Ext C1 w C2 w':=⟨hext.F,hext.blk,fun _ h=>h,fun _ _=>rfl⟩
     have hH2:HOK C2 w' G.B (appEff S.heap eff):=by
      refine⟨fun id b h=>?_,hP.ok.own,hP.ok.pin,fun id id' b b' h h' hne g hg hg'=>hP.ok.apart id id' b b' h h' hne g hg hg'⟩
      obtain⟨k1,k2⟩:=hP.ok.rep id b h
      refine⟨k1,k2.keep k1 he2 (fun g hg=>hb.block g (k2.lt g hg).2) (fun g o hg ho=>?_)⟩
      rcases hnew g o ho with h1|h1
      ·exact h1
      ·have:=(k2.lt g hg).2;omega
     refine hK _ C2 _ w' hk rfl rfl (hR.next (BelM.of hb) (hP.ext.trans he2) (hrep.ext ⟨fun _ _ h=>h,fun _ _ _=>rfl,fun _ h=>h.elim,fun _ h=>h.elim⟩) hH2 hfb (fun b o h=>?_) (fun id h=>.inl (hR.live id (by have:C1.live id:=h;rwa[hP.live] at this))) hdst)
     rcases hnew b o h with h1|h1
     ·exact hP.new b o h1
     ·exact .inr (hR.ok.base b h1)
   | none =>
    rw[hc] at h
    cases hp:aop P o.op (S.next+i) S with
    | none=>rw[hp] at h;exact h.elim
    | some p =>
     obtain⟨d,eff⟩:=p
     rw[hp] at h
     obtain⟨nx,v,w',C',hrun,hnx,hb,hext,hrep,hH,hfb,hl,hnew⟩:=aop_sound (P:=P) hR.ok (fun hl=>hn (hR.live _ hl)) hp
     unfold Oper.wp
     rw[hrun]
     have hrel:=hR.next (o:=o) (L':=fun id=>L id∨id=S.next+i) hb hext hrep hH hfb hnew (fun id h=>(hl id h).elim (fun h=>.inl (hR.live id h)) .inr) hdst
     rcases hnx with rfl|⟨rfl,rfl⟩
     ·exact hK _ C' _ w' h rfl rfl hrel
     ·exact hK _ C' _ w' h rfl rfl hrel
theorem awpL_sound(hstab:Stab I)(hd:dstsOk ops S.nt=true)(n0 nt:Nat):∀ (rest:List Oper) (i:Nat) (S:AS) (C:Cx) (a:Act) (w:World) (K:AS→Prop),ops.toList.drop i=rest→S.nt=nt→dstsOk ops nt=true→S.next=n0→Rel I G (fun id=>id < n0+i) S C a w→awpL P I ops rest i S K →
  (∀ S' C' a' w',K S'→S'.nt=nt→Rel I G (fun id=>id < S'.next) S' C' a' w'→Q .normal a' w')→wpOps P ops Q (List.range' i rest.length) a w:=by
 intro rest
 induction rest with
 | nil =>
  intro i S C a w K _ hnt _ hn0 hR h hK
  simp only[awpL] at h
  simp only[List.length_nil,List.range'_zero,wpOps]
  refine hK _ C a w h hnt ?_
  rw[hn0]
  exact⟨⟨hR.ok.env,hR.ok.heap,hR.ok.fb,hR.ok.base⟩,hR.inv,hR.below,hR.new,hR.ext,hR.defers,hR.size,hR.live⟩
 | cons o rest ih =>
  intro i S C a w K hdrop hnt hdk hn0 hR h hK
  have hoi:ops[i]? = some o:=by
   have:(ops.toList.drop i)[0]? = some o:=by rw[hdrop];rfl
   simpa using this
  have hdrop':ops.toList.drop (i+1)=rest:=by
   rw[← List.drop_drop,hdrop];rfl
  simp only[awpL] at h
  rw[List.length_cons,List.range'_succ,wpOps_cons]
  refine awpO_sound hstab hR (by rw[hnt];exact hdk) hoi (by rw[hn0];omega) h ?_
  intro S' C' a' w' hk hnt' hnx hR'
  refine ih (i+1) S' C' a' w' K hdrop' (hnt'.trans hnt) hdk (hnx.trans hn0) ⟨hR'.ok,hR'.inv,hR'.below,hR'.new,hR'.ext,hR'.defers,hR'.size,fun id hl=>?_⟩ hk hK
  have:=hR'.live id hl
  rw[hn0] at this
  omega
end
inductive AExit where
 | normal
 | exit (id:Nat)
 | ret
 | goto (l:Nat)
def Wk (S S':AS):Prop:=S'.nt=S.nt∧∀ I G C a w,Rel I G (fun id=>id < S.next) S C a w→∃ C',Rel I G (fun id=>id < S'.next) S' C' a w
theorem Wk.refl(S:AS):Wk S S:=⟨rfl,fun _ _ C _ _ h=>⟨C,h⟩⟩
def awpD (P:Program)(I:World→Prop)(ops:Array Oper)(S:AS)(K:AS→Prop):Prop :=
 dstsOk ops S.nt=true→∀ G C a w,Rel I G (fun id=>id < S.next) S C a w→∀ (Q:Exit→Act→World→Prop) rid,(∀ S' C' a' w',K S'→S'.nt=S.nt→Rel I G (fun id=>id < S'.next) S' C' a' w'→Q .normal a' w')→(Code.region rid ops true).wp P Q a w
def awpLoop(body:AS→(AExit→AS→Prop)→Prop)(S:AS)(Q:AExit→AS→Prop):Prop :=
 ∃ (Inv:AS→Nat→Prop),(∃ S0 n,Wk S S0∧Inv S0 n)∧∀ S' n,Inv S' n→S'.nt=S.nt→body S' fun e S''=>match e with
  | .normal=>∃ S3 m,m < n∧Wk S'' S3∧Inv S3 m
  | e=>Q e S''
def awp (P:Program)(I:World→Prop):Code→AS→(AExit→AS→Prop)→Prop
 | .skip,S,Q=>Q .normal S
 | .label _,S,Q=>Q .normal S
 | .region _ ops false,S,Q=>awpL P I ops ops.toList 0 S (Q .normal)
 | .region _ ops true,S,Q=>awpD P I ops S (Q .normal)
 | .seq x y,S,Q=>awp P I x S fun e S'=>match e with
  | .normal=>awp P I y S' Q
  | e=>Q e S'
 | .cond c x y,S,Q=>match S.val c with
  | .bool b=>if b then awp P I x S Q else awp P I y S Q
  | _=>False
 | .block id c,S,Q=>awp P I c S fun e S'=>match e with
  | .exit id'=>if id'=id then Q .normal S' else Q (.exit id') S'
  | e=>Q e S'
 | .exit id,S,Q=>Q (.exit id) S
 | .ret,S,Q=>Q .ret S
 | .loop c,S,Q=>awpLoop (awp P I c) S Q
 | _,_,_=>False
def codeOk(nt:Nat):Code→Bool
 | .region _ ops _=>dstsOk ops nt
 | .seq x y|.cond _ x y=>codeOk nt x&&codeOk nt y
 | .block _ c|.loop c|.scope c=>codeOk nt c
 | _=>true
section
variable {P:Program}{I:World→Prop}
theorem awpO_mono{ops:Array Oper}{i:Nat}{o:Oper}{S:AS}{K K':AS→Prop}(hK:∀ S,K S→K' S)(h:awpO P I ops i o S K):awpO P I ops i o S K':=by
 unfold awpO at *
 cases hw:awant ops S.env o with
 | none=>rw[hw] at h;exact h.elim
 | some r =>
  simp only[hw] at h ⊢
  split
  ·rename_i hc
   rw[if_pos hc] at h
   cases hcal:acallee S o.op with
   | some fds =>
    obtain⟨f,ds⟩:=fds
    simp only[hcal] at h ⊢
    rcases h with h|h
    ·left
     cases hp:purDs S.heap ds with
     | none=>simp only[hp] at h
     | some p =>
      obtain⟨ds',eff⟩:=p
      simp only[hp] at h ⊢
      obtain⟨d,h1,h2⟩:=h
      exact⟨d,h1,hK _ h2⟩
    ·right
     obtain⟨ds',ep,d,eff,h0,h1,h2⟩:=h
     exact⟨ds',ep,d,eff,h0,h1,hK _ h2⟩
   | none =>
    simp only[hcal] at h ⊢
    cases hp:aop P o.op (S.next+i) S with
    | none=>simp only[hp] at h
    | some p =>
     obtain⟨d,eff⟩:=p
     simp only[hp] at h ⊢
     exact hK _ h
  ·rename_i hc
   rw[if_neg hc] at h
   exact hK _ h
theorem awpL_mono{ops:Array Oper}:∀ (l:List Oper) (i:Nat) (S:AS) (K K':AS→Prop),(∀ S,K S→K' S)→awpL P I ops l i S K→awpL P I ops l i S K'
 | [],_,_,_,_,hK,h=>hK _ h
 | _::l,i,_,_,_,hK,h=>awpO_mono (fun S' h'=>awpL_mono l (i+1) S' _ _ hK h') h
theorem awp_mono:∀ (c:Code) (S:AS) (Q Q':AExit→AS→Prop),(∀ e S,Q e S→Q' e S)→awp P I c S Q→awp P I c S Q':=by
 intro c
 induction c with
 | skip=>intro S Q Q' hq h;exact hq _ _ h
 | label l=>intro S Q Q' hq h;exact hq _ _ h
 | region id ops dr =>
  intro S Q Q' hq h
  cases dr with
  | false=>exact awpL_mono _ _ _ _ _ (fun S' h'=>hq _ _ h') h
  | true=>exact fun hd G C a w hR Q0 rid hK=>h hd G C a w hR Q0 rid fun S' C' a' w' hk=>hK S' C' a' w' (hq _ _ hk)
 | seq x y ihx ihy =>
  intro S Q Q' hq h
  simp only[awp] at h ⊢
  refine ihx _ _ _ ?_ h
  intro e S' h'
  cases e with
  | normal=>exact ihy _ _ _ hq h'
  | exit id=>exact hq _ _ h'
  | ret=>exact hq _ _ h'
  | goto l=>exact hq _ _ h'
 | cond c x y ihx ihy =>
  intro S Q Q' hq h
  simp only[awp] at h ⊢
  cases hv:S.val c<;>rw[hv] at h<;>simp only at h ⊢
  split
  ·rename_i hb;rw[if_pos hb] at h;exact ihx _ _ _ hq h
  ·rename_i hb;rw[if_neg hb] at h;exact ihy _ _ _ hq h
 | block id c ih =>
  intro S Q Q' hq h
  simp only[awp] at h ⊢
  refine ih _ _ _ ?_ h
  intro e S' h'
  cases e with
  | normal=>exact hq _ _ h'
  | exit id' =>
   simp only at h' ⊢
   split
   ·rename_i he;rw[if_pos he] at h';exact hq _ _ h'
   ·rename_i he;rw[if_neg he] at h';exact hq _ _ h'
  | ret=>exact hq _ _ h'
  | goto l=>exact hq _ _ h'
 | loop c ih =>
  intro S Q Q' hq h
  simp only[awp] at h ⊢
  obtain⟨Inv,h0,h1⟩:=h
  refine⟨Inv,h0,fun S' n hi hnt=>ih _ _ _ ?_ (h1 S' n hi hnt)⟩
  intro e S'' h'
  cases e with
  | normal=>exact h'
  | exit id=>exact hq _ _ h'
  | ret=>exact hq _ _ h'
  | goto l=>exact hq _ _ h'
 | exit id=>intro S Q Q' hq h;exact hq _ _ h
 | ret=>intro S Q Q' hq h;exact hq _ _ h
 | rangeFunc f ps x y ihx ihy=>intro S Q Q' hq h;exact h.elim
 | scope b ih=>intro S Q Q' hq h;exact h.elim
 | goto l=>intro S Q Q' hq h;exact h.elim
 | refuse why=>intro S Q Q' hq h;exact h.elim
def XRel (I:World→Prop)(G:Gh)(nt:Nat)(Q:AExit→AS→Prop)(e:Exit)(a:Act)(w:World):Prop :=
 ∃ S C,S.nt=nt∧Rel I G (fun id=>id < S.next) S C a w∧match e with
  | .normal=>Q .normal S
  | .exit id=>Q (.exit id) S
  | .ret=>Q .ret S
  | .goto l=>Q (.goto l) S
  | _=>False
theorem awp_sound(hstab:Stab I):∀ (c:Code) (S:AS) (Q:AExit→AS→Prop) (G:Gh) (C:Cx) (a:Act) (w:World),codeOk S.nt c=true→awp P I c S Q→Rel I G (fun id=>id < S.next) S C a w→c.wp P (XRel I G S.nt Q) a w:=by
 intro c
 induction c with
 | skip=>intro S Q G C a w hok h hR;exact wp_skip ⟨S,C,rfl,hR,h⟩
 | label l=>intro S Q G C a w hok h hR;exact wp_label ⟨S,C,rfl,hR,h⟩
 | region id ops dr =>
  intro S Q G C a w hok h hR
  cases dr with
  | false =>
   simp only[awp] at h
   refine wp_region ?_
   have:=awpL_sound (Q:=XRel I G S.nt Q) hstab hok S.next S.nt ops.toList 0 S C a w (Q .normal) (by simp) rfl hok rfl hR h (fun S' C' a' w' hk hnt hr=>⟨S',C',hnt,hr,hk⟩)
   rw[List.range_eq_range']
   simpa using this
  | true =>
   simp only[awp] at h
   exact h hok G C a w hR (XRel I G S.nt Q) id fun S' C' a' w' hk hnt hr=>⟨S',C',hnt,hr,hk⟩
 | seq x y ihx ihy =>
  intro S Q G C a w hok h hR
  simp only[awp] at h
  simp only[codeOk,Bool.and_eq_true] at hok
  refine wp_seq (wp_mono (ihx S _ G C a w hok.1 h hR) ?_)
  rintro e a' w' ⟨S',C',hnt,hR',hq⟩
  cases e with
  | normal=>simp only[Exit.then];have:=ihy S' Q G C' a' w' (by rw[hnt];exact hok.2) hq hR';rw[hnt] at this;exact this
  | exit id=>exact⟨S',C',hnt,hR',hq⟩
  | ret=>exact⟨S',C',hnt,hR',hq⟩
  | goto l=>exact⟨S',C',hnt,hR',hq⟩
  | panic ch=>exact hq.elim
  | outgrown=>exact hq.elim
 | cond c x y ihx ihy =>
  intro S Q G C a w hok h hR
  simp only[awp] at h
  have hc:=hR.ok.env.val c
  cases hv:S.val c<;>rw[hv] at h hc<;>simp only at h
  rename_i b
  generalize hu:a.eval c=u at hc
  cases hc
  refine wp_cond hu ?_
  simp only[codeOk,Bool.and_eq_true] at hok
  cases b with
  | true=>simp only[if_true] at h ⊢;exact ihx S Q G C a w hok.1 h hR
  | false=>simp only[Bool.false_eq_true,if_false] at h ⊢;exact ihy S Q G C a w hok.2 h hR
 | block id c ih =>
  intro S Q G C a w hok h hR
  simp only[awp] at h
  refine wp_block (wp_mono (ih S _ G C a w hok h hR) ?_)
  rintro e a' w' ⟨S',C',hnt,hR',hq⟩
  cases e with
  | normal=>exact⟨S',C',hnt,hR',hq⟩
  | exit id' =>
   simp only[Exit.inBlock]
   simp only at hq
   split
   ·rename_i he;rw[if_pos he] at hq;exact⟨S',C',hnt,hR',hq⟩
   ·rename_i he;rw[if_neg he] at hq;exact⟨S',C',hnt,hR',hq⟩
  | ret=>exact⟨S',C',hnt,hR',hq⟩
  | goto l=>exact⟨S',C',hnt,hR',hq⟩
  | panic ch=>exact hq.elim
  | outgrown=>exact hq.elim
 | loop c ih =>
  intro S Q G C a w hok h hR
  simp only[awp,awpLoop] at h
  obtain⟨Inv,⟨S0,n0,hw0,hi0⟩,hround⟩:=h
  obtain⟨C0,hR0⟩:=hw0.2 I G C a w hR
  -- the measure: the least number at which the invariant holds of a state that stands for the machine's
  let J:Nat→Act→World→Prop:=fun n a w=>∃ S' C',Inv S' n∧S'.nt=S.nt∧Rel I G (fun id=>id < S'.next) S' C' a w
  have key:∀ n a w,J n a w→(Code.loop c).wp P (XRel I G S.nt Q) a w:=by
   intro n a w hJ
   intro b k cs
   have inner:∀ n a w,J n a w→∃ e a' w',XRel I G S.nt Q e a' w'∧Arrives P (lone (b.at a (.code c::.inLoop c::k)) cs w) b k cs e a' w':=by
    intro n
    induction n using Nat.strongRecOn with
    | _ n ihn =>
     intro a w ⟨S',C',hI,hnt,hR'⟩
     obtain⟨e,a₁,w₁,⟨S1,C1,hnt1,hR1,hq⟩,harr⟩:=ih S' _ G C' a w (by rw[hnt];exact hok) (hround S' n hI hnt) hR' b (.inLoop c::k) cs
     cases e with
     | normal =>
      obtain⟨S3,m,hm,hwk,hI3⟩:=hq
      obtain⟨C3,hR3⟩:=hwk.2 I G C1 a₁ w₁ hR1
      obtain⟨e₂,a₂,w₂,hq₂,harr₂⟩:=ihn m hm a₁ w₁ ⟨S3,C3,hI3,by rw[hwk.1,hnt1,hnt],hR3⟩
      exact⟨e₂,a₂,w₂,hq₂,.of_steps (Steps.trans harr (.one step_inLoop)) harr₂⟩
     | exit id=>exact⟨_,a₁,w₁,⟨S1,C1,hnt1.trans hnt,hR1,hq⟩,.pass (x:=.inLoop c) rfl (fun _ _=>.inl (by simp)) harr⟩
     | ret=>exact⟨_,a₁,w₁,⟨S1,C1,hnt1.trans hnt,hR1,hq⟩,.pass (x:=.inLoop c) rfl (fun _ _=>.inl (by simp)) harr⟩
     | goto l=>exact⟨_,a₁,w₁,⟨S1,C1,hnt1.trans hnt,hR1,hq⟩,.pass (x:=.inLoop c) rfl (fun _ _=>.inl (by simp)) harr⟩
     | panic ch=>exact hq.elim
     | outgrown=>exact hq.elim
   obtain⟨e,a',w',hq,harr⟩:=inner n a w hJ
   exact⟨e,a',w',hq,.of_steps (.one step_loop) harr⟩
  exact key n0 a w ⟨S0,C0,hi0,hw0.1,hR0⟩
 | exit id=>intro S Q G C a w hok h hR;exact wp_exit ⟨S,C,rfl,hR,h⟩
 | ret=>intro S Q G C a w hok h hR;exact wp_ret ⟨S,C,rfl,hR,h⟩
 | rangeFunc f ps x y ihx ihy=>intro S Q G C a w hok h hR;exact h.elim
 | scope b ih=>intro S Q G C a w hok h hR;exact h.elim
 | goto l=>intro S Q G C a w hok h hR;exact h.elim
 | refuse why=>intro S Q G C a w hok h hR;exact h.elim
def resD (P:Program)(S:AS):List ResultVar→Option (List D)
 | []=>some []
 | .tmp t::rest=>match resD P S rest with
  | some ds=>some (S.env t::ds)
  | none=>none
 | .cell t ty::rest=>match S.env t,resD P S rest with
  | .ptr id off,some ds=>match S.heap id with
   | some (.box _ cs)=>match loadD P ty (cs.drop off) with
    | some d=>some (d::ds)
    | none=>none
   | _=>none
  | _,_=>none
def mkRes:List D→D
 | [d]=>d
 | ds=>.tup ds
def aret (P:Program)(fn:Func)(S:AS)(r:D):Prop:=∃ ds ds' e,resD P S fn.results.toList=some ds∧purDs S.heap ds=some (ds',e)∧mkRes ds'=r
end
section
variable {P:Program}{I:World→Prop}{G:Gh}{S:AS}{C:Cx}{a:Act}{w:World}
def resF (tmps:Array Value):ResultVar→Sem Value
 | .tmp t=>pure (tmps.getD t Go.undef)
 | .cell x t=>do loadVar t (← asAddr (tmps.getD x Go.undef))
theorem results_eq(fn:Func)(tmps:Array Value):results fn tmps=(do let vs ← fn.results.mapM (resF tmps);pure (if h:vs.size=1 then vs[0] else .tuple vs)):=by
 unfold results;congr 2
theorem resD_run(hS:StOK C w a G.B S):∀ (rs:List ResultVar) (ds:List D),resD P S rs=some ds →
  ∃ vs,(rs.mapM (m:=Sem) (resF a.tmps)).run P w=.ok vs w∧vs.length=ds.length∧∀ (i:Nat) v d,vs[i]? = some v→ds[i]? = some d→Rep w C v d:=by
 intro rs
 induction rs with
 | nil=>intro ds h;simp[resD] at h;subst h;exact⟨[],rfl,rfl,by simp⟩
 | cons r rs ih =>
  intro ds h
  cases r with
  | tmp t =>
   simp only[resD] at h
   cases h1:resD P S rs with
   | none=>rw[h1] at h;simp at h
   | some ds' =>
    rw[h1] at h
    simp at h
    subst h
    obtain⟨vs,hr,hl,hv⟩:=ih ds' h1
    refine⟨a.tmps.getD t Go.undef::vs,?_,by simp[hl],fun i v d hi hd=>?_⟩
    ·simp only[List.mapM_cons,resF,Sem.run_bind,Sem.run_pure,Result.andThen_ok,hr]
    ·cases i with
     | zero=>simp only[List.getElem?_cons_zero,Option.some.injEq] at hi hd;subst hi hd;exact hS.env t
     | succ i=>exact hv i v d (by simpa using hi) (by simpa using hd)
  | cell x ty =>
   simp only[resD] at h
   cases h0:S.env x<;>rw[h0] at h<;>try (simp at h;done)
   rename_i id off
   cases h1:resD P S rs with
   | none=>rw[h1] at h;simp at h
   | some ds' =>
    rw[h1] at h
    simp only at h
    cases hb:S.heap id with
    | none=>rw[hb] at h;simp at h
    | some b =>
     rw[hb] at h
     cases b<;>simp only[reduceCtorEq] at h
     rename_i cs
     cases hl:loadD P ty (cs.drop off) with
     | none=>rw[hl] at h;simp at h
     | some d =>
      rw[hl] at h
      simp at h
      subst h
      have hx:=hS.env x
      rw[h0] at hx
      generalize hv:a.tmps.getD x Go.undef=v at hx
      cases hx with
      | ptr _ _ g hlv hσ =>
       obtain⟨_,g',t',vs',q1,q2,q3,q4,q5⟩:=hS.heap.rep id _ hb
       rw[hσ] at q1
       injection q1 with q1;injection q1 with q1;injection q1 with q1
       subst q1
       obtain⟨u,hr,hR⟩:=loadD_run (P:=P) (b:=g) (off:=off) (q4.drop off) (fun i v hi=>by
        rw[cell_of_row w g (off+i) vs' t' (0,0) q3];simpa using hi) hl
       obtain⟨vs,hr2,hl2,hv2⟩:=ih ds' h1
       refine⟨u::vs,?_,by simp[hl2],fun i v d hi hd=>?_⟩
       ·simp only[Instr.loadAt,Instr.sureAddr,Sem.run_bind,Sem.run_pure,Result.andThen_ok] at hr
        simp only[List.mapM_cons,resF,Sem.run_bind,hv,asAddr,Sem.run_pure,Result.andThen_ok,hr,hr2]
       ·cases i with
        | zero=>simp only[List.getElem?_cons_zero,Option.some.injEq] at hi hd;subst hi hd;exact hR
        | succ i=>exact hv2 i v d (by simpa using hi) (by simpa using hd)
def look {α:Type}:List (Nat × α)→Nat→Option α
 | [],_=>none
 | (i,x)::rest,j=>if j=i then some x else look rest j
def envL (l:List (Nat × D)):Nat→D:=fun t=>match look l t with
 | some d=>d
 | none=>.any
def heapL(h:List (Nat × Blk)):Nat→Option Blk:=look h
def argL:List D→Nat→D
 | [],_=>.any
 | d::ds,t=>if t=0 then d else argL ds (t - 1)
def S0 (ds:List D)(nt:Nat):AS:=⟨argL ds,heapL [],0,nt⟩
theorem argL_getD:∀ (ds:List D) (t:Nat),argL ds t=ds.getD t .any
 | [],_=>rfl
 | d::ds,0=>rfl
 | d::ds,t+1=>by simp only[argL];rw[if_neg (by omega),Nat.add_sub_cancel,argL_getD ds t];rfl
theorem mkRes_rep{vs:List Value}{ds:List D}{C:Cx}(hl:vs.length=ds.length)(h:∀ (i:Nat) v d,vs[i]? = some v→ds[i]? = some d→Rep w C v d):Rep w C (if h:vs.toArray.size=1 then vs.toArray[0] else .tuple vs.toArray) (mkRes ds):=by
 match vs,ds,hl with
 | [v],[d],_=>exact h 0 v d rfl rfl
 | [],[],_=>exact .tup [] [] rfl (by simp)
 | v::v'::vs,d::d'::ds,hl=>exact .tup _ _ hl h
theorem AFun.intro(hstab:Stab I){f:FuncId}{fn:Func}{c:Code}{ds:List D}{r:D}(hf:P.funcs[f]? = some fn)(hb:fn.body=some c)(hnm:fn.name ≠ "runtime.NumGoroutine")(hn:ds.length≤fn.ntmps)(hok:codeOk fn.ntmps c=true)
  (h:awp P I c (S0 ds fn.ntmps) fun e S=>match e with
   | .exit _=>False
   | .goto _=>False
   | _=>aret P fn S r):AFun P I f ds r:=by
 refine⟨by simp[enterable,hf,hb,hnm],fun w F args hI hfb hlen hrep=>?_⟩
 refine calls_of_wp hf hb ?_
 have hsz:args.toArray.size=ds.length:=by simpa using hlen
 have hR:Rel I (Gh.top w F) (fun id=>id < (S0 ds fn.ntmps).next) (S0 ds fn.ntmps) (cF F) { tmps:=args.toArray++Array.replicate (fn.ntmps - args.toArray.size) Go.undef,defers:=[] } w:=by
  refine⟨⟨fun t=>?_,⟨fun id b h=>by simp[S0,heapL,look] at h,fun id b h=>by simp[S0,heapL,look] at h,fun id k cs h=>by simp[S0,heapL,look] at h,fun id id' b b' h=>by simp[S0,heapL,look] at h⟩,hfb,fun _ h=>h⟩,hI,BelM.refl _ _,fun b o h=>.inl h,Ext.refl _ _,rfl,?_,fun id h=>h.elim⟩
  ·simp only[S0,argL_getD]
   by_cases ht:t < ds.length
   ·rw[show ds.getD t .any=ds[t] by simp[List.getD,ht]]
    have ha:t < args.length:=by omega
    have:(args.toArray++Array.replicate (fn.ntmps - args.toArray.size) Go.undef).getD t Go.undef=args[t]:=by
     simp[Array.getD_eq_getD_getElem?,Array.getElem?_append,ha]
    rw[this]
    exact hrep t _ _ (List.getElem?_eq_getElem ha) (List.getElem?_eq_getElem ht)
   ·rw[show ds.getD t .any=.any by simp[List.getD,ht]]
    exact .any _
  ·simp[S0];omega
 refine wp_mono (awp_sound hstab c _ _ (Gh.top w F) _ _ w hok h hR) ?_
 rintro e a' w' ⟨S',C',hnt,hR',hq⟩
 have fin:aret P fn S' r→a'.defers=[]∧∃ v,(results fn a'.tmps).run P w'=.ok v w'∧(∃ v' F',Ending.returned v=.returned v'∧Below w.heap.size w w'∧Ext (cF F) w (cF F') w'∧FB (cF F') w'∧(∀ b o,F' b o→F b o∨w.heap.size≤b)∧Rep w' (cF F') v' r):=by
  rintro⟨rs,rs',ep,h1,h2,h3⟩
  refine⟨hR'.defers,?_⟩
  obtain⟨vs,hr,hl,hv⟩:=resD_run (P:=P) (G:=Gh.top w F) hR'.ok _ _ h1
  obtain⟨C1,hP,hl',hv'⟩:=purDs_sound (w:=w') (B:=(Gh.top w F).B) rs vs C' S'.heap rs' ep hR'.ok.heap hR'.ok.fb hl hv h2
  refine⟨if h:vs.toArray.size=1 then vs.toArray[0] else .tuple vs.toArray,?_,_,C1.F,rfl,hR'.below.to,(hR'.ext.trans hP.ext).cF,hP.fb,fun b o h=>?_,?_⟩
  ·rw[results_eq,Array.mapM_eq_mapM_toList]
   simp only[Sem.run_bind,Sem.run_map,hr]
   rfl
  ·rcases hP.new b o h with h|h
   ·exact hR'.new b o h
   ·exact .inr h
  ·rw[← h3]
   exact mkRes_rep hl' (fun i v d hi hd=>(hv' i v d hi hd).1)
 cases e with
 | normal=>exact fin hq
 | ret=>exact fin hq
 | exit id=>exact hq.elim
 | goto l=>exact hq.elim
 | panic ch=>exact hq.elim
 | outgrown=>exact hq.elim
end
def D.ren1(r:Nat→Option Nat):D→D
 | .ptr id off=>match r id with
  | some j=>.ptr j off
  | none=>.undef
 | .vptr id k i off=>match r id with
  | some j=>.vptr j k i off
  | none=>.undef
 | .own id n=>match r id with
  | some j=>.own j n
  | none=>if n=0 then .nils else .undef
 | .omp id=>match r id with
  | some j=>.omp j
  | none=>.undef
 | .sp id=>match r id with
  | some j=>.sp j
  | none=>.undef
 | d=>d
def D.ren(r:Nat→Option Nat):D→D
 | .agg ds=>.agg (ds.map (D.ren1 r))
 | .tup ds=>.tup (ds.map (D.ren1 r))
 | .fn f ds=>.fn f (ds.map (D.ren1 r))
 | d=>d.ren1 r
def D.idOk1(r:Nat→Option Nat)(n:Nat):D→Bool
 | .ptr id _=>decide (id < n)&&(r id).isSome
 | .vptr id _ _ _=>decide (id < n)&&(r id).isSome
 | .own id m=>decide (id < n)&&((r id).isSome||decide (m=0))
 | .omp id=>decide (id < n)&&(r id).isSome
 | .sp id=>decide (id < n)&&(r id).isSome
 | .agg _|.tup _|.fn _ _|.undef=>false
 | _=>true
def D.idOk(r:Nat→Option Nat)(n:Nat):D→Bool
 | .agg ds=>ds.all (D.idOk1 r n)
 | .tup ds=>ds.all (D.idOk1 r n)
 | .fn _ ds=>ds.all (D.idOk1 r n)
 | .undef=>true
 | d=>d.idOk1 r n
def D.renC(r:Nat→Option Nat):D→D
 | .agg ds=>.agg (ds.map (D.ren1 r))
 | d=>d.ren1 r
theorem ren1_cells(r:Nat→Option Nat)(d:D)(h:∀ ds,d≠.agg ds):(d.ren1 r).cells=[d.ren1 r]:=by
 cases d with
 | agg ds=>exact absurd rfl (h ds)
 | ptr id off=>cases h1:r id<;>simp[D.ren1,h1,D.cells]
 | vptr id k i off=>cases h1:r id<;>simp[D.ren1,h1,D.cells]
 | own id n =>
  cases h1:r id with
  | none=>by_cases h2:n=0<;>simp[D.ren1,h1,h2,D.cells]
  | some j=>simp[D.ren1,h1,D.cells]
 | omp id=>cases h1:r id<;>simp[D.ren1,h1,D.cells]
 | sp id=>cases h1:r id<;>simp[D.ren1,h1,D.cells]
 | _=>rfl
theorem renC_cells(r:Nat→Option Nat)(d:D):(d.renC r).cells=d.cells.map (D.ren1 r):=by
 by_cases h:∃ ds,d=.agg ds
 ·obtain⟨ds,rfl⟩:=h;rfl
 have hn:∀ ds,d≠.agg ds:=fun ds e=>h ⟨ds,e⟩;have e1:d.renC r=d.ren1 r:=by cases d<;>first|rfl|exact absurd rfl (hn _)
 have e2:d.cells=[d]:=by cases d<;>first|rfl|exact absurd rfl (hn _)
 rw[e1,e2,ren1_cells r d hn];rfl
theorem renC_flat(r:Nat→Option Nat)(xs:List D):(xs.map (D.renC r)).flatMap D.cells=(xs.flatMap D.cells).map (D.ren1 r):=by
 induction xs with
 | nil=>rfl
 | cons x xs ih=>simp only[List.map_cons,List.flatMap_cons,ih,renC_cells,List.map_append]
def Blk.ren(r:Nat→Option Nat):Blk→Blk
 | .box pn ds=>.box pn (ds.map (D.ren1 r))
 | .bbox T ds=>.bbox T (ds.map (D.ren1 r))
 | .mat e k xs=>.mat e k (xs.map (D.renC r))
 | b=>b
def Blk.idOk(r:Nat→Option Nat)(n:Nat):Blk→Bool
 | .box _ ds=>ds.all (D.idOk1 r n)
 | .bbox _ ds=>ds.all (D.idOk1 r n)
 | .mat _ _ xs=>(xs.flatMap D.cells).all (D.idOk1 r n)
 | _=>true
def Cx.ren(C:Cx)(r:Nat→Option Nat)(n:Nat):Cx :=
 ⟨C.F,fun id=>match r id with|some j=>C.σ j|none=>.slice none 0 0,fun id=>id < n∧match r id with|some j=>C.live j|none=>True⟩
section
variable {C:Cx}{w:World}{r:Nat→Option Nat}{n:Nat}
theorem Rep.ren1{v:Value}{d:D}(hok:d.idOk1 r n=true)(h:Rep w C v (d.ren1 r)):Rep w (C.ren r n) v d:=by
 cases d with
 | any=>exact .any _
 | undef=>simp[D.idOk1] at hok
 | agg ds=>simp[D.idOk1] at hok
 | tup ds=>simp[D.idOk1] at hok
 | fn f ds=>simp[D.idOk1] at hok
 | int k m=>simp only[D.ren1] at h;cases h;exact .int _ _ (by assumption)
 | bool b=>simp only[D.ren1] at h;cases h;exact .bool _
 | str s=>simp only[D.ren1] at h;cases h;exact .str _ (by assumption)
 | nilp=>simp only[D.ren1] at h;cases h;exact .nilp
 | err b=>simp only[D.ren1] at h;cases h;exact .err0;exact .err1 _ _
 | nils=>simp only[D.ren1] at h;cases h;exact .nils
 | sl xs =>
  simp only[D.ren1] at h
  cases h with
  | sl0 A c hm=>exact .sl0 A c hm
  | sl b off k c _ vals hc hm hk hl h1 hF hcell h=>exact .sl b off k c _ vals hc hm hk hl h1 hF hcell h
 | iptr ds =>
  simp only[D.ren1] at h
  cases h with
  | iptr b off _ vals hl h1 hF hcell h=>exact .iptr b off _ vals hl h1 hF hcell h
 | ptr id off =>
  simp only[D.idOk1,Bool.and_eq_true,Bool.or_eq_true,decide_eq_true_eq] at hok
  obtain⟨hok,hok2⟩:=hok
  simp only[D.ren1] at h
  cases hr:r id with
  | none=>rw[hr] at hok2;simp at hok2
  | some j =>
   rw[hr] at h
   cases h with
   | ptr _ _ g hl hs=>exact .ptr id off g ⟨hok,by rw[hr];exact hl⟩ (by simp only[Cx.ren,hr];exact hs)
 | vptr id k i off =>
  simp only[D.idOk1,Bool.and_eq_true,Bool.or_eq_true,decide_eq_true_eq] at hok
  obtain⟨hok,hok2⟩:=hok
  simp only[D.ren1] at h
  cases hr:r id with
  | none=>rw[hr] at hok2;simp at hok2
  | some j =>
   rw[hr] at h
   cases h with
   | vptr _ _ _ _ g m c hl hs=>exact .vptr id k i off g m c ⟨hok,by rw[hr];exact hl⟩ (by simp only[Cx.ren,hr];exact hs)
 | own id m =>
  simp only[D.idOk1,Bool.and_eq_true,Bool.or_eq_true,decide_eq_true_eq] at hok
  obtain⟨hok,hok2⟩:=hok
  simp only[D.ren1] at h
  cases hr:r id with
  | none =>
   rw[hr] at h hok2
   simp at hok2
   subst hok2
   cases h
   exact .own id 0 0 none ⟨hok,by rw[hr];trivial⟩ (Nat.zero_le _) (by simp only[Cx.ren,hr])
  | some j =>
   rw[hr] at h
   cases h with
   | own _ _ c A hl hm hs=>exact .own id m c A ⟨hok,by rw[hr];exact hl⟩ hm (by simp only[Cx.ren,hr];exact hs)
 | omp id =>
  simp only[D.idOk1,Bool.and_eq_true,decide_eq_true_eq] at hok
  obtain⟨hok,hok2⟩:=hok
  simp only[D.ren1] at h
  cases hr:r id with
  | none=>rw[hr] at hok2;simp at hok2
  | some j =>
   rw[hr] at h
   cases h with
   | omp _ g hl hs=>exact .omp id g ⟨hok,by rw[hr];exact hl⟩ (by simp only[Cx.ren,hr];exact hs)
 | sp id =>
  simp only[D.idOk1,Bool.and_eq_true,decide_eq_true_eq] at hok
  obtain⟨hok,hok2⟩:=hok
  simp only[D.ren1] at h
  cases hr:r id with
  | none=>rw[hr] at hok2;simp at hok2
  | some j =>
   rw[hr] at h
   cases h with
   | sp0 _ hl=>exact .sp0 id ⟨hok,by rw[hr];exact hl⟩
   | sp1 _ g hl hs=>exact .sp1 id g ⟨hok,by rw[hr];exact hl⟩ (by simp only[Cx.ren,hr];exact hs)
 | mp k ks vs =>
  simp only[D.ren1] at h
  cases h with
  | mp g clock _ _ es _ hF hh hk hl h6=>exact .mp g clock k ks es vs hF hh hk hl h6
 | fsl xs =>
  simp only[D.ren1] at h
  cases h with
  | fsl A _ h=>exact .fsl A xs (by
   generalize Value.slice A xs.length xs.length=vv at h ⊢
   cases h with
   | sl0 A c hm=>exact .sl0 A c hm
   | sl b off k c _ vals hc hm hk hl h1 hF hcell h=>exact .sl b off k c _ vals hc hm hk hl h1 hF hcell h)
theorem ren_list{vs:List Value}{ds:List D}(hok:ds.all (D.idOk1 r n)=true)(h:∀ (i:Nat) v d,vs[i]? = some v→(ds.map (D.ren1 r))[i]? = some d→Rep w C v d):∀ (i:Nat) v d,vs[i]? = some v→ds[i]? = some d→Rep w (C.ren r n) v d:=by
 intro i v d hv hd;refine Rep.ren1 (List.all_eq_true.1 hok d (List.mem_of_getElem? hd)) (h i v _ hv ?_);simp[hd]
theorem Rep.ren{v:Value}{d:D}(hok:d.idOk r n=true)(h:Rep w C v (d.ren r)):Rep w (C.ren r n) v d:=by
 cases d with
 | agg ds =>
  simp only[D.ren] at h
  generalize he:ds.map (D.ren1 r)=es at h
  cases h with
  | agg vs _ hl h1 h=>subst he;exact .agg vs ds (by simpa using hl) h1 (ren_list hok h)
 | tup ds =>
  simp only[D.ren] at h
  generalize he:ds.map (D.ren1 r)=es at h
  cases h with
  | tup vs _ hl h=>subst he;exact .tup vs ds (by simpa using hl) (ren_list hok h)
 | fn f ds =>
  simp only[D.ren] at h
  generalize he:ds.map (D.ren1 r)=es at h
  cases h with
  | fn _ vs _ hl h=>subst he;exact .fn f vs ds (by simpa using hl) (ren_list hok h)
 | undef=>simp only[D.ren,D.ren1] at h;cases h;exact .undef
 | _=>exact Rep.ren1 hok h
theorem look_mem{α:Type}:∀ (l:List (Nat × α)) (t:Nat) (d:α),look l t=some d→(t,d) ∈ l
 | [],_,_,h=>by simp[look] at h
 | (i,x)::l,t,d,h=>by
  simp only[look] at h
  split at h
  ·rename_i e;subst e;injection h with h;subst h;simp
  ·exact List.mem_cons_of_mem _ (look_mem l t d h)
def wkEnv(S:AS)(r:Nat→Option Nat)(n:Nat):List (Nat × D)→Prop
 | []=>True
 | (t,d)::l=>(S.env t=d.ren r∧d.idOk r n=true)∧wkEnv S r n l
def wkHeap(S:AS)(r:Nat→Option Nat)(n:Nat):List (Nat × Blk)→Prop
 | []=>True
 | (id,b)::h=>(id < n∧b.idOk r n=true∧(match r id with
  | some j=>S.heap j=some (b.ren r)∧∀ p ∈ h,r p.1≠some j
  | none=>∃ e k,b=.vec e k [] false))∧wkHeap S r n h
theorem wkEnv_at{S:AS}:∀ {l:List (Nat × D)},wkEnv S r n l→∀ t d,(t,d) ∈ l→S.env t=d.ren r∧d.idOk r n=true
 | (t',d')::l,h,t,d,hm=>by
  rcases List.mem_cons.1 hm with e|e
  ·injection e with e1 e2;subst e1 e2;exact h.1
  ·exact wkEnv_at h.2 t d e
theorem wkHeap_at{S:AS}:∀ {l:List (Nat × Blk)},wkHeap S r n l→∀ id b,(id,b) ∈ l→id < n∧b.idOk r n=true∧(match r id with|some j=>S.heap j=some (b.ren r)|none=>∃ e k,b=.vec e k [] false)
 | (id',b')::l,h,id,b,hm=>by
  rcases List.mem_cons.1 hm with e|e
  ·injection e with e1 e2;subst e1 e2
   refine⟨h.1.1,h.1.2.1,?_⟩
   have:=h.1.2.2
   split at this
   ·rename_i j hj;exact this.1
   ·exact this
  ·exact wkHeap_at h.2 id b e
theorem wkHeap_inj{S:AS}:∀ {l:List (Nat × Blk)},wkHeap S r n l→∀ id id' b b' j,(id,b) ∈ l→(id',b') ∈ l→id≠id'→r id=some j→r id'≠some j
 | (i0,b0)::l,h,id,id',b,b',j,hm,hm',hne,hj=>by
  rcases List.mem_cons.1 hm with e|e
  ·injection e with e1 e2;subst e1 e2
   rcases List.mem_cons.1 hm' with e'|e'
   ·injection e' with e1 e2;exact absurd e1.symm hne
   ·have:=h.1.2.2
    rw[hj] at this
    exact this.2 (id',b') e'
  ·rcases List.mem_cons.1 hm' with e'|e'
   ·injection e' with e1 e2;subst e1 e2
    intro hj'
    have:=h.1.2.2
    rw[hj'] at this
    exact this.2 (id,b) e hj
   ·exact wkHeap_inj h.2 id id' b b' j e e' hne hj
theorem Wk.of{S:AS}(r:Nat→Option Nat)(l:List (Nat × D))(h:List (Nat × Blk))(n:Nat)(he:wkEnv S r n l)(hh:wkHeap S r n h):Wk S ⟨envL l,heapL h,n,S.nt⟩:=by
 refine⟨rfl,fun I G C a w hR=>⟨C.ren r n,?_⟩⟩
 have henv:EnvOK (C.ren r n) w a (envL l):=by
  intro t
  unfold envL
  cases hl:look l t with
  | none=>exact .any _
  | some d =>
   obtain⟨h1,h2⟩:=wkEnv_at he t d (look_mem l t d hl)
   have:=hR.ok.env t
   rw[h1] at this
   exact this.ren h2
 have hσ:∀ id j,r id=some j→(C.ren r n).σ id=C.σ j:=fun id j hj=>by simp only[Cx.ren,hj]
 have hheap:HOK (C.ren r n) w G.B (heapL h):=by
  refine⟨fun id b hb=>?_,fun id b hb g hg=>?_,fun id k cs hb=>?_,fun id id' b b' hb hb' hne g hg hg'=>?_⟩
  ·obtain⟨h1,h2,h3⟩:=wkHeap_at hh id b (look_mem h id b hb)
   cases hr:r id with
   | none =>
    rw[hr] at h3
    obtain⟨e,k,rfl⟩:=h3
    have hs:(C.ren r n).σ id=.slice none 0 0:=by simp only[Cx.ren,hr]
    exact⟨⟨h1,by rw[hr];trivial⟩,[],by rw[hs];exact World.ownsRow_nil _ _ _ _,by simp,RepL.nil,by rw[hs];intro g hg;simp[Value.ownBlock] at hg⟩
   | some j =>
    rw[hr] at h3
    obtain⟨k1,k2⟩:=hR.ok.heap.rep j _ h3
    refine⟨⟨h1,by rw[hr];exact k1⟩,?_⟩
    have hs:=hσ id j hr
    cases b with
    | box pn ds =>
     obtain⟨g,t,vs,q1,q2,q3,q4,q5⟩:=k2
     exact⟨g,t,vs,hs.trans q1,q2,q3,⟨by simpa using q4.len,q4.one,ren_list h2 q4.rep⟩,q5⟩
    | bbox T ds =>
     obtain⟨g,vs,q1,q2,q3,q4,q5⟩:=k2
     exact⟨g,vs,hs.trans q1,q2,q3,⟨by simpa using q4.len,q4.one,ren_list h2 q4.rep⟩,q5⟩
    | vec e k xs pub =>
     obtain⟨vals,q1,q2,q3,q4⟩:=k2
     exact⟨vals,by rw[hs];exact q1,q2,q3,by rw[hs];exact q4⟩
    | iter s pos =>
     obtain⟨g,q1,q2,q3,q4,q5⟩:=k2
     exact⟨g,hs.trans q1,q2,q3,q4,q5⟩
    | lrow u e k xs =>
     obtain⟨q0,vals,q1,q2,q3,q4⟩:=k2
     exact⟨hs.trans q0,vals,by rw[hs];exact q1,q2,q3,by rw[hs];exact q4⟩
    | mat e k xs =>
     obtain⟨vals,q1,q2,q3,q4⟩:=k2
     rw[renC_flat] at q3
     refine⟨vals,by rw[hs];simpa using q1,fun x hx=>?_,⟨by simpa using q3.len,q3.one,ren_list h2 q3.rep⟩,by rw[hs];exact q4⟩
     have:=q2 (x.renC r) (List.mem_map_of_mem hx)
     rw[renC_cells] at this
     simpa using this
    | mp k ks vs pub =>
     obtain⟨g,clock,es,q1,q2⟩:=k2
     exact⟨g,clock,es,hs.trans q1,q2⟩
  ·obtain⟨_,_,h3⟩:=wkHeap_at hh id b (look_mem h id b hb)
   cases hr:r id with
   | none=>simp only[Cx.ren,hr,blockOf] at hg;cases hg
   | some j=>rw[hr] at h3;rw[hσ id j hr] at hg;exact hR.ok.heap.own j _ h3 g hg
  ·obtain⟨_,_,h3⟩:=wkHeap_at hh id _ (look_mem h id _ hb)
   cases hr:r id with
   | none=>rw[hr] at h3;obtain⟨e,k,h3⟩:=h3;cases h3
   | some j=>rw[hr] at h3;rw[hσ id j hr];exact hR.ok.heap.pin j k _ h3
  ·obtain⟨_,_,h3⟩:=wkHeap_at hh id b (look_mem h id b hb)
   obtain⟨_,_,h3'⟩:=wkHeap_at hh id' b' (look_mem h id' b' hb')
   cases hr:r id with
   | none=>simp only[Cx.ren,hr,blockOf] at hg;cases hg
   | some j =>
    cases hr':r id' with
    | none=>simp only[Cx.ren,hr',blockOf] at hg';cases hg'
    | some j' =>
     rw[hr] at h3
     rw[hr'] at h3'
     rw[hσ id j hr] at hg
     rw[hσ id' j' hr'] at hg'
     have hjj:j≠j':=fun e=>wkHeap_inj hh id id' b b' j (look_mem h id b hb) (look_mem h id' b' hb') hne hr (e ▸ hr')
     exact hR.ok.heap.apart j j' _ _ h3 h3' hjj g hg hg'
 exact⟨⟨henv,hheap,hR.ok.fb,hR.ok.base⟩,hR.inv,hR.below,hR.new,⟨hR.ext.F,hR.ext.blk,fun _ h=>h.elim,fun _ h=>h.elim⟩,hR.defers,hR.size,fun id hl=>hl.1⟩
end
end Go.Proofs.YtejeinnfompgpaaGreatDoor
