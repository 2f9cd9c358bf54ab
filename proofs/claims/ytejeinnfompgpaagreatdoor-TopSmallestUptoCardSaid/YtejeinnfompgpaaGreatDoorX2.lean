/- Texts of one proof, put together (FwP, FwQ, FwR, FwS, FwV, FwSc, FwX, FwY, FwZ, Ty, FwW, FwPf, FwR2, FwS2, FwPr, FwNl, FwAny, FwSh, FwUn). No condition but those that each theorem states. -/
import Derived.Test.YtejeinnfompgpaaGreatDoorX1
import Derived.IntWalk
import Derived.Scope
import Derived.KernelRfl
import Derived.Test.YtejeinnfompgpaaGreatDoorProg
set_option linter.unusedSimpArgs false
set_option linter.unusedVariables false
namespace Go.Proofs.YtejeinnfompgpaaGreatDoor
open Go.RowKit
inductive Kont where
 | seq (y:Code)
 | blk (id:Nat)
 | scp (c:Code)
 | pas (c:Code)
abbrev APost:=AExit→AS→Prop
section
variable (P:Program)(I:World→Prop)
def goK:List Kont→APost→APost
 | [],Q=>Q
 | .seq y::k,Q=>fun e S=>match e with
  | .normal=>awp P I y S (goK k Q)
  | e=>goK k Q e S
 | .blk id::k,Q=>fun e S=>match e with
  | .exit id'=>if id'=id then goK k Q .normal S else goK k Q (.exit id') S
  | e=>goK k Q e S
 | .scp _::_,_=>fun _ _=>False
 | .pas _::_,_=>fun _ _=>False
def run (c:Code)(S:AS)(k:List Kont)(Q:APost):Prop:=awp P I c S (goK P I k Q)
def ext (e:AExit)(S:AS)(k:List Kont)(Q:APost):Prop:=goK P I k Q e S
def runR (ops:Array Oper)(l:List Oper)(i:Nat)(S:AS)(k:List Kont)(Q:APost):Prop:=awpL P I ops l i S (goK P I k Q .normal)
def callW(f:FuncId)(ds:List D)(eff:Eff)(o:Oper)(ops:Array Oper)(l:List Oper)(i:Nat)(S:AS)(k:List Kont)(Q:APost):Prop:=∃ d,AFun P I f ds d∧runR P I ops l i (S.step o d eff) k Q
def stepK(x:Option (D × Eff))(o:Oper)(ops:Array Oper)(l:List Oper)(i:Nat)(S:AS)(k:List Kont)(Q:APost):Prop:=match x with
 | some (d,eff)=>runR P I ops l i (S.step o d eff) k Q
 | none=>False
def purK (x:Option (List D × Eff))(f:FuncId)(o:Oper)(ops:Array Oper)(l:List Oper)(i:Nat)(S:AS)(k:List Kont)(Q:APost):Prop:=match x with
 | some (ds,eff)=>callW P I f ds eff o ops l i S k Q
 | none=>False
def calK (x:Option (FuncId × List D))(o:Oper)(ops:Array Oper)(l:List Oper)(i:Nat)(S:AS)(k:List Kont)(Q:APost):Prop:=match x with
 | some (f,ds)=>purK P I (purDs S.heap ds) f o ops l (i+1) S k Q
 | none=>stepK P I (aop P o.op (S.next+i) S) o ops l (i+1) S k Q
def wantK(x:Option Bool)(o:Oper)(ops:Array Oper)(l:List Oper)(i:Nat)(S:AS)(k:List Kont)(Q:APost):Prop:=match x with
 | some true=>calK P I (acallee S o.op) o ops l i S k Q
 | some false=>runR P I ops l (i+1) (S.step o .undef []) k Q
 | none=>False
def brW (b:Bool)(x y:Code)(S:AS)(k:List Kont)(Q:APost):Prop:=if b=true then run P I x S k Q else run P I y S k Q
def drawW(ops:Array Oper)(S:AS)(k:List Kont)(Q:APost):Prop:=awpD P I ops S (goK P I k Q .normal)
end
section
variable {P:Program}{I:World→Prop}{S:AS}{k:List Kont}{Q:APost}
section
variable {o:Oper}{ops:Array Oper}{l:List Oper}{i:Nat}{f:FuncId}{ds:List D}{d:D}{eff:Eff}
end
theorem rngs:List.range 0=[]∧List.range 1=[0]∧List.range 2=[0,1]∧List.range 3=[0,1,2]∧List.range 4=[0,1,2,3]∧List.range 5=[0,1,2,3,4]∧List.range 6=[0,1,2,3,4,5]∧List.range 7=[0,1,2,3,4,5,6]∧List.range 8=[0,1,2,3,4,5,6,7]∧List.range 9=[0,1,2,3,4,5,6,7,8]∧List.range 10=[0,1,2,3,4,5,6,7,8,9]∧List.range 11=[0,1,2,3,4,5,6,7,8,9,10]∧List.range 12=[0,1,2,3,4,5,6,7,8,9,10,11]∧List.range 13=[0,1,2,3,4,5,6,7,8,9,10,11,12]∧List.range 14=[0,1,2,3,4,5,6,7,8,9,10,11,12,13]∧List.range 15=[0,1,2,3,4,5,6,7,8,9,10,11,12,13,14]∧List.range 16=[0,1,2,3,4,5,6,7,8,9,10,11,12,13,14,15]:=⟨rfl,rfl,rfl,rfl,rfl,rfl,rfl,rfl,rfl,rfl,rfl,rfl,rfl,rfl,rfl,rfl,rfl⟩
theorem upd_app{α:Type}(f:Nat→α)(i:Nat)(x:α)(j:Nat):upd f i x j=if j=i then x else f j:=rfl
theorem envL_app(l:List (Nat × D))(t:Nat):envL l t=match look l t with|some d=>d|none=>.any:=rfl
theorem heapL_app(l:List (Nat × Blk))(t:Nat):heapL l t=look l t:=rfl
theorem AS.step_mk(env:Nat→D)(heap:Nat→Option Blk)(n nt:Nat)(o:Oper)(d:D)(eff:Eff):AS.step ⟨env,heap,n,nt⟩ o d eff=⟨(match o.dst with|some t=>upd env t d|none=>env),appEff heap eff,n,nt⟩:=rfl
theorem callW.intro{f:FuncId}{ds:List D}{eff:Eff}{o:Oper}{ops:Array Oper}{l:List Oper}{i:Nat}{d:D}(h:AFun P I f ds d)(hk:runR P I ops l i (S.step o d eff) k Q):callW P I f ds eff o ops l i S k Q:=⟨d,h,hk⟩
theorem brW.split{b:Bool}{x y:Code}(h1:b=true→run P I x S k Q)(h2:b=false→run P I y S k Q):brW P I b x y S k Q:=by
 cases b
 ·exact h2 rfl
 exact h1 rfl
theorem wantK.split{b:Bool}{o:Oper}{ops:Array Oper}{l:List Oper}{i:Nat}(h1:b=true→wantK P I (some true) o ops l i S k Q)(h2:b=false→wantK P I (some false) o ops l i S k Q):wantK P I (some b) o ops l i S k Q:=by
 cases b
 ·exact h2 rfl
 exact h1 rfl
def behind(P:Program)(I:World→Prop)(k:List Kont)(Q:APost):APost:=goK P I k Q
def retQ (P:Program)(fn:Func)(r:D):APost:=fun e S=>match e with
 | .exit _=>False
 | .goto _=>False
 | _=>aret P fn S r
theorem retQ_n{fn:Func}{r:D}:retQ P fn r .normal S=aret P fn S r:=rfl
theorem retQ_r{fn:Func}{r:D}:retQ P fn r .ret S=aret P fn S r:=rfl
theorem AFun.enter(hstab:Stab I){f:FuncId}{fn:Func}{c:Code}{ds:List D}{r:D}(hf:P.funcs[f]? = some fn)(hb:fn.body=some c)(hnm:fn.name ≠ "runtime.NumGoroutine")(hn:ds.length≤fn.ntmps)(hok:codeOk fn.ntmps c=true)
  (h:run P I c (S0 ds fn.ntmps) [] (retQ P fn r)):AFun P I f ds r:=by
 refine AFun.intro hstab hf hb hnm hn hok (awp_mono c _ _ _ ?_ h)
 intro e S hq
 cases e<;>exact hq
def retK (x:Option (List D))(H:Nat→Option Blk)(r:D):Prop:=match x with
 | some ds=>∃ p,purDs H ds=some p∧mkRes p.1=r
 | none=>False
theorem aret_eq{fn:Func}{r:D}:aret P fn S r=retK (resD P S fn.results.toList) S.heap r:=by
 simp only[aret,retK]
 cases resD P S fn.results.toList with
 | none=>simp
 | some ds =>
  simp only[Option.some.injEq,eq_iff_iff]
  constructor
  ·rintro⟨ds',ds'',e,rfl,h2,h3⟩;exact⟨(ds'',e),h2,h3⟩
  ·rintro⟨p,h2,h3⟩;exact⟨ds,p.1,p.2,rfl,h2,h3⟩
def retK2(x:Option (List D × Eff))(r:D):Prop:=match x with
 | some p=>mkRes p.1=r
 | none=>False
theorem retK2_s{p:List D × Eff}{r:D}:retK2 (some p) r=(mkRes p.1=r):=rfl
theorem retK_some{ds:List D}{H:Nat→Option Blk}{r:D}:retK (some ds) H r=retK2 (purDs H ds) r:=by
 simp only[retK,retK2];cases purDs H ds<;>simp
inductive Sz:D→Prop
 | any:Sz .any
 | undef:Sz .undef
 | int (k:IntKind) (n:Int) (h:inR k n):Sz (.int k n)
 | bool (b:Bool):Sz (.bool b)
 | str (s:List UInt8) (h:s.length≤maxLen):Sz (.str s)
 | sl (xs:List D) (h:xs.length≤maxLen) (hd:∀ d ∈ xs.flatMap D.cells,Sz d):Sz (.sl xs)
 | agg (ds:List D) (h:∀ d ∈ ds,Sz d):Sz (.agg ds)
 | tup (ds:List D) (h:∀ d ∈ ds,Sz d):Sz (.tup ds)
 | ptr (id off:Nat):Sz (.ptr id off)
 | vptr (id k i off:Nat):Sz (.vptr id k i off)
 | own (id n:Nat):Sz (.own id n)
 | nilp:Sz .nilp
 | err (b:Bool):Sz (.err b)
 | nils:Sz .nils
 | iptr (ds:List D):Sz (.iptr ds)
 | fn (f:FuncId) (ds:List D):Sz (.fn f ds)
 | sp (id:Nat):Sz (.sp id)
 | omp (id:Nat):Sz (.omp id)
 | mp (k:IntKind) (ks:List Int) (vs:List D):Sz (.mp k ks vs)
 | fsl (xs:List D):Sz (.fsl xs)
theorem mem_sz{vs:List Value}{ds:List D}(hl:vs.length=ds.length)(h:∀ (i:Nat) v d,vs[i]? = some v→ds[i]? = some d→Sz d):∀ d ∈ ds,Sz d:=by
 intro d hd;obtain⟨i,hi⟩:=List.getElem?_of_mem hd;have hlt:i < vs.length:=by rw[hl];exact(List.getElem?_eq_some_iff.1 hi).1
 exact h i _ d (List.getElem?_eq_getElem hlt) hi
theorem Rep.sz{w:World}{C:Cx}{v:Value}{d:D}(h:Rep w C v d):Sz d:=by
 induction h with
 | any v=>exact .any
 | undef=>exact .undef
 | int k n h=>exact .int k n h
 | bool b=>exact .bool b
 | str l h=>exact .str l h
 | agg vs ds hl h1 _ ih=>exact .agg ds (mem_sz hl ih)
 | tup vs ds hl _ ih=>exact .tup ds (mem_sz hl ih)
 | ptr id off g hl h=>exact .ptr id off
 | vptr id k i off g n c hl h=>exact .vptr id k i off
 | own id n c A hl hm h=>exact .own id n
 | nilp=>exact .nilp
 | err0=>exact .err _
 | err1 u v=>exact .err _
 | nils=>exact .nils
 | sl0 A c h=>exact .sl [] (Nat.zero_le _) (by simp)
 | sl b off k c xs vals hc hm hk hl h1 hF hcell _ ih=>exact .sl xs (by omega) (mem_sz hl ih)
 | iptr b off ds vals hl h1 hF hcell _ ih=>exact .iptr ds
 | fn f vs ds hl _ ih=>exact .fn f ds
 | sp0 id hl=>exact .sp id
 | sp1 id g hl h=>exact .sp id
 | omp id g hl h=>exact .omp id
 | mp g clock k ks es vs hF hh hk hl _ ih=>exact .mp k ks vs
 | fsl A xs _ _=>exact .fsl xs
theorem Sz_int{k:IntKind}{n:Int}:Sz (.int k n) ↔ inR k n:=⟨fun h=>by cases h;assumption,.int k n⟩
theorem Sz_i64{n:Int}:Sz (.int .i64 n) ↔ -9223372036854775808≤n∧n≤9223372036854775807:=Sz_int
theorem Sz_u8{n:Int}:Sz (.int .u8 n) ↔ 0≤n∧n≤255:=Sz_int
theorem Sz_agg{ds:List D}:Sz (.agg ds) ↔ ∀ d ∈ ds,Sz d:=⟨fun h=>by cases h;assumption,.agg ds⟩
theorem AFun.sized{P:Program}{I:World→Prop}{f:FuncId}{ds:List D}{r:D}(he:enterable P f=true)(h:(∀ d ∈ ds,Sz d)→AFun P I f ds r):AFun P I f ds r:=by
 refine⟨he,fun w F args hI hfb hlen hrep=>?_⟩;exact(h (mem_sz hlen fun i v d hv hd=>(hrep i v d hv hd).sz)).2 w F args hI hfb hlen hrep
theorem wk64{x:Int}(h:-9223372036854775808≤x∧x≤9223372036854775807):IntKind.i64.wrap x=x:=IntWalk.i64_in x h
end
def quietOp:Op→Bool
 | .move _|.assign _|.pick ..|.alloc _|.box ..|.build ..|.buildSlice ..|.load ..|.store ..|.nilCheck _|.binOp ..|.unOp ..|.convert ..|.slice ..|.makeSlice ..|.fieldAddr ..|.field ..|.indexAddr ..|.index ..|.extract ..|.lookup ..|.mapUpdate ..=>true
 | .call c=>match c.callee with
  | .builtin .len|.builtin .min|.builtin .max|.builtin .append=>true
  | .value _=>true
  | _=>false
 | _=>false
def heapy:Op→Bool
 | .load ..|.store ..|.indexAddr ..|.buildSlice ..|.convert ..|.slice ..|.lookup ..|.mapUpdate ..=>true
 | .call c=>match c.callee with
  | .builtin .len|.builtin .min|.builtin .max=>false
  | _=>true
 | _=>false
def D.ids1:D→List Nat
 | .ptr id _=>[id]
 | .vptr id _ _ _=>[id]
 | .own id _=>[id]
 | .omp id=>[id]
 | .sp id=>[id]
 | _=>[]
def D.ids:D→List Nat
 | .agg ds=>ds.flatMap D.ids1
 | .fn _ ds=>ds.flatMap D.ids1
 | d=>d.ids1
section
variable {P:Program}{I:World→Prop}{S S':AS}{nid:Nat}{d:D}{eff:Eff}
theorem Rep.live1{w:World}{C:Cx}{v:Value}(h:Rep w C v d){id:Nat}(hi:id ∈ d.ids1):C.live id:=by
 cases h<;>simp[D.ids1] at hi<;>subst hi<;>assumption
theorem Rep.liveS{w:World}{C:Cx}{v:Value}(h:Rep w C v d){id:Nat}(hi:id ∈ d.ids):C.live id:=by
 cases d with
 | agg ds =>
  simp only[D.ids,List.mem_flatMap] at hi
  obtain⟨x,hx,hi⟩:=hi
  cases h with
  | agg vs _ hl h1 h =>
   obtain⟨j,hj⟩:=List.getElem?_of_mem hx
   have hlt:j < vs.length:=by rw[hl];exact(List.getElem?_eq_some_iff.1 hj).1
   exact(h j _ x (List.getElem?_eq_getElem hlt) hj).live1 hi
 | fn f ds =>
  simp only[D.ids,List.mem_flatMap] at hi
  obtain⟨x,hx,hi⟩:=hi
  cases h with
  | fn _ vs _ hl h =>
   obtain⟨j,hj⟩:=List.getElem?_of_mem hx
   have hlt:j < vs.length:=by rw[hl];exact(List.getElem?_eq_some_iff.1 hj).1
   exact(h j _ x (List.getElem?_eq_getElem hlt) hj).live1 hi
 | _=>exact h.live1 hi
def Sub (H H':Nat→Option Blk)(ids:List Nat):Prop:=∀ id ∈ ids,∀ b,H id=some b→H' id=some b
theorem Sub.app{H H':Nat→Option Blk}{ids:List Nat}(h:Sub H H' ids):∀ (e:Eff),Sub (appEff H e) (appEff H' e) ids
 | []=>h
 | (id0,b0)::e=>by
  simp only[appEff]
  refine Sub.app (ids:=ids) ?_ e
  intro id hid b hb
  simp only[upd] at hb ⊢
  split
  ·rename_i he;rw[if_pos he] at hb;exact hb
  ·rename_i he;rw[if_neg he] at hb;exact h id hid b hb
theorem pur1_sub{H H':Nat→Option Blk}{d':D}{e:Eff}(hs:Sub H H' d.ids1)(h:pur1 H d=some (d',e)):pur1 H' d=some (d',e):=by
 cases d
 case own id n =>
  simp only[pur1] at h ⊢
  cases hH:H id with
  | none=>rw[hH] at h;simp at h
  | some b=>rw[hs id (by simp[D.ids1]) b hH];rw[hH] at h;exact h
 case omp id =>
  simp only[pur1] at h ⊢
  cases hH:H id with
  | none=>rw[hH] at h;simp at h
  | some b=>rw[hs id (by simp[D.ids1]) b hH];rw[hH] at h;exact h
 all_goals exact h
theorem purL_sub:∀ (ds:List D) (H H':Nat→Option Blk) (ds':List D) (e:Eff),Sub H H' (ds.flatMap D.ids1)→purL H ds=some (ds',e)→purL H' ds=some (ds',e)
 | [],H,H',ds',e,_,h=>by simpa[purL] using h
 | d::ds,H,H',ds',e,hs,h=>by
  simp only[purL] at h ⊢
  cases h1:pur1 H d with
  | none=>rw[h1] at h;simp at h
  | some p =>
   obtain⟨d1,e1⟩:=p
   rw[h1] at h
   rw[pur1_sub (fun id hid=>hs id (by simp[hid])) h1]
   simp only at h ⊢
   cases h2:purL (appEff H e1) ds with
   | none=>rw[h2] at h;simp at h
   | some q =>
    obtain⟨d2,e2⟩:=q
    rw[h2] at h
    rw[purL_sub ds _ (appEff H' e1) d2 e2 (Sub.app (fun id hid=>hs id (by simp only[List.flatMap_cons,List.mem_append];exact .inr hid)) e1) h2]
    exact h
theorem purD_sub{H H':Nat→Option Blk}{d':D}{e:Eff}(hs:Sub H H' d.ids)(h:purD H d=some (d',e)):purD H' d=some (d',e):=by
 unfold purD at h ⊢
 split at h
 ·rename_i ds
  cases h1:purL H ds with
  | none=>rw[h1] at h;simp at h
  | some p =>
   obtain⟨d1,e1⟩:=p
   rw[h1] at h
   simp only[purL_sub ds H H' d1 e1 hs h1]
   exact h
 ·rename_i hd
  refine pur1_sub (fun id hid=>hs id ?_) h
  cases d<;>first|exact hid|exact absurd rfl (hd _)|(simp[D.ids1] at hid)
theorem purDs_sub:∀ (ds:List D) (H H':Nat→Option Blk) (ds':List D) (e:Eff),Sub H H' (ds.flatMap D.ids)→purDs H ds=some (ds',e)→purDs H' ds=some (ds',e)
 | [],H,H',ds',e,_,h=>by simpa[purDs] using h
 | d::ds,H,H',ds',e,hs,h=>by
  simp only[purDs] at h ⊢
  cases h1:purD H d with
  | none=>rw[h1] at h;simp at h
  | some p =>
   obtain⟨d1,e1⟩:=p
   rw[h1] at h
   rw[purD_sub (fun id hid=>hs id (by simp[hid])) h1]
   simp only at h ⊢
   cases h2:purDs (appEff H e1) ds with
   | none=>rw[h2] at h;simp at h
   | some q =>
    obtain⟨d2,e2⟩:=q
    rw[h2] at h
    rw[purDs_sub ds _ (appEff H' e1) d2 e2 (Sub.app (fun id hid=>hs id (by simp only[List.flatMap_cons,List.mem_append];exact .inr hid)) e1) h2]
    exact h
theorem purX_sub{H H':Nat→Option Blk}{d':D}{e:Eff}(hs:Sub H H' d.ids)(h:purX H d=some (d',e)):purX H' d=some (d',e):=by
 unfold purX at h ⊢;split at h
 ·exact h
 exact purD_sub hs h
theorem purXs_sub:∀ (ds:List D) (H H':Nat→Option Blk) (ds':List D) (e:Eff),Sub H H' (ds.flatMap D.ids)→purXs H ds=some (ds',e)→purXs H' ds=some (ds',e)
 | [],H,H',ds',e,_,h=>by simpa[purXs] using h
 | d::ds,H,H',ds',e,hs,h=>by
  simp only[purXs] at h ⊢
  cases h1:purX H d with
  | none=>rw[h1] at h;simp at h
  | some p =>
   obtain⟨d1,e1⟩:=p
   rw[h1] at h
   rw[purX_sub (fun id hid=>hs id (by simp[hid])) h1]
   simp only at h ⊢
   cases h2:purXs (appEff H e1) ds with
   | none=>rw[h2] at h;simp at h
   | some q =>
    obtain⟨d2,e2⟩:=q
    rw[h2] at h
    rw[purXs_sub ds _ (appEff H' e1) d2 e2 (Sub.app (fun id hid=>hs id (by simp only[List.flatMap_cons,List.mem_append];exact .inr hid)) e1) h2]
    exact h
theorem ArgX_sub{ds:List D}{H H':Nat→Option Blk}{ds':List D}{e:Eff}(hs:Sub H H' (ds.flatMap D.ids))(h:ArgX H ds ds' e):ArgX H' ds ds' e:=h.imp (purXs_sub ds H H' ds' e hs) id
theorem elemsD_sub{H H':Nat→Option Blk}{xs:List D}(hs:Sub H H' d.ids1)(h:elemsD H d=some xs):elemsD H' d=some xs:=by
 cases d<;>simp[elemsD] at h ⊢<;>try exact h
 rename_i id n
 cases hH:H id with
 | none=>rw[hH] at h;simp at h
 | some b=>rw[hs id (by simp[D.ids1]) b hH];rw[hH] at h;exact h
theorem mapD_sub{H H':Nat→Option Blk}{q:IntKind × List Int × List D}(hs:Sub H H' d.ids1)(h:mapD H d=some q):mapD H' d=some q:=by
 cases d<;>simp[mapD] at h ⊢<;>try exact h
 rename_i id
 cases hH:H id with
 | none=>rw[hH] at h;simp at h
 | some b=>rw[hs id (by simp[D.ids1]) b hH];rw[hH] at h;exact h
theorem ids1_sub{H H':Nat→Option Blk}(hd:Sub H H' d.ids):Sub H H' d.ids1:=by
 intro id hid;refine hd id ?_;cases d<;>first|exact hid|(simp[D.ids1] at hid)
theorem map_val{xs:List Operand}(h:∀ x ∈ xs,S'.val x=S.val x):xs.map S'.val=xs.map S.val:=List.map_congr_left h
theorem opt_val{x:Option Operand}(h:∀ y ∈ x.toList,S'.val y=S.val y):x.map S'.val=x.map S.val:=by
 cases x with
 | none=>rfl
 | some y=>simp[h y (by simp)]
theorem aop_mono{op:Op}(hq:quietOp op=true)(hv:∀ x ∈ op.operands.toList,S'.val x=S.val x)(hh:heapy op=true→∀ x ∈ op.operands.toList,Sub S.heap S'.heap (S.val x).ids)(h:aop P op nid S=some (d,eff)):aop P op nid S'=some (d,eff):=by
 cases op<;>simp only[quietOp,Bool.false_eq_true] at hq<;>simp only[Op.operands] at hv hh
 case move x=>simp only[aop,hv x (by simp)] at h ⊢;exact h
 case assign x=>simp only[aop,hv x (by simp)] at h ⊢;exact h
 case pick c x y=>simp only[aop,hv c (by simp),hv x (by simp),hv y (by simp)] at h ⊢;exact h
 case alloc e=>exact h
 case box e x=>simp only[aop,hv x (by simp)] at h ⊢;exact h
 case build t ps =>
  have e1:(ps.toList.map fun p=>(p.1,S'.val p.2))=ps.toList.map fun p=>(p.1,S.val p.2):=by
   apply List.map_congr_left
   intro p hp
   rw[hv p.2 (by simp;exact⟨p.1,by simpa using hp⟩)]
  simp only[aop,e1] at h ⊢;exact h
 case buildSlice t len ps =>
  have hmem:∀ p ∈ ps.toList,p.2 ∈ (ps.toList.map (·.2)).toArray.toList:=fun p hp=>by simp;exact⟨p.1,by simpa using hp⟩
  have e1:(ps.toList.map fun p=>S'.val p.2)=ps.toList.map fun p=>S.val p.2:=List.map_congr_left fun p hp=>hv p.2 (hmem p hp)
  simp only[aop,e1] at h ⊢
  cases h1:sliceT P t with
  | none=>rw[h1] at h;simp at h
  | some e =>
   simp only[h1] at h ⊢
   cases h2:szT P e with
   | none=>rw[h2] at h;simp at h
   | some k =>
    simp only[h2] at h ⊢
    cases h3:purDs S.heap (ps.toList.map fun p=>S.val p.2) with
    | none=>rw[h3] at h;simp at h
    | some q =>
     obtain⟨xs,ep⟩:=q
     rw[purDs_sub _ _ S'.heap xs ep (fun id hid=>by
      simp only[List.mem_flatMap,List.mem_map] at hid
      obtain⟨dd,⟨p,hp,rfl⟩,hid⟩:=hid
      exact hh rfl p.2 (hmem p hp) id hid) h3]
     rw[h3] at h
     exact h
 case load t x =>
  have hx:=hv x (by simp)
  have hb:=hh rfl x (by simp)
  simp only[aop,hx] at h ⊢
  cases hd:S.val x<;>rw[hd] at h hb<;>simp only[reduceCtorEq] at h ⊢
  case ptr id off =>
   cases hH:S.heap id with
   | none=>rw[hH] at h;simp at h
   | some b=>rw[hb id (by simp[D.ids,D.ids1]) b hH];rw[hH] at h;exact h
  case vptr id k i off =>
   cases hH:S.heap id with
   | none=>rw[hH] at h;simp at h
   | some b=>rw[hb id (by simp[D.ids,D.ids1]) b hH];rw[hH] at h;exact h
  case iptr ds=>exact h
 case store t x y =>
  have hb:=hh rfl x (by simp)
  have hb':=hh rfl y (by simp)
  simp only[aop,hv x (by simp),hv y (by simp)] at h ⊢
  cases hd:S.val x<;>rw[hd] at h hb<;>simp only[reduceCtorEq] at h ⊢
  case ptr id off =>
   cases hH:S.heap id with
   | none=>rw[hH] at h;simp at h
   | some b=>rw[hb id (by simp[D.ids,D.ids1]) b hH];rw[hH] at h;exact h
  case vptr id k i off =>
   cases hI:S.heap id with
   | none=>rw[hI] at h;simp at h
   | some bI =>
   rw[hb id (by simp[D.ids,D.ids1]) bI hI]
   rw[hI] at h
   simp only at h ⊢
   cases hM:matS P bI t id k i off (S.val y) with
   | some eff=>rw[hM] at h;exact h
   | none =>
   rw[hM] at h
   simp only at h ⊢
   cases h3:purD S.heap (S.val y) with
   | none=>rw[h3] at h;simp at h
   | some q =>
    obtain⟨x',ep⟩:=q
    rw[purD_sub hb' h3]
    rw[h3] at h
    simp only at h ⊢
    have hsub:=Sub.app hb ep
    cases hH:appEff S.heap ep id with
    | none=>rw[hH] at h;simp at h
    | some b=>rw[hsub id (by simp[D.ids,D.ids1]) b hH];rw[hH] at h;exact h
 case nilCheck x=>simp only[aop,hv x (by simp)] at h ⊢;exact h
 case binOp op t x y t'=>simp only[aop,hv x (by simp),hv y (by simp)] at h ⊢;exact h
 case unOp op t x=>simp only[aop,hv x (by simp)] at h ⊢;exact h
 case convert s t x =>
  have hb:=hh rfl x (by simp)
  simp only[aop,hv x (by simp)] at h ⊢
  cases hd:S.val x<;>rw[hd] at h hb<;>simp only[elemsD] at h ⊢<;>try exact h
  rename_i id n
  cases hH:S.heap id with
  | none=>rw[hH] at h;simp at h
  | some b=>rw[hb id (by simp[D.ids,D.ids1]) b hH];rw[hH] at h;exact h
 case slice t x lo hi mx =>
  cases mx with
  | some m=>simp only[aop,reduceCtorEq] at h
  | none =>
   have e1:lo.map S'.val=lo.map S.val:=opt_val fun y hy=>hv y (by simp at hy ⊢;simp[hy])
   have e2:hi.map S'.val=hi.map S.val:=opt_val fun y hy=>hv y (by simp at hy ⊢;simp[hy])
   have hb:=hh rfl x (by simp)
   simp only[aop,hv x (by simp),e1,e2] at h ⊢
   cases hd:S.val x<;>rw[hd] at h hb<;>simp only[reduceCtorEq] at h ⊢
   case own id m =>
    cases hH:S.heap id with
    | none=>rw[hH] at h;simp at h
    | some b=>rw[hb id (by simp[D.ids,D.ids1]) b hH];rw[hH] at h;exact h
   all_goals exact h
 case makeSlice t l c=>simp only[aop,hv l (by simp),hv c (by simp)] at h ⊢;exact h
 case fieldAddr s x f=>simp only[aop,hv x (by simp)] at h ⊢;exact h
 case field s x f=>simp only[aop,hv x (by simp)] at h ⊢;exact h
 case indexAddr t x i =>
  have hb:=hh rfl x (by simp)
  simp only[aop,hv x (by simp),hv i (by simp)] at h ⊢
  cases hi:S.val i<;>rw[hi] at h<;>simp only[reduceCtorEq] at h ⊢
  cases hd:S.val x<;>rw[hd] at h hb<;>simp only[reduceCtorEq] at h ⊢
  case own id m =>
   cases hH:S.heap id with
   | none=>rw[hH] at h;cases hs:sliceT P t<;>rw[hs] at h<;>simp at h
   | some b=>rw[hb id (by simp[D.ids,D.ids1]) b hH];rw[hH] at h;exact h
  all_goals exact h
 case index t x i=>simp only[aop,hv x (by simp),hv i (by simp)] at h ⊢;exact h
 case extract t i=>simp only[aop,hv t (by simp)] at h ⊢;exact h
 case lookup t x i ok =>
  have hb:=ids1_sub (hh rfl x (by simp))
  simp only[aop,hv x (by simp),hv i (by simp)] at h ⊢
  split at h
  ·rename_i k e k' n k'' ks vs e1 e2 e3
   simp only[e1,e2,mapD_sub hb e3]
   exact h
  ·simp at h
 case mapUpdate t m i x =>
  have hb:=hh rfl m (by simp)
  have hb':=hh rfl x (by simp)
  simp only[aop,hv x (by simp),hv i (by simp),hv m (by simp)] at h ⊢
  split at h
  ·rename_i k e id k' n v' ep e1 e2 e3 e4
   simp only[e1,e2,e3,purD_sub hb' e4]
   have hsub:=Sub.app hb ep
   cases hH:appEff S.heap ep id with
   | none=>rw[hH] at h;simp at h
   | some b=>rw[hsub id (by rw[e2];simp[D.ids,D.ids1]) b hH];rw[hH] at h;exact h
  ·simp at h
 case call c =>
  obtain⟨callee,args,argTypes⟩:=c
  obtain⟨args⟩:=args
  simp only[aop,abuiltin] at h ⊢
  simp only[Call.operands] at hv hh
  cases callee with
  | value f=>simp at h
  | invoke r m=>simp at h
  | builtin b =>
   cases b<;>simp only[Bool.false_eq_true] at hq
   case len =>
    match args,argTypes,h with
    | [x],⟨[t]⟩,h=>simp only[hv x (by simp)] at h ⊢;exact h
   case min =>
    match args,h with
    | [x,y],h=>simp only[hv x (by simp),hv y (by simp)] at h ⊢;exact h
   case max =>
    match args,h with
    | [x,y],h=>simp only[hv x (by simp),hv y (by simp)] at h ⊢;exact h
   case append =>
    match args,argTypes,h with
    | [s,x],⟨[t,t']⟩,h =>
     have hs:=hh rfl s (by simp)
     have hx:=hh rfl x (by simp)
     have ids1_sub:∀ dd:D,Sub S.heap S'.heap dd.ids→Sub S.heap S'.heap dd.ids1:=by
      intro dd hd id hid
      refine hd id ?_
      cases dd<;>first|exact hid|(simp[D.ids1] at hid)
     simp only[hv s (by simp),hv x (by simp)] at h ⊢
     cases h1:sliceT P t with
     | none=>rw[h1] at h;simp at h
     | some e =>
      simp only[h1] at h ⊢
      cases h2:szT P e with
      | none=>rw[h2] at h;simp at h
      | some k =>
       cases h3:bytesT P e with
       | none=>rw[h2,h3] at h;simp at h
       | some by_ =>
        cases h4:elemsD S.heap (S.val s) with
        | none=>rw[h2,h3,h4] at h;simp at h
        | some xs =>
         cases h5:elemsD S.heap (S.val x) with
         | none=>rw[h2,h3,h4,h5] at h;simp at h
         | some ys =>
          rw[elemsD_sub (ids1_sub _ hs) h4,elemsD_sub (ids1_sub _ hx) h5]
          rw[h4,h5] at h
          simp only[h2,h3] at h ⊢
          split at h
          ·rename_i hc
           rw[if_pos hc]
           cases hsv:S.val s<;>rw[hsv] at h hs<;>simp only[reduceCtorEq] at h ⊢
           case nils=>exact h
           case fsl=>exact h
           case own id n =>
            cases hH:S.heap id with
            | none=>rw[hH] at h;simp at h
            | some b=>rw[hs id (by simp[D.ids,D.ids1]) b hH];rw[hH] at h;exact h
          ·simp at h
def effOk(nid:Nat):Eff→Bool
 | []=>true
 | [(id,some _)]=>id == nid
 | _=>false
def CallAny(P:Program)(I:World→Prop)(f:FuncId)(ds ds':List D)(ep:Eff)(H:Nat→Option Blk)(n nid:Nat)(d:D)(eff:Eff):Prop:=∀ H',(∀ id b,id < n→H id=some b→H' id=some b)→Sub H H' (ds.flatMap D.ids)→CallOK P I f ds' (appEff H' ep) nid d eff
def St1 (P:Program)(I:World→Prop)(ops:Array Oper)(i:Nat)(o:Oper)(S:AS)(d:D)(eff:Eff):Prop :=
 (awant ops S.env o=some false∧d=.undef∧eff=[]) ∨
 (awant ops S.env o=some true∧((∃ f ds ds',acallee S o.op=some (f,ds)∧purDs S.heap ds=some (ds',eff)∧AFun P I f ds' d)∨(acallee S o.op=none∧aop P o.op (S.next+i) S=some (d,eff))∨∃ f ds ds' ep eff',acallee S o.op=some (f,ds)∧ArgX S.heap ds ds' ep∧eff=ep++eff'∧CallAny P I f ds ds' ep S.heap S.next (S.next+i) d eff'))
theorem St1.toO{ops:Array Oper}{i:Nat}{o:Oper}(h:St1 P I ops i o S d eff):awpO P I ops i o S (·=S.step o d eff):=by
 unfold awpO;rcases h with⟨h1,rfl,rfl⟩|⟨h1,h2⟩
 ·simp only[h1,Bool.false_eq_true,if_false]
 simp only[h1,if_true];rcases h2 with⟨f,ds,ds',h3,h4,h5⟩|⟨h3,h4⟩|⟨f,ds,ds',ep,eff',h3,h4,rfl,h5⟩
 ·simp only[h3,h4];exact .inl ⟨d,h5,rfl⟩
 ·simp only[h3,h4]
 simp only[h3];exact .inr ⟨ds',ep,d,eff',h4,h5 _ (fun _ _ _ h=>h) (fun _ _ _ h=>h),rfl⟩
theorem same_seen{ops:Array Oper}{o:Oper}(hq:quietOp o.op=true)(he:∀ t ∈ o.looksAt ops,S'.env t=S.env t)(hh:heapy o.op=true→∀ t ∈ o.looksAt ops,Sub S.heap S'.heap (S.env t).ids) :
  awant ops S'.env o=awant ops S.env o∧acallee S' o.op=acallee S o.op∧(∀ f ds,acallee S o.op=some (f,ds)→heapy o.op=true∧Sub S.heap S'.heap (ds.flatMap D.ids))∧∀ nid d eff,aop P o.op nid S=some (d,eff)→aop P o.op nid S'=some (d,eff):=by
 have hops:∀ x ∈ o.op.operands.toList,S'.val x=S.val x:=by
  intro x hx
  cases x with
  | tmp t=>exact he t (by unfold Oper.looksAt;exact List.mem_append_left _ (List.mem_filterMap.2 ⟨_,hx,rfl⟩))
  | _=>rfl
 have hops2:heapy o.op=true→∀ x ∈ o.op.operands.toList,Sub S.heap S'.heap (S.val x).ids:=by
  intro hp x hx id hid
  cases x with
  | tmp t=>exact hh hp t (by unfold Oper.looksAt;exact List.mem_append_left _ (List.mem_filterMap.2 ⟨_,hx,rfl⟩)) id hid
  | const v =>
   exfalso
   have c1:∀ v,(cD1 v).ids1=[]:=by
    intro v;unfold cD1;split<;>(try split)<;>rfl
   simp only[AS.val] at hid
   unfold cD at hid
   split at hid
   ·split at hid
    ·simp only[D.ids,List.mem_flatMap,List.mem_map] at hid
     obtain⟨_,⟨v',_,rfl⟩,hid⟩:=hid
     rw[c1] at hid;cases hid
    ·simp[D.ids,D.ids1] at hid
   ·have:(cD1 v).ids=[]:=by
     have:=c1 v
     unfold cD1 at this ⊢
     split<;>(try split)<;>rfl
    rw[this] at hid;cases hid
  | global g=>simp[AS.val,D.ids,D.ids1] at hid
  | func f=>simp[AS.val,D.ids,D.ids1] at hid
 have hw:awant ops S'.env o=awant ops S.env o:=by
  unfold awant
  cases hg:o.guard with
  | none=>rfl
  | some jw =>
   obtain⟨j,want⟩:=jw
   simp only
   cases hj:gdst ops j with
   | none=>rfl
   | some t =>
    simp only
    rw[he t]
    unfold Oper.looksAt
    refine List.mem_append_right _ ?_
    rw[hg]
    unfold gdst at hj
    cases ho:ops[j]? with
    | none=>rw[ho] at hj;simp at hj
    | some oj=>rw[ho] at hj;simp[ho];simpa using hj
 have hc:acallee S' o.op=acallee S o.op:=by
  unfold acallee
  cases hop:o.op<;>try rfl
  rename_i c
  simp only
  cases hcal:c.callee<;>try rfl
  rename_i f
  simp only
  rw[hop] at hops
  have h1:=hops f (by simp[Op.operands,Call.operands,hcal])
  have h2:c.args.toList.map S'.val=c.args.toList.map S.val:=map_val fun x hx=>hops x (by simp[Op.operands,Call.operands,hcal];exact .inr (by simpa using hx))
  rw[h1,h2]
 have hcall:∀ f ds,acallee S o.op=some (f,ds)→heapy o.op=true:=by
  intro f ds h3
  unfold acallee at h3
  split at h3
  ·rename_i c hop
   split at h3
   ·rename_i x hcal
    rw[hop]
    simp[heapy,hcal]
   ·simp at h3
  ·simp at h3
 have hsub:∀ f ds,acallee S o.op=some (f,ds)→Sub S.heap S'.heap (ds.flatMap D.ids):=by
  intro f ds h3
  unfold acallee at h3
  split at h3
  ·rename_i c hop
   split at h3
   ·rename_i x hcal
    split at h3
    ·rename_i g cs hx
     split at h3
     case isFalse=>simp at h3
     rename_i hcap
     simp only[Option.some.injEq,Prod.mk.injEq] at h3
     obtain⟨_,rfl⟩:=h3
     rw[hop] at hops2
     intro id hid
     simp only[List.flatMap_append,List.mem_append] at hid
     rcases hid with hid|hid
     ·simp only[List.mem_flatMap,List.mem_map] at hid
      obtain⟨dd,⟨y,hy,rfl⟩,hid⟩:=hid
      exact hops2 (by simp[heapy,hcal]) y (by simp[Op.operands,Call.operands,hcal];exact .inr (by simpa using hy)) id hid
     ·refine hops2 (by simp[heapy,hcal]) x (by simp[Op.operands,Call.operands,hcal]) id ?_
      rw[hx]
      simp only[D.ids,List.mem_flatMap] at hid ⊢
      obtain⟨dd,h1,h2⟩:=hid
      refine⟨dd,h1,?_⟩
      have:=List.all_eq_true.1 hcap dd h1
      cases dd<;>first|exact h2|(simp[capOk] at this)
    ·simp at h3
   ·simp at h3
  ·simp at h3
 exact⟨hw,hc,fun f ds h=>⟨hcall f ds h,hsub f ds h⟩,fun nid d eff h=>aop_mono hq hops hops2 h⟩
def CallLoc(P:Program)(I:World→Prop)(f:FuncId)(ds ds':List D)(ep:Eff)(H:Nat→Option Blk)(nid:Nat)(d:D)(eff:Eff):Prop:=∀ H',Sub H H' (ds.flatMap D.ids)→CallOK P I f ds' (appEff H' ep) nid d eff
def St1N (P:Program)(I:World→Prop)(ops:Array Oper)(i:Nat)(o:Oper)(S:AS)(d:D)(eff:Eff):Prop :=
 (awant ops S.env o=some false∧d=.undef∧eff=[]) ∨
 (awant ops S.env o=some true∧((∃ f ds ds',acallee S o.op=some (f,ds)∧purDs S.heap ds=some (ds',eff)∧AFun P I f ds' d)∨(acallee S o.op=none∧aop P o.op (S.next+i) S=some (d,eff))∨∃ f ds ds' ep eff',acallee S o.op=some (f,ds)∧ArgX S.heap ds ds' ep∧eff=ep++eff'∧CallLoc P I f ds ds' ep S.heap (S.next+i) d eff'))
theorem St1N.to1{ops:Array Oper}{i:Nat}{o:Oper}(h:St1N P I ops i o S d eff):St1 P I ops i o S d eff:=by
 rcases h with h|⟨h1,h2|h2|⟨f,ds,ds',ep,eff',h3,h4,rfl,h5⟩⟩
 ·exact .inl h
 ·exact .inr ⟨h1,.inl h2⟩
 ·exact .inr ⟨h1,.inr (.inl h2)⟩
 exact .inr ⟨h1,.inr (.inr ⟨f,ds,ds',ep,eff',h3,h4,rfl,fun H' _ hs=>h5 H' hs⟩)⟩
theorem St1N.mono{ops:Array Oper}{i:Nat}{o:Oper}(hq:quietOp o.op=true)(hn:S'.next=S.next)(he:∀ t ∈ o.looksAt ops,S'.env t=S.env t)(hh:heapy o.op=true→∀ t ∈ o.looksAt ops,Sub S.heap S'.heap (S.env t).ids)
  (h:St1N P I ops i o S d eff):St1N P I ops i o S' d eff:=by
 obtain⟨hw,hc,hs,ha⟩:=same_seen (P:=P) hq he hh
 unfold St1N
 rw[hw,hc,hn]
 rcases h with h|⟨h1,h2⟩
 ·exact .inl h
 ·refine .inr ⟨h1,?_⟩
  rcases h2 with⟨f,ds,ds',h3,h4,h5⟩|⟨h3,h4⟩|⟨f,ds,ds',ep,eff',h3,h4,rfl,h5⟩
  ·exact .inl ⟨f,ds,ds',h3,purDs_sub ds _ _ ds' eff (hs f ds h3).2 h4,h5⟩
  ·exact .inr (.inl ⟨h3,ha _ _ _ h4⟩)
  ·obtain⟨k1,k2⟩:=hs f ds h3
   exact .inr (.inr ⟨f,ds,ds',ep,eff',h3,ArgX_sub k2 h4,rfl,fun H' hs'=>h5 H' fun id hid b hb=>hs' id hid b (k2 id hid b hb)⟩)
theorem St1.mono{ops:Array Oper}{i:Nat}{o:Oper}(hq:quietOp o.op=true)(hn:S'.next=S.next)(he:∀ t ∈ o.looksAt ops,S'.env t=S.env t)(hh:heapy o.op=true→∀ t ∈ o.looksAt ops,Sub S.heap S'.heap (S.env t).ids)
  (hold:heapy o.op=true→acallee S o.op≠none→∀ id b,id < S.next→S.heap id=some b→S'.heap id=some b) (h:St1 P I ops i o S d eff):St1 P I ops i o S' d eff:=by
 obtain⟨hw,hc,hs,ha⟩:=same_seen (P:=P) hq he hh
 rcases h with h|⟨h1,h2⟩
 ·exact(St1N.mono hq hn he hh (.inl h)).to1
 ·rcases h2 with h2|h2|⟨f,ds,ds',ep,eff',h3,h4,rfl,h5⟩
  ·exact(St1N.mono hq hn he hh (.inr ⟨h1,.inl h2⟩)).to1
  ·exact(St1N.mono hq hn he hh (.inr ⟨h1,.inr (.inl h2)⟩)).to1
  ·unfold St1
   rw[hw,hc,hn]
   obtain⟨k1,k2⟩:=hs f ds h3
   exact .inr ⟨h1,.inr (.inr ⟨f,ds,ds',ep,eff',h3,ArgX_sub k2 h4,rfl,fun H' hn' hs'=>h5 H' (fun id b hlt hb=>hn' id b hlt (hold k1 (by rw[h3];simp) id b hlt hb)) fun id hid b hb=>hs' id hid b (k2 id hid b hb)⟩)⟩
theorem St1.light{ops:Array Oper}{i:Nat}{o:Oper}(hq:quietOp o.op=true)(hp:heapy o.op=false)(h:St1 P I ops i o S d eff):effOk (S.next+i) eff=true:=by
 rcases h with⟨_,_,rfl⟩|⟨_,h2⟩
 ·rfl
 ·have nocall:∀ f ds,acallee S o.op=some (f,ds)→False:=by
   intro f ds h3
   unfold acallee at h3
   split at h3
   ·rename_i c hop
    rw[hop] at hp
    split at h3
    ·rename_i x hcal
     simp[heapy,hcal] at hp
    ·simp at h3
   ·simp at h3
  rcases h2 with⟨f,ds,ds',h3,_,_⟩|⟨hacc,h4⟩|⟨f,ds,_,_,_,h3,_⟩
  ·exact(nocall f ds h3).elim
  rotate_left
  ·exact(nocall f ds h3).elim
  ·clear hacc
   generalize o.op=op at *
   cases op<;>simp only[quietOp,heapy,Bool.false_eq_true,Bool.true_eq_false] at hq hp<;>simp only[aop] at h4
   case alloc e =>
    split at h4
    ·split at h4
     ·simp at h4;obtain⟨_,rfl⟩:=h4;simp[effOk]
     ·simp at h4
    ·simp at h4
   case box e x =>
    split at h4
    ·cases hb:froT P e&&(S.val x).cells.all intD with
     | false=>rw[hb] at h4;simp[boxR] at h4;obtain⟨_,rfl⟩:=h4;simp[effOk]
     | true=>rw[hb] at h4;simp[boxR] at h4;obtain⟨_,rfl⟩:=h4;simp[effOk]
    ·simp at h4
   case makeSlice t l c =>
    repeat' split at h4
    all_goals first|(simp at h4;done)|(simp at h4;obtain⟨_,rfl⟩:=h4;simp[effOk])
   case call c =>
    obtain⟨callee,args,argTypes⟩:=c
    cases callee<;>simp only[Bool.false_eq_true,Bool.true_eq_false] at hq hp
    rename_i b
    have he:eff=[]:=by
     unfold abuiltin at h4
     cases b<;>simp only[Bool.false_eq_true,Bool.true_eq_false] at hq hp<;>(repeat' split at h4)<;>simp_all
    subst he;rfl
   all_goals
    have he:eff=[]:=by
     (repeat' split at h4)<;>simp_all<;>(obtain⟨_,_,_,h5⟩:=h4;exact h5)
    subst he
    rfl
end
def edgesOf(o:Oper):List Nat:=(o.after.toList.filter (Region.binds .any)).map (·.on)
def aheadL:List (List Nat)→List Nat→List Nat
 | [],acc=>acc
 | es::rest,acc=>aheadL rest (acc++[es.foldl (fun s e=>s ||| 2 ^ e ||| acc.getD e 0) 0])
def aheads(ops:Array Oper):List Nat:=aheadL (ops.toList.map edgesOf) []
def drawOk(ops:Array Oper):Bool :=
 let b:=aheads ops
 (ops.toList.zipIdx.all fun p=>quietOp p.1.op&&(edgesOf p.1).all (fun e=>decide (e < p.2))) &&
 (ops.toList.zipIdx.all fun p=>ops.toList.zipIdx.all fun q=>q.2 == p.2||match q.1.dst with
  | none=>true
  | some t=>(!(p.1.looksAt ops).contains t&&p.1.dst != some t)||(b.getD (max q.2 p.2) 0).testBit (min q.2 p.2))
def hvOk (ops:Array Oper)(i:Nat):Bool:=ops.toList.zipIdx.all fun q=>q.2 == i||!heapy q.1.op||((aheads ops).getD (max q.2 i) 0).testBit (min q.2 i)
def effIn(ops:Array Oper)(n i:Nat)(eff:Eff):Bool:=eff.all fun p=>decide (p.1 < n)||p.1 == n+i||(decide (p.1 < n+i)&&((aheads ops).getD i 0).testBit (p.1 - n))
def effH (ops:Array Oper)(n i:Nat)(eff:Eff):Bool:=effOk (n+i) eff||(hvOk ops i&&effIn ops n i eff)
theorem appEff_notin:∀ (e:Eff) (H:Nat→Option Blk) (id:Nat),(∀ p ∈ e,p.1≠id)→appEff H e id=H id
 | [],_,_,_=>rfl
 | (i,b)::e,H,id,h=>by
  simp only[appEff]
  rw[appEff_notin e _ id (fun p hp=>h p (by simp[hp]))]
  simp only[upd]
  rw[if_neg (fun he=>h (i,b) (by simp) he.symm)]
theorem appEff_congr:∀ (e:Eff) (H H':Nat→Option Blk) (id:Nat),H id=H' id→appEff H e id=appEff H' e id
 | [],_,_,_,h=>h
 | (i,b)::e,H,H',id,h=>by
  simp only[appEff]
  refine appEff_congr e _ _ id ?_
  simp only[upd]
  split
  ·rfl
  ·exact h
theorem appEff_in:∀ (e:Eff) (H H':Nat→Option Blk) (id:Nat),(∃ p ∈ e,p.1=id)→appEff H e id=appEff H' e id
 | [],_,_,_,h=>by obtain⟨_,h,_⟩:=h;cases h
 | (i,b)::e,H,H',id,h=>by
  simp only[appEff]
  by_cases he:i=id
  ·refine appEff_congr e _ _ id ?_
   simp only[upd]
   rw[if_pos he.symm,if_pos he.symm]
  ·refine appEff_in e _ _ id ?_
   obtain⟨p,hp,hpe⟩:=h
   rcases List.mem_cons.1 hp with rfl|hp
   ·exact absurd hpe he
   ·exact⟨p,hp,hpe⟩
theorem appEff_comm(E e:Eff)(H:Nat→Option Blk)(id:Nat)(h:∀ p ∈ E,∀ q ∈ e,p.1≠q.1):appEff (appEff H E) e id=appEff (appEff H e) E id:=by
 by_cases h1:∃ p ∈ e,p.1=id
 ·rw[appEff_in e (appEff H E) H id h1,appEff_notin E (appEff H e) id];intro p hp hpe;obtain⟨q,hq,hqe⟩:=h1;exact h p hp q hq (hpe.trans hqe.symm)
 have h1':∀ p ∈ e,p.1≠id:=fun p hp he=>h1 ⟨p,hp,he⟩;rw[appEff_notin e _ id h1'];exact appEff_congr E _ _ id (appEff_notin e H id h1').symm
theorem fold_bit(acc:List Nat)(i:Nat):∀ (es:List Nat) (s:Nat),(es.foldl (fun s e=>s ||| 2 ^ e ||| acc.getD e 0) s).testBit i=true→s.testBit i=true∨∃ e ∈ es,e=i∨(acc.getD e 0).testBit i=true
 | [],s,h=>.inl h
 | e::es,s,h=>by
  rcases fold_bit acc i es _ h with h1|⟨e',he',h1⟩
  ·simp only[Nat.testBit_or,Bool.or_eq_true] at h1
   rcases h1 with(h1|h1)|h1
   ·exact .inl h1
   ·rw[Nat.testBit_two_pow] at h1
    exact .inr ⟨e,by simp,.inl (by simpa using h1)⟩
   ·exact .inr ⟨e,by simp,.inr h1⟩
  ·exact .inr ⟨e',by simp[he'],h1⟩
theorem aheadL_spec(X:Nat→Prop):∀ (ess:List (List Nat)) (acc:List Nat) (all:List (List Nat)),all.drop acc.length=ess→(∀ j es,all[j]? = some es→X j→∀ e ∈ es,X e) →
  (∀ j es,all[j]? = some es→j < acc.length→(∀ e ∈ es,X e)→∀ i,(acc.getD j 0).testBit i=true→X i) →
  ∀ j es,all[j]? = some es→(∀ e ∈ es,X e)→∀ i,((aheadL ess acc).getD j 0).testBit i=true→X i:=by
 intro ess
 induction ess with
 | nil =>
  intro acc all hd hX hacc j es hj hes i hb
  simp only[aheadL] at hb
  refine hacc j es hj ?_ hes i hb
  have h1:=(List.getElem?_eq_some_iff.1 hj).1
  have:=congrArg List.length hd
  simp at this
  omega
 | cons e0 ess ih =>
  intro acc all hd hX hacc j es hj hes i hb
  simp only[aheadL] at hb
  have h0:all[acc.length]? = some e0:=by
   have:(all.drop acc.length)[0]? = some e0:=by rw[hd];rfl
   simpa using this
  refine ih _ all ?_ hX ?_ j es hj hes i hb
  ·rw[List.length_append,List.length_singleton,← List.drop_drop,hd];rfl
  ·intro j' es' hj' hlt hes' i' hb'
   rw[List.length_append,List.length_singleton] at hlt
   by_cases hj0:j' < acc.length
   ·refine hacc j' es' hj' hj0 hes' i' ?_
    simpa[List.getD,List.getElem?_append_left hj0] using hb'
   ·have hje:j'=acc.length:=by omega
    subst hje
    rw[h0] at hj'
    injection hj' with hj'
    subst hj'
    have hb2:(e0.foldl (fun s e=>s ||| 2 ^ e ||| acc.getD e 0) 0).testBit i'=true:=by simpa[List.getD] using hb'
    rcases fold_bit acc i' e0 0 hb2 with h1|⟨e,he,h1⟩
    ·simp at h1
    ·rcases h1 with rfl|h1
     ·exact hes' _ he
     ·have hlt':e < acc.length:=by
       rcases Nat.lt_or_ge e acc.length with h|h
       ·exact h
       ·simp[List.getD,List.getElem?_eq_none h] at h1
      have hXe:=hes' e he
      have hall:e < all.length:=by have:=(List.getElem?_eq_some_iff.1 h0).1;omega
      exact hacc e _ (List.getElem?_eq_getElem hall) hlt' (hX e _ (List.getElem?_eq_getElem hall) hXe) i' h1
theorem aheads_spec{ops:Array Oper}(X:Nat→Prop)(hX:∀ j o,ops[j]? = some o→X j→∀ e ∈ edgesOf o,X e)(j:Nat)(o:Oper)(ho:ops[j]? = some o)(he:∀ e ∈ edgesOf o,X e)(i:Nat)(hb:((aheads ops).getD j 0).testBit i=true):X i:=by
 have get:∀ (j:Nat) es,(ops.toList.map edgesOf)[j]? = some es→∃ o,ops[j]? = some o∧edgesOf o=es:=by
  intro j es h
  simp only[List.getElem?_map] at h
  cases hj:ops.toList[j]? with
  | none=>rw[hj] at h;simp at h
  | some o=>rw[hj] at h;simp at h;exact⟨o,by simpa using hj,h⟩
 refine aheadL_spec X (ops.toList.map edgesOf) [] (ops.toList.map edgesOf) (by simp) ?_ (by simp) j (edgesOf o) (by simp[ho]) he i hb
 intro j es h hj
 obtain⟨o,h1,rfl⟩:=get j es h
 exact hX j o h1 hj
section
variable {P:Program}{I:World→Prop}{ops:Array Oper}{S:AS}{tr:Nat→D × Eff}
def stX (ops:Array Oper)(S:AS)(tr:Nat→D × Eff)(X:Nat→Bool):Nat→AS
 | 0=>S
 | m+1=>match ops[m]? with
  | some o=>if X m then(stX ops S tr X m).step o (tr m).1 (tr m).2 else stX ops S tr X m
  | none=>stX ops S tr X m
theorem stX_next(X:Nat→Bool):∀ m,(stX ops S tr X m).next=S.next∧(stX ops S tr X m).nt=S.nt
 | 0=>⟨rfl,rfl⟩
 | m+1=>by
  simp only[stX]
  split
  ·split
   ·exact stX_next X m
   ·exact stX_next X m
  ·exact stX_next X m
theorem stX_env{X Y:Nat→Bool}{t:Nat}:∀ m,(∀ i o,i < m→ops[i]? = some o→o.dst=some t→X i=Y i)→(stX ops S tr X m).env t=(stX ops S tr Y m).env t
 | 0,_=>rfl
 | m+1,h=>by
  have ih:=stX_env (X:=X) (Y:=Y) m fun i o hi=>h i o (by omega)
  simp only[stX]
  cases ho:ops[m]? with
  | none=>exact ih
  | some o =>
   simp only
   by_cases hd:o.dst=some t
   ·have hxy:=h m o (by omega) ho hd
    rw[hxy]
    split
    ·simp[AS.step,hd,upd]
    ·exact ih
   ·have hstep:∀ S1:AS,(S1.step o (tr m).1 (tr m).2).env t=S1.env t:=by
     intro S1
     simp only[AS.step]
     cases hdst:o.dst with
     | none=>rfl
     | some t'=>simp only[upd];rw[if_neg (fun e=>hd (by rw[hdst,e]))]
    split<;>split<;>simp only[hstep,ih]
theorem stX_heap{X Y:Nat→Bool}{id:Nat}:∀ m,(∀ i,i < m→effOk (S.next+i) (tr i).2=false→X i=Y i)→(∀ i,i < m→id=S.next+i→X i=Y i)→(stX ops S tr X m).heap id=(stX ops S tr Y m).heap id
 | 0,_,_=>rfl
 | m+1,hv,h=>by
  have ih:=stX_heap (X:=X) (Y:=Y) m (fun i hi=>hv i (by omega)) (fun i hi=>h i (by omega))
  simp only[stX]
  cases ho:ops[m]? with
  | none=>exact ih
  | some o =>
   simp only
   have both:X m=Y m→(if X m=true then(stX ops S tr X m).step o (tr m).1 (tr m).2 else stX ops S tr X m).heap id=(if Y m=true then(stX ops S tr Y m).step o (tr m).1 (tr m).2 else stX ops S tr Y m).heap id:=by
    intro hxy
    rw[hxy]
    split
    ·simp only[AS.step];exact appEff_congr _ _ _ id ih
    ·exact ih
   cases he:effOk (S.next+m) (tr m).2 with
   | false=>exact both (hv m (by omega) he)
   | true =>
    by_cases hid:id=S.next+m
    ·exact both (h m (by omega) hid)
    ·have hstep:∀ S1:AS,(S1.step o (tr m).1 (tr m).2).heap id=S1.heap id:=by
      intro S1
      simp only[AS.step]
      refine appEff_notin _ _ id fun p hp hpe=>hid ?_
      unfold effOk at he
      split at he
      ·rename_i e0;rw[e0] at hp;cases hp
      ·rename_i i0 b0 e0
       rw[e0] at hp
       simp at hp he
       subst hp
       rw[← hpe,he]
      ·simp at he
     split<;>split<;>simp only[hstep,ih]
theorem stX_cut(j:Nat):∀ m,j≤m→stX ops S tr (fun i=>decide (i < j)) m=stX ops S tr (fun _=>true) j:=by
 intro m
 induction m with
 | zero=>intro h;obtain rfl:j=0:=(by omega);rfl
 | succ m ih =>
  intro h
  by_cases hj:j=m+1
  ·subst hj
   have:∀ m',m'≤m+1→stX ops S tr (fun i=>decide (i < m+1)) m'=stX ops S tr (fun _=>true) m':=by
    intro m'
    induction m' with
    | zero=>intro _;rfl
    | succ m' ih' =>
     intro h'
     have hm:decide (m' < m+1)=true:=decide_eq_true (by omega)
     simp only[stX,ih' (by omega),hm]
   exact this _ (Nat.le_refl _)
  ·have hm:decide (m < j)=false:=decide_eq_false (by omega)
   have ihm:=ih (by omega)
   simp only[stX]
   cases ops[m]? with
   | none=>exact ihm
   | some o=>simp only[hm,Bool.false_eq_true,if_false];exact ihm
theorem AS.ext2{S1 S2:AS}(h1:∀ t,S1.env t=S2.env t)(h2:∀ id,S1.heap id=S2.heap id)(h3:S1.next=S2.next)(h4:S1.nt=S2.nt):S1=S2:=by
 obtain⟨e1,p1,n1,m1⟩:=S1;obtain⟨e2,p2,n2,m2⟩:=S2;simp only at *;subst h3 h4;obtain rfl:e1=e2:=funext h1;obtain rfl:p1=p2:=funext h2;rfl
theorem mem_ready'{listed:Array Bool}{j:Nat}:j ∈ Region.ready .any ops listed ↔ ∃ o,ops[j]? = some o∧listed.getD j true=false∧∀ e ∈ edgesOf o,listed.getD e false=true:=by
 unfold Region.ready edgesOf
 rw[List.mem_filter,List.mem_range]
 constructor
 ·rintro⟨h1,h2⟩
  have ho:ops[j]? = some ops[j]:=Array.getElem?_eq_getElem h1
  rw[ho] at h2
  simp only[Option.map_some,Option.getD_some,Bool.and_eq_true,Bool.not_eq_true'] at h2
  refine⟨_,ho,h2.1,fun e he=>?_⟩
  obtain⟨ed,hed,rfl⟩:=List.mem_map.1 he
  obtain⟨hm,hb⟩:=List.mem_filter.1 hed
  have:=Array.all_eq_true'.1 h2.2 ed (by simpa using hm)
  rw[hb] at this
  simpa using this
 ·rintro⟨o,ho,h1,h2⟩
  have hlt:j < ops.size:=by
   rcases Nat.lt_or_ge j ops.size with h|h
   ·exact h
   ·rw[Array.getElem?_eq_none h] at ho;cases ho
  refine⟨hlt,?_⟩
  rw[ho]
  simp only[Option.map_some,Option.getD_some,Bool.and_eq_true,Bool.not_eq_true']
  refine⟨h1,Array.all_eq_true'.2 fun ed hed=>?_⟩
  cases hb:Region.binds .any ed with
  | false=>rfl
  | true=>simpa using h2 ed.on (List.mem_map.2 ⟨ed,List.mem_filter.2 ⟨by simpa using hed,hb⟩,rfl⟩)
theorem stX_comm{X X':Nat→Bool}{j:Nat}{o:Oper}(hX:∀ i,X' i=if i=j then true else X i)(hj:X j=false)(ho:ops[j]? = some o)(hc:∀ m,j < m→m < ops.size→X m=true→∀ p ∈ (tr j).2,∀ q ∈ (tr m).2,p.1≠q.1)(id:Nat) :
  ∀ m,j < m→m≤ops.size→(stX ops S tr X' m).heap id=appEff (stX ops S tr X m).heap (tr j).2 id:=by
 have hsame:∀ m,m≤j→stX ops S tr X' m=stX ops S tr X m:=by
  intro m
  induction m with
  | zero=>intro _;rfl
  | succ m ihm =>
   intro hm
   have hXm:X' m=X m:=by rw[hX,if_neg (by omega)]
   simp only[stX,ihm (by omega),hXm]
 intro m
 induction m with
 | zero=>intro h;omega
 | succ m ihm =>
  intro hjm hms
  by_cases hmj:m=j
  ·subst hmj
   have hXm:X' m=true:=by rw[hX,if_pos rfl]
   simp only[stX,ho,hsame m (Nat.le_refl _),hXm,if_true,hj,Bool.false_eq_true,if_false,AS.step]
  ·have ih2:=ihm (by omega) (by omega)
   have hom:ops[m]? = some ops[m]:=Array.getElem?_eq_getElem (by omega)
   have hXm:X' m=X m:=by rw[hX,if_neg hmj]
   simp only[stX,hom,hXm]
   cases hxm:X m with
   | false=>simp only[Bool.false_eq_true,if_false];exact ih2
   | true =>
    simp only[if_true,AS.step]
    rw[appEff_congr _ _ _ id ih2]
    exact appEff_comm _ _ _ id (hc m (by omega) (by omega) hxm)
set_option maxHeartbeats 2000000 in
theorem draw_any{G:Gh}{Q:Exit→Act→World→Prop}(hstab:Stab I)(hd:dstsOk ops S.nt=true)(hok:drawOk ops=true)(heff:∀ i,effH ops S.next i (tr i).2=true)(hS:∀ id b,S.heap id=some b→id < S.next)
  (hT:∀ i o,ops[i]? = some o→St1 P I ops i o (stX ops S tr (fun _=>true) i) (tr i).1 (tr i).2)
  (hQ:∀ C a w,Rel I G (fun id=>id < S.next+ops.size) (stX ops S tr (fun _=>true) ops.size) C a w→Q .normal a w) :
  ∀ (fuel:Nat) (listed:Array Bool) (C:Cx) (a:Act) (w:World),listed.size=ops.size→(∀ j o,ops[j]? = some o→listed.getD j false=true→∀ e ∈ edgesOf o,listed.getD e false=true)→(listed.toList.filter (fun b=>!b)).length≤fuel →
   Rel I G (fun id=>id < S.next∨∃ i,i < ops.size∧listed.getD i false=true∧id=S.next+i) (stX ops S tr (fun i=>listed.getD i false) ops.size) C a w→wpAny P .any ops Q fuel listed a w:=by
 -- the static conditions
 simp only[drawOk,Bool.and_eq_true] at hok
 obtain⟨hok1,hok2⟩:=hok
 have quiet:∀ j o,ops[j]? = some o→quietOp o.op=true∧∀ e ∈ edgesOf o,e < j:=by
  intro j o ho
  have hm:(o,j) ∈ ops.toList.zipIdx:=by
   rw[List.mem_zipIdx_iff_getElem?];simpa using ho
  have:=List.all_eq_true.1 hok1 (o,j) hm
  simp only[Bool.and_eq_true,List.all_eq_true,decide_eq_true_eq] at this
  exact this
 have order:∀ i j oi oj t,ops[i]? = some oi→ops[j]? = some oj→i≠j→oi.dst=some t→(t ∈ oj.looksAt ops∨oj.dst=some t)→((aheads ops).getD (max i j) 0).testBit (min i j)=true:=by
  intro i j oi oj t hi hj hne hdst ht
  have hm:(oj,j) ∈ ops.toList.zipIdx:=by rw[List.mem_zipIdx_iff_getElem?];simpa using hj
  have hm':(oi,i) ∈ ops.toList.zipIdx:=by rw[List.mem_zipIdx_iff_getElem?];simpa using hi
  have:=List.all_eq_true.1 (List.all_eq_true.1 hok2 (oj,j) hm) (oi,i) hm'
  simp only[hdst,Bool.or_eq_true,Bool.and_eq_true,beq_iff_eq,Bool.not_eq_true',bne_iff_ne,ne_eq] at this
  rcases this with h|h|h
  ·exact absurd h hne
  ·rcases ht with ht|ht
   ·have:(oj.looksAt ops).contains t=true:=by simpa using ht
    rw[this] at h;simp at h
   ·exact absurd ht h.2
  ·exact h
 have T_dst:∀ j o,ops[j]? = some o→j < ops.size:=by
  intro j o ho
  rcases Nat.lt_or_ge j ops.size with h|h
  ·exact h
  ·rw[Array.getElem?_eq_none h] at ho;cases ho
 have heavy:∀ i,effOk (S.next+i) (tr i).2=false→hvOk ops i=true∧effIn ops S.next i (tr i).2=true:=by
  intro i hi
  have:=heff i
  unfold effH at this
  rw[hi] at this
  simpa using this
 have hvord:∀ i j oj,hvOk ops i=true→ops[j]? = some oj→i≠j→heapy oj.op=true→((aheads ops).getD (max j i) 0).testBit (min j i)=true:=by
  intro i j oj hi hj hne hp
  have hm:(oj,j) ∈ ops.toList.zipIdx:=by rw[List.mem_zipIdx_iff_getElem?];simpa using hj
  have:=List.all_eq_true.1 hi (oj,j) hm
  simp only[hp,Bool.or_eq_true,beq_iff_eq,Bool.not_true,Bool.false_eq_true,or_false] at this
  rcases this with h|h
  ·exact absurd h.symm hne
  ·exact h
 have effin:∀ i,∀ p ∈ (tr i).2,p.1 < S.next∨p.1=S.next+i∨(p.1 < S.next+i∧((aheads ops).getD i 0).testBit (p.1 - S.next)=true):=by
  intro i p hp
  cases he:effOk (S.next+i) (tr i).2 with
  | false =>
   have:=List.all_eq_true.1 (heavy i he).2 p hp
   simp only[Bool.or_eq_true,decide_eq_true_eq,beq_iff_eq,Bool.and_eq_true] at this
   rcases this with(h|h)|h
   ·exact .inl h
   ·exact .inr (.inl h)
   ·exact .inr (.inr h)
  | true =>
   unfold effOk at he
   split at he
   ·rename_i e0;rw[e0] at hp;cases hp
   ·rename_i i0 b0 e0
    rw[e0] at hp
    simp at hp he
    subst hp
    exact .inr (.inl he)
   ·simp at he
 have efflight:∀ i,effOk (S.next+i) (tr i).2=true→∀ p ∈ (tr i).2,p.1=S.next+i:=by
  intro i he p hp
  unfold effOk at he
  split at he
  ·rename_i e0;rw[e0] at hp;cases hp
  ·rename_i i0 b0 e0
   rw[e0] at hp
   simp at hp he
   subst hp
   exact he
  ·simp at he
 have fresh:∀ j i,j≤i→∀ m,(stX ops S tr (fun i=>decide (i < j)) m).heap (S.next+i)=S.heap (S.next+i):=by
  intro j i hji m
  induction m with
  | zero=>rfl
  | succ m ihm =>
   simp only[stX]
   cases hom:ops[m]? with
   | none=>exact ihm
   | some om =>
    simp only
    split
    ·rename_i hm
     have hm':m < j:=by simpa using hm
     simp only[AS.step]
     rw[appEff_notin _ _ _ (fun p hp=>by rcases effin m p hp with h|h|h<;>omega)]
     exact ihm
    ·exact ihm
 intro fuel
 induction fuel with
 | zero =>
  intro listed C a w hsz hcl hfu hR
  have hall:∀ i,i < ops.size→listed.getD i false=true:=by
   intro i hi
   have hnil:listed.toList.filter (fun b=>!b)=[]:=List.eq_nil_of_length_eq_zero (by omega)
   rw[List.filter_eq_nil_iff] at hnil
   have hlt:i < listed.size:=by omega
   have:=hnil listed[i] (by simp)
   simpa[Array.getD,hlt] using this
  have hst:stX ops S tr (fun i=>listed.getD i false) ops.size=stX ops S tr (fun _=>true) ops.size :=
   AS.ext2 (fun t=>stX_env _ fun i o hi _ _=>hall i hi) (fun id=>stX_heap _ (fun i hi _=>hall i hi) (fun i hi _=>hall i hi)) (by rw[(stX_next _ _).1,(stX_next _ _).1]) (by rw[(stX_next _ _).2,(stX_next _ _).2])
  refine⟨?_,?_⟩
  ·cases hr:Region.ready .any ops listed with
   | nil=>rfl
   | cons j rest =>
    have hj:j ∈ Region.ready .any ops listed:=by rw[hr];simp
    obtain⟨o,ho,h1,_⟩:=mem_ready'.1 hj
    have h2:=hall j (T_dst j o ho)
    have hlt:j < listed.size:=by have:=T_dst j o ho;omega
    simp[Array.getD,hlt] at h1 h2
    rw[h1] at h2;cases h2
  ·refine hQ C a w ?_
   rw[hst] at hR
   exact⟨hR.ok,hR.inv,hR.below,hR.new,hR.ext,hR.defers,hR.size,fun id hl=>by rcases hR.live id hl with h|⟨i,hi,_,h⟩<;>omega⟩
 | succ fuel ih =>
  intro listed C a w hsz hcl hfu hR
  refine⟨fun hr=>?_,fun j hj=>?_⟩
  ·-- nothing is ready: all are done
   have hall:∀ i,i < ops.size→listed.getD i false=true:=by
    intro i
    induction i using Nat.strongRecOn with
    | _ i ihi =>
     intro hi
     cases hb:listed.getD i false with
     | true=>rfl
     | false =>
      exfalso
      have ho:ops[i]? = some ops[i]:=Array.getElem?_eq_getElem hi
      have hlt:i < listed.size:=by omega
      have:i ∈ Region.ready .any ops listed:=mem_ready'.2 ⟨_,ho,by simpa[Array.getD,hlt] using hb,fun e he=>ihi e ((quiet i _ ho).2 e he) (by have:=(quiet i _ ho).2 e he;omega)⟩
      rw[hr] at this
      cases this
   have hst:stX ops S tr (fun i=>listed.getD i false) ops.size=stX ops S tr (fun _=>true) ops.size :=
    AS.ext2 (fun t=>stX_env _ fun i o hi _ _=>hall i hi) (fun id=>stX_heap _ (fun i hi _=>hall i hi) (fun i hi _=>hall i hi)) (by rw[(stX_next _ _).1,(stX_next _ _).1]) (by rw[(stX_next _ _).2,(stX_next _ _).2])
   refine hQ C a w ?_
   rw[hst] at hR
   exact⟨hR.ok,hR.inv,hR.below,hR.new,hR.ext,hR.defers,hR.size,fun id hl=>by rcases hR.live id hl with h|⟨i,hi,_,h⟩<;>omega⟩
  ·obtain⟨o,ho,hl0,hed⟩:=mem_ready'.1 hj
   have hjlt:=T_dst j o ho
   have hjl:j < listed.size:=by omega
   have hjX:listed.getD j false=false:=by simpa[Array.getD,hjl] using hl0
   have XX:∀ j' o',ops[j']? = some o'→listed.getD j' false=true→∀ e ∈ edgesOf o',listed.getD e false=true:=hcl
   -- what lies ahead of j is done; what lies behind it is not
   have done:∀ i,((aheads ops).getD j 0).testBit i=true→listed.getD i false=true:=fun i hb=>aheads_spec (fun i=>listed.getD i false=true) XX j o ho hed i hb
   have notdone:∀ i oi,ops[i]? = some oi→((aheads ops).getD i 0).testBit j=true→listed.getD i false=false:=by
    intro i oi hi hb
    cases hx:listed.getD i false with
    | false=>rfl
    | true =>
     have:=aheads_spec (fun i=>listed.getD i false=true) XX i oi hi (XX i oi hi hx) j hb
     rw[hjX] at this;cases this
   have agree:∀ t,(t ∈ o.looksAt ops∨o.dst=some t)→∀ i oi,ops[i]? = some oi→oi.dst=some t→i≠j→listed.getD i false=decide (i < j):=by
    intro t ht i oi hi hdst hne
    have hb:=order i j oi o t hi ho hne hdst ht
    by_cases hij:i < j
    ·rw[Nat.max_eq_right (by omega),Nat.min_eq_left (by omega)] at hb
     rw[done i hb,decide_eq_true hij]
    ·rw[Nat.max_eq_left (by omega),Nat.min_eq_right (by omega)] at hb
     rw[notdone i oi hi hb,decide_eq_false hij]
   have hcut:=stX_cut (ops:=ops) (S:=S) (tr:=tr) j ops.size (by omega)
   have henv:∀ t ∈ o.looksAt ops,(stX ops S tr (fun i=>listed.getD i false) ops.size).env t=(stX ops S tr (fun _=>true) j).env t:=by
    intro t ht
    rw[← hcut]
    refine stX_env _ fun i oi _ hi hdst=>?_
    by_cases hne:i=j
    ·subst hne;rw[hjX,decide_eq_false (by omega)]
    ·exact agree t (.inl ht) i oi hi hdst hne
   have hvj:heapy o.op=true→∀ i,i < ops.size→effOk (S.next+i) (tr i).2=false→listed.getD i false=decide (i < j):=by
    intro hp i hi he
    by_cases hne:i=j
    ·subst hne;rw[hjX,decide_eq_false (by omega)]
    ·have hb:=hvord i j o (heavy i he).1 ho hne hp
     have hoi:ops[i]? = some ops[i]:=Array.getElem?_eq_getElem hi
     by_cases hij:i < j
     ·rw[Nat.max_eq_left (by omega),Nat.min_eq_right (by omega)] at hb
      rw[done i hb,decide_eq_true hij]
     ·rw[Nat.max_eq_right (by omega),Nat.min_eq_left (by omega)] at hb
      rw[notdone i _ hoi hb,decide_eq_false hij]
   have hheap:heapy o.op=true→∀ t ∈ o.looksAt ops,Sub (stX ops S tr (fun _=>true) j).heap (stX ops S tr (fun i=>listed.getD i false) ops.size).heap ((stX ops S tr (fun _=>true) j).env t).ids:=by
    intro hp t ht id hid b hb
    have hrep:=hR.ok.env t
    rw[henv t ht] at hrep
    have hlive:=hR.live id (hrep.liveS hid)
    rw[← hcut] at hb
    rw[← hb]
    refine stX_heap _ (fun i hi he=>hvj hp i hi he) fun i hi hidi=>?_
    rcases hlive with h|⟨i',hi',hx,h⟩
    ·omega
    ·obtain rfl:i=i':=by omega
     rw[hx]
     by_cases hij:i < j
     ·rw[decide_eq_true hij]
     ·exfalso
      rw[h,fresh j i (by omega)] at hb
      have:=hS _ b hb
      omega
   have hst1:=(hT j o ho).mono (S':=stX ops S tr (fun i=>listed.getD i false) ops.size) (quiet j o ho).1 (by rw[(stX_next _ _).1,(stX_next _ _).1]) henv hheap (fun hp _ id b hlt hb=>by
    rw[(stX_next _ _).1] at hlt
    rw[← hcut] at hb
    rw[← hb]
    exact stX_heap _ (fun i hi he=>hvj hp i hi he) (fun i hi hid=>by omega))
   have hnx:=(stX_next (ops:=ops) (S:=S) (tr:=tr) (fun i=>listed.getD i false) ops.size).1
   have hnt:=(stX_next (ops:=ops) (S:=S) (tr:=tr) (fun i=>listed.getD i false) ops.size).2
   refine awpO_sound hstab hR (by rw[hnt];exact hd) ho ?_ hst1.toO ?_
   ·rw[hnx]
    rintro(h|⟨i,hi,hx,h⟩)
    ·omega
    ·obtain rfl:i=j:=by omega
     rw[hjX] at hx;cases hx
   ·intro S' C' a' w' hS' _ _ hR'
    subst hS'
    have hget:∀ i,(listed.setIfInBounds j true).getD i false=if i=j then true else listed.getD i false:=by
     intro i
     by_cases hij:i=j
     ·subst hij;simp[Array.getD,hjl]
     ·rw[if_neg hij];exact getD_set_ne false (fun e=>hij e.symm)
    have hstep:(stX ops S tr (fun i=>listed.getD i false) ops.size).step o (tr j).1 (tr j).2=stX ops S tr (fun i=>(listed.setIfInBounds j true).getD i false) ops.size:=by
     have hcut':=stX_cut (ops:=ops) (S:=S) (tr:=tr) (j+1) ops.size (by omega)
     refine AS.ext2 (fun t=>?_) (fun id=>?_) ?_ ?_
     ·by_cases hdt:o.dst=some t
      ·have h1:(stX ops S tr (fun i=>(listed.setIfInBounds j true).getD i false) ops.size).env t=(stX ops S tr (fun i=>decide (i < j+1)) ops.size).env t:=by
        refine stX_env _ fun i oi _ hi hdst=>?_
        rw[hget]
        by_cases hij:i=j
        ·subst hij;simp
        ·rw[if_neg hij,agree t (.inr hdt) i oi hi hdst hij]
         by_cases h:i < j
         ·rw[decide_eq_true h,decide_eq_true (by omega)]
         ·rw[decide_eq_false h,decide_eq_false (by omega)]
       rw[h1,hcut']
       simp[stX,ho,AS.step,hdt,upd]
      ·have h1:(stX ops S tr (fun i=>(listed.setIfInBounds j true).getD i false) ops.size).env t=(stX ops S tr (fun i=>listed.getD i false) ops.size).env t:=by
        refine stX_env _ fun i oi _ hi hdst=>?_
        rw[hget]
        by_cases hij:i=j
        ·subst hij;rw[ho] at hi;injection hi with hi;subst hi;exact absurd hdst hdt
        ·rw[if_neg hij]
       rw[h1]
       simp only[AS.step]
       cases hdst:o.dst with
       | none=>rfl
       | some t'=>simp only[upd];rw[if_neg (fun e=>hdt (by rw[hdst,e]))]
     ·-- what j does to blocks commutes with what was done ahead of it
      simp only[AS.step]
      refine(stX_comm (X:=fun i=>listed.getD i false) (X':=fun i=>(listed.setIfInBounds j true).getD i false) hget hjX ho ?_ id ops.size (by omega) (Nat.le_refl _)).symm
      intro m hjm hms hxm p hp q hq hpq
      have hmj:m≠j:=by omega
      have hom:ops[m]? = some ops[m]:=Array.getElem?_eq_getElem hms
      have nob:((aheads ops).getD m 0).testBit j=true→False:=fun hb=>by
       have:=notdone m _ hom hb
       rw[hxm] at this;cases this
      have noth:heapy o.op=true→effOk (S.next+m) (tr m).2=false→False:=by
       intro h1 h2
       have hb:=hvord m j o (heavy m h2).1 ho hmj h1
       rw[Nat.max_eq_right (by omega),Nat.min_eq_left (by omega)] at hb
       exact nob hb
      cases hej:effOk (S.next+j) (tr j).2 with
      | true =>
       have hpj:=efflight j hej p hp
       cases hem:effOk (S.next+m) (tr m).2 with
       | true=>have:=efflight m hem q hq;omega
       | false =>
        rcases effin m q hq with h|h|⟨h,hb⟩
        ·omega
        ·omega
        ·rw[← hpq,hpj,Nat.add_sub_cancel_left] at hb
         exact nob hb
      | false =>
       have hhj:heapy o.op=true:=by
        cases hhe:heapy o.op with
        | true=>rfl
        | false =>
         have:=(hT j o ho).light (quiet j o ho).1 hhe
         rw[(stX_next _ _).1,hej] at this;cases this
       cases hem:effOk (S.next+m) (tr m).2 with
       | false=>exact noth hhj hem
       | true =>
        have:=efflight m hem q hq
        rcases effin j p hp with h|h|h<;>omega
     ·simp only[AS.step];rw[(stX_next _ _).1,(stX_next _ _).1]
     ·simp only[AS.step];rw[(stX_next _ _).2,(stX_next _ _).2]
    rw[hstep] at hR'
    refine ih (listed.setIfInBounds j true) C' a' w' (by simpa using hsz) ?_ ?_ ?_
    ·intro j' o' ho' hx e he
     rw[hget] at hx ⊢
     by_cases hej:e=j
     ·simp[hej]
     ·rw[if_neg hej]
      by_cases hjj:j'=j
      ·subst hjj;rw[ho] at ho';injection ho' with ho';subst ho';exact hed e he
      ·rw[if_neg hjj] at hx;exact hcl j' o' ho' hx e he
    ·-- one fewer is left
     have hcount:∀ (l:List Bool) (j:Nat),l[j]? = some false→((l.set j true).filter (fun b=>!b)).length+1=(l.filter (fun b=>!b)).length:=by
      intro l
      induction l with
      | nil=>intro j h;simp at h
      | cons b l ihl =>
       intro j h
       cases j with
       | zero=>simp at h;subst h;simp
       | succ j =>
        simp only[List.getElem?_cons_succ] at h
        have:=ihl j h
        cases b<;>simp at this ⊢<;>omega
     have:=hcount listed.toList j (by simpa[Array.getD,hjl] using hjX)
     simp only[Array.toList_setIfInBounds]
     omega
    ·refine⟨hR'.ok,hR'.inv,hR'.below,hR'.new,hR'.ext,hR'.defers,hR'.size,fun id hl=>?_⟩
     rcases hR'.live id hl with(h|⟨i,hi,hx,h⟩)|h
     ·exact .inl h
     ·exact .inr ⟨i,hi,by rw[hget];split<;>simp_all,h⟩
     ·rw[hnx] at h;exact .inr ⟨j,hjlt,by rw[hget];simp,h⟩
end
section
variable {P:Program}{I:World→Prop}{ops:Array Oper}{S:AS}
def awpLq(P:Program)(I:World→Prop)(ops:Array Oper):List Oper→Nat→AS→(AS→Prop)→Prop
 | [],i,S,K=>K { S with next:=S.next+i }
 | o::l,i,S,K=>∃ d eff,(St1 P I ops i o S d eff∧effH ops S.next i eff=true)∧awpLq P I ops l (i+1) (S.step o d eff) K
theorem stX_tr{tr tr':Nat→D × Eff}{X:Nat→Bool}:∀ m,(∀ i,i < m→tr i=tr' i)→stX ops S tr X m=stX ops S tr' X m
 | 0,_=>rfl
 | m+1,h=>by simp only[stX,stX_tr m (fun i hi=>h i (by omega)),h m (by omega)]
theorem awpLq_trace{K:AS→Prop}:∀ (l:List Oper) (i:Nat) (tr:Nat→D × Eff),i≤ops.size→ops.toList.drop i=l→(∀ i',effH ops S.next i' (tr i').2=true) →
  (∀ i' o,i' < i→ops[i']? = some o→St1 P I ops i' o (stX ops S tr (fun _=>true) i') (tr i').1 (tr i').2)→awpLq P I ops l i (stX ops S tr (fun _=>true) i) K →
  ∃ tr',(∀ i',effH ops S.next i' (tr' i').2=true)∧(∀ i' o,ops[i']? = some o→St1 P I ops i' o (stX ops S tr' (fun _=>true) i') (tr' i').1 (tr' i').2)∧K { stX ops S tr' (fun _=>true) ops.size with next:=S.next+ops.size }:=by
 intro l
 induction l with
 | nil =>
  intro i tr hi hd heff hT h
  obtain rfl:i=ops.size:=by have:=congrArg List.length hd;simp at this;omega
  refine⟨tr,heff,fun i' o ho=>hT i' o ?_ ho,?_⟩
  ·rcases Nat.lt_or_ge i' ops.size with h1|h1
   ·exact h1
   ·rw[Array.getElem?_eq_none h1] at ho;cases ho
  ·simp only[awpLq] at h
   rw[(stX_next _ _).1] at h
   exact h
 | cons o l ih =>
  intro i tr hi hd heff hT h
  have hoi:ops[i]? = some o:=by
   have:(ops.toList.drop i)[0]? = some o:=by rw[hd];rfl
   simpa using this
  have hd':ops.toList.drop (i+1)=l:=by rw[← List.drop_drop,hd];rfl
  simp only[awpLq] at h
  obtain⟨d,eff,⟨h1,h2⟩,h3⟩:=h
  rw[(stX_next _ _).1] at h2
  have hsame:∀ m,m≤i→stX ops S (upd tr i (d,eff)) (fun _=>true) m=stX ops S tr (fun _=>true) m:=fun m hm=>stX_tr m fun i' hi'=>by
   simp only[upd];rw[if_neg (by omega)]
  have hst:stX ops S (upd tr i (d,eff)) (fun _=>true) (i+1)=(stX ops S tr (fun _=>true) i).step o d eff:=by
   simp[stX,hoi,hsame i (Nat.le_refl _),upd]
  refine ih (i+1) (upd tr i (d,eff)) (by have:=congrArg List.length hd;simp at this;omega) hd' (fun i'=>?_) (fun i' o' hi' ho'=>?_) (by rw[hst];exact h3)
  ·simp only[upd]
   split
   ·rename_i e;subst e;exact h2
   ·exact heff i'
  ·rw[hsame i' (by omega)]
   by_cases he:i'=i
   ·subst he
    rw[hoi] at ho';injection ho' with ho';subst ho'
    simpa[upd] using h1
   ·simp only[upd];rw[if_neg he]
    exact hT i' o' (by omega) ho'
theorem awpD_of{K:AS→Prop}(hstab:Stab I)(hm:P.follows .mixedOrders=true)(hok:drawOk ops=true)(h:awpLq P I ops ops.toList 0 S K):awpD P I ops S K:=by
 intro hd G C a w hR Q rid hK
 obtain⟨tr,h1,h2,h3⟩:=awpLq_trace (S:=S) (P:=P) (I:=I) ops.toList 0 (fun _=>(.any,[])) (Nat.zero_le _) (by simp) (fun _=>rfl) (fun i' o hi'=>absurd hi' (by omega)) h
 refine wp_region_any hm ?_
 have hR':Rel I G (fun id=>id < S.next) S C a { w with drawn:=w.drawn+1 }:=by
  have hcell:∀ b o,C.F b o→({ w with drawn:=w.drawn+1 }:World).heap[b]? = w.heap[b]?:=fun _ _ _=>rfl
  have he:Ext C w C { w with drawn:=w.drawn+1 }:=⟨fun _ _ h=>h,hcell,fun _ h=>h,fun _ _=>rfl⟩
  refine⟨⟨fun t=>(hR.ok.env t).ext he,⟨fun id b hb=>?_,hR.ok.heap.own,hR.ok.heap.pin,hR.ok.heap.apart⟩,hR.ok.fb,hR.ok.base⟩,hR.inv,⟨hR.below.os,hR.below.tape,hR.below.output,hR.below.size,hR.below.block⟩,hR.new,hR.ext.trans he,hR.defers,hR.size,hR.live⟩
  obtain⟨k1,k2⟩:=hR.ok.heap.rep id b hb
  exact⟨k1,k2.keep k1 he (fun _ _=>rfl) (fun _ _ _ h=>h)⟩
 have hnone:∀ i,(Array.replicate ops.size false).getD i false=false:=by
  intro i
  rw[Array.getD_eq_getD_getElem?,Array.getElem?_replicate]
  split<;>rfl
 have hst0:∀ m,stX ops S tr (fun i=>(Array.replicate ops.size false).getD i false) m=S:=by
  intro m
  rw[show(fun i=>(Array.replicate ops.size false).getD i false)=fun _=>false from funext hnone]
  induction m with
  | zero=>rfl
  | succ m ihm =>
   simp only[stX,ihm,Bool.false_eq_true,if_false]
   cases ops[m]?<;>rfl
 refine draw_any hstab hd hok h1 (fun id b hb=>hR'.live id (hR'.ok.heap.rep id b hb).1) h2 (fun C' a' w' hr=>?_) ops.size (Array.replicate ops.size false) C a _ (by simp) (fun j o _ hx=>by rw[hnone] at hx;cases hx) (by simp[List.filter_replicate]) (by
  rw[hst0]
  exact⟨hR'.ok,hR'.inv,hR'.below,hR'.new,hR'.ext,hR'.defers,hR'.size,fun id hl=>.inl (hR'.live id hl)⟩)
 refine hK _ C' a' w' h3 ?_ ?_
 ·exact(stX_next (ops:=ops) (S:=S) (tr:=tr) _ _).2
 ·exact⟨⟨hr.ok.env,hr.ok.heap,hr.ok.fb,hr.ok.base⟩,hr.inv,hr.below,hr.new,hr.ext,hr.defers,hr.size,hr.live⟩
end
section
variable (P:Program)(I:World→Prop)
def runD (ops:Array Oper)(l:List Oper)(i:Nat)(S:AS)(k:List Kont)(Q:APost):Prop:=awpLq P I ops l i S (goK P I k Q .normal)
def callD(f:FuncId)(ds:List D)(eff:Eff)(o:Oper)(ops:Array Oper)(l:List Oper)(i:Nat)(S:AS)(k:List Kont)(Q:APost):Prop:=effH ops S.next i eff=true∧∃ d,AFun P I f ds d∧runD P I ops l (i+1) (S.step o d eff) k Q
def heavyD(d:D)(eff:Eff)(o:Oper)(ops:Array Oper)(l:List Oper)(i:Nat)(S:AS)(k:List Kont)(Q:APost):Prop:=effH ops S.next i eff=true∧runD P I ops l (i+1) (S.step o d eff) k Q
def stepD(x:Option (D × Eff))(o:Oper)(ops:Array Oper)(l:List Oper)(i:Nat)(S:AS)(k:List Kont)(Q:APost):Prop:=match x with
 | some (d,eff)=>if effOk (S.next+i) eff=true then runD P I ops l (i+1) (S.step o d eff) k Q else heavyD P I d eff o ops l i S k Q
 | none=>False
def callE(f:FuncId)(ds:List D)(o:Oper)(ops:Array Oper)(l:List Oper)(i:Nat)(S:AS)(k:List Kont)(Q:APost):Prop:=∃ d ds' ep eff,ArgX S.heap ds ds' ep∧CallAny P I f ds ds' ep S.heap S.next (S.next+i) d eff∧effH ops S.next i (ep++eff)=true∧runD P I ops l (i+1) (S.step o d (ep++eff)) k Q
def purKD(x:Option (List D × Eff))(f:FuncId)(o:Oper)(ops:Array Oper)(l:List Oper)(i:Nat)(S:AS)(k:List Kont)(Q:APost):Prop:=match x with
 | some (ds,eff)=>callD P I f ds eff o ops l i S k Q
 | none=>False
def calD (x:Option (FuncId × List D))(o:Oper)(ops:Array Oper)(l:List Oper)(i:Nat)(S:AS)(k:List Kont)(Q:APost):Prop:=match x with
 | some (f,ds)=>purKD P I (purDs S.heap ds) f o ops l i S k Q∨callE P I f ds o ops l i S k Q
 | none=>stepD P I (aop P o.op (S.next+i) S) o ops l i S k Q
def wantD(x:Option Bool)(o:Oper)(ops:Array Oper)(l:List Oper)(i:Nat)(S:AS)(k:List Kont)(Q:APost):Prop:=match x with
 | some true=>calD P I (acallee S o.op) o ops l i S k Q
 | some false=>runD P I ops l (i+1) (S.step o .undef []) k Q
 | none=>False
end
section
variable {P:Program}{I:World→Prop}{S:AS}{k:List Kont}{Q:APost}{ops:Array Oper}
section
variable {o:Oper}{l:List Oper}{i:Nat}{f:FuncId}{ds:List D}{d:D}{eff:Eff}
end
theorem callD.intro{f:FuncId}{ds:List D}{eff:Eff}{o:Oper}{l:List Oper}{i:Nat}{d:D}(h:AFun P I f ds d)(he:effH ops S.next i eff=true)(hk:runD P I ops l (i+1) (S.step o d eff) k Q):callD P I f ds eff o ops l i S k Q:=⟨he,d,h,hk⟩
theorem heavyD.intro{d:D}{eff:Eff}{o:Oper}{l:List Oper}{i:Nat}(he:effH ops S.next i eff=true)(hk:runD P I ops l (i+1) (S.step o d eff) k Q):heavyD P I d eff o ops l i S k Q:=⟨he,hk⟩
theorem wantD.split{b:Bool}{o:Oper}{l:List Oper}{i:Nat}(h1:b=true→wantD P I (some true) o ops l i S k Q)(h2:b=false→wantD P I (some false) o ops l i S k Q):wantD P I (some b) o ops l i S k Q:=by
 cases b
 ·exact h2 rfl
 exact h1 rfl
theorem drawW.intro(hstab:Stab I)(hm:P.follows .mixedOrders=true)(hok:drawOk ops=true)(h:runD P I ops ops.toList 0 S k Q):drawW P I ops S k Q:=awpD_of hstab hm hok h
end
abbrev BPost:=AExit→AS→Prop
def bwpLoop(body:AS→BPost→Prop)(S:AS)(Q:BPost):Prop :=
 ∃ (Inv:AS→Nat→Prop),(∃ S0 n,Wk S S0∧Inv S0 n)∧∀ S' n,Inv S' n→S'.nt=S.nt→body S' fun e S''=>match e with
  | .normal=>∃ S3 m,m < n∧Wk S'' S3∧Inv S3 m
  | e=>∃ S3,Wk S'' S3∧Q e S3
def bwp (P:Program)(I:World→Prop):Code→AS→BPost→Prop
 | .skip,S,Q=>Q .normal S
 | .label _,S,Q=>Q .normal S
 | .region _ ops false,S,Q=>awpL P I ops ops.toList 0 S (Q .normal)
 | .region _ ops true,S,Q=>awpD P I ops S (Q .normal)
 | .seq x y,S,Q=>bwp P I x S fun e S'=>match e with
  | .normal=>∃ S3,Wk S' S3∧bwp P I y S3 Q
  | e=>∃ S3,Wk S' S3∧Q e S3
 | .cond c x y,S,Q=>match S.val c with
  | .bool b=>(b=true→bwp P I x S Q)∧(b=false→bwp P I y S Q)
  | _=>False
 | .block id c,S,Q=>bwp P I c S fun e S'=>match e with
  | .exit id'=>if id'=id then Q .normal S' else Q (.exit id') S'
  | e=>Q e S'
 | .exit id,S,Q=>Q (.exit id) S
 | .ret,S,Q=>Q .ret S
 | .loop c,S,Q=>bwpLoop (bwp P I c) S Q
 | .goto l,S,Q=>Q (.goto l) S
 | .scope c,S,Q=>codeOk S.nt c=true→∀ (G:Gh) (C:Cx) (a:Act) (w:World),Rel I G (fun id=>id < S.next) S C a w→(Code.scope c).wp P (XRel I G S.nt Q) a w
 | _,_,_=>False
section
variable {P:Program}{I:World→Prop}
theorem bwp_mono:∀ (c:Code) (S:AS) (Q Q':BPost),(∀ e S,Q e S→Q' e S)→bwp P I c S Q→bwp P I c S Q':=by
 intro c
 induction c with
 | skip=>intro S Q Q' hq h;exact hq _ _ h
 | label l=>intro S Q Q' hq h;exact hq _ _ h
 | region id ops dr =>
  intro S Q Q' hq h
  cases dr with
  | false=>exact awpL_mono _ _ _ _ _ (fun S' h'=>hq _ _ h') h
  | true=>exact fun hd G C a w hR Q0 rid hK=>h hd G C a w hR Q0 rid fun S' C' a' w' hk=>hK S' C' a' w' (hq _ _ hk)
 | seq x y ihx ihy =>
  intro S Q Q' hq h
  simp only[bwp] at h ⊢
  refine ihx _ _ _ ?_ h
  intro e S' h'
  cases e with
  | normal=>obtain⟨S3,h1,h2⟩:=h';exact⟨S3,h1,ihy _ _ _ hq h2⟩
  | exit id=>obtain⟨S3,h1,h2⟩:=h';exact⟨S3,h1,hq _ _ h2⟩
  | ret=>obtain⟨S3,h1,h2⟩:=h';exact⟨S3,h1,hq _ _ h2⟩
  | goto l=>obtain⟨S3,h1,h2⟩:=h';exact⟨S3,h1,hq _ _ h2⟩
 | cond c x y ihx ihy =>
  intro S Q Q' hq h
  simp only[bwp] at h ⊢
  cases hv:S.val c<;>rw[hv] at h<;>simp only at h ⊢
  exact⟨fun hb=>ihx _ _ _ hq (h.1 hb),fun hb=>ihy _ _ _ hq (h.2 hb)⟩
 | block id c ih =>
  intro S Q Q' hq h
  simp only[bwp] at h ⊢
  refine ih _ _ _ ?_ h
  intro e S' h'
  cases e with
  | normal=>exact hq _ _ h'
  | exit id' =>
   simp only at h' ⊢
   split
   ·rename_i he;rw[if_pos he] at h';exact hq _ _ h'
   ·rename_i he;rw[if_neg he] at h';exact hq _ _ h'
  | ret=>exact hq _ _ h'
  | goto l=>exact hq _ _ h'
 | loop c ih =>
  intro S Q Q' hq h
  simp only[bwp] at h ⊢
  obtain⟨Inv,h0,h1⟩:=h
  refine⟨Inv,h0,fun S' n hi hnt=>ih _ _ _ ?_ (h1 S' n hi hnt)⟩
  intro e S'' h'
  cases e with
  | normal=>exact h'
  | exit id=>obtain⟨S3,k1,k2⟩:=h';exact⟨S3,k1,hq _ _ k2⟩
  | ret=>obtain⟨S3,k1,k2⟩:=h';exact⟨S3,k1,hq _ _ k2⟩
  | goto l=>obtain⟨S3,k1,k2⟩:=h';exact⟨S3,k1,hq _ _ k2⟩
 | exit id=>intro S Q Q' hq h;exact hq _ _ h
 | ret=>intro S Q Q' hq h;exact hq _ _ h
 | rangeFunc f ps x y ihx ihy=>intro S Q Q' hq h;exact h.elim
 | scope b ih =>
  intro S Q Q' hq h hok G C a w hR
  refine wp_mono (h hok G C a w hR) ?_
  rintro e a' w' ⟨S',C',hnt,hR',hq'⟩
  refine⟨S',C',hnt,hR',?_⟩
  cases e<;>first|exact hq _ _ hq'|exact hq'
 | goto l=>intro S Q Q' hq h;exact hq _ _ h
 | refuse why=>intro S Q Q' hq h;exact h.elim
theorem bwp_sound(hstab:Stab I):∀ (c:Code) (S:AS) (Q:BPost) (G:Gh) (C:Cx) (a:Act) (w:World),codeOk S.nt c=true→bwp P I c S Q→Rel I G (fun id=>id < S.next) S C a w→c.wp P (XRel I G S.nt Q) a w:=by
 intro c
 induction c with
 | skip=>intro S Q G C a w hok h hR;exact wp_skip ⟨S,C,rfl,hR,h⟩
 | label l=>intro S Q G C a w hok h hR;exact wp_label ⟨S,C,rfl,hR,h⟩
 | region id ops dr =>
  intro S Q G C a w hok h hR
  cases dr with
  | false =>
   simp only[bwp] at h
   refine wp_region ?_
   have:=awpL_sound (Q:=XRel I G S.nt Q) hstab hok S.next S.nt ops.toList 0 S C a w (Q .normal) (by simp) rfl hok rfl hR h (fun S' C' a' w' hk hnt hr=>⟨S',C',hnt,hr,hk⟩)
   rw[List.range_eq_range']
   simpa using this
  | true =>
   simp only[bwp] at h
   exact h hok G C a w hR (XRel I G S.nt Q) id fun S' C' a' w' hk hnt hr=>⟨S',C',hnt,hr,hk⟩
 | seq x y ihx ihy =>
  intro S Q G C a w hok h hR
  simp only[bwp] at h
  simp only[codeOk,Bool.and_eq_true] at hok
  refine wp_seq (wp_mono (ihx S _ G C a w hok.1 h hR) ?_)
  rintro e a' w' ⟨S',C',hnt,hR',hq⟩
  cases e with
  | normal =>
   simp only[Exit.then]
   obtain⟨S3,hwk,hq⟩:=hq
   obtain⟨C3,hR3⟩:=hwk.2 I G C' a' w' hR'
   have hnt3:S3.nt=S.nt:=hwk.1.trans hnt
   have:=ihy S3 Q G C3 a' w' (by rw[hnt3];exact hok.2) hq hR3
   rw[hnt3] at this
   exact this
  | exit id =>
   obtain⟨S3,hwk,hq⟩:=hq
   obtain⟨C3,hR3⟩:=hwk.2 I G C' a' w' hR'
   exact⟨S3,C3,hwk.1.trans hnt,hR3,hq⟩
  | ret =>
   obtain⟨S3,hwk,hq⟩:=hq
   obtain⟨C3,hR3⟩:=hwk.2 I G C' a' w' hR'
   exact⟨S3,C3,hwk.1.trans hnt,hR3,hq⟩
  | goto l =>
   obtain⟨S3,hwk,hq⟩:=hq
   obtain⟨C3,hR3⟩:=hwk.2 I G C' a' w' hR'
   exact⟨S3,C3,hwk.1.trans hnt,hR3,hq⟩
  | panic ch=>exact hq.elim
  | outgrown=>exact hq.elim
 | cond c x y ihx ihy =>
  intro S Q G C a w hok h hR
  simp only[bwp] at h
  have hc:=hR.ok.env.val c
  cases hv:S.val c<;>rw[hv] at h hc<;>simp only at h
  rename_i b
  generalize hu:a.eval c=u at hc
  cases hc
  refine wp_cond hu ?_
  simp only[codeOk,Bool.and_eq_true] at hok
  cases b with
  | true=>exact ihx S Q G C a w hok.1 (h.1 rfl) hR
  | false=>exact ihy S Q G C a w hok.2 (h.2 rfl) hR
 | block id c ih =>
  intro S Q G C a w hok h hR
  simp only[bwp] at h
  refine wp_block (wp_mono (ih S _ G C a w hok h hR) ?_)
  rintro e a' w' ⟨S',C',hnt,hR',hq⟩
  cases e with
  | normal=>exact⟨S',C',hnt,hR',hq⟩
  | exit id' =>
   simp only[Exit.inBlock]
   simp only at hq
   split
   ·rename_i he;rw[if_pos he] at hq;exact⟨S',C',hnt,hR',hq⟩
   ·rename_i he;rw[if_neg he] at hq;exact⟨S',C',hnt,hR',hq⟩
  | ret=>exact⟨S',C',hnt,hR',hq⟩
  | goto l=>exact⟨S',C',hnt,hR',hq⟩
  | panic ch=>exact hq.elim
  | outgrown=>exact hq.elim
 | loop c ih =>
  intro S Q G C a w hok h hR
  simp only[bwp,bwpLoop] at h
  obtain⟨Inv,⟨S0,n0,hw0,hi0⟩,hround⟩:=h
  obtain⟨C0,hR0⟩:=hw0.2 I G C a w hR
  let J:Nat→Act→World→Prop:=fun n a w=>∃ S' C',Inv S' n∧S'.nt=S.nt∧Rel I G (fun id=>id < S'.next) S' C' a w
  have key:∀ n a w,J n a w→(Code.loop c).wp P (XRel I G S.nt Q) a w:=by
   intro n a w hJ
   intro b k cs
   have inner:∀ n a w,J n a w→∃ e a' w',XRel I G S.nt Q e a' w'∧Arrives P (lone (b.at a (.code c::.inLoop c::k)) cs w) b k cs e a' w':=by
    intro n
    induction n using Nat.strongRecOn with
    | _ n ihn =>
     intro a w ⟨S',C',hI,hnt,hR'⟩
     obtain⟨e,a₁,w₁,⟨S1,C1,hnt1,hR1,hq⟩,harr⟩:=ih S' _ G C' a w (by rw[hnt];exact hok) (hround S' n hI hnt) hR' b (.inLoop c::k) cs
     cases e with
     | normal =>
      obtain⟨S3,m,hm,hwk,hI3⟩:=hq
      obtain⟨C3,hR3⟩:=hwk.2 I G C1 a₁ w₁ hR1
      obtain⟨e₂,a₂,w₂,hq₂,harr₂⟩:=ihn m hm a₁ w₁ ⟨S3,C3,hI3,by rw[hwk.1,hnt1,hnt],hR3⟩
      exact⟨e₂,a₂,w₂,hq₂,.of_steps (Steps.trans harr (.one step_inLoop)) harr₂⟩
     | exit id =>
      obtain⟨S3,hwk,hq⟩:=hq
      obtain⟨C3,hR3⟩:=hwk.2 I G C1 a₁ w₁ hR1
      exact⟨_,a₁,w₁,⟨S3,C3,by rw[hwk.1,hnt1,hnt],hR3,hq⟩,.pass (x:=.inLoop c) rfl (fun _ _=>.inl (by simp)) harr⟩
     | ret =>
      obtain⟨S3,hwk,hq⟩:=hq
      obtain⟨C3,hR3⟩:=hwk.2 I G C1 a₁ w₁ hR1
      exact⟨_,a₁,w₁,⟨S3,C3,by rw[hwk.1,hnt1,hnt],hR3,hq⟩,.pass (x:=.inLoop c) rfl (fun _ _=>.inl (by simp)) harr⟩
     | goto l =>
      obtain⟨S3,hwk,hq⟩:=hq
      obtain⟨C3,hR3⟩:=hwk.2 I G C1 a₁ w₁ hR1
      exact⟨_,a₁,w₁,⟨S3,C3,by rw[hwk.1,hnt1,hnt],hR3,hq⟩,.pass (x:=.inLoop c) rfl (fun _ _=>.inl (by simp)) harr⟩
     | panic ch=>exact hq.elim
     | outgrown=>exact hq.elim
   obtain⟨e,a',w',hq,harr⟩:=inner n a w hJ
   exact⟨e,a',w',hq,.of_steps (.one step_loop) harr⟩
  exact key n0 a w ⟨S0,C0,hi0,hw0.1,hR0⟩
 | exit id=>intro S Q G C a w hok h hR;exact wp_exit ⟨S,C,rfl,hR,h⟩
 | ret=>intro S Q G C a w hok h hR;exact wp_ret ⟨S,C,rfl,hR,h⟩
 | rangeFunc f ps x y ihx ihy=>intro S Q G C a w hok h hR;exact h.elim
 | scope b ih=>intro S Q G C a w hok h hR;exact h hok G C a w hR
 | goto l=>intro S Q G C a w hok h hR;exact wp_goto ⟨S,C,rfl,hR,h⟩
 | refuse why=>intro S Q G C a w hok h hR;exact h.elim
end
section
variable {P:Program}{I:World→Prop}
def passQ(c:Code)(Q:BPost):BPost:=fun e S=>match e with
 | .goto l=>findLabel c l=none∧Q (.goto l) S
 | e=>Q e S
def hitQ (P:Program)(I:World→Prop)(c:Code)(Q:BPost):BPost:=fun e S=>match e with
 | .goto l=>match findLabel c l with
  | some rest=>∃ S3,Wk S S3∧bwp P I rest S3 (passQ c Q)
  | none=>Q (.goto l) S
 | e=>Q e S
end
section
variable (P:Program)(I:World→Prop)
def goB:List Kont→BPost→BPost
 | [],Q=>Q
 | .seq y::k,Q=>fun e S=>match e with
  | .normal=>∃ S3,Wk S S3∧bwp P I y S3 (goB k Q)
  | e=>∃ S3,Wk S S3∧goB k Q e S3
 | .blk id::k,Q=>fun e S=>match e with
  | .exit id'=>if id'=id then goB k Q .normal S else goB k Q (.exit id') S
  | e=>goB k Q e S
 | .scp c::k,Q=>hitQ P I c (goB k Q)
 | .pas c::k,Q=>passQ c (goB k Q)
def runB (c:Code)(S:AS)(k:List Kont)(Q:BPost):Prop:=bwp P I c S (goB P I k Q)
def extB (e:AExit)(S:AS)(k:List Kont)(Q:BPost):Prop:=goB P I k Q e S
def rgL (ops:Array Oper)(l:List Oper)(i:Nat)(S:AS)(k:List Kont)(Q:BPost):Prop:=awpL P I ops l i S (goB P I k Q .normal)
def sR (x:Option (D × Eff))(o:Oper)(ops:Array Oper)(l:List Oper)(i:Nat)(S:AS)(k:List Kont)(Q:BPost):Prop:=match x with
 | some (d,eff)=>rgL P I ops l i (S.step o d eff) k Q
 | none=>False
def eW0 (f:FuncId)(ds:List D)(ep:Eff)(nid:Nat)(o:Oper)(ops:Array Oper)(l:List Oper)(i:Nat)(S:AS)(k:List Kont)(Q:BPost):Prop:=∃ d eff,CallOK P I f ds (appEff S.heap ep) nid d eff∧rgL P I ops l i (S.step o d (ep++eff)) k Q
def rW (f:FuncId)(ds0:List D)(nid:Nat)(o:Oper)(ops:Array Oper)(l:List Oper)(i:Nat)(S:AS)(k:List Kont)(Q:BPost):Prop:=∃ d eff,CallOK P I f ds0 S.heap nid d eff∧rgL P I ops l i (S.step o d eff) k Q
def eW (f:FuncId)(ds0 ds:List D)(ep:Eff)(nid:Nat)(o:Oper)(ops:Array Oper)(l:List Oper)(i:Nat)(S:AS)(k:List Kont)(Q:BPost):Prop:=eW0 P I f ds ep nid o ops l i S k Q∨rW P I f ds0 nid o ops l i S k Q
def eX (y:Option (List D × Eff))(ds0:List D)(f:FuncId)(nid:Nat)(o:Oper)(ops:Array Oper)(l:List Oper)(i:Nat)(S:AS)(k:List Kont)(Q:BPost):Prop:=match y with
 | some (ds,ep)=>eW P I f ds0 ds ep nid o ops l i S k Q
 | none=>rW P I f ds0 nid o ops l i S k Q
def cW (f:FuncId)(ds:List D)(eff:Eff)(ds0:List D)(nid:Nat)(o:Oper)(ops:Array Oper)(l:List Oper)(i:Nat)(S:AS)(k:List Kont)(Q:BPost):Prop:=(∃ d,AFun P I f ds d∧rgL P I ops l i (S.step o d eff) k Q)∨eX P I (purXs S.heap ds0) ds0 f nid o ops l i S k Q
def pR (x:Option (List D × Eff))(ds0:List D)(nid:Nat)(f:FuncId)(o:Oper)(ops:Array Oper)(l:List Oper)(i:Nat)(S:AS)(k:List Kont)(Q:BPost):Prop:=match x with
 | some (ds,eff)=>cW P I f ds eff ds0 nid o ops l i S k Q
 | none=>eX P I (purXs S.heap ds0) ds0 f nid o ops l i S k Q
def lR (x:Option (FuncId × List D))(o:Oper)(ops:Array Oper)(l:List Oper)(i:Nat)(S:AS)(k:List Kont)(Q:BPost):Prop:=match x with
 | some (f,ds)=>pR P I (purDs S.heap ds) ds (S.next+i) f o ops l (i+1) S k Q
 | none=>sR P I (aop P o.op (S.next+i) S) o ops l (i+1) S k Q
def wR (x:Option Bool)(o:Oper)(ops:Array Oper)(l:List Oper)(i:Nat)(S:AS)(k:List Kont)(Q:BPost):Prop:=match x with
 | some true=>lR P I (acallee S o.op) o ops l i S k Q
 | some false=>rgL P I ops l (i+1) (S.step o .undef []) k Q
 | none=>False
def rgD (ops:Array Oper)(l:List Oper)(i:Nat)(S:AS)(k:List Kont)(Q:BPost):Prop:=awpLq P I ops l i S (goB P I k Q .normal)
def hD (d:D)(eff:Eff)(o:Oper)(ops:Array Oper)(l:List Oper)(i:Nat)(S:AS)(k:List Kont)(Q:BPost):Prop:=effH ops S.next i eff=true∧rgD P I ops l (i+1) (S.step o d eff) k Q
def sD (x:Option (D × Eff))(o:Oper)(ops:Array Oper)(l:List Oper)(i:Nat)(S:AS)(k:List Kont)(Q:BPost):Prop:=match x with
 | some (d,eff)=>if effOk (S.next+i) eff=true then rgD P I ops l (i+1) (S.step o d eff) k Q else hD P I d eff o ops l i S k Q
 | none=>False
def eD0 (f:FuncId)(ds0 ds:List D)(ep:Eff)(nid:Nat)(o:Oper)(ops:Array Oper)(l:List Oper)(i:Nat)(S:AS)(k:List Kont)(Q:BPost):Prop:=∃ d eff,CallAny P I f ds0 ds ep S.heap S.next nid d eff∧effH ops S.next i (ep++eff)=true∧rgD P I ops l (i+1) (S.step o d (ep++eff)) k Q
def eD (f:FuncId)(ds0 ds:List D)(ep:Eff)(nid:Nat)(o:Oper)(ops:Array Oper)(l:List Oper)(i:Nat)(S:AS)(k:List Kont)(Q:BPost):Prop:=eD0 P I f ds0 ds ep nid o ops l i S k Q∨eD0 P I f ds0 ds0 [] nid o ops l i S k Q
def eXD (y:Option (List D × Eff))(ds0:List D)(f:FuncId)(nid:Nat)(o:Oper)(ops:Array Oper)(l:List Oper)(i:Nat)(S:AS)(k:List Kont)(Q:BPost):Prop:=match y with
 | some (ds,ep)=>eD P I f ds0 ds ep nid o ops l i S k Q
 | none=>eD0 P I f ds0 ds0 [] nid o ops l i S k Q
def cD' (f:FuncId)(ds:List D)(eff:Eff)(ds0:List D)(nid:Nat)(o:Oper)(ops:Array Oper)(l:List Oper)(i:Nat)(S:AS)(k:List Kont)(Q:BPost):Prop:=(effH ops S.next i eff=true∧∃ d,AFun P I f ds d∧rgD P I ops l (i+1) (S.step o d eff) k Q)∨eXD P I (purXs S.heap ds0) ds0 f nid o ops l i S k Q
def pD (x:Option (List D × Eff))(ds0:List D)(nid:Nat)(f:FuncId)(o:Oper)(ops:Array Oper)(l:List Oper)(i:Nat)(S:AS)(k:List Kont)(Q:BPost):Prop:=match x with
 | some (ds,eff)=>cD' P I f ds eff ds0 nid o ops l i S k Q
 | none=>eXD P I (purXs S.heap ds0) ds0 f nid o ops l i S k Q
def lD (x:Option (FuncId × List D))(o:Oper)(ops:Array Oper)(l:List Oper)(i:Nat)(S:AS)(k:List Kont)(Q:BPost):Prop:=match x with
 | some (f,ds)=>pD P I (purDs S.heap ds) ds (S.next+i) f o ops l i S k Q
 | none=>sD P I (aop P o.op (S.next+i) S) o ops l i S k Q
def wD (x:Option Bool)(o:Oper)(ops:Array Oper)(l:List Oper)(i:Nat)(S:AS)(k:List Kont)(Q:BPost):Prop:=match x with
 | some true=>lD P I (acallee S o.op) o ops l i S k Q
 | some false=>rgD P I ops l (i+1) (S.step o .undef []) k Q
 | none=>False
end
section
variable {P:Program}{I:World→Prop}{S:AS}{k:List Kont}{Q:BPost}
theorem rb_skip(h:extB P I .normal S k Q):runB P I .skip S k Q:=h
theorem rb_exit{id:Nat}(h:extB P I (.exit id) S k Q):runB P I (.exit id) S k Q:=h
theorem rb_ret(h:extB P I .ret S k Q):runB P I .ret S k Q:=h
theorem rb_seq{x y:Code}(h:runB P I x S (.seq y::k) Q):runB P I (.seq x y) S k Q:=by
 simp only[runB,bwp,goB] at *;exact h
theorem rb_block{id:Nat}{x:Code}(h:runB P I x S (.blk id::k) Q):runB P I (.block id x) S k Q:=by
 simp only[runB,bwp,goB] at *;exact h
theorem rb_region{id:Nat}{ops:Array Oper}(h:rgL P I ops ops.toList 0 S k Q):runB P I (.region id ops false) S k Q:=h
theorem rb_draw(hstab:Stab I){id:Nat}{ops:Array Oper}(hm:P.follows .mixedOrders=true)(hok:drawOk ops=true)(h:rgD P I ops ops.toList 0 S k Q):runB P I (.region id ops true) S k Q:=awpD_of hstab hm hok h
theorem rb_true{c:Operand}{x y:Code}(hc:S.val c=.bool true)(h:runB P I x S k Q):runB P I (.cond c x y) S k Q:=by
 simp only[runB,bwp,hc];exact⟨fun _=>h,fun e=>absurd e (by decide)⟩
theorem rb_false{c:Operand}{x y:Code}(hc:S.val c=.bool false)(h:runB P I y S k Q):runB P I (.cond c x y) S k Q:=by
 simp only[runB,bwp,hc];exact⟨fun e=>absurd e (by decide),fun _=>h⟩
theorem eb_seq{y:Code}(h:runB P I y S k Q):extB P I .normal S (.seq y::k) Q:=⟨S,Wk.refl S,h⟩
theorem eb_seq_e{y:Code}{id:Nat}(h:extB P I (.exit id) S k Q):extB P I (.exit id) S (.seq y::k) Q:=⟨S,Wk.refl S,h⟩
theorem eb_seq_r{y:Code}(h:extB P I .ret S k Q):extB P I .ret S (.seq y::k) Q:=⟨S,Wk.refl S,h⟩
theorem eb_blk_n{id:Nat}(h:extB P I .normal S k Q):extB P I .normal S (.blk id::k) Q:=h
theorem eb_blk_hit{id:Nat}(h:extB P I .normal S k Q):extB P I (.exit id) S (.blk id::k) Q:=by
 show(if id=id then goB P I k Q .normal S else goB P I k Q (.exit id) S);rw[if_pos rfl];exact h
theorem eb_blk_miss{id id':Nat}(hne:id'≠id)(h:extB P I (.exit id') S k Q):extB P I (.exit id') S (.blk id::k) Q:=by
 show(if id'=id then goB P I k Q .normal S else goB P I k Q (.exit id') S);rw[if_neg hne];exact h
theorem eb_blk_r{id:Nat}(h:extB P I .ret S k Q):extB P I .ret S (.blk id::k) Q:=h
theorem eb_nil{e:AExit}(h:Q e S):extB P I e S [] Q:=h
section
variable {o:Oper}{ops:Array Oper}{l:List Oper}{i:Nat}{f:FuncId}{ds:List D}{d:D}{eff:Eff}
theorem rgL_nil:rgL P I ops [] i S k Q=extB P I .normal { S with next:=S.next+i } k Q:=rfl
theorem rgL_cons:rgL P I ops (o::l) i S k Q=wR P I (awant ops S.env o) o ops l i S k Q:=by
 refine propext ⟨fun h=>?_,fun h=>?_⟩
 ·simp only[rgL,awpL,awpO] at h
  cases hw:awant ops S.env o with
  | none=>rw[hw] at h;exact h.elim
  | some r =>
   rw[hw] at h
   cases r with
   | false =>
    simp only[Bool.false_eq_true,if_false] at h
    exact h
   | true =>
    simp only[if_true] at h
    simp only[wR]
    cases hc:acallee S o.op with
    | none =>
     rw[hc] at h
     simp only[lR]
     cases hp:aop P o.op (S.next+i) S with
     | none=>rw[hp] at h;exact h.elim
     | some q=>rw[hp] at h;exact h
    | some p =>
     obtain⟨f,ds⟩:=p
     rw[hc] at h
     simp only at h
     simp only[lR]
     have key:(∃ ds' ep d eff,ArgX S.heap ds ds' ep∧CallOK P I f ds' (appEff S.heap ep) (S.next+i) d eff∧awpL P I ops l (i+1) (S.step o d (ep++eff)) (goB P I k Q .normal))→eX P I (purXs S.heap ds) ds f (S.next+i) o ops l (i+1) S k Q:=by
      rintro⟨ds',ep,d,eff,h0|⟨rfl,rfl⟩,h1,h2⟩
      ·rw[h0];exact .inl ⟨d,eff,h1,h2⟩
      ·cases purXs S.heap ds' with
       | none=>exact⟨d,eff,h1,h2⟩
       | some q=>exact .inr ⟨d,eff,h1,h2⟩
     cases hp:purDs S.heap ds with
     | none =>
      rw[hp] at h
      rcases h with h|h
      ·exact h.elim
      ·exact key h
     | some q =>
      rw[hp] at h
      rcases h with h|h
      ·exact .inl h
      ·exact .inr (key h)
 ·simp only[rgL,awpL,awpO]
  cases hw:awant ops S.env o with
  | none=>rw[hw] at h;exact h.elim
  | some r =>
   rw[hw] at h
   cases r with
   | false =>
    simp only[Bool.false_eq_true,if_false]
    exact h
   | true =>
    simp only[if_true]
    simp only[wR] at h
    cases hc:acallee S o.op with
    | none =>
     rw[hc] at h
     simp only[lR] at h
     cases hp:aop P o.op (S.next+i) S with
     | none=>rw[hp] at h;exact h.elim
     | some q=>rw[hp] at h;exact h
    | some p =>
     obtain⟨f,ds⟩:=p
     rw[hc] at h
     simp only[lR] at h
     have key:eX P I (purXs S.heap ds) ds f (S.next+i) o ops l (i+1) S k Q→(∃ ds' ep d eff,ArgX S.heap ds ds' ep∧CallOK P I f ds' (appEff S.heap ep) (S.next+i) d eff∧awpL P I ops l (i+1) (S.step o d (ep++eff)) (goB P I k Q .normal)):=by
      intro h
      cases h0:purXs S.heap ds with
      | none =>
       rw[h0] at h
       obtain⟨d,eff,h1,h2⟩:=h
       exact⟨ds,[],d,eff,.inr ⟨rfl,rfl⟩,h1,h2⟩
      | some q =>
       obtain⟨ds',ep⟩:=q
       rw[h0] at h
       rcases h with⟨d,eff,h1,h2⟩|⟨d,eff,h1,h2⟩
       ·exact⟨ds',ep,d,eff,.inl h0,h1,h2⟩
       ·exact⟨ds,[],d,eff,.inr ⟨rfl,rfl⟩,h1,h2⟩
     simp only
     cases hp:purDs S.heap ds with
     | none=>rw[hp] at h;exact .inr (key h)
     | some q =>
      rw[hp] at h
      rcases h with h|h
      ·exact .inl h
      ·exact .inr (key h)
theorem wR_t:wR P I (some true) o ops l i S k Q=lR P I (acallee S o.op) o ops l i S k Q:=rfl
theorem wR_f:wR P I (some false) o ops l i S k Q=rgL P I ops l (i+1) (S.step o .undef []) k Q:=rfl
theorem lR_s:lR P I (some (f,ds)) o ops l i S k Q=pR P I (purDs S.heap ds) ds (S.next+i) f o ops l (i+1) S k Q:=rfl
theorem lR_n:lR P I none o ops l i S k Q=sR P I (aop P o.op (S.next+i) S) o ops l (i+1) S k Q:=rfl
theorem pR_s{ds0:List D}{nid:Nat}:pR P I (some (ds,eff)) ds0 nid f o ops l i S k Q=cW P I f ds eff ds0 nid o ops l i S k Q:=rfl
theorem pR_n{ds0:List D}{nid:Nat}:pR P I none ds0 nid f o ops l i S k Q=eX P I (purXs S.heap ds0) ds0 f nid o ops l i S k Q:=rfl
theorem eX_s{ds0:List D}{ep:Eff}{nid:Nat}:eX P I (some (ds,ep)) ds0 f nid o ops l i S k Q=eW P I f ds0 ds ep nid o ops l i S k Q:=rfl
theorem sR_s:sR P I (some (d,eff)) o ops l i S k Q=rgL P I ops l i (S.step o d eff) k Q:=rfl
theorem rgD_nil:rgD P I ops [] i S k Q=extB P I .normal { S with next:=S.next+i } k Q:=rfl
theorem wD_t:wD P I (some true) o ops l i S k Q=lD P I (acallee S o.op) o ops l i S k Q:=rfl
theorem wD_f:wD P I (some false) o ops l i S k Q=rgD P I ops l (i+1) (S.step o .undef []) k Q:=rfl
theorem lD_s:lD P I (some (f,ds)) o ops l i S k Q=pD P I (purDs S.heap ds) ds (S.next+i) f o ops l i S k Q:=rfl
theorem pD_n{ds0:List D}{nid:Nat}:pD P I none ds0 nid f o ops l i S k Q=eXD P I (purXs S.heap ds0) ds0 f nid o ops l i S k Q:=rfl
theorem eXD_s{ds0:List D}{ep:Eff}{nid:Nat}:eXD P I (some (ds,ep)) ds0 f nid o ops l i S k Q=eD P I f ds0 ds ep nid o ops l i S k Q:=rfl
theorem lD_n:lD P I none o ops l i S k Q=sD P I (aop P o.op (S.next+i) S) o ops l i S k Q:=rfl
theorem pD_s{ds0:List D}{nid:Nat}:pD P I (some (ds,eff)) ds0 nid f o ops l i S k Q=cD' P I f ds eff ds0 nid o ops l i S k Q:=rfl
theorem sD_s:sD P I (some (d,eff)) o ops l i S k Q=if effOk (S.next+i) eff=true then rgD P I ops l (i+1) (S.step o d eff) k Q else hD P I d eff o ops l i S k Q:=rfl
theorem rgD_cons:rgD P I ops (o::l) i S k Q=wD P I (awant ops S.env o) o ops l i S k Q:=by
 refine propext ⟨fun h=>?_,fun h=>?_⟩
 ·obtain⟨d,eff,⟨hst,he⟩,hk⟩:=h
  rcases hst with⟨h1,rfl,rfl⟩|⟨h1,h2⟩
  ·rw[h1];exact hk
  ·rw[h1]
   simp only[wD]
   rcases h2 with⟨f,ds,ds',h3,h4,h5⟩|⟨h3,h4⟩|⟨f,ds,ds',ep,eff',h3,h4,rfl,h5⟩
   ·rw[h3];simp only[lD,h4,pD,cD'];exact .inl ⟨he,d,h5,hk⟩
   ·rw[h3];simp only[lD,h4,sD]
    split
    ·exact hk
    ·exact⟨he,hk⟩
   ·rw[h3]
    simp only[lD]
    have key:eXD P I (purXs S.heap ds) ds f (S.next+i) o ops l i S k Q:=by
     rcases h4 with h4|⟨rfl,rfl⟩
     ·rw[h4];exact .inl ⟨d,eff',h5,he,hk⟩
     ·cases purXs S.heap ds' with
      | none=>exact⟨d,eff',h5,he,hk⟩
      | some q=>exact .inr ⟨d,eff',h5,he,hk⟩
    cases purDs S.heap ds with
    | none=>simp only[pD];exact key
    | some q=>simp only[pD,cD'];exact .inr key
 ·simp only[rgD,awpLq]
  cases hw:awant ops S.env o with
  | none=>rw[hw] at h;exact h.elim
  | some r =>
   rw[hw] at h
   cases r with
   | false=>exact⟨.undef,[],⟨.inl ⟨hw,rfl,rfl⟩,rfl⟩,h⟩
   | true =>
    simp only[wD] at h
    cases hc:acallee S o.op with
    | some p =>
     obtain⟨f,ds⟩:=p
     rw[hc] at h
     simp only[lD] at h
     have back:eXD P I (purXs S.heap ds) ds f (S.next+i) o ops l i S k Q→∃ d eff,(St1 P I ops i o S d eff∧effH ops S.next i eff=true)∧awpLq P I ops l (i+1) (S.step o d eff) (goB P I k Q .normal):=by
      intro h
      have raw:eD0 P I f ds ds [] (S.next+i) o ops l i S k Q→∃ d eff,(St1 P I ops i o S d eff∧effH ops S.next i eff=true)∧awpLq P I ops l (i+1) (S.step o d eff) (goB P I k Q .normal):=by
       rintro⟨d,e,h1,he,h2⟩
       exact⟨d,[]++e,⟨.inr ⟨hw,.inr (.inr ⟨f,ds,ds,[],e,hc,.inr ⟨rfl,rfl⟩,rfl,h1⟩)⟩,he⟩,h2⟩
      cases hx:purXs S.heap ds with
      | none=>rw[hx] at h;exact raw h
      | some y =>
       obtain⟨ds',ep⟩:=y
       rw[hx] at h
       rcases h with⟨d,e,h1,he,h2⟩|h
       ·exact⟨d,ep++e,⟨.inr ⟨hw,.inr (.inr ⟨f,ds,ds',ep,e,hc,.inl hx,rfl,h1⟩)⟩,he⟩,h2⟩
       ·exact raw h
     cases hp:purDs S.heap ds with
     | none =>
      rw[hp] at h
      simp only[pD] at h
      exact back h
     | some q =>
      obtain⟨ds',e⟩:=q
      rw[hp] at h
      simp only[pD] at h
      rcases h with h|h
      rotate_left
      ·exact back h
      obtain⟨he,d,h1,h2⟩:=h
      exact⟨d,e,⟨.inr ⟨hw,.inl ⟨f,ds,ds',hc,hp,h1⟩⟩,he⟩,h2⟩
    | none =>
     rw[hc] at h
     simp only[lD,sD] at h
     cases hp:aop P o.op (S.next+i) S with
     | none=>rw[hp] at h;exact h.elim
     | some q =>
      obtain⟨d,e⟩:=q
      rw[hp] at h
      simp only at h
      split at h
      ·rename_i he
       exact⟨d,e,⟨.inr ⟨hw,.inr (.inl ⟨hc,hp⟩)⟩,by simp[effH,he]⟩,h⟩
      ·exact⟨d,e,⟨.inr ⟨hw,.inr (.inl ⟨hc,hp⟩)⟩,h.1⟩,h.2⟩
theorem cW.intro{ds' ds0:List D}{nid:Nat}(h:AFun P I f ds' d)(he:ds'=ds)(hk:rgL P I ops l i (S.step o d eff) k Q):cW P I f ds eff ds0 nid o ops l i S k Q:=.inl ⟨d,he ▸ h,hk⟩
theorem cD'.intro{ds' ds0:List D}{nid:Nat}(h:AFun P I f ds' d)(he:ds'=ds)(hf:effH ops S.next i eff=true)(hk:rgD P I ops l (i+1) (S.step o d eff) k Q):cD' P I f ds eff ds0 nid o ops l i S k Q:=.inl ⟨hf,d,he ▸ h,hk⟩
theorem eW.intro{ds' ds0:List D}{ep:Eff}{nid n':Nat}(h:CallOK P I f ds' (appEff S.heap ep) n' d eff)(he:ds'=ds)(hn:n'=nid)(hk:rgL P I ops l i (S.step o d (ep++eff)) k Q):eW P I f ds0 ds ep nid o ops l i S k Q:=.inl ⟨d,eff,by subst he hn;exact h,hk⟩
theorem rW.intro{ds0 ds':List D}{nid n':Nat}(h:CallOK P I f ds' S.heap n' d eff)(he:ds'=ds0)(hn:n'=nid)(hk:rgL P I ops l i (S.step o d eff) k Q):rW P I f ds0 nid o ops l i S k Q:=⟨d,eff,by subst he hn;exact h,hk⟩
theorem cW.introR{ds0 ds':List D}{nid n':Nat}{eff':Eff}(h:CallOK P I f ds' S.heap n' d eff')(he:ds'=ds0)(hn:n'=nid)(hk:rgL P I ops l i (S.step o d eff') k Q):cW P I f ds eff ds0 nid o ops l i S k Q:=.inr (by
 cases purXs S.heap ds0 with
 | none=>exact rW.intro h he hn hk
 | some q=>exact .inr (rW.intro h he hn hk))
theorem eW.introR{ds0 ds':List D}{ep:Eff}{nid n':Nat}(h:CallOK P I f ds' S.heap n' d eff)(he:ds'=ds0)(hn:n'=nid)(hk:rgL P I ops l i (S.step o d eff) k Q):eW P I f ds0 ds ep nid o ops l i S k Q:=.inr (rW.intro h he hn hk)
theorem eD0.introR{ds0 ds':List D}{nid n':Nat}(h:CallAny P I f ds0 ds' [] S.heap S.next n' d eff)(he:ds'=ds0)(hn:n'=nid)(hf:effH ops S.next i eff=true)(hk:rgD P I ops l (i+1) (S.step o d eff) k Q):eD0 P I f ds0 ds0 [] nid o ops l i S k Q:=⟨d,eff,by subst he hn;exact h,hf,hk⟩
theorem eD.introR{ds0 ds':List D}{ep:Eff}{nid n':Nat}(h:CallAny P I f ds0 ds' [] S.heap S.next n' d eff)(he:ds'=ds0)(hn:n'=nid)(hf:effH ops S.next i eff=true)(hk:rgD P I ops l (i+1) (S.step o d eff) k Q):eD P I f ds0 ds ep nid o ops l i S k Q:=.inr (eD0.introR h he hn hf hk)
theorem cD'.introR{ds0 ds':List D}{nid n':Nat}{eff':Eff}(h:CallAny P I f ds0 ds' [] S.heap S.next n' d eff')(he:ds'=ds0)(hn:n'=nid)(hf:effH ops S.next i eff'=true)(hk:rgD P I ops l (i+1) (S.step o d eff') k Q):cD' P I f ds eff ds0 nid o ops l i S k Q:=.inr (by
 cases purXs S.heap ds0 with
 | none=>exact eD0.introR h he hn hf hk
 | some q=>exact .inr (eD0.introR h he hn hf hk))
theorem cW.introE{ds' ds0:List D}{ep eff':Eff}{nid n':Nat}(h:CallOK P I f ds' (appEff S.heap ep) n' d eff')(he:purXs S.heap ds0=some (ds',ep))(hn:n'=nid)(hk:rgL P I ops l i (S.step o d (ep++eff')) k Q):cW P I f ds eff ds0 nid o ops l i S k Q:=.inr (by rw[he];exact .inl ⟨d,eff',by subst hn;exact h,hk⟩)
theorem cD'.introE{ds' ds0:List D}{ep eff':Eff}{nid n':Nat}(h:CallAny P I f ds0 ds' ep S.heap S.next n' d eff')(he:purXs S.heap ds0=some (ds',ep))(hn:n'=nid)(hf:effH ops S.next i (ep++eff')=true)(hk:rgD P I ops l (i+1) (S.step o d (ep++eff')) k Q):cD' P I f ds eff ds0 nid o ops l i S k Q:=.inr (by rw[he];exact .inl ⟨d,eff',by subst hn;exact h,hf,hk⟩)
theorem eD.intro{ds' ds0:List D}{ep:Eff}{nid n':Nat}(h:CallAny P I f ds0 ds' ep S.heap S.next n' d eff)(he:ds'=ds)(hn:n'=nid)(hf:effH ops S.next i (ep++eff)=true)(hk:rgD P I ops l (i+1) (S.step o d (ep++eff)) k Q):eD P I f ds0 ds ep nid o ops l i S k Q:=.inl ⟨d,eff,by subst he hn;exact h,hf,hk⟩
theorem hD.intro(he:effH ops S.next i eff=true)(hk:rgD P I ops l (i+1) (S.step o d eff) k Q):hD P I d eff o ops l i S k Q:=⟨he,hk⟩
end
inductive Nx(X E:Type) where
 | go (x:X)
 | out (e:E)
def iterN{X E:Type}(step:X→Option (Nx X E)):Nat→X→Option E
 | 0,_=>none
 | n+1,x=>match step x with
  | none=>none
  | some (.go x')=>iterN step n x'
  | some (.out e)=>some e
def iter {X E:Type}(step:X→Option (Nx X E))(x:X):Option E:=iterN step 73786976294838206464 x
def stepQ{X E:Type}(St:X→AS)(Ex:E→AExit)(Sx:E→AS):Nx X E→BPost
 | .go x=>fun e S=>e=.normal∧Wk S (St x)
 | .out r=>fun e S=>e=Ex r∧Wk S (Sx r)
theorem rb_loop{X E:Type}{c:Code}{step:X→Option (Nx X E)}(St:X→AS)(Ex:E→AExit)(Sx:E→AS){x0:X}{r:E}(hr:iter step x0=some r)(h0:Wk S (St x0))(hx:∀ r,Ex r≠.normal)
  (hstep:∀ x y,step x=some y→runB P I c (St x) [] (stepQ St Ex Sx y)) (hk:extB P I (Ex r) (Sx r) k Q):runB P I (.loop c) S k Q:=by
 refine⟨fun S n=>∃ x,S=St x∧iterN step n x=some r,⟨St x0,_,h0,x0,rfl,hr⟩,?_⟩
 rintro S' n ⟨x,rfl,hn⟩ _
 cases n with
 | zero=>simp[iterN] at hn
 | succ n =>
  simp only[iterN] at hn
  cases hs:step x with
  | none=>rw[hs] at hn;simp at hn
  | some y =>
   rw[hs] at hn
   refine bwp_mono c _ _ _ ?_ (hstep x y hs)
   intro e S'' hq
   cases y with
   | go x' =>
    obtain⟨rfl,hw⟩:=hq
    exact⟨St x',n,Nat.lt_succ_self n,hw,x',rfl,hn⟩
   | out e' =>
    simp at hn
    subst hn
    obtain⟨rfl,hw⟩:=hq
    cases he:Ex e' with
    | normal=>exact absurd he (hx e')
    | exit id=>exact⟨_,hw,by rw[he] at hk;exact hk⟩
    | ret=>exact⟨_,hw,by rw[he] at hk;exact hk⟩
    | goto l=>exact⟨_,hw,by rw[he] at hk;exact hk⟩
theorem rb_seg{X E:Type}{x y:Code}{o:Option (Nx X E)}(St:X→AS)(Ex:E→AExit)(Sx:E→AS){r:Nx X E}(hr:o=some r)(hx:∀ r,Ex r≠.normal)
  (hstep:∀ r,o=some r→runB P I x S [] (stepQ St Ex Sx r)) (hg:∀ v,r=.go v→runB P I y (St v) k Q) (ho:∀ e,r=.out e→extB P I (Ex e) (Sx e) k Q):runB P I (.seq x y) S k Q:=by
 refine bwp_mono x _ _ _ ?_ (hstep r hr)
 intro e S' hq
 cases r with
 | go v =>
  obtain⟨rfl,hw⟩:=hq
  exact⟨_,hw,hg v rfl⟩
 | out e' =>
  obtain⟨rfl,hw⟩:=hq
  have:=ho e' rfl
  cases he:Ex e' with
  | normal=>exact absurd he (hx e')
  | exit id=>rw[he] at this;exact⟨_,hw,this⟩
  | ret=>rw[he] at this;exact⟨_,hw,this⟩
  | goto l=>rw[he] at this;exact⟨_,hw,this⟩
def cutQ {X:Type}(St:X→AS)(v:X):BPost:=fun e S=>e=.normal∧Wk S (St v)
theorem rb_cut{X:Type}{x y:Code}{o:Option X}(St:X→AS){v:X}(hr:o=some v)
  (hstep:∀ v,o=some v→runB P I x S [] (cutQ St v)) (hk:runB P I y (St v) k Q):runB P I (.seq x y) S k Q:=by
 refine bwp_mono x _ _ _ ?_ (hstep v hr)
 rintro e S' ⟨rfl,hw⟩
 exact⟨_,hw,hk⟩
theorem AFun.enterB(hstab:Stab I){f:FuncId}{fn:Func}{c:Code}{ds:List D}{r:D}(hf:P.funcs[f]? = some fn)(hb:fn.body=some c)(hnm:fn.name ≠ "runtime.NumGoroutine")(hn:ds.length≤fn.ntmps)(hok:codeOk fn.ntmps c=true)
  (h:runB P I c (S0 ds fn.ntmps) [] (retQ P fn r)):AFun P I f ds r:=by
 refine⟨by simp[enterable,hf,hb,hnm],fun w F args hI hfb hlen hrep=>?_⟩
 refine calls_of_wp hf hb ?_
 have hR:Rel I (Gh.top w F) (fun id=>id < (S0 ds fn.ntmps).next) (S0 ds fn.ntmps) (cF F) { tmps:=args.toArray++Array.replicate (fn.ntmps - args.toArray.size) Go.undef,defers:=[] } w:=by
  refine⟨⟨fun t=>?_,⟨fun id b h=>by simp[S0,heapL,look] at h,fun id b h=>by simp[S0,heapL,look] at h,fun id k cs h=>by simp[S0,heapL,look] at h,fun id id' b b' h=>by simp[S0,heapL,look] at h⟩,hfb,fun _ h=>h⟩,hI,BelM.refl _ _,fun b o h=>.inl h,Ext.refl _ _,rfl,?_,fun id h=>h.elim⟩
  ·simp only[S0,argL_getD]
   by_cases ht:t < ds.length
   ·rw[show ds.getD t .any=ds[t] by simp[List.getD,ht]]
    have ha:t < args.length:=by omega
    have:(args.toArray++Array.replicate (fn.ntmps - args.toArray.size) Go.undef).getD t Go.undef=args[t]:=by
     simp[Array.getD_eq_getD_getElem?,Array.getElem?_append,ha]
    rw[this]
    exact hrep t _ _ (List.getElem?_eq_getElem ha) (List.getElem?_eq_getElem ht)
   ·rw[show ds.getD t .any=.any by simp[List.getD,ht]]
    exact .any _
  ·simp[S0];omega
 refine wp_mono (bwp_sound hstab c _ _ (Gh.top w F) _ _ w hok h hR) ?_
 rintro e a' w' ⟨S',C',hnt,hR',hq⟩
 have fin:aret P fn S' r→a'.defers=[]∧∃ v,(results fn a'.tmps).run P w'=.ok v w'∧(∃ v' F',Ending.returned v=.returned v'∧Below w.heap.size w w'∧Ext (cF F) w (cF F') w'∧FB (cF F') w'∧(∀ b o,F' b o→F b o∨w.heap.size≤b)∧Rep w' (cF F') v' r):=by
  rintro⟨rs,rs',ep,h1,h2,h3⟩
  refine⟨hR'.defers,?_⟩
  obtain⟨vs,hr,hl,hv⟩:=resD_run (P:=P) (G:=Gh.top w F) hR'.ok _ _ h1
  obtain⟨C1,hP,hl',hv'⟩:=purDs_sound (w:=w') (B:=(Gh.top w F).B) rs vs C' S'.heap rs' ep hR'.ok.heap hR'.ok.fb hl hv h2
  refine⟨if h:vs.toArray.size=1 then vs.toArray[0] else .tuple vs.toArray,?_,_,C1.F,rfl,hR'.below.to,(hR'.ext.trans hP.ext).cF,hP.fb,fun b o h=>?_,?_⟩
  ·rw[results_eq,Array.mapM_eq_mapM_toList]
   simp only[Sem.run_bind,Sem.run_map,hr]
   rfl
  ·rcases hP.new b o h with h|h
   ·exact hR'.new b o h
   ·exact .inr h
  ·rw[← h3]
   exact mkRes_rep hl' (fun i v d hi hd=>(hv' i v d hi hd).1)
 cases e with
 | normal=>exact fin hq
 | ret=>exact fin hq
 | exit id=>exact hq.elim
 | goto l=>exact hq.elim
 | panic ch=>exact hq.elim
 | outgrown=>exact hq.elim
def atI {α:Type}(l:List α)(n:Int):Option α:=if 0≤n then l[n.toNat]? else none
theorem atI_fold{α:Type}{l:List α}{n:Int}:(if 0≤n then l[n.toNat]? else none)=atI l n:=rfl
theorem atI_map{α β:Type}{l:List α}{f:α→β}{n:Int}:atI (l.map f) n=(atI l n).map f:=by
 unfold atI;split<;>simp
theorem atI_cons0{α:Type}{x:α}{l:List α}:atI (x::l) 0=some x:=rfl
theorem atI_own{α:Type}{l:List α}{n:Int}{y:α}(h:atI l n=some y):0≤n∧n < (l.length:Int)∧∀ {β:Type} (f:α→β),(l.map f)[n.toNat]? = some (f y):=by
 unfold atI at h;split at h
 ·rename_i h0
  have:=(List.getElem?_eq_some_iff.1 h).1;exact⟨h0,by omega,fun f=>by simp[h]⟩
 cases h
theorem bind_some{α β:Type}{o:Option α}{F:α→Option β}{y:β}(h:o.bind F=some y):∃ x,o=some x∧F x=some y:=Option.bind_eq_some_iff.1 h
theorem ite_or{α:Type}{b:Bool}{x y:Option α}{z:α}(h:(if b=true then x else y)=some z):(b=true∧x=some z)∨(b=false∧y=some z):=by
 cases b
 ·exact .inr ⟨rfl,by simpa using h⟩
 exact .inl ⟨rfl,by simpa using h⟩
theorem ite_on{α:Type}{p:Prop}[Decidable p]{x:Option α}{z:α}(h:(if p then x else none)=some z):p∧x=some z:=by
 split at h
 ·rename_i hp;exact⟨hp,h⟩
 cases h
def subH {α:Type}(s:List α)(hi:Int):Option (List α):=if 0≤hi∧hi.toNat≤s.length then some ((s.drop 0).take (hi.toNat - 0)) else none
def subL {α:Type}(s:List α)(lo:Int):Option (List α):=if 0≤lo∧lo.toNat≤s.length then some ((s.drop lo.toNat).take (s.length - lo.toNat)) else none
theorem subH_some{α:Type}{s t:List α}{hi:Int}(h:subH s hi=some t):(0≤hi∧hi.toNat≤s.length)∧(s.drop 0).take (hi.toNat - 0)=t:=by
 unfold subH at h;split at h
 ·rename_i hp;exact⟨hp,Option.some.inj h⟩
 cases h
theorem subL_some{α:Type}{s t:List α}{lo:Int}(h:subL s lo=some t):(0≤lo∧lo.toNat≤s.length)∧(s.drop lo.toNat).take (s.length - lo.toNat)=t:=by
 unfold subL at h;split at h
 ·rename_i hp;exact⟨hp,Option.some.inj h⟩
 cases h
end
theorem mapdrop{α β:Type}{f:α→β}{l:List α}{n:Nat}:(l.map f).drop n=(l.drop n).map f:=List.map_drop.symm
theorem maptake{α β:Type}{f:α→β}{l:List α}{n:Nat}:(l.map f).take n=(l.take n).map f:=List.map_take.symm
theorem bytesOf_nil:bytesOf []=[]:=rfl
theorem bytesOf_cons{a:Int}{l:List Int}:bytesOf (a::l)=UInt8.ofNat a.toNat::bytesOf l:=rfl
theorem all_cells{α:Type}{f:α→D}{k:Nat}{l:List α}(h:∀ x,(f x).cells.length=k):((l.map f).all fun x=>decide (k=x.cells.length))=true:=by
 simp[h]
def unA:UnOp→D→Option (D × Eff)
 | .not,.bool b=>some (.bool !b,[])
 | .neg,.int k n=>some (.int k (k.wrap (0 - n)),[])
 | _,_=>none
theorem aop_un{P:Program}{op:UnOp}{t:TypeId}{x:Operand}{nid:Nat}{S:AS}:aop P (.unOp op t x) nid S=unA op (S.val x):=by
 simp only[aop];cases op<;>cases S.val x<;>rfl
theorem vd:type_of% (And.intro @effOk.eq_1<|And.intro @effOk.eq_2<|And.intro @effOk.eq_3<|And.intro @awant.eq_1<|And.intro @gdst.eq_1<|And.intro @acallee.eq_1<|And.intro @acallee.eq_2<|And.intro @aop.eq_1<|And.intro @aop.eq_2<|And.intro @aop.eq_3<|And.intro @aop.eq_4<|And.intro @aop.eq_5<|And.intro @aop.eq_6<|And.intro @aop.eq_7<|And.intro @aop.eq_8<|And.intro @aop.eq_9<|And.intro @aop.eq_10<|And.intro @aop.eq_11<|And.intro @aop_un<|And.intro @unA.eq_1<|And.intro @unA.eq_2<|And.intro @aop.eq_15<|And.intro @aop.eq_16<|And.intro @aop.eq_17<|And.intro @aop.eq_18<|And.intro @aop.eq_19<|And.intro @aop.eq_20<|And.intro @aop.eq_21<|And.intro @aop.eq_22<|And.intro @aop.eq_23<|And.intro @abuiltin.eq_1<|And.intro @AS.val.eq_1<|And.intro @AS.val.eq_2<|And.intro @AS.val.eq_3<|And.intro @AS.val.eq_4<|And.intro @cD.eq_1<|And.intro @cD.eq_2<|And.intro @cD1.eq_1<|And.intro @cD1.eq_2<|And.intro @cD1.eq_3<|And.intro @cD1.eq_4<|And.intro @cD1.eq_5<|And.intro @cD1.eq_6<|And.intro @cD1.eq_7<|And.intro @S0.eq_1<|And.intro @argL.eq_1<|And.intro @argL.eq_2<|And.intro @look.eq_1<|And.intro @look.eq_2<|And.intro @appEff.eq_1<|And.intro @appEff.eq_2<|And.intro @loadD.eq_1<|And.intro @putD.eq_1<|And.intro @fillD.eq_1<|And.intro @fillD.eq_2<|And.intro @placeT.eq_1<|And.intro @intOp.eq_1<|And.intro @intOp.eq_2<|And.intro @intOp.eq_3<|And.intro @intOp.eq_4<|And.intro @intOp.eq_5<|And.intro @intOp.eq_6<|And.intro @intOp.eq_7<|And.intro @intOp.eq_8<|And.intro @intOp.eq_9<|And.intro @intOp.eq_10<|And.intro @intOp.eq_11<|And.intro @intOp.eq_12<|And.intro @intOp.eq_13<|And.intro @shOp.eq_1<|And.intro @shOp.eq_2<|And.intro @strOp.eq_1<|And.intro @strOp.eq_2<|And.intro @strOp.eq_3<|And.intro @strOp.eq_4<|And.intro @strOp.eq_5<|And.intro @strOp.eq_6<|And.intro @strOp.eq_7<|And.intro @strOp.eq_8<|And.intro @eqK.eq_1<|And.intro @eqK.eq_2<|And.intro @eqK.eq_3<|And.intro @eqK.eq_4<|And.intro @eqK.eq_5<|And.intro @eqR.eq_1<|And.intro @eqR.eq_2<|And.intro @eqR.eq_3<|And.intro @eqR.eq_4<|And.intro @elemsD.eq_1<|And.intro @elemsD.eq_2<|And.intro @elemsD.eq_3<|And.intro @elemsD.eq_4<|And.intro @bytesD_map<|And.intro @bytesD_snoc<|And.intro @bytesD_snoc2<|And.intro @bytesD_app<|And.intro @bytesD.eq_1<|And.intro @bytesD.eq_2<|And.intro @isConst.eq_1<|And.intro @loD.eq_1<|And.intro @loD.eq_2<|And.intro @loD.eq_3<|And.intro @hiD.eq_1<|And.intro @hiD.eq_2<|And.intro @hiD.eq_3<|And.intro @pur1.eq_1<|And.intro @pur1.eq_2<|And.intro @pur1.eq_3<|And.intro @pur1.eq_4<|And.intro @pur1.eq_5<|And.intro @pur1.eq_6<|And.intro @pur1.eq_7<|And.intro @pur1.eq_8<|And.intro @pur1.eq_9<|And.intro @pur1.eq_10<|And.intro @purL.eq_1<|And.intro @purL.eq_2<|And.intro @purD.eq_1<|And.intro @purD.eq_2<|And.intro @purDs.eq_1<|And.intro @purDs.eq_2<|And.intro @D.cells.eq_1<|And.intro @D.cells.eq_2<|And.intro @D.okS.eq_1<|And.intro @D.okS.eq_2<|And.intro @D.ok1.eq_1<|And.intro @D.ok1.eq_2<|And.intro @D.ok1.eq_3<|And.intro @D.ok1.eq_4<|And.intro @D.ok1.eq_5<|And.intro @slOk.eq_1<|And.intro @resD.eq_1<|And.intro @resD.eq_2<|And.intro @resD.eq_3<|And.intro @mkRes.eq_1<|And.intro @mkRes.eq_2<|And.intro @Go.maxLen.eq_1<|And.intro @inR.eq_1<|And.intro @kLo.eq_1<|And.intro @kLo.eq_2<|And.intro @kLo.eq_3<|And.intro @kLo.eq_4<|And.intro @kLo.eq_5<|And.intro @kHi.eq_1<|And.intro @kHi.eq_2<|And.intro @kHi.eq_3<|And.intro @kHi.eq_4<|And.intro @kHi.eq_5<|And.intro @kHi.eq_6<|And.intro @kHi.eq_7<|@kHi.eq_8):=And.intro @effOk.eq_1<|And.intro @effOk.eq_2<|And.intro @effOk.eq_3<|And.intro @awant.eq_1<|And.intro @gdst.eq_1<|And.intro @acallee.eq_1<|And.intro @acallee.eq_2<|And.intro @aop.eq_1<|And.intro @aop.eq_2<|And.intro @aop.eq_3<|And.intro @aop.eq_4<|And.intro @aop.eq_5<|And.intro @aop.eq_6<|And.intro @aop.eq_7<|And.intro @aop.eq_8<|And.intro @aop.eq_9<|And.intro @aop.eq_10<|And.intro @aop.eq_11<|And.intro @aop_un<|And.intro @unA.eq_1<|And.intro @unA.eq_2<|And.intro @aop.eq_15<|And.intro @aop.eq_16<|And.intro @aop.eq_17<|And.intro @aop.eq_18<|And.intro @aop.eq_19<|And.intro @aop.eq_20<|And.intro @aop.eq_21<|And.intro @aop.eq_22<|And.intro @aop.eq_23<|And.intro @abuiltin.eq_1<|And.intro @AS.val.eq_1<|And.intro @AS.val.eq_2<|And.intro @AS.val.eq_3<|And.intro @AS.val.eq_4<|And.intro @cD.eq_1<|And.intro @cD.eq_2<|And.intro @cD1.eq_1<|And.intro @cD1.eq_2<|And.intro @cD1.eq_3<|And.intro @cD1.eq_4<|And.intro @cD1.eq_5<|And.intro @cD1.eq_6<|And.intro @cD1.eq_7<|And.intro @S0.eq_1<|And.intro @argL.eq_1<|And.intro @argL.eq_2<|And.intro @look.eq_1<|And.intro @look.eq_2<|And.intro @appEff.eq_1<|And.intro @appEff.eq_2<|And.intro @loadD.eq_1<|And.intro @putD.eq_1<|And.intro @fillD.eq_1<|And.intro @fillD.eq_2<|And.intro @placeT.eq_1<|And.intro @intOp.eq_1<|And.intro @intOp.eq_2<|And.intro @intOp.eq_3<|And.intro @intOp.eq_4<|And.intro @intOp.eq_5<|And.intro @intOp.eq_6<|And.intro @intOp.eq_7<|And.intro @intOp.eq_8<|And.intro @intOp.eq_9<|And.intro @intOp.eq_10<|And.intro @intOp.eq_11<|And.intro @intOp.eq_12<|And.intro @intOp.eq_13<|And.intro @shOp.eq_1<|And.intro @shOp.eq_2<|And.intro @strOp.eq_1<|And.intro @strOp.eq_2<|And.intro @strOp.eq_3<|And.intro @strOp.eq_4<|And.intro @strOp.eq_5<|And.intro @strOp.eq_6<|And.intro @strOp.eq_7<|And.intro @strOp.eq_8<|And.intro @eqK.eq_1<|And.intro @eqK.eq_2<|And.intro @eqK.eq_3<|And.intro @eqK.eq_4<|And.intro @eqK.eq_5<|And.intro @eqR.eq_1<|And.intro @eqR.eq_2<|And.intro @eqR.eq_3<|And.intro @eqR.eq_4<|And.intro @elemsD.eq_1<|And.intro @elemsD.eq_2<|And.intro @elemsD.eq_3<|And.intro @elemsD.eq_4<|And.intro @bytesD_map<|And.intro @bytesD_snoc<|And.intro @bytesD_snoc2<|And.intro @bytesD_app<|And.intro @bytesD.eq_1<|And.intro @bytesD.eq_2<|And.intro @isConst.eq_1<|And.intro @loD.eq_1<|And.intro @loD.eq_2<|And.intro @loD.eq_3<|And.intro @hiD.eq_1<|And.intro @hiD.eq_2<|And.intro @hiD.eq_3<|And.intro @pur1.eq_1<|And.intro @pur1.eq_2<|And.intro @pur1.eq_3<|And.intro @pur1.eq_4<|And.intro @pur1.eq_5<|And.intro @pur1.eq_6<|And.intro @pur1.eq_7<|And.intro @pur1.eq_8<|And.intro @pur1.eq_9<|And.intro @pur1.eq_10<|And.intro @purL.eq_1<|And.intro @purL.eq_2<|And.intro @purD.eq_1<|And.intro @purD.eq_2<|And.intro @purDs.eq_1<|And.intro @purDs.eq_2<|And.intro @D.cells.eq_1<|And.intro @D.cells.eq_2<|And.intro @D.okS.eq_1<|And.intro @D.okS.eq_2<|And.intro @D.ok1.eq_1<|And.intro @D.ok1.eq_2<|And.intro @D.ok1.eq_3<|And.intro @D.ok1.eq_4<|And.intro @D.ok1.eq_5<|And.intro @slOk.eq_1<|And.intro @resD.eq_1<|And.intro @resD.eq_2<|And.intro @resD.eq_3<|And.intro @mkRes.eq_1<|And.intro @mkRes.eq_2<|And.intro @Go.maxLen.eq_1<|And.intro @inR.eq_1<|And.intro @kLo.eq_1<|And.intro @kLo.eq_2<|And.intro @kLo.eq_3<|And.intro @kLo.eq_4<|And.intro @kLo.eq_5<|And.intro @kHi.eq_1<|And.intro @kHi.eq_2<|And.intro @kHi.eq_3<|And.intro @kHi.eq_4<|And.intro @kHi.eq_5<|And.intro @kHi.eq_6<|And.intro @kHi.eq_7<|@kHi.eq_8
theorem lookV_map{α β:Type}(f:α→β)(z:α):∀ (ks:List Int) (vs:List α) (n:Int),lookV ks (vs.map f) n (f z)=f (lookV ks vs n z)
 | [],vs,n=>by cases vs<;>rfl
 | a::ks,[],n=>rfl
 | a::ks,v::vs,n=>by
  simp only[List.map_cons,lookV]
  split
  ·rfl
  ·exact lookV_map f z ks vs n
theorem putV_map{α β:Type}(f:α→β)(y:α):∀ (ks:List Int) (vs:List α) (n:Int),putV ks (vs.map f) n (f y)=(putV ks vs n y).map f
 | [],vs,n=>by cases vs<;>rfl
 | a::ks,[],n=>rfl
 | a::ks,v::vs,n=>by
  simp only[List.map_cons,putV]
  split
  ·rfl
  ·simp only[List.map_cons,putV_map f y ks vs n]
theorem putV_nil{α β:Type}(f:α→β)(y:α)(n:Int):putV ([]:List Int) ([]:List β) n (f y)=(putV [] ([]:List α) n y).map f:=rfl
theorem vv:type_of% (And.intro @bytesOf_nil<|And.intro @bytesOf_cons<|And.intro @all_cells<|And.intro @mapdrop<|And.intro @maptake<|And.intro @List.append_eq.{0}<|And.intro @List.length_append.{0}<|And.intro @eq_self.{1}<|And.intro @rgL_nil<|And.intro @rgL_cons<|And.intro @wR_t<|And.intro @wR_f<|And.intro @lR_s<|And.intro @lR_n<|And.intro @pR_s<|And.intro @sR_s<|And.intro @rgD_nil<|And.intro @rgD_cons<|And.intro @wD_t<|And.intro @wD_f<|And.intro @lD_s<|And.intro @lD_n<|And.intro @pD_s<|And.intro @sD_s<|And.intro @aret_eq<|And.intro @retK_some<|And.intro @retK2_s<|And.intro @AS.step_mk<|And.intro @upd_app<|And.intro @heapL_app<|And.intro @envL_app<|And.intro @atI_map<|And.intro @atI_cons0<|And.intro @List.length_map.{0,0}<|And.intro @Nat.zero_add<|And.intro @Nat.add_zero<|And.intro @Nat.zero_le<|And.intro @List.length_cons.{0}<|And.intro @List.length_nil.{0}<|And.intro @List.map_cons.{0,0}<|And.intro @List.map_nil.{0,0}<|And.intro @List.drop_succ_cons.{0}<|And.intro @List.drop_zero.{0}<|And.intro @List.take_succ_cons.{0}<|And.intro @List.take_zero.{0}<|And.intro @List.head?_cons.{0}<|And.intro @List.cons_append.{0}<|And.intro @List.nil_append.{0}<|And.intro @List.append_nil.{0}<|And.intro @List.getElem?_cons_zero.{0}<|And.intro @List.getElem?_cons_succ.{0}<|And.intro @List.getElem?_toArray.{0}<|And.intro @Option.map_some.{0,0}<|And.intro @Option.map_none.{0,0}<|And.intro @Option.isSome_some.{0}<|And.intro @Option.any_some.{0}<|And.intro @Bool.and_true<|And.intro @Bool.true_and<|And.intro @Bool.and_self<|And.intro @Bool.not_true<|And.intro @Bool.not_false<|And.intro @beq_self_eq_true.{0}<|And.intro @decide_true<|And.intro @decide_false<|And.intro @Bool.false_eq_true<|And.intro @Bool.true_eq_false<|And.intro @decide_eq_true_eq<|And.intro @and_true<|And.intro @true_and<|And.intro @and_self<|And.intro @List.mem_cons.{0}<|And.intro @List.not_mem_nil.{0}<|And.intro @or_false<|And.intro @forall_eq.{1}<|And.intro @forall_eq_or_imp.{1}<|And.intro @List.all_cons.{0}<|And.intro @List.all_nil.{0}<|And.intro @ite_true.{1}<|And.intro @ite_false.{1}<|And.intro @Nat.add_one_sub_one<|And.intro @if_true.{1}<|And.intro @if_false.{1}<|And.intro @Option.some.injEq.{0}<|And.intro @Prod.mk.injEq.{0,0}<|And.intro @not_true_eq_false<|And.intro @not_false_eq_true<|And.intro @Nat.le_refl<|And.intro @or_self<|And.intro @Bool.or_false<|And.intro @Bool.or_true<|And.intro @Bool.not_not<|And.intro @Int.cast_ofNat_Int<|And.intro @Int.natCast_zero<|And.intro @Int.natCast_one<|@Nat.mul_one):=And.intro @bytesOf_nil<|And.intro @bytesOf_cons<|And.intro @all_cells<|And.intro @mapdrop<|And.intro @maptake<|And.intro @List.append_eq.{0}<|And.intro @List.length_append.{0}<|And.intro @eq_self.{1}<|And.intro @rgL_nil<|And.intro @rgL_cons<|And.intro @wR_t<|And.intro @wR_f<|And.intro @lR_s<|And.intro @lR_n<|And.intro @pR_s<|And.intro @sR_s<|And.intro @rgD_nil<|And.intro @rgD_cons<|And.intro @wD_t<|And.intro @wD_f<|And.intro @lD_s<|And.intro @lD_n<|And.intro @pD_s<|And.intro @sD_s<|And.intro @aret_eq<|And.intro @retK_some<|And.intro @retK2_s<|And.intro @AS.step_mk<|And.intro @upd_app<|And.intro @heapL_app<|And.intro @envL_app<|And.intro @atI_map<|And.intro @atI_cons0<|And.intro @List.length_map.{0,0}<|And.intro @Nat.zero_add<|And.intro @Nat.add_zero<|And.intro @Nat.zero_le<|And.intro @List.length_cons.{0}<|And.intro @List.length_nil.{0}<|And.intro @List.map_cons.{0,0}<|And.intro @List.map_nil.{0,0}<|And.intro @List.drop_succ_cons.{0}<|And.intro @List.drop_zero.{0}<|And.intro @List.take_succ_cons.{0}<|And.intro @List.take_zero.{0}<|And.intro @List.head?_cons.{0}<|And.intro @List.cons_append.{0}<|And.intro @List.nil_append.{0}<|And.intro @List.append_nil.{0}<|And.intro @List.getElem?_cons_zero.{0}<|And.intro @List.getElem?_cons_succ.{0}<|And.intro @List.getElem?_toArray.{0}<|And.intro @Option.map_some.{0,0}<|And.intro @Option.map_none.{0,0}<|And.intro @Option.isSome_some.{0}<|And.intro @Option.any_some.{0}<|And.intro @Bool.and_true<|And.intro @Bool.true_and<|And.intro @Bool.and_self<|And.intro @Bool.not_true<|And.intro @Bool.not_false<|And.intro @beq_self_eq_true.{0}<|And.intro @decide_true<|And.intro @decide_false<|And.intro @Bool.false_eq_true<|And.intro @Bool.true_eq_false<|And.intro @decide_eq_true_eq<|And.intro @and_true<|And.intro @true_and<|And.intro @and_self<|And.intro @List.mem_cons.{0}<|And.intro @List.not_mem_nil.{0}<|And.intro @or_false<|And.intro @forall_eq.{1}<|And.intro @forall_eq_or_imp.{1}<|And.intro @List.all_cons.{0}<|And.intro @List.all_nil.{0}<|And.intro @ite_true.{1}<|And.intro @ite_false.{1}<|And.intro @Nat.add_one_sub_one<|And.intro @if_true.{1}<|And.intro @if_false.{1}<|And.intro @Option.some.injEq.{0}<|And.intro @Prod.mk.injEq.{0,0}<|And.intro @not_true_eq_false<|And.intro @not_false_eq_true<|And.intro @Nat.le_refl<|And.intro @or_self<|And.intro @Bool.or_false<|And.intro @Bool.or_true<|And.intro @Bool.not_not<|And.intro @Int.cast_ofNat_Int<|And.intro @Int.natCast_zero<|And.intro @Int.natCast_one<|@Nat.mul_one
theorem vz:type_of% (And.intro rngs<|And.intro vd vv):=And.intro rngs<|And.intro vd vv
def mkI {α:Type}(by_ n:Int)(z:α):Option (List α):=if 0≤n∧n≤9223372036854775807∧n * by_≤140737488355328 then some (replL n.toNat z) else none
theorem replL_map{α β:Type}{f:α→β}{n:Nat}{x:α}:(replL n x).map f=replL n (f x):=List.map_replicate
theorem replL_length{α:Type}{n:Nat}{x:α}:(replL n x).length=n:=List.length_replicate
theorem mkI_some{α:Type}{by_ n:Int}{z:α}{m:List α}(h:mkI by_ n z=some m):0≤n∧n≤9223372036854775807∧n * by_≤140737488355328∧n.toNat=m.length∧∀ {β:Type} (f:α→β),replL m.length (f z)=m.map f:=by
 obtain⟨⟨h1,h2,h3⟩,h⟩:=ite_on h;obtain rfl:=Option.some.inj h;exact⟨h1,h2,h3,replL_length.symm,fun f=>by rw[replL_map,replL_length]⟩
def setI {α:Type}(l:List α)(n:Int)(x:α):Option (List α):=if 0≤n∧n < (l.length:Int) then some (l.set n.toNat x) else none
theorem setI_some{α:Type}{l:List α}{n:Int}{x:α}{m:List α}(h:setI l n x=some m):0≤n∧n < (l.length:Int)∧l.length=m.length∧∀ {β:Type} (f:α→β),(l.map f).set n.toNat (f x)=m.map f:=by
 obtain⟨⟨h1,h2⟩,h⟩:=ite_on h;obtain rfl:=Option.some.inj h;exact⟨h1,h2,by simp,fun f=>by simp[List.map_set]⟩
def fD (b:Bool)(xs:List D):D:=match b with
 | true=>.fsl xs
 | false=>.sl xs
structure FL(α:Type) where
 full:Bool
 l:List α
 deriving DecidableEq
theorem fD_t{xs:List D}:fD true xs=.fsl xs:=rfl
theorem fD_f{xs:List D}:fD false xs=.sl xs:=rfl
theorem fD_cells{b:Bool}{xs:List D}:(fD b xs).cells=[fD b xs]:=by cases b<;>rfl
theorem fD_ok1{b:Bool}{xs:List D}:(fD b xs).ok1=true:=by cases b<;>rfl
theorem fD_okS{b:Bool}{xs:List D}:(fD b xs).okS=true:=by cases b<;>rfl
theorem fD_pur{H:Nat→Option Blk}{b:Bool}{xs:List D}:pur1 H (fD b xs)=some (fD b xs,[]):=by cases b<;>rfl
theorem om2{α:Type}{f:α→D}{k:Nat}{l:List α}(h:∀ x,(f x).cells.length=k):(∀ y,y ∈ l.map f→y.cells.length=k)=True :=
 eq_true fun y hy=>by obtain⟨x,_,rfl⟩:=List.mem_map.1 hy;exact h x
theorem kv:type_of% (And.intro @bytesOf_nil<|And.intro @bytesOf_cons<|And.intro @upd_app<|And.intro @argL.eq_1<|And.intro @argL.eq_2<|And.intro @envL_app<|And.intro @heapL_app<|And.intro @look.eq_1<|And.intro @look.eq_2<|And.intro @appEff.eq_1<|And.intro @appEff.eq_2<|And.intro @wkEnv.eq_1<|And.intro @wkEnv.eq_2<|And.intro @wkHeap.eq_1<|And.intro @wkHeap.eq_2<|And.intro @D.ren.eq_1<|And.intro @D.ren.eq_2<|And.intro @D.ren.eq_3<|And.intro @D.ren.eq_4<|And.intro @D.ren1.eq_1<|And.intro @D.ren1.eq_2<|And.intro @D.ren1.eq_3<|And.intro @D.ren1.eq_4<|And.intro @D.idOk.eq_1<|And.intro @D.idOk.eq_2<|And.intro @D.idOk.eq_3<|And.intro @D.idOk.eq_4<|And.intro @D.idOk.eq_5<|And.intro @D.idOk1.eq_1<|And.intro @D.idOk1.eq_2<|And.intro @D.idOk1.eq_3<|And.intro @D.idOk1.eq_4<|And.intro @D.idOk1.eq_5<|And.intro @D.idOk1.eq_6<|And.intro @D.idOk1.eq_7<|And.intro @D.idOk1.eq_8<|And.intro @Blk.ren.eq_1<|And.intro @Blk.ren.eq_2<|And.intro @Blk.idOk.eq_1 @Blk.idOk.eq_2):=And.intro @bytesOf_nil<|And.intro @bytesOf_cons<|And.intro @upd_app<|And.intro @argL.eq_1<|And.intro @argL.eq_2<|And.intro @envL_app<|And.intro @heapL_app<|And.intro @look.eq_1<|And.intro @look.eq_2<|And.intro @appEff.eq_1<|And.intro @appEff.eq_2<|And.intro @wkEnv.eq_1<|And.intro @wkEnv.eq_2<|And.intro @wkHeap.eq_1<|And.intro @wkHeap.eq_2<|And.intro @D.ren.eq_1<|And.intro @D.ren.eq_2<|And.intro @D.ren.eq_3<|And.intro @D.ren.eq_4<|And.intro @D.ren1.eq_1<|And.intro @D.ren1.eq_2<|And.intro @D.ren1.eq_3<|And.intro @D.ren1.eq_4<|And.intro @D.idOk.eq_1<|And.intro @D.idOk.eq_2<|And.intro @D.idOk.eq_3<|And.intro @D.idOk.eq_4<|And.intro @D.idOk.eq_5<|And.intro @D.idOk1.eq_1<|And.intro @D.idOk1.eq_2<|And.intro @D.idOk1.eq_3<|And.intro @D.idOk1.eq_4<|And.intro @D.idOk1.eq_5<|And.intro @D.idOk1.eq_6<|And.intro @D.idOk1.eq_7<|And.intro @D.idOk1.eq_8<|And.intro @Blk.ren.eq_1<|And.intro @Blk.ren.eq_2<|And.intro @Blk.idOk.eq_1 @Blk.idOk.eq_2
theorem vm:type_of% (And.intro Bool.false_and<|And.intro (@Option.isSome_none TypeId)<|And.intro Bool.false_eq_true<|And.intro @false_and<|And.intro Bool.and_true<|And.intro (@Option.isNone_none D)<|And.intro (@Option.isNone_none Operand)<|And.intro @boxR.eq_1<|And.intro @boxR.eq_2<|And.intro @intD.eq_1<|And.intro (@List.all_cons D)<|And.intro (@List.all_nil D)<|And.intro @mkZ.eq_1<|And.intro @mkZ.eq_2<|And.intro @matS.eq_1<|And.intro @matS.eq_2<|And.intro @matS.eq_3<|And.intro @matS.eq_4<|And.intro @om2<|And.intro @isI.eq_1<|And.intro Bool.true_or<|And.intro Bool.false_or<|And.intro @D.isAg.eq_1<|And.intro @D.isAg.eq_2<|And.intro @D.isAg.eq_3<|And.intro @D.isAg.eq_4<|And.intro @D.isAg.eq_5<|And.intro @D.isAg.eq_6<|And.intro @D.isAg.eq_7<|And.intro @D.isAg.eq_8<|And.intro @D.isAg.eq_9<|And.intro @D.isAg.eq_10<|And.intro @D.isAg.eq_11<|And.intro @D.isAg.eq_12<|And.intro @fD_t<|And.intro @fD_f<|And.intro @fD_cells<|And.intro @fD_ok1<|And.intro @fD_okS<|And.intro @fD_pur<|And.intro @bsR.eq_1<|And.intro @bsR.eq_2<|And.intro @pur1.eq_13<|And.intro @elemsD.eq_5<|And.intro @aop.eq_24<|And.intro @aop.eq_25<|And.intro @aop.eq_26<|And.intro @aop.eq_27<|And.intro @aop.eq_28<|And.intro @aop.eq_29<|And.intro @aop.eq_30<|And.intro @selfD.eq_1<|And.intro @selfD.eq_2<|And.intro @selfD.eq_3<|And.intro @capOk.eq_1<|And.intro @capOk.eq_2<|And.intro @capOk.eq_3<|And.intro @capOk.eq_4<|And.intro @pur1.eq_11<|And.intro @pur1.eq_12<|And.intro @mapD.eq_1<|And.intro @mapD.eq_2<|And.intro @lookV_map<|And.intro @putV_map<|And.intro @putV_nil<|And.intro @pD_n<|And.intro @eX_s<|And.intro @eXD_s<|And.intro @purX.eq_1<|And.intro @purX.eq_2<|And.intro @purXs.eq_1<|And.intro @purXs.eq_2 @pR_n):=And.intro Bool.false_and<|And.intro (@Option.isSome_none TypeId)<|And.intro Bool.false_eq_true<|And.intro @false_and<|And.intro Bool.and_true<|And.intro (@Option.isNone_none D)<|And.intro (@Option.isNone_none Operand)<|And.intro @boxR.eq_1<|And.intro @boxR.eq_2<|And.intro @intD.eq_1<|And.intro (@List.all_cons D)<|And.intro (@List.all_nil D)<|And.intro @mkZ.eq_1<|And.intro @mkZ.eq_2<|And.intro @matS.eq_1<|And.intro @matS.eq_2<|And.intro @matS.eq_3<|And.intro @matS.eq_4<|And.intro @om2<|And.intro @isI.eq_1<|And.intro Bool.true_or<|And.intro Bool.false_or<|And.intro @D.isAg.eq_1<|And.intro @D.isAg.eq_2<|And.intro @D.isAg.eq_3<|And.intro @D.isAg.eq_4<|And.intro @D.isAg.eq_5<|And.intro @D.isAg.eq_6<|And.intro @D.isAg.eq_7<|And.intro @D.isAg.eq_8<|And.intro @D.isAg.eq_9<|And.intro @D.isAg.eq_10<|And.intro @D.isAg.eq_11<|And.intro @D.isAg.eq_12<|And.intro @fD_t<|And.intro @fD_f<|And.intro @fD_cells<|And.intro @fD_ok1<|And.intro @fD_okS<|And.intro @fD_pur<|And.intro @bsR.eq_1<|And.intro @bsR.eq_2<|And.intro @pur1.eq_13<|And.intro @elemsD.eq_5<|And.intro @aop.eq_24<|And.intro @aop.eq_25<|And.intro @aop.eq_26<|And.intro @aop.eq_27<|And.intro @aop.eq_28<|And.intro @aop.eq_29<|And.intro @aop.eq_30<|And.intro @selfD.eq_1<|And.intro @selfD.eq_2<|And.intro @selfD.eq_3<|And.intro @capOk.eq_1<|And.intro @capOk.eq_2<|And.intro @capOk.eq_3<|And.intro @capOk.eq_4<|And.intro @pur1.eq_11<|And.intro @pur1.eq_12<|And.intro @mapD.eq_1<|And.intro @mapD.eq_2<|And.intro @lookV_map<|And.intro @putV_map<|And.intro @putV_nil<|And.intro @pD_n<|And.intro @eX_s<|And.intro @eXD_s<|And.intro @purX.eq_1<|And.intro @purX.eq_2<|And.intro @purXs.eq_1<|And.intro @purXs.eq_2 @pR_n
theorem km:type_of% (And.intro @fD_t<|And.intro @fD_f<|And.intro @D.ren1.eq_5<|And.intro @D.ren1.eq_6<|And.intro @D.idOk1.eq_9<|And.intro @Blk.ren.eq_3<|And.intro @Blk.ren.eq_4<|And.intro @Blk.idOk.eq_4<|And.intro @Blk.idOk.eq_3 @D.idOk1.eq_10):=And.intro @fD_t<|And.intro @fD_f<|And.intro @D.ren1.eq_5<|And.intro @D.ren1.eq_6<|And.intro @D.idOk1.eq_9<|And.intro @Blk.ren.eq_3<|And.intro @Blk.ren.eq_4<|And.intro @Blk.idOk.eq_4<|And.intro @Blk.idOk.eq_3 @D.idOk1.eq_10
structure MI(α:Type) where
 ks:List Int
 vs:List α
attribute [irreducible] runB extB rgL rgD
theorem iterN_of{X E:Type}{step:X→Option (Nx X E)}(R:X→E→Prop)(μ:X→Nat)(hs:∀ x e,R x e→(∃ x',step x=some (.go x')∧R x' e∧μ x' < μ x)∨step x=some (.out e)) :
  ∀ (n:Nat) (x:X) (e:E),R x e→μ x < n→iterN step n x=some e:=by
 intro n
 induction n with
 | zero=>intro x e _ h;omega
 | succ n ih =>
  intro x e h hμ
  rcases hs x e h with⟨x',h1,h2,h3⟩|h1
  ·simp only[iterN,h1]
   exact ih x' e h2 (by omega)
  ·simp only[iterN,h1]
theorem iter_of{X E:Type}{step:X→Option (Nx X E)}(R:X→E→Prop)(μ:X→Nat)(hs:∀ x e,R x e→(∃ x',step x=some (.go x')∧R x' e∧μ x' < μ x)∨step x=some (.out e)){x:X}{e:E}(h:R x e)(hμ:μ x < 73786976294838206464):iter step x=some e :=
 iterN_of R μ hs _ x e h hμ
theorem iter_idx{E:Type}{step:Int→Option (Nx Int E)}(n:Nat)(hn:n≤9223372036854775807)(res:Nat→E)(hgo:∀ i:Nat,i < n→(step i=some (.go ((i:Int)+1))∧res i=res (i+1))∨step i=some (.out (res i)))(hend:step n=some (.out (res n))):iter step 0=some (res 0):=by
 refine iter_of (fun(x:Int) e=>∃ i:Nat,x=(i:Int)∧i≤n∧e=res i) (fun(x:Int)=>n - x.toNat) ?_ (x:=0) ⟨0,rfl,Nat.zero_le _,rfl⟩ (by show n - _ < _;omega);rintro x e ⟨i,rfl,hi,rfl⟩;by_cases h:i < n
 ·rcases hgo i h with⟨h1,h2⟩|h1
  ·exact .inl ⟨(i:Int)+1,h1,⟨i+1,by omega,by omega,h2⟩,by simp only[Int.toNat_natCast];omega⟩
  exact .inr h1
 obtain rfl:i=n:=by omega
 exact .inr hend
theorem iter_ends{E:Type}{step:Int→Option (Nx Int E)}(n:Nat)(hn:n≤9223372036854775807)(hgo:∀ i:Nat,i < n→step i=some (.go ((i:Int)+1))∨∃ e,step i=some (.out e))(hend:∃ e,step n=some (.out e)):∃ e,iter step 0=some e:=by
 have key:∀ m:Nat,∀ i:Nat,i≤n→n - i≤m→∃ e,∀ k:Nat,m < k→iterN step k (i:Int)=some e:=by
  intro m
  induction m with
  | zero =>
   intro i hi hm
   obtain rfl:i=n:=by omega
   obtain⟨e,he⟩:=hend
   exact⟨e,fun k hk=>by cases k with|zero=>omega|succ k=>simp only[iterN,he]⟩
  | succ m ih =>
   intro i hi hm
   by_cases h:i < n
   ·rcases hgo i h with h1|⟨e,h1⟩
    ·obtain⟨e,he⟩:=ih (i+1) (by omega) (by omega)
     refine⟨e,fun k hk=>?_⟩
     cases k with
     | zero=>omega
     | succ k =>
      simp only[iterN,h1]
      have:=he k (by omega)
      simpa using this
    ·exact⟨e,fun k hk=>by cases k with|zero=>omega|succ k=>simp only[iterN,h1]⟩
   ·obtain rfl:i=n:=by omega
    obtain⟨e,he⟩:=hend
    exact⟨e,fun k hk=>by cases k with|zero=>omega|succ k=>simp only[iterN,he]⟩
 obtain⟨e,he⟩:=key n 0 (Nat.zero_le _) (by omega)
 exact⟨e,he _ (by omega)⟩
theorem wr64{x:Int}(h:-9223372036854775808≤x∧x≤9223372036854775807):IntKind.i64.wrap x=x:=wk64 h
theorem atI_nat{α:Type}{l:List α}{n:Nat}(h:n < l.length):atI l (n:Int)=some l[n]:=by
 simp[atI,h]
theorem iterN_post{X E:Type}{step:X→Option (Nx X E)}(Inv:X→Prop)(μ:X→Nat)(Post:E→Prop)(hs:∀ x,Inv x→(∃ x',step x=some (.go x')∧Inv x'∧μ x' < μ x)∨∃ e,step x=some (.out e)∧Post e) :
  ∀ (n:Nat) (x:X),Inv x→μ x < n→∃ e,iterN step n x=some e∧Post e:=by
 intro n
 induction n with
 | zero=>intro x _ h;omega
 | succ n ih =>
  intro x h hμ
  rcases hs x h with⟨x',h1,h2,h3⟩|⟨e,h1,h2⟩
  ·simp only[iterN,h1]
   exact ih x' h2 (by omega)
  ·exact⟨e,by simp only[iterN,h1],h2⟩
theorem iter_post{X E:Type}{step:X→Option (Nx X E)}(Inv:X→Prop)(μ:X→Nat)(Post:E→Prop){x:X}(h:Inv x)(hμ:μ x < 73786976294838206464)(hs:∀ x,Inv x→(∃ x',step x=some (.go x')∧Inv x'∧μ x' < μ x)∨∃ e,step x=some (.out e)∧Post e):∃ e,iter step x=some e∧Post e :=
 iterN_post Inv μ Post hs _ x h hμ
theorem iter_cnt{E:Type}{step:Int→Option (Nx Int E)}(n:Nat)(hn:n≤9223372036854775807)(Inv:Nat→Prop)(Post:E→Prop)(h0:Inv 0)(hs:∀ i:Nat,i < n→Inv i→(step i=some (.go ((i:Int)+1))∧Inv (i+1))∨∃ e,step i=some (.out e)∧Post e)(hend:Inv n→∃ e,step n=some (.out e)∧Post e):∃ e,iter step 0=some e∧Post e:=by
 refine iter_post (fun x=>∃ i:Nat,x=(i:Int)∧i≤n∧Inv i) (fun x=>n - x.toNat) Post ⟨0,rfl,Nat.zero_le _,h0⟩ (by show n - _ < _;omega) ?_;rintro x ⟨i,rfl,hi,hI⟩;by_cases h:i < n
 ·rcases hs i h hI with⟨h1,h2⟩|h1
  ·exact .inl ⟨_,h1,⟨i+1,by omega,by omega,h2⟩,by simp only[Int.toNat_natCast];omega⟩
  exact .inr h1
 obtain rfl:i=n:=by omega
 exact .inr (hend hI)
theorem wrap_i64(x:Int)(h:-9223372036854775808≤x)(h':x≤9223372036854775807):IntKind.i64.wrap x=x:=wr64 ⟨h,h'⟩
theorem u8lt(b:UInt8):b.toNat < 256:=b.toNat_lt
set_option maxRecDepth 100000
noncomputable abbrev p := Tryz.prog
abbrev tX(t : Nat)(bl : Bool)(sz by_ : Nat)(ag : Bool)(sl : Option Nat)(ar : Option (Nat × Nat))(st : Bool)(it : Option IntKind)(k : Nat) : Prop := bldT p t = bl ∧ szT p t = some sz ∧ bytesT p t = some by_ ∧ aggT p t = some ag ∧ sliceT p t = sl ∧ arrT p t = ar ∧ strT p t = st ∧ intT p t = it ∧ kc p t = k
abbrev tI(t b : Nat)(k : IntKind) : Prop := bldT p t = false ∧ szT p t = some 1 ∧ bytesT p t = some b ∧ aggT p t = some false ∧ sliceT p t = none ∧ arrT p t = none ∧ strT p t = false ∧ intT p t = some k ∧ kc p t = 2 ∧ zeroD p t = some (D.int k 0)
abbrev tB(t : Nat) : Prop := bldT p t = false ∧ szT p t = some 1 ∧ bytesT p t = some 1 ∧ aggT p t = some false ∧ sliceT p t = none ∧ arrT p t = none ∧ strT p t = false ∧ intT p t = none ∧ kc p t = 1 ∧ zeroD p t = some (D.bool false)
abbrev tS(t : Nat) : Prop := bldT p t = false ∧ szT p t = some 1 ∧ bytesT p t = some 16 ∧ aggT p t = some false ∧ sliceT p t = none ∧ arrT p t = none ∧ strT p t = true ∧ intT p t = none ∧ kc p t = 3 ∧ zeroD p t = some (D.str [])
abbrev tL(t e : Nat) : Prop := bldT p t = false ∧ szT p t = some 1 ∧ bytesT p t = some 24 ∧ aggT p t = some false ∧ sliceT p t = some e ∧ arrT p t = none ∧ strT p t = false ∧ intT p t = none ∧ kc p t = 0 ∧ zeroD p t = some D.nils
abbrev tT(t s b : Nat)(z : D) : Prop := bldT p t = false ∧ szT p t = some s ∧ bytesT p t = some b ∧ aggT p t = some true ∧ sliceT p t = none ∧ arrT p t = none ∧ strT p t = false ∧ intT p t = none ∧ kc p t = 0 ∧ buildT p t = true ∧ zeroD p t = some z
abbrev tF(t j o e : Nat) : Prop := fldT p t j = some (o, e)
theorem ty0 : nilE p 2 = false ∧ fullT p 2 = false ∧ tI 2 8 .i64 ∧ nilE p 3 = false ∧ fullT p 3 = false ∧ tI 3 8 .i64 ∧ tB 4 ∧ nilE p 5 = false ∧ fullT p 5 = false ∧ tI 5 1 .u8 ∧ tI 6 1 .u8 ∧ tT 7 4 24 (D.agg [D.int .i64 0, D.int .i64 0, D.bool false, D.int .u8 0]) ∧ tF 7 0 0 2 ∧ tF 7 1 1 3 ∧ tF 7 2 2 4 ∧ tF 7 3 3 6 ∧ tT 8 4 24 (D.agg [D.int .i64 0, D.int .i64 0, D.bool false, D.int .u8 0]) ∧ tF 8 0 0 2 ∧ tF 8 1 1 3 ∧ tF 8 2 2 4 ∧ tF 8 3 3 6 ∧ nilE p 9 = false ∧ fullT p 9 = false ∧ tS 9 ∧ tS 10 ∧ tS 11 ∧ tI 12 8 .u64 ∧ tT 13 2 24 (D.agg [D.str [], D.int .u64 0]) ∧ tF 13 0 0 9 ∧ tF 13 1 1 12 ∧ tT 14 2 24 (D.agg [D.str [], D.int .u64 0]) ∧ tF 14 0 0 9 ∧ tF 14 1 1 12 ∧ ptrT p 15 = true ∧ tX 15 false 1 8 false none none false none 0 ∧ zeroD p 15 = some (D.nilp) ∧ ptrT p 16 = true ∧ tX 16 false 1 8 false none none false none 0 ∧ zeroD p 16 = some (D.nilp) ∧ ptrT p 17 = true := by
  repeat' apply And.intro
  all_goals (show _ = _; kernel_rfl)
theorem ty1 : tX 17 false 1 8 false none none false none 0 ∧ zeroD p 17 = some (D.nilp) ∧ tT 18 1 8 (D.agg [D.nilp]) ∧ tF 18 0 0 17 ∧ tT 19 1 8 (D.agg [D.nilp]) ∧ tF 19 0 0 17 ∧ ifaceT p 20 = true ∧ bldT p 20 = false ∧ nilE p 21 = false ∧ fullT p 21 = false ∧ tI 21 4 .i32 ∧ tI 22 1 .u8 ∧ nilE p 23 = false ∧ fullT p 23 = false ∧ u8T p 23 = false ∧ tL 23 71 ∧ nilE p 24 = false ∧ fullT p 24 = false ∧ u8T p 24 = false ∧ tL 24 91 ∧ nilE p 25 = false ∧ fullT p 25 = false ∧ u8T p 25 = false ∧ tL 25 162 ∧ tT 26 8 120 (D.agg [D.str [], D.str [], D.int .u8 0, D.bool false, D.int .i64 0, D.nils, D.nils, D.nils]) ∧ tF 26 0 0 9 ∧ tF 26 1 1 9 ∧ tF 26 2 2 22 ∧ tF 26 3 3 4 ∧ tF 26 4 4 2 ∧ tF 26 5 5 23 ∧ tF 26 6 6 24 ∧ tF 26 7 7 25 ∧ nilE p 27 = false ∧ fullT p 27 = false ∧ tT 27 8 120 (D.agg [D.str [], D.str [], D.int .u8 0, D.bool false, D.int .i64 0, D.nils, D.nils, D.nils]) ∧ tF 27 0 0 9 ∧ tF 27 1 1 9 ∧ tF 27 2 2 22 ∧ tF 27 3 3 4 := by
  repeat' apply And.intro
  all_goals (show _ = _; kernel_rfl)
theorem ty2 : tF 27 4 4 2 ∧ tF 27 5 5 23 ∧ tF 27 6 6 24 ∧ tF 27 7 7 25 ∧ tT 28 14 128 (D.agg [D.str [], D.int .i64 0, D.int .i64 0, D.int .i64 0, D.int .i64 0, D.int .i64 0, D.int .i64 0, D.int .i64 0, D.int .i64 0, D.str [], D.int .i64 0, D.int .i64 0, D.int .i64 0, D.int .i64 0]) ∧ tF 28 0 0 9 ∧ tF 28 1 1 2 ∧ tF 28 2 2 2 ∧ tF 28 3 3 2 ∧ tF 28 4 4 2 ∧ tF 28 5 5 2 ∧ tF 28 6 6 2 ∧ tF 28 7 7 3 ∧ tF 28 8 8 3 ∧ tF 28 9 9 9 ∧ tF 28 10 10 3 ∧ tF 28 11 11 3 ∧ tF 28 12 12 3 ∧ tF 28 13 13 3 ∧ tT 29 14 128 (D.agg [D.str [], D.int .i64 0, D.int .i64 0, D.int .i64 0, D.int .i64 0, D.int .i64 0, D.int .i64 0, D.int .i64 0, D.int .i64 0, D.str [], D.int .i64 0, D.int .i64 0, D.int .i64 0, D.int .i64 0]) ∧ eqTs p 29 = some [3, 2, 2, 2, 2, 2, 2, 2, 2, 3, 2, 2, 2, 2] ∧ tF 29 0 0 9 ∧ tF 29 1 1 2 ∧ tF 29 2 2 2 ∧ tF 29 3 3 2 ∧ tF 29 4 4 2 ∧ tF 29 5 5 2 ∧ tF 29 6 6 2 ∧ tF 29 7 7 3 ∧ tF 29 8 8 3 ∧ tF 29 9 9 9 ∧ tF 29 10 10 3 ∧ tF 29 11 11 3 ∧ tF 29 12 12 3 ∧ tF 29 13 13 3 ∧ nilE p 30 = false ∧ fullT p 30 = false ∧ u8T p 30 = false ∧ tL 30 2 ∧ tT 31 24 280 (D.agg [D.str [], D.str [], D.int .u8 0, D.bool false, D.int .i64 0, D.nils, D.nils, D.nils, D.str [], D.int .i64 0, D.int .i64 0, D.int .i64 0, D.int .i64 0, D.int .i64 0, D.int .i64 0, D.int .i64 0, D.int .i64 0, D.str [], D.int .i64 0, D.int .i64 0, D.int .i64 0, D.int .i64 0, D.nils, D.int .i64 0]) := by
  repeat' apply And.intro
  all_goals (show _ = _; kernel_rfl)
theorem ty3 : tF 31 0 0 27 ∧ tF 31 1 8 29 ∧ tF 31 2 22 30 ∧ tF 31 3 23 2 ∧ tT 32 24 280 (D.agg [D.str [], D.str [], D.int .u8 0, D.bool false, D.int .i64 0, D.nils, D.nils, D.nils, D.str [], D.int .i64 0, D.int .i64 0, D.int .i64 0, D.int .i64 0, D.int .i64 0, D.int .i64 0, D.int .i64 0, D.int .i64 0, D.str [], D.int .i64 0, D.int .i64 0, D.int .i64 0, D.int .i64 0, D.nils, D.int .i64 0]) ∧ tF 32 0 0 27 ∧ tF 32 1 8 29 ∧ tF 32 2 22 30 ∧ tF 32 3 23 2 ∧ tI 33 8 .u64 ∧ u8T p 36 = false ∧ tL 36 93 ∧ u8T p 37 = false ∧ tL 37 48 ∧ tT 38 11 176 (D.agg [D.str [], D.str [], D.int .u8 0, D.bool false, D.int .i64 0, D.nils, D.nils, D.nils, D.nils, D.int .i64 0, D.nils]) ∧ tF 38 0 0 27 ∧ tF 38 1 8 36 ∧ tF 38 2 9 2 ∧ tF 38 3 10 37 ∧ tT 39 11 176 (D.agg [D.str [], D.str [], D.int .u8 0, D.bool false, D.int .i64 0, D.nils, D.nils, D.nils, D.nils, D.int .i64 0, D.nils]) ∧ tF 39 0 0 27 ∧ tF 39 1 8 36 ∧ tF 39 2 9 2 ∧ tF 39 3 10 37 ∧ tI 40 8 .i64 ∧ u8T p 45 = false ∧ tL 45 3 ∧ tI 46 1 .u8 ∧ tT 47 6 48 (D.agg [D.int .i64 0, D.int .i64 0, D.int .i64 0, D.int .u8 0, D.int .i64 0, D.int .i64 0]) ∧ tF 47 0 0 3 ∧ tF 47 1 1 3 ∧ tF 47 2 2 2 ∧ tF 47 3 3 46 ∧ tF 47 4 4 2 ∧ tF 47 5 5 2 ∧ nilE p 48 = false ∧ fullT p 48 = false ∧ tT 48 6 48 (D.agg [D.int .i64 0, D.int .i64 0, D.int .i64 0, D.int .u8 0, D.int .i64 0, D.int .i64 0]) ∧ eqTs p 48 = some [2, 2, 2, 2, 2, 2] ∧ tF 48 0 0 3 := by
  repeat' apply And.intro
  all_goals (show _ = _; kernel_rfl)
theorem ty4 : tF 48 1 1 3 ∧ tF 48 2 2 2 ∧ tF 48 3 3 46 ∧ tF 48 4 4 2 ∧ tF 48 5 5 2 ∧ u8T p 56 = false ∧ tL 56 113 ∧ ptrT p 59 = true ∧ tX 59 false 1 8 false none none false none 0 ∧ zeroD p 59 = some (D.nilp) ∧ tI 62 1 .u8 ∧ tT 63 2 16 (D.agg [D.int .i64 0, D.int .i64 0]) ∧ tF 63 0 0 2 ∧ tF 63 1 1 2 ∧ tT 64 2 16 (D.agg [D.int .i64 0, D.int .i64 0]) ∧ eqTs p 64 = some [2, 2] ∧ tF 64 0 0 2 ∧ tF 64 1 1 2 ∧ tI 65 1 .u8 ∧ tI 66 1 .u8 ∧ tT 67 3 3 (D.agg [D.int .u8 0, D.bool false, D.bool false]) ∧ tF 67 0 0 66 ∧ tF 67 1 1 4 ∧ tF 67 2 2 4 ∧ tT 68 3 3 (D.agg [D.int .u8 0, D.bool false, D.bool false]) ∧ eqTs p 68 = some [2, 1, 1] ∧ tF 68 0 0 66 ∧ tF 68 1 1 4 ∧ tF 68 2 2 4 ∧ tI 69 1 .u8 ∧ tT 70 7 56 (D.agg [D.str [], D.int .i64 0, D.int .i64 0, D.int .i64 0, D.int .i64 0, D.int .u8 0, D.bool false]) ∧ tF 70 0 0 9 ∧ tF 70 1 1 3 ∧ tF 70 2 2 3 ∧ tF 70 3 3 3 ∧ tF 70 4 4 3 ∧ tF 70 5 5 69 ∧ tF 70 6 6 4 ∧ nilE p 71 = false ∧ fullT p 71 = false := by
  repeat' apply And.intro
  all_goals (show _ = _; kernel_rfl)
theorem ty5 : tT 71 7 56 (D.agg [D.str [], D.int .i64 0, D.int .i64 0, D.int .i64 0, D.int .i64 0, D.int .u8 0, D.bool false]) ∧ eqTs p 71 = some [3, 2, 2, 2, 2, 2, 1] ∧ tF 71 0 0 9 ∧ tF 71 1 1 3 ∧ tF 71 2 2 3 ∧ tF 71 3 3 3 ∧ tF 71 4 4 3 ∧ tF 71 5 5 69 ∧ tF 71 6 6 4 ∧ u8T p 72 = false ∧ tL 72 149 ∧ tT 73 23 192 (D.agg [D.int .u8 0, D.int .i64 0, D.int .i64 0, D.int .i64 0, D.int .i64 0, D.int .i64 0, D.int .i64 0, D.int .i64 0, D.int .i64 0, D.int .u8 0, D.int .u8 0, D.bool false, D.bool false, D.str [], D.str [], D.str [], D.int .i64 0, D.int .i64 0, D.int .i64 0, D.int .i64 0, D.int .u8 0, D.bool false, D.nils]) ∧ tF 73 0 0 62 ∧ tF 73 1 1 2 ∧ tF 73 2 2 2 ∧ tF 73 3 3 64 ∧ tF 73 4 5 2 ∧ tF 73 5 6 3 ∧ tF 73 6 7 3 ∧ tF 73 7 8 3 ∧ tF 73 8 9 65 ∧ tF 73 9 10 68 ∧ tF 73 10 13 9 ∧ tF 73 11 14 9 ∧ tF 73 12 15 71 ∧ tF 73 13 22 72 ∧ tT 74 23 192 (D.agg [D.int .u8 0, D.int .i64 0, D.int .i64 0, D.int .i64 0, D.int .i64 0, D.int .i64 0, D.int .i64 0, D.int .i64 0, D.int .i64 0, D.int .u8 0, D.int .u8 0, D.bool false, D.bool false, D.str [], D.str [], D.str [], D.int .i64 0, D.int .i64 0, D.int .i64 0, D.int .i64 0, D.int .u8 0, D.bool false, D.nils]) ∧ tF 74 0 0 62 ∧ tF 74 1 1 2 ∧ tF 74 2 2 2 ∧ tF 74 3 3 64 ∧ tF 74 4 5 2 ∧ tF 74 5 6 3 ∧ tF 74 6 7 3 ∧ tF 74 7 8 3 ∧ tF 74 8 9 65 ∧ tF 74 9 10 68 ∧ tF 74 10 13 9 ∧ tF 74 11 14 9 ∧ tF 74 12 15 71 := by
  repeat' apply And.intro
  all_goals (show _ = _; kernel_rfl)
theorem ty6 : tF 74 13 22 72 ∧ u8T p 78 = false ∧ tL 78 164 ∧ tT 90 7 88 (D.agg [D.int .i64 0, D.int .i64 0, D.int .i64 0, D.str [], D.int .u8 0, D.str [], D.nils]) ∧ tF 90 0 0 2 ∧ tF 90 1 1 64 ∧ tF 90 2 3 9 ∧ tF 90 3 4 65 ∧ tF 90 4 5 9 ∧ tF 90 5 6 72 ∧ nilE p 91 = false ∧ fullT p 91 = false ∧ tT 91 7 88 (D.agg [D.int .i64 0, D.int .i64 0, D.int .i64 0, D.str [], D.int .u8 0, D.str [], D.nils]) ∧ tF 91 0 0 2 ∧ tF 91 1 1 64 ∧ tF 91 2 3 9 ∧ tF 91 3 4 65 ∧ tF 91 4 5 9 ∧ tF 91 5 6 72 ∧ tT 92 3 24 (D.agg [D.int .i64 0, D.int .i64 0, D.int .i64 0]) ∧ tF 92 0 0 2 ∧ tF 92 1 1 2 ∧ tF 92 2 2 2 ∧ nilE p 93 = false ∧ fullT p 93 = false ∧ tT 93 3 24 (D.agg [D.int .i64 0, D.int .i64 0, D.int .i64 0]) ∧ eqTs p 93 = some [2, 2, 2] ∧ tF 93 0 0 2 ∧ tF 93 1 1 2 ∧ tF 93 2 2 2 ∧ tX 100 false 2 16 true none (some (2, 2)) false none 0 ∧ buildT p 100 = true ∧ zeroD p 100 = some (D.agg [D.int .i64 0, D.int .i64 0]) ∧ fldT p 100 0 = none ∧ fldT p 100 1 = none ∧ u8T p 109 = false ∧ tL 109 116 ∧ tT 112 3 24 (D.agg [D.int .i64 0, D.int .i64 0, D.int .i64 0]) ∧ tF 112 0 0 3 ∧ tF 112 1 1 3 := by
  repeat' apply And.intro
  all_goals (show _ = _; kernel_rfl)
theorem ty7 : tF 112 2 2 40 ∧ nilE p 113 = false ∧ fullT p 113 = false ∧ tT 113 3 24 (D.agg [D.int .i64 0, D.int .i64 0, D.int .i64 0]) ∧ eqTs p 113 = some [2, 2, 2] ∧ tF 113 0 0 3 ∧ tF 113 1 1 3 ∧ tF 113 2 2 40 ∧ u8T p 114 = false ∧ tL 114 119 ∧ tT 115 2 32 (D.agg [D.int .i64 0, D.nils]) ∧ tF 115 0 0 3 ∧ tF 115 1 1 114 ∧ nilE p 116 = false ∧ fullT p 116 = false ∧ tT 116 2 32 (D.agg [D.int .i64 0, D.nils]) ∧ tF 116 0 0 3 ∧ tF 116 1 1 114 ∧ tT 118 3 32 (D.agg [D.str [], D.int .i64 0, D.bool false]) ∧ tF 118 0 0 9 ∧ tF 118 1 1 3 ∧ tF 118 2 2 4 ∧ nilE p 119 = false ∧ fullT p 119 = true ∧ tT 119 3 32 (D.agg [D.str [], D.int .i64 0, D.bool false]) ∧ eqTs p 119 = some [3, 2, 1] ∧ tF 119 0 0 9 ∧ tF 119 1 1 3 ∧ tF 119 2 2 4 ∧ ptrT p 123 = true ∧ tX 123 false 1 8 false none none false none 0 ∧ zeroD p 123 = some (D.nilp) ∧ u8T p 125 = false ∧ tL 125 27 ∧ tT 126 18 288 (D.agg [D.str [], D.str [], D.int .u8 0, D.bool false, D.int .i64 0, D.nils, D.nils, D.nils, D.str [], D.str [], D.int .u8 0, D.bool false, D.int .i64 0, D.nils, D.nils, D.nils, D.nils, D.nils]) ∧ tF 126 0 0 27 ∧ tF 126 1 8 27 ∧ tF 126 2 16 125 ∧ tF 126 3 17 125 ∧ tT 127 18 288 (D.agg [D.str [], D.str [], D.int .u8 0, D.bool false, D.int .i64 0, D.nils, D.nils, D.nils, D.str [], D.str [], D.int .u8 0, D.bool false, D.int .i64 0, D.nils, D.nils, D.nils, D.nils, D.nils]) := by
  repeat' apply And.intro
  all_goals (show _ = _; kernel_rfl)
theorem ty8 : tF 127 0 0 27 ∧ tF 127 1 8 27 ∧ tF 127 2 16 125 ∧ tF 127 3 17 125 ∧ u8T p 128 = false ∧ tL 128 9 ∧ u8T p 129 = false ∧ tL 129 132 ∧ tT 131 2 24 (D.agg [D.str [], D.int .i64 0]) ∧ eqTs p 131 = some [3, 2] ∧ tF 131 0 0 9 ∧ tF 131 1 1 3 ∧ nilE p 132 = false ∧ fullT p 132 = false ∧ tT 132 2 24 (D.agg [D.str [], D.int .i64 0]) ∧ eqTs p 132 = some [3, 2] ∧ tF 132 0 0 9 ∧ tF 132 1 1 3 ∧ ptrT p 133 = true ∧ tX 133 false 1 8 false none none false none 0 ∧ zeroD p 133 = some (D.nilp) ∧ nilE p 147 = false ∧ fullT p 147 = false ∧ u8T p 147 = false ∧ tL 147 233 ∧ tT 148 1 24 (D.agg [D.nils]) ∧ tF 148 0 0 147 ∧ nilE p 149 = false ∧ fullT p 149 = false ∧ tT 149 1 24 (D.agg [D.nils]) ∧ tF 149 0 0 147 ∧ tT 157 5 48 (D.agg [D.str [], D.str [], D.int .u8 0, D.bool false, D.int .i64 0]) ∧ tF 157 0 0 9 ∧ tF 157 1 1 9 ∧ tF 157 2 2 22 ∧ tF 157 3 3 4 ∧ tF 157 4 4 2 ∧ tT 158 5 48 (D.agg [D.str [], D.str [], D.int .u8 0, D.bool false, D.int .i64 0]) ∧ eqTs p 158 = some [3, 3, 2, 1, 2] ∧ tF 158 0 0 9 := by
  repeat' apply And.intro
  all_goals (show _ = _; kernel_rfl)
theorem ty9 : tF 158 1 1 9 ∧ tF 158 2 2 22 ∧ tF 158 3 3 4 ∧ tF 158 4 4 2 ∧ tI 160 1 .u8 ∧ tT 161 8 72 (D.agg [D.int .i64 0, D.int .i64 0, D.int .i64 0, D.int .i64 0, D.str [], D.str [], D.bool false, D.bool false]) ∧ tF 161 0 0 2 ∧ tF 161 1 1 2 ∧ tF 161 2 2 3 ∧ tF 161 3 3 3 ∧ tF 161 4 4 9 ∧ tF 161 5 5 9 ∧ tF 161 6 6 4 ∧ tF 161 7 7 4 ∧ nilE p 162 = false ∧ fullT p 162 = false ∧ tT 162 8 72 (D.agg [D.int .i64 0, D.int .i64 0, D.int .i64 0, D.int .i64 0, D.str [], D.str [], D.bool false, D.bool false]) ∧ eqTs p 162 = some [2, 2, 2, 2, 3, 3, 1, 1] ∧ tF 162 0 0 2 ∧ tF 162 1 1 2 ∧ tF 162 2 2 3 ∧ tF 162 3 3 3 ∧ tF 162 4 4 9 ∧ tF 162 5 5 9 ∧ tF 162 6 6 4 ∧ tF 162 7 7 4 ∧ tT 163 59 568 (D.agg [D.int .u8 0, D.int .i64 0, D.str [], D.bool false, D.bool false, D.str [], D.str [], D.int .u8 0, D.bool false, D.int .i64 0, D.str [], D.str [], D.int .u8 0, D.bool false, D.int .i64 0, D.str [], D.int .i64 0, D.int .i64 0, D.int .i64 0, D.int .i64 0, D.int .u8 0, D.bool false, D.str [], D.int .i64 0, D.int .i64 0, D.int .i64 0, D.int .i64 0, D.int .u8 0, D.bool false, D.int .i64 0, D.int .i64 0, D.int .i64 0, D.str [], D.int .u8 0, D.str [], D.nils, D.int .i64 0, D.int .i64 0, D.int .i64 0, D.str [], D.int .u8 0, D.str [], D.nils, D.int .i64 0, D.int .i64 0, D.int .i64 0, D.int .i64 0, D.str [], D.str [], D.bool false, D.bool false, D.int .i64 0, D.int .i64 0, D.int .i64 0, D.int .i64 0, D.str [], D.str [], D.bool false, D.bool false]) ∧ tF 163 0 0 160 ∧ tF 163 1 1 2 ∧ tF 163 2 2 9 ∧ tF 163 3 3 4 ∧ tF 163 4 4 4 ∧ tF 163 5 5 158 ∧ tF 163 6 10 158 ∧ tF 163 7 15 71 ∧ tF 163 8 22 71 ∧ tF 163 9 29 91 ∧ tF 163 10 36 91 ∧ tF 163 11 43 162 ∧ tF 163 12 51 162 := by
  repeat' apply And.intro
  all_goals (show _ = _; kernel_rfl)
theorem ty10 : nilE p 164 = false ∧ fullT p 164 = false ∧ tT 164 59 568 (D.agg [D.int .u8 0, D.int .i64 0, D.str [], D.bool false, D.bool false, D.str [], D.str [], D.int .u8 0, D.bool false, D.int .i64 0, D.str [], D.str [], D.int .u8 0, D.bool false, D.int .i64 0, D.str [], D.int .i64 0, D.int .i64 0, D.int .i64 0, D.int .i64 0, D.int .u8 0, D.bool false, D.str [], D.int .i64 0, D.int .i64 0, D.int .i64 0, D.int .i64 0, D.int .u8 0, D.bool false, D.int .i64 0, D.int .i64 0, D.int .i64 0, D.str [], D.int .u8 0, D.str [], D.nils, D.int .i64 0, D.int .i64 0, D.int .i64 0, D.str [], D.int .u8 0, D.str [], D.nils, D.int .i64 0, D.int .i64 0, D.int .i64 0, D.int .i64 0, D.str [], D.str [], D.bool false, D.bool false, D.int .i64 0, D.int .i64 0, D.int .i64 0, D.int .i64 0, D.str [], D.str [], D.bool false, D.bool false]) ∧ tF 164 0 0 160 ∧ tF 164 1 1 2 ∧ tF 164 2 2 9 ∧ tF 164 3 3 4 ∧ tF 164 4 4 4 ∧ tF 164 5 5 158 ∧ tF 164 6 10 158 ∧ tF 164 7 15 71 ∧ tF 164 8 22 71 ∧ tF 164 9 29 91 ∧ tF 164 10 36 91 ∧ tF 164 11 43 162 ∧ tF 164 12 51 162 ∧ ptrT p 178 = true ∧ tX 178 false 1 8 false none none false none 0 ∧ zeroD p 178 = some (D.nilp) ∧ u8T p 179 = true ∧ tL 179 5 ∧ tX 180 true 2 32 true none none false none 0 ∧ buildT p 180 = true ∧ zeroD p 180 = some (D.agg [D.nilp, D.nils]) ∧ tF 180 0 0 178 ∧ tF 180 1 1 179 ∧ tX 181 true 2 32 true none none false none 0 ∧ buildT p 181 = true ∧ zeroD p 181 = some (D.agg [D.nilp, D.nils]) ∧ tF 181 0 0 178 ∧ tF 181 1 1 179 ∧ ifaceT p 184 = true ∧ bldT p 184 = false ∧ ifaceT p 185 = true ∧ bldT p 185 = false ∧ ptrT p 189 = true ∧ tX 189 false 1 8 false none none false none 0 ∧ zeroD p 189 = some (D.nilp) ∧ tI 193 8 .u64 ∧ u8T p 206 = false := by
  repeat' apply And.intro
  all_goals (show _ = _; kernel_rfl)
theorem ty11 : tL 206 30 ∧ mapKT p 215 = some (.i64, 3) ∧ tT 221 7 72 (D.agg [D.int .i64 0, D.nils, D.int .i64 0, D.int .i64 0, D.int .i64 0, D.int .i64 0, D.int .i64 0]) ∧ tF 221 0 0 116 ∧ tF 221 1 2 3 ∧ tF 221 2 3 3 ∧ tF 221 3 4 113 ∧ tT 222 7 72 (D.agg [D.int .i64 0, D.nils, D.int .i64 0, D.int .i64 0, D.int .i64 0, D.int .i64 0, D.int .i64 0]) ∧ tF 222 0 0 116 ∧ tF 222 1 2 3 ∧ tF 222 2 3 3 ∧ tF 222 3 4 113 ∧ tX 229 false 4 32 true none (some (4, 3)) false none 0 ∧ buildT p 229 = true ∧ zeroD p 229 = some (D.agg [D.int .i64 0, D.int .i64 0, D.int .i64 0, D.int .i64 0]) ∧ fldT p 229 0 = none ∧ fldT p 229 1 = none ∧ fldT p 229 2 = none ∧ fldT p 229 3 = none ∧ tT 232 5 40 (D.agg [D.str [], D.int .u8 0, D.bool false, D.bool false, D.str []]) ∧ tF 232 0 0 9 ∧ tF 232 1 1 68 ∧ tF 232 2 4 9 ∧ nilE p 233 = false ∧ fullT p 233 = false ∧ tT 233 5 40 (D.agg [D.str [], D.int .u8 0, D.bool false, D.bool false, D.str []]) ∧ eqTs p 233 = some [3, 2, 1, 1, 3] ∧ tF 233 0 0 9 ∧ tF 233 1 1 68 ∧ tF 233 2 4 9 ∧ ptrT p 246 = true ∧ tX 246 false 1 8 false none none false none 0 ∧ zeroD p 246 = some (D.nilp) ∧ u8T p 264 = false ∧ tL 264 267 ∧ tT 266 2 24 (D.agg [D.str [], D.bool false]) ∧ eqTs p 266 = some [3, 1] ∧ tF 266 0 0 9 ∧ tF 266 1 1 4 ∧ nilE p 267 = false := by
  repeat' apply And.intro
  all_goals (show _ = _; kernel_rfl)
theorem ty12 : fullT p 267 = false ∧ tT 267 2 24 (D.agg [D.str [], D.bool false]) ∧ eqTs p 267 = some [3, 1] ∧ tF 267 0 0 9 ∧ tF 267 1 1 4 ∧ ptrT p 268 = true ∧ tX 268 false 1 8 false none none false none 0 ∧ zeroD p 268 = some (D.nilp) ∧ u8T p 275 = false ∧ tL 275 278 ∧ tT 277 3 24 (D.agg [D.int .i64 0, D.int .i64 0, D.int .i64 0]) ∧ eqTs p 277 = some [2, 2, 2] ∧ tF 277 0 0 2 ∧ tF 277 1 1 2 ∧ tF 277 2 2 2 ∧ nilE p 278 = false ∧ fullT p 278 = false ∧ tT 278 3 24 (D.agg [D.int .i64 0, D.int .i64 0, D.int .i64 0]) ∧ eqTs p 278 = some [2, 2, 2] ∧ tF 278 0 0 2 ∧ tF 278 1 1 2 ∧ tF 278 2 2 2 ∧ tT 279 4 40 (D.agg [D.str [], D.int .i64 0, D.int .i64 0, D.bool false]) ∧ eqTs p 279 = some [3, 2, 2, 1] ∧ tF 279 0 0 9 ∧ tF 279 1 1 2 ∧ tF 279 2 2 3 ∧ tF 279 3 3 4 ∧ tT 280 4 40 (D.agg [D.str [], D.int .i64 0, D.int .i64 0, D.bool false]) ∧ eqTs p 280 = some [3, 2, 2, 1] ∧ tF 280 0 0 9 ∧ tF 280 1 1 2 ∧ tF 280 2 2 3 ∧ tF 280 3 3 4 ∧ u8T p 297 = false ∧ tL 297 352 ∧ ptrT p 312 = true ∧ tX 312 false 1 8 false none none false none 0 ∧ zeroD p 312 = some (D.nilp) ∧ ptrT p 319 = true := by
  repeat' apply And.intro
  all_goals (show _ = _; kernel_rfl)
theorem ty13 : tX 319 false 1 8 false none none false none 0 ∧ zeroD p 319 = some (D.nilp) ∧ u8T p 328 = false ∧ tL 328 23 ∧ u8T p 332 = false ∧ tL 332 24 ∧ u8T p 338 = false ∧ tL 338 25 ∧ tX 344 false 32 320 true none (some (8, 280)) false none 0 ∧ buildT p 344 = true ∧ zeroD p 344 = some (D.agg [D.str [], D.int .i64 0, D.int .i64 0, D.bool false, D.str [], D.int .i64 0, D.int .i64 0, D.bool false, D.str [], D.int .i64 0, D.int .i64 0, D.bool false, D.str [], D.int .i64 0, D.int .i64 0, D.bool false, D.str [], D.int .i64 0, D.int .i64 0, D.bool false, D.str [], D.int .i64 0, D.int .i64 0, D.bool false, D.str [], D.int .i64 0, D.int .i64 0, D.bool false, D.str [], D.int .i64 0, D.int .i64 0, D.bool false]) ∧ fldT p 344 0 = none ∧ fldT p 344 1 = none ∧ fldT p 344 2 = none ∧ fldT p 344 3 = none ∧ fldT p 344 4 = none ∧ fldT p 344 5 = none ∧ fldT p 344 6 = none ∧ fldT p 344 7 = none ∧ tT 351 3 24 (D.agg [D.int .i64 0, D.int .i64 0, D.int .i64 0]) ∧ tF 351 0 0 3 ∧ tF 351 1 1 3 ∧ tF 351 2 2 3 ∧ nilE p 352 = false ∧ fullT p 352 = false ∧ tT 352 3 24 (D.agg [D.int .i64 0, D.int .i64 0, D.int .i64 0]) ∧ eqTs p 352 = some [2, 2, 2] ∧ tF 352 0 0 3 ∧ tF 352 1 1 3 ∧ tF 352 2 2 3 ∧ nilE p 356 = false ∧ fullT p 356 = false ∧ tT 356 2 16 (D.agg [D.int .i64 0, D.bool false]) ∧ eqTs p 356 = some [2, 1] ∧ tF 356 0 0 3 ∧ tF 356 1 1 4 ∧ u8T p 357 = false ∧ tL 357 356 ∧ nilE p 358 = false ∧ fullT p 358 = false := by
  repeat' apply And.intro
  all_goals (show _ = _; kernel_rfl)
theorem ty14 : tT 358 2 16 (D.agg [D.int .i64 0, D.bool false]) ∧ eqTs p 358 = some [2, 1] ∧ tF 358 0 0 3 ∧ tF 358 1 1 4 ∧ u8T p 359 = false ∧ tL 359 358 ∧ tI 372 8 .i64 ∧ tI 379 4 .u32 ∧ tX 389 false 24 24 true none (some (24, 5)) false none 0 ∧ buildT p 389 = true ∧ zeroD p 389 = some (D.agg [D.int .u8 0, D.int .u8 0, D.int .u8 0, D.int .u8 0, D.int .u8 0, D.int .u8 0, D.int .u8 0, D.int .u8 0, D.int .u8 0, D.int .u8 0, D.int .u8 0, D.int .u8 0, D.int .u8 0, D.int .u8 0, D.int .u8 0, D.int .u8 0, D.int .u8 0, D.int .u8 0, D.int .u8 0, D.int .u8 0, D.int .u8 0, D.int .u8 0, D.int .u8 0, D.int .u8 0]) ∧ fldT p 389 0 = none ∧ fldT p 389 1 = none ∧ fldT p 389 2 = none ∧ fldT p 389 3 = none ∧ fldT p 389 4 = none ∧ fldT p 389 5 = none ∧ fldT p 389 6 = none ∧ fldT p 389 7 = none ∧ fldT p 389 8 = none ∧ fldT p 389 9 = none ∧ fldT p 389 10 = none ∧ fldT p 389 11 = none ∧ fldT p 389 12 = none ∧ fldT p 389 13 = none ∧ fldT p 389 14 = none ∧ fldT p 389 15 = none ∧ bldT p 396 = false ∧ tT 397 2 2 (D.agg [D.int .u8 0, D.int .u8 0]) ∧ tF 397 0 0 5 ∧ tF 397 1 1 5 ∧ tT 398 2 2 (D.agg [D.int .u8 0, D.int .u8 0]) ∧ tF 398 0 0 5 ∧ tF 398 1 1 5 ∧ tX 399 false 32 32 true none (some (16, 398)) false none 0 ∧ buildT p 399 = true ∧ zeroD p 399 = some (D.agg [D.int .u8 0, D.int .u8 0, D.int .u8 0, D.int .u8 0, D.int .u8 0, D.int .u8 0, D.int .u8 0, D.int .u8 0, D.int .u8 0, D.int .u8 0, D.int .u8 0, D.int .u8 0, D.int .u8 0, D.int .u8 0, D.int .u8 0, D.int .u8 0, D.int .u8 0, D.int .u8 0, D.int .u8 0, D.int .u8 0, D.int .u8 0, D.int .u8 0, D.int .u8 0, D.int .u8 0, D.int .u8 0, D.int .u8 0, D.int .u8 0, D.int .u8 0, D.int .u8 0, D.int .u8 0, D.int .u8 0, D.int .u8 0]) ∧ fldT p 399 0 = none ∧ fldT p 399 1 = none ∧ fldT p 399 2 = none := by
  repeat' apply And.intro
  all_goals (show _ = _; kernel_rfl)
theorem ty15 : fldT p 399 3 = none ∧ fldT p 399 4 = none ∧ fldT p 399 5 = none ∧ fldT p 399 6 = none ∧ fldT p 399 7 = none ∧ fldT p 399 8 = none ∧ fldT p 399 9 = none ∧ fldT p 399 10 = none ∧ fldT p 399 11 = none ∧ fldT p 399 12 = none ∧ fldT p 399 13 = none ∧ fldT p 399 14 = none ∧ fldT p 399 15 = none ∧ tI 403 8 .i64 ∧ ptrT p 406 = true ∧ tX 406 false 1 8 false none none false none 0 ∧ zeroD p 406 = some (D.nilp) ∧ u8T p 409 = false ∧ tL 409 21 ∧ tI 415 8 .u64 ∧ ptrT p 419 = true ∧ tX 419 false 1 8 false none none false none 0 ∧ zeroD p 419 = some (D.nilp) ∧ tX 425 false 20 160 true none (some (20, 33)) false none 0 ∧ buildT p 425 = true ∧ zeroD p 425 = some (D.agg [D.int .u64 0, D.int .u64 0, D.int .u64 0, D.int .u64 0, D.int .u64 0, D.int .u64 0, D.int .u64 0, D.int .u64 0, D.int .u64 0, D.int .u64 0, D.int .u64 0, D.int .u64 0, D.int .u64 0, D.int .u64 0, D.int .u64 0, D.int .u64 0, D.int .u64 0, D.int .u64 0, D.int .u64 0, D.int .u64 0]) ∧ fldT p 425 0 = none ∧ fldT p 425 1 = none ∧ fldT p 425 2 = none ∧ fldT p 425 3 = none ∧ fldT p 425 4 = none ∧ fldT p 425 5 = none ∧ fldT p 425 6 = none ∧ fldT p 425 7 = none ∧ fldT p 425 8 = none ∧ fldT p 425 9 = none ∧ fldT p 425 10 = none ∧ fldT p 425 11 = none ∧ fldT p 425 12 = none ∧ fldT p 425 13 = none := by
  repeat' apply And.intro
  all_goals (show _ = _; kernel_rfl)
theorem ty16 : fldT p 425 14 = none ∧ fldT p 425 15 = none ∧ bldT p 426 = false ∧ tT 428 3 48 (D.agg [D.str [], D.str [], D.err false]) ∧ tF 428 0 0 9 ∧ tF 428 1 1 9 ∧ tF 428 2 2 185 ∧ tT 429 3 48 (D.agg [D.str [], D.str [], D.err false]) ∧ tF 429 0 0 9 ∧ tF 429 1 1 9 ∧ tF 429 2 2 185 ∧ u8T p 432 = false ∧ tL 432 147 ∧ ptrT p 435 = true ∧ tX 435 false 1 8 false none none false none 0 ∧ zeroD p 435 = some (D.nilp) ∧ ptrT p 440 = true ∧ tX 440 false 1 8 false none none false none 0 ∧ zeroD p 440 = some (D.nilp) ∧ tT 441 1 16 (D.agg [D.str []]) ∧ tF 441 0 0 9 ∧ tT 442 1 16 (D.agg [D.str []]) ∧ tF 442 0 0 9 ∧ tX 444 false 32 32 true none (some (32, 5)) false none 0 ∧ buildT p 444 = true ∧ zeroD p 444 = some (D.agg [D.int .u8 0, D.int .u8 0, D.int .u8 0, D.int .u8 0, D.int .u8 0, D.int .u8 0, D.int .u8 0, D.int .u8 0, D.int .u8 0, D.int .u8 0, D.int .u8 0, D.int .u8 0, D.int .u8 0, D.int .u8 0, D.int .u8 0, D.int .u8 0, D.int .u8 0, D.int .u8 0, D.int .u8 0, D.int .u8 0, D.int .u8 0, D.int .u8 0, D.int .u8 0, D.int .u8 0, D.int .u8 0, D.int .u8 0, D.int .u8 0, D.int .u8 0, D.int .u8 0, D.int .u8 0, D.int .u8 0, D.int .u8 0]) ∧ fldT p 444 0 = none ∧ fldT p 444 1 = none ∧ fldT p 444 2 = none ∧ fldT p 444 3 = none ∧ fldT p 444 4 = none ∧ fldT p 444 5 = none ∧ fldT p 444 6 = none ∧ fldT p 444 7 = none ∧ fldT p 444 8 = none ∧ fldT p 444 9 = none ∧ fldT p 444 10 = none ∧ fldT p 444 11 = none ∧ fldT p 444 12 = none ∧ fldT p 444 13 = none := by
  repeat' apply And.intro
  all_goals (show _ = _; kernel_rfl)
theorem ty17 : fldT p 444 14 = none ∧ fldT p 444 15 = none ∧ tX 445 false 64 64 true none (some (64, 5)) false none 0 ∧ buildT p 445 = true ∧ zeroD p 445 = some (D.agg [D.int .u8 0, D.int .u8 0, D.int .u8 0, D.int .u8 0, D.int .u8 0, D.int .u8 0, D.int .u8 0, D.int .u8 0, D.int .u8 0, D.int .u8 0, D.int .u8 0, D.int .u8 0, D.int .u8 0, D.int .u8 0, D.int .u8 0, D.int .u8 0, D.int .u8 0, D.int .u8 0, D.int .u8 0, D.int .u8 0, D.int .u8 0, D.int .u8 0, D.int .u8 0, D.int .u8 0, D.int .u8 0, D.int .u8 0, D.int .u8 0, D.int .u8 0, D.int .u8 0, D.int .u8 0, D.int .u8 0, D.int .u8 0, D.int .u8 0, D.int .u8 0, D.int .u8 0, D.int .u8 0, D.int .u8 0, D.int .u8 0, D.int .u8 0, D.int .u8 0, D.int .u8 0, D.int .u8 0, D.int .u8 0, D.int .u8 0, D.int .u8 0, D.int .u8 0, D.int .u8 0, D.int .u8 0, D.int .u8 0, D.int .u8 0, D.int .u8 0, D.int .u8 0, D.int .u8 0, D.int .u8 0, D.int .u8 0, D.int .u8 0, D.int .u8 0, D.int .u8 0, D.int .u8 0, D.int .u8 0, D.int .u8 0, D.int .u8 0, D.int .u8 0, D.int .u8 0]) ∧ fldT p 445 0 = none ∧ fldT p 445 1 = none ∧ fldT p 445 2 = none ∧ fldT p 445 3 = none ∧ fldT p 445 4 = none ∧ fldT p 445 5 = none ∧ fldT p 445 6 = none ∧ fldT p 445 7 = none ∧ fldT p 445 8 = none ∧ fldT p 445 9 = none ∧ fldT p 445 10 = none ∧ fldT p 445 11 = none ∧ fldT p 445 12 = none ∧ fldT p 445 13 = none ∧ fldT p 445 14 = none ∧ fldT p 445 15 = none ∧ tT 446 4 40 (D.agg [D.nilp, D.nilp, D.nilp, D.str []]) ∧ tF 446 0 0 17 ∧ tF 446 1 1 17 ∧ tF 446 2 2 17 ∧ tF 446 3 3 9 ∧ tT 447 4 40 (D.agg [D.nilp, D.nilp, D.nilp, D.str []]) ∧ tF 447 0 0 17 ∧ tF 447 1 1 17 ∧ tF 447 2 2 17 ∧ tF 447 3 3 9 ∧ tX 448 false 0 0 true none (some (0, 16)) false none 0 ∧ buildT p 448 = true ∧ zeroD p 448 = some (D.agg []) ∧ tT 449 0 0 (D.agg []) ∧ tF 449 0 0 448 ∧ tT 450 0 0 (D.agg []) ∧ tF 450 0 0 448 ∧ tI 451 1 .u8 ∧ tI 452 1 .u8 := by
  repeat' apply And.intro
  all_goals (show _ = _; kernel_rfl)
theorem ty18 : tI 454 4 .i32 ∧ tI 455 4 .i32 ∧ tT 456 11 48 (D.agg [D.int .u64 0, D.int .u64 0, D.int .u32 0, D.int .u8 0, D.int .u8 0, D.int .u8 0, D.int .u8 0, D.any, D.nilp, D.int .i32 0, D.int .i32 0]) ∧ tF 456 0 0 12 ∧ tF 456 1 1 12 ∧ tF 456 2 2 379 ∧ tF 456 3 3 451 ∧ tF 456 4 4 5 ∧ tF 456 5 5 5 ∧ tF 456 6 6 452 ∧ tF 456 7 7 453 ∧ tF 456 8 8 268 ∧ tF 456 9 9 454 ∧ tF 456 10 10 455 ∧ tT 457 11 48 (D.agg [D.int .u64 0, D.int .u64 0, D.int .u32 0, D.int .u8 0, D.int .u8 0, D.int .u8 0, D.int .u8 0, D.any, D.nilp, D.int .i32 0, D.int .i32 0]) ∧ tF 457 0 0 12 ∧ tF 457 1 1 12 ∧ tF 457 2 2 379 ∧ tF 457 3 3 451 ∧ tF 457 4 4 5 ∧ tF 457 5 5 5 ∧ tF 457 6 6 452 ∧ tF 457 7 7 453 ∧ tF 457 8 8 268 ∧ tF 457 9 9 454 ∧ tF 457 10 10 455 ∧ froT p 2 = false ∧ froT p 9 = false ∧ froT p 27 = false ∧ froT p 29 = false ∧ froT p 30 = false ∧ froT p 32 = false ∧ froT p 48 = false ∧ froT p 64 = false ∧ froT p 68 = false ∧ froT p 71 = false ∧ froT p 74 = false ∧ froT p 91 = false ∧ froT p 116 = false ∧ froT p 127 = false := by
  repeat' apply And.intro
  all_goals (show _ = _; kernel_rfl)
theorem ty19 : froT p 149 = false ∧ froT p 162 = false ∧ froT p 164 = false ∧ froT p 222 = false ∧ froT p 233 = false ∧ froT p 244 = false ∧ froT p 429 = false ∧ froT p 442 = false := by
  repeat' apply And.intro
  all_goals (show _ = _; kernel_rfl)
theorem tys : type_of% (And.intro ty0 <| And.intro ty1 <| And.intro ty2 <| And.intro ty3 <| And.intro ty4 <| And.intro ty5 <| And.intro ty6 <| And.intro ty7 <| And.intro ty8 <| And.intro ty9 <| And.intro ty10 <| And.intro ty11 <| And.intro ty12 <| And.intro ty13 <| And.intro ty14 <| And.intro ty15 <| And.intro ty16 <| And.intro ty17 <| And.intro ty18 <| ty19) := And.intro ty0 <| And.intro ty1 <| And.intro ty2 <| And.intro ty3 <| And.intro ty4 <| And.intro ty5 <| And.intro ty6 <| And.intro ty7 <| And.intro ty8 <| And.intro ty9 <| And.intro ty10 <| And.intro ty11 <| And.intro ty12 <| And.intro ty13 <| And.intro ty14 <| And.intro ty15 <| And.intro ty16 <| And.intro ty17 <| And.intro ty18 <| ty19
theorem vt:type_of% (And.intro vz tys):=And.intro vz tys
section
variable {P:Program}{I:World→Prop}{f:FuncId}{ds:List D}{d:D}{v:Value}
theorem AFun.of_calls(he:enterable P f=true)(hv:∀ w F,Rep w (cF F) v d)
  (h:∀ (w:World) (F:Nat→Nat→Prop) (args:List Value),I w→FB (cF F) w→args.length=ds.length→(∀ (i:Nat) v d,args[i]? = some v→ds[i]? = some d→Rep w (cF F) v d)→Calls P f args.toArray w fun e w'=>e=.returned v∧Below w.heap.size w w'):AFun P I f ds d:=by
 refine⟨he,fun w F args hI hfb hl hr=>?_⟩
 refine(h w F args hI hfb hl hr).mono ?_
 rintro e w' ⟨rfl,hb⟩
 exact⟨v,F,rfl,hb,⟨fun _ _ h=>h,fun b o hF=>hb.block b (hfb b o hF),fun _ h=>h,fun _ _=>rfl⟩,fun b o hF=>Nat.lt_of_lt_of_le (hfb b o hF) hb.size,fun _ _ h=>.inl h,hv w' F⟩
end
theorem rep_int1{w:World}{C:Cx}{v:Value}{k:IntKind}{n:Int}(h:Rep w C v (.int k n)):v=.int k n:=by cases h;rfl
theorem rep_str1{w:World}{C:Cx}{v:Value}{s:List UInt8}(h:Rep w C v (.str s)):v=.string ⟨s.toArray⟩∧s.length≤maxLen:=by cases h;exact⟨rfl,by assumption⟩
section
variable {P:Program}{I:World→Prop}{w:World}{C C':Cx}{B:Bx}{H:Nat→Option Blk}
def out1 (ρ:List (Nat × Nat))(H:Nat→Option Blk):D→Option (D × Eff)
 | .ptr id off=>match look ρ id with
  | some j=>some (.ptr j off,[])
  | none=>none
 | d=>purD H d
def outL (ρ:List (Nat × Nat))(H:Nat→Option Blk):List D→Option (List D × Eff)
 | []=>some ([],[])
 | d::ds=>match out1 ρ H d with
  | some (d',e)=>match outL ρ (appEff H e) ds with
   | some (ds',e')=>some (d'::ds',e++e')
   | none=>none
  | none=>none
def RepO (w:World)(C:Cx)(ρ:List (Nat × Nat))(v:Value)(d:D):Prop :=
 (∃ id j off,look ρ id=some j∧d=.ptr j off∧Rep w C v (.ptr id off))∨(Rep w (cF C.F) v d∧d.okS=true)
theorem RepO.ext{w':World}{ρ:List (Nat × Nat)}{v:Value}{d:D}(h:RepO w C ρ v d)(e:Ext C w C' w'):RepO w' C' ρ v d:=by
 rcases h with⟨id,j,off,h1,h2,h3⟩|⟨h1,h2⟩
 ·exact .inl ⟨id,j,off,h1,h2,h3.ext e⟩
 exact .inr ⟨h1.ext e.cF,h2⟩
theorem out1_sound{ρ:List (Nat × Nat)}{v:Value}{d d':D}{ep:Eff}(hH:HOK C w B H)(hF:FB C w)(h:out1 ρ H d=some (d',ep))(hv:Rep w C v d):∃ C',Pub C w B H C' (appEff H ep)∧RepO w C' ρ v d':=by
 unfold out1 at h
 split at h
 ·rename_i id off
  cases hl:look ρ id with
  | none=>rw[hl] at h;simp at h
  | some j =>
   rw[hl] at h
   simp at h
   obtain⟨rfl,rfl⟩:=h
   exact⟨C,Pub.refl hH hF,.inl ⟨id,j,off,hl,rfl,hv⟩⟩
 ·obtain⟨C',h1,h2,h3⟩:=purD_sound hH hF h hv
  exact⟨C',h1,.inr ⟨h2,h3⟩⟩
theorem outL_sound{ρ:List (Nat × Nat)}:∀ (ds:List D) (vs:List Value) (C:Cx) (H:Nat→Option Blk) (ds':List D) (ep:Eff),HOK C w B H→FB C w→vs.length=ds.length→(∀ (i:Nat) v d,vs[i]? = some v→ds[i]? = some d→Rep w C v d)→outL ρ H ds=some (ds',ep) →
  ∃ C',Pub C w B H C' (appEff H ep)∧vs.length=ds'.length∧∀ (i:Nat) v d,vs[i]? = some v→ds'[i]? = some d→RepO w C' ρ v d:=by
 intro ds
 induction ds with
 | nil =>
  intro vs C H ds' ep hH hF hl _ h
  simp[outL] at h
  obtain⟨rfl,rfl⟩:=h
  exact⟨C,Pub.refl hH hF,hl,by simp⟩
 | cons d ds ih =>
  intro vs C H ds' ep hH hF hl hR h
  cases vs with
  | nil=>simp at hl
  | cons v vs =>
   simp only[outL] at h
   cases h1:out1 ρ H d with
   | none=>rw[h1] at h;simp at h
   | some p =>
    obtain⟨d',e1⟩:=p
    rw[h1] at h
    simp only at h
    cases h2:outL ρ (appEff H e1) ds with
    | none=>rw[h2] at h;simp at h
    | some q =>
     obtain⟨ds'',e2⟩:=q
     rw[h2] at h
     simp at h
     obtain⟨rfl,rfl⟩:=h
     obtain⟨C1,p1,p2⟩:=out1_sound hH hF h1 (hR 0 v d rfl rfl)
     obtain⟨C2,p3,p4,p5⟩:=ih vs C1 _ _ _ p1.ok p1.fb (by simpa using hl) (fun i u x hu hx=>(hR (i+1) u x (by simpa using hu) (by simpa using hx)).ext p1.ext) h2
     rw[appEff_append]
     refine⟨C2,p1.trans p3,by simpa using p4,fun i u x hu hx=>?_⟩
     cases i with
     | zero=>simp at hu hx;subst hu hx;exact p2.ext p3.ext
     | succ i=>exact p5 i u x (by simpa using hu) (by simpa using hx)
theorem pur1_box{d d' : D}{ep : Eff}{id : Nat}{pn : Option Nat}{cs : List D}(h : pur1 H d = some (d', ep))(hi : H id = some (.box pn cs)) : appEff H ep id = some (.box pn cs) := by
  unfold pur1 at h
  split at h <;> (try split at h) <;> (try split at h) <;> simp at h
  all_goals obtain ⟨_, rfl⟩ := h
  all_goals first
    | exact hi
    | (simp only [appEff, upd]
       split
       · rename_i he; subst he; simp_all
       · exact hi)
theorem purL_box{id:Nat}{pn:Option Nat}{cs:List D}:∀ (ds:List D) (H:Nat→Option Blk) (ds':List D) (ep:Eff),purL H ds=some (ds',ep)→H id=some (.box pn cs)→appEff H ep id=some (.box pn cs):=by
 intro ds
 induction ds with
 | nil=>intro H ds' ep h hi;simp[purL] at h;obtain⟨rfl,rfl⟩:=h;exact hi
 | cons d ds ih =>
  intro H ds' ep h hi
  simp only[purL] at h
  cases h1:pur1 H d with
  | none=>rw[h1] at h;simp at h
  | some p =>
   obtain⟨d',e1⟩:=p
   rw[h1] at h
   simp only at h
   cases h2:purL (appEff H e1) ds with
   | none=>rw[h2] at h;simp at h
   | some q =>
    obtain⟨ds'',e2⟩:=q
    rw[h2] at h
    simp at h
    obtain⟨rfl,rfl⟩:=h
    rw[appEff_append]
    exact ih _ _ _ h2 (pur1_box h1 hi)
theorem out1_box{ρ:List (Nat × Nat)}{d d':D}{ep:Eff}{id:Nat}{pn:Option Nat}{cs:List D}(h:out1 ρ H d=some (d',ep))(hi:H id=some (.box pn cs)):appEff H ep id=some (.box pn cs):=by
 unfold out1 at h
 split at h
 ·split at h
  ·simp at h;obtain⟨_,rfl⟩:=h;exact hi
  ·simp at h
 ·unfold purD at h
  split at h
  ·rename_i ds _
   cases h1:purL H ds with
   | none=>rw[h1] at h;simp at h
   | some p =>
    obtain⟨ds',e1⟩:=p
    rw[h1] at h
    simp at h
    obtain⟨_,rfl⟩:=h
    exact purL_box _ _ _ _ h1 hi
  ·exact pur1_box h hi
theorem outL_box{ρ:List (Nat × Nat)}{id:Nat}{pn:Option Nat}{cs:List D}:∀ (ds:List D) (H:Nat→Option Blk) (ds':List D) (ep:Eff),outL ρ H ds=some (ds',ep)→H id=some (.box pn cs)→appEff H ep id=some (.box pn cs):=by
 intro ds
 induction ds with
 | nil=>intro H ds' ep h hi;simp[outL] at h;obtain⟨rfl,rfl⟩:=h;exact hi
 | cons d ds ih =>
  intro H ds' ep h hi
  simp only[outL] at h
  cases h1:out1 ρ H d with
  | none=>rw[h1] at h;simp at h
  | some p =>
   obtain⟨d',e1⟩:=p
   rw[h1] at h
   simp only at h
   cases h2:outL ρ (appEff H e1) ds with
   | none=>rw[h2] at h;simp at h
   | some q =>
    obtain⟨ds'',e2⟩:=q
    rw[h2] at h
    simp at h
    obtain⟨rfl,rfl⟩:=h
    rw[appEff_append]
    exact ih _ _ _ h2 (out1_box h1 hi)
def rn (is:List (Nat × Option Nat))(j:Nat):Option Nat:=(is[j]?).map (·.1)
def lentH:Nat→List (List D)→List (Nat × Blk)
 | _,[]=>[]
 | p,cs::r=>(p,.box (some p) cs)::lentH (p+1) r
def fnd (H:Nat→Option Blk)(p:Nat):D→Option (Nat × List D)
 | .ptr q 0=>match H q with
  | some (.box (some p') cs)=>if p'=p then some (q,cs) else none
  | _=>none
 | _=>none
def lentD(S:AS):List (Nat × Option Nat)→Nat→List (Nat × List D)→Option (List (Nat × List D))
 | [],_,acc=>some acc
 | (t,none)::r,p,acc=>match fnd S.heap p (S.env t) with
  | some x=>lentD S r (p+1) (acc++[x])
  | none=>none
 | (k,some c)::r,p,acc=>match acc[k]? with
  | some y=>match y.2[c]? with
   | some d=>match fnd S.heap p d with
    | some x=>lentD S r (p+1) (acc++[x])
    | none=>none
   | none=>none
  | none=>none
def memN:List Nat→Nat→Bool
 | [],_=>false
 | a::l,k=>if k=a then true else memN l k
theorem memN_iff:∀ {l:List Nat} {k:Nat},memN l k=true ↔ k ∈ l
 | [],k=>by simp[memN]
 | a::l,k=>by
  simp only[memN,List.mem_cons]
  split
  ·rename_i h;simp[h]
  ·rename_i h;simp[h,memN_iff]
def newD (fs:List Nat):List D→Option Nat
 | []=>none
 | .ptr k 0::r=>if memN fs k=true then newD fs r else some k
 | _::r=>newD fs r
def zipI:List (Nat × List D)→List (Nat × Option Nat)→List (Nat × Nat)
 | [],_=>[]
 | _::_,[]=>[]
 | x::fl,i::is=>(x.1,i.1)::zipI fl is
def effs (nw:Bool)(nid:Nat):List (Nat × Option Nat)→List (Nat × List D)→List D→Eff
 | [],_,all=>if nw=true then[(nid,some (.box none all))] else[]
 | _::_,[],all=>if nw=true then[(nid,some (.box none all))] else[]
 | i::is,x::fl,all=>(i.1,some (.box i.2 (all.take x.2.length)))::effs nw nid is fl (all.drop x.2.length)
def retP3(x:Option (List D × Eff))(n:Nat)(nw:Bool)(nid:Nat)(is:List (Nat × Option Nat))(fl:List (Nat × List D))(r:D)(eff:Eff):Prop:=match x with
 | some p=>mkRes (p.1.take n)=r∧effs nw nid is fl (p.1.drop n)=eff
 | none=>False
def retP2(k:Option Nat)(ds:List D)(fl:List (Nat × List D))(H:Nat→Option Blk)(nid:Nat)(is:List (Nat × Option Nat))(r:D)(eff:Eff):Prop:=match k with
 | none=>retP3 (outL (zipI fl is) H (ds++fl.flatMap (·.2))) ds.length false nid is fl r eff
 | some k=>match H k with
  | some (.box none cs)=>retP3 (outL ((k,nid)::zipI fl is) H (ds++(fl.flatMap (·.2)++cs))) ds.length true nid is fl r eff
  | _=>False
def retP1(x:Option (List D))(y:Option (List (Nat × List D)))(H:Nat→Option Blk)(nid:Nat)(is:List (Nat × Option Nat))(r:D)(eff:Eff):Prop:=match x with
 | some ds=>match y with
  | some fl=>retP2 (newD (fl.map (·.1)) ds) ds fl H nid is r eff
  | none=>False
 | none=>False
def retP (P:Program)(fn:Func)(pl:List (Nat × Option Nat))(nid:Nat)(is:List (Nat × Option Nat))(r:D)(eff:Eff):BPost:=fun e S=>match e with
 | .exit _=>False
 | .goto _=>False
 | _=>retP1 (resD P S fn.results.toList) (lentD S pl 0 []) S.heap nid is r eff
theorem fnd_ok{p q:Nat}{d:D}{cs:List D}(h:fnd H p d=some (q,cs)):H q=some (.box (some p) cs):=by
 unfold fnd at h;split at h
 ·split at h
  ·rename_i hh
   split at h
   ·rename_i hp;subst hp;simp at h;obtain⟨rfl,rfl⟩:=h;exact hh
   simp at h
  simp at h
 simp at h
theorem lentD_ok{S:AS}:∀ (pl:List (Nat × Option Nat)) (p:Nat) (acc fl:List (Nat × List D)),acc.length=p→(∀ (n q:Nat) (cs:List D),acc[n]? = some (q,cs)→S.heap q=some (.box (some n) cs))→lentD S pl p acc=some fl →
  fl.length=p+pl.length∧∀ (n q:Nat) (cs:List D),fl[n]? = some (q,cs)→S.heap q=some (.box (some n) cs):=by
 intro pl
 induction pl with
 | nil=>intro p acc fl hl ha h;simp[lentD] at h;subst h;exact⟨by simpa using hl,ha⟩
 | cons x pl ih =>
  intro p acc fl hl ha h
  have step:∀ y,fnd S.heap p y=fnd S.heap p y→∀ z,fnd S.heap p y=some z→lentD S pl (p+1) (acc++[z])=some fl→fl.length=p+(x::pl).length∧∀ (n q:Nat) (cs:List D),fl[n]? = some (q,cs)→S.heap q=some (.box (some n) cs):=by
   intro y _ z hz h
   obtain⟨h1,h2⟩:=ih (p+1) (acc++[z]) fl (by simp[hl]) (fun n q cs hn=>by
    by_cases hlt:n < acc.length
    ·rw[List.getElem?_append_left hlt] at hn;exact ha n q cs hn
    ·rw[List.getElem?_append_right (by omega)] at hn
     have h0:n - acc.length=0:=by
      have:=(List.getElem?_eq_some_iff.1 hn).1
      simp at this;omega
     rw[h0] at hn
     simp at hn
     subst hn
     have:n=p:=by omega
     subst this
     exact fnd_ok hz) h
   exact⟨by simp;omega,h2⟩
  obtain⟨t,o⟩:=x
  cases o with
  | none =>
   simp only[lentD] at h
   cases h1:fnd S.heap p (S.env t) with
   | none=>rw[h1] at h;simp at h
   | some z=>rw[h1] at h;exact step _ rfl z h1 h
  | some c =>
   simp only[lentD] at h
   cases h1:acc[t]? with
   | none=>rw[h1] at h;simp at h
   | some y =>
    rw[h1] at h
    simp only at h
    cases h2:y.2[c]? with
    | none=>rw[h2] at h;simp at h
    | some d =>
     rw[h2] at h
     simp only at h
     cases h3:fnd S.heap p d with
     | none=>rw[h3] at h;simp at h
     | some z=>rw[h3] at h;exact step _ rfl z h3 h
theorem lentH_at:∀ (css:List (List D)) (p id:Nat) (b:Blk),look (lentH p css) id=some b→∃ (n:Nat) (cs:List D),id=p+n∧css[n]? = some cs∧b=.box (some id) cs
 | [],_,_,_,h=>by simp[lentH,look] at h
 | c::css,p,id,b,h=>by
  simp only[lentH,look] at h
  split at h
  ·rename_i e
   subst e
   injection h with h
   subst h
   exact⟨0,c,rfl,rfl,rfl⟩
  ·obtain⟨n,cs,h1,h2,h3⟩:=lentH_at css (p+1) id b h
   exact⟨n+1,cs,by omega,by simpa using h2,h3⟩
theorem zipI_look:∀ (fl:List (Nat × List D)) (is:List (Nat × Option Nat)) (id j:Nat),look (zipI fl is) id=some j→∃ (n:Nat) (x:Nat × List D) (i:Nat × Option Nat),fl[n]? = some x∧is[n]? = some i∧x.1=id∧i.1=j
 | [],_,_,_,h=>by simp[zipI,look] at h
 | _::_,[],_,_,h=>by simp[zipI,look] at h
 | x::fl,i::is,id,j,h=>by
  simp only[zipI,look] at h
  split at h
  ·rename_i e
   injection h with h
   exact⟨0,x,i,rfl,rfl,e.symm,h⟩
  ·obtain⟨n,x',i',h1,h2,h3,h4⟩:=zipI_look fl is id j h
   exact⟨n+1,x',i',by simpa using h1,by simpa using h2,h3,h4⟩
theorem appEff_cases:∀ (e:Eff) (H:Nat→Option Blk) (id:Nat) (b:Blk),appEff H e id=some b→((∀ p ∈ e,p.1≠id)∧H id=some b)∨(id,some b) ∈ e
 | [],_,_,_,h=>.inl ⟨by simp,h⟩
 | (i,ob)::e,H,id,b,h=>by
  simp only[appEff] at h
  rcases appEff_cases e _ id b h with⟨h1,h2⟩|h1
  ·simp only[upd] at h2
   split at h2
   ·rename_i he;subst he;subst h2;exact .inr (by simp)
   ·rename_i he
    refine .inl ⟨fun p hp=>?_,h2⟩
    rcases List.mem_cons.1 hp with rfl|hp
    ·exact fun e=>he e.symm
    ·exact h1 p hp
  ·exact .inr (List.mem_cons_of_mem _ h1)
theorem newD_notin{fs:List Nat}:∀ {ds:List D} {k:Nat},newD fs ds=some k→k ∉ fs
 | [],k,h=>by simp[newD] at h
 | d::ds,k,h=>by
  unfold newD at h
  split at h
  ·simp at *
  ·rename_i k' r e
   injection e with e1 e2
   subst e1 e2
   split at h
   ·exact newD_notin h
   ·rename_i hc;injection h with h;subst h;exact fun hm=>hc (memN_iff.2 hm)
  ·rename_i d' r _ e
   injection e with e1 e2
   subst e1 e2
   exact newD_notin h
theorem RepL.flat{w:World}{C:Cx}:∀ (vss:List (List Value)) (fl:List (Nat × List D)),vss.length=fl.length→(∀ (n:Nat) (vs:List Value) (x:Nat × List D),vss[n]? = some vs→fl[n]? = some x→RepL C w vs x.2)→RepL C w vss.flatten (fl.flatMap (·.2))
 | [],[],_,_=>RepL.nil
 | [],_::_,h,_=>by simp at h
 | _::_,[],h,_=>by simp at h
 | vs::vss,x::fl,h,k=>by
  simp only[List.flatten_cons,List.flatMap_cons]
  exact(k 0 vs x rfl rfl).append (RepL.flat vss fl (by simpa using h) fun n a b ha hb=>k (n+1) a b (by simpa using ha) (by simpa using hb))
theorem effs_mem{w:World}{C:Cx}{nw:Bool}{nid:Nat}{nv:List Value}:∀ (is:List (Nat × Option Nat)) (fl:List (Nat × List D)) (vss:List (List Value)) (all:List D),is.length=fl.length→vss.length=fl.length→(∀ (n:Nat) (vs:List Value) (x:Nat × List D),vss[n]? = some vs→fl[n]? = some x→vs.length=x.2.length)→RepL C w (vss.flatten++nv) all→∀ i ob,(i,ob) ∈ effs nw nid is fl all →
  (∃ (n:Nat) (pn:Option Nat) (x:Nat × List D) (vs:List Value) (seg:List D),is[n]? = some (i,pn)∧fl[n]? = some x∧vss[n]? = some vs∧ob=some (.box pn seg)∧RepL C w vs seg)∨(nw=true∧i=nid∧∃ seg,ob=some (.box none seg)∧RepL C w nv seg)
 | [],[],[],all,_,_,_,hR,i,ob,h=>by
  simp only[effs] at h
  split at h
  ·rename_i hn
   simp at h
   obtain⟨rfl,rfl⟩:=h
   exact .inr ⟨hn,rfl,all,rfl,by simpa using hR⟩
  ·cases h
 | [],_::_,_,_,h,_,_,_,_,_,_=>by simp at h
 | _::_,[],_,_,h,_,_,_,_,_,_=>by simp at h
 | [],[],_::_,_,_,h,_,_,_,_,_=>by simp at h
 | _::_,_::_,[],_,_,h,_,_,_,_,_=>by simp at h
 | a::is,x::fl,vs::vss,all,h1,h2,h3,hR,i,ob,h=>by
  have hl:=h3 0 vs x rfl rfl
  simp only[effs,List.mem_cons,Prod.mk.injEq] at h
  rcases h with⟨rfl,rfl⟩|h
  ·refine .inl ⟨0,a.2,x,vs,all.take x.2.length,rfl,rfl,rfl,rfl,?_⟩
   have:=hR.take x.2.length
   rw[List.flatten_cons,List.append_assoc,List.take_append_of_le_length (by omega),← hl,List.take_length] at this
   rw[← hl];exact this
  ·have:=hR.drop x.2.length
   rw[List.flatten_cons,List.append_assoc,← hl,List.drop_left] at this
   rw[← hl] at h
   rcases effs_mem is fl vss _ (by simpa using h1) (by simpa using h2) (fun n a b ha hb=>h3 (n+1) a b (by simpa using ha) (by simpa using hb)) this i ob h with⟨n,pn,x',vs',seg,q1,q2,q3,q4,q5⟩|h
   ·exact .inl ⟨n+1,pn,x',vs',seg,by simpa using q1,by simpa using q2,by simpa using q3,q4,q5⟩
   ·exact .inr h
theorem effs_keys{nw:Bool}{nid:Nat}:∀ (is:List (Nat × Option Nat)) (fl:List (Nat × List D)) (all:List D),is.length=fl.length→∀ (n:Nat) (i:Nat × Option Nat),is[n]? = some i→∃ ob,(i.1,ob) ∈ effs nw nid is fl all
 | [],_,_,_,n,i,h=>by simp at h
 | _::_,[],_,h,_,_,_=>by simp at h
 | a::is,x::fl,all,h,n,i,hn=>by
  cases n with
  | zero=>simp at hn;subst hn;exact⟨_,by simp only[effs];exact List.mem_cons_self⟩
  | succ n =>
   obtain⟨ob,hob⟩:=effs_keys (nw:=nw) (nid:=nid) is fl (all.drop x.2.length) (by simpa using h) n i (by simpa using hn)
   exact⟨ob,by simp only[effs];exact List.mem_cons_of_mem _ hob⟩
end
def lentAll(H:Nat→Option Blk)(r:Nat→Option Nat)(m:Nat):List (Nat × Option Nat)→List (List D)→Prop
 | [],[]=>True
 | i::is,cs::css=>(H i.1=some (.box i.2 (cs.map (D.ren1 r)))∧cs.all (D.idOk1 r m)=true)∧lentAll H r m is css
 | _,_=>False
theorem lentAll_of{H:Nat→Option Blk}{r:Nat→Option Nat}{m:Nat}:∀ {is:List (Nat × Option Nat)} {css:List (List D)},lentAll H r m is css→∀ (n:Nat) (i:Nat × Option Nat) (cs:List D),is[n]? = some i→css[n]? = some cs→H i.1=some (.box i.2 (cs.map (D.ren1 r)))∧cs.all (D.idOk1 r m)=true
 | [],[],_,n,i,cs,h,_=>by simp at h
 | [],_::_,h,_,_,_,_,_=>h.elim
 | _::_,[],h,_,_,_,_,_=>h.elim
 | i0::is,c0::css,h,n,i,cs,h1,h2=>by
  cases n with
  | zero=>simp at h1 h2;subst h1 h2;exact h.1
  | succ n=>exact lentAll_of h.2 n i cs (by simpa using h1) (by simpa using h2)
theorem retP_n{P:Program}{fn:Func}{pl:List (Nat × Option Nat)}{nid:Nat}{is:List (Nat × Option Nat)}{r:D}{eff:Eff}{S:AS}:retP P fn pl nid is r eff .normal S=retP1 (resD P S fn.results.toList) (lentD S pl 0 []) S.heap nid is r eff:=rfl
theorem retP_r{P:Program}{fn:Func}{pl:List (Nat × Option Nat)}{nid:Nat}{is:List (Nat × Option Nat)}{r:D}{eff:Eff}{S:AS}:retP P fn pl nid is r eff .ret S=retP1 (resD P S fn.results.toList) (lentD S pl 0 []) S.heap nid is r eff:=rfl
section
variable {P:Program}{I:World→Prop}
theorem BelM.mono{M M':Nat→Prop}{w w':World}(h:BelM M w w')(hm:∀ k,k < w.heap.size→M k→M' k):BelM M' w w' :=
 ⟨h.os,h.tape,h.output,h.size,fun k hk hn=>h.block k hk fun hx=>hn (hm k hk hx)⟩
theorem CallOK.intro(hstab:Stab I){f:FuncId}{fn:Func}{c:Code}{is:List (Nat × Option Nat)}{css:List (List D)}{ds0 ds:List D}{H:Nat→Option Blk}{nid:Nat}{pl:List (Nat × Option Nat)}{r:D}{eff:Eff}
  (hf:P.funcs[f]? = some fn) (hb:fn.body=some c) (hnm:fn.name ≠ "runtime.NumGoroutine") (hn:ds0.length≤fn.ntmps) (hok:codeOk fn.ntmps c=true)
  (hlen:is.length=css.length) (hpl:pl.length=is.length) (hds:ds0.map (D.ren (rn is))=ds) (hdo:ds0.all (D.idOk (rn is) is.length)=true)
  (hcs:∀ (n:Nat) (i:Nat × Option Nat) (cs:List D),is[n]? = some i→css[n]? = some cs→H i.1=some (.box i.2 (cs.map (D.ren1 (rn is))))∧cs.all (D.idOk1 (rn is) is.length)=true)
  (hne:(is.map (·.1)).Nodup)
  (h:runB P I c ⟨argL ds0,heapL (lentH 0 css),is.length,fn.ntmps⟩ [] (retP P fn pl nid is r eff)):CallOK P I f ds H nid r eff:=by
 refine⟨by simp[enterable,hf,hb,hnm],fun i0 w C B args hI hb0 hM hH hF hbase hnid hal hrep=>?_⟩
 refine calls_of_wp hf hb ?_
 subst hds
 -- the lent boxes, by their names in the caller
 have lent:∀ (n:Nat) (i:Nat × Option Nat),is[n]? = some i→∃ cs:List D,css[n]? = some cs∧H i.1=some (.box i.2 (cs.map (D.ren1 (rn is))))∧cs.all (D.idOk1 (rn is) is.length)=true:=by
  intro n i hi
  have hlt:n < css.length:=by rw[← hlen];exact(List.getElem?_eq_some_iff.1 hi).1
  obtain⟨h1,h2⟩:=hcs n i css[n] hi (List.getElem?_eq_getElem hlt)
  exact⟨css[n],List.getElem?_eq_getElem hlt,h1,h2⟩
 have lentBlk:∀ (n:Nat) (i:Nat × Option Nat),is[n]? = some i→∃ g,C.σ i.1=.pointer (some ⟨g,0,none⟩)∧B.M g∧g < w.heap.size:=by
  intro n i hi
  obtain⟨cs,_,h1,_⟩:=lent n i hi
  obtain⟨k1,k2⟩:=hH.rep _ _ h1
  have hlt:=k2.lt
  obtain⟨g,t,vs,q1,q2,q3,q4,q5⟩:=k2
  exact⟨g,q1,hH.own _ _ h1 g (by rw[q1];rfl),(hlt g (by rw[q1];rfl)).2⟩
 let M':Nat→Prop:=fun k=>(∃ (n:Nat) (i:Nat × Option Nat),is[n]? = some i∧blockOf (C.σ i.1)=some k)∨w.heap.size≤k
 let C0:Cx:=C.ren (rn is) is.length
 let B':Bx:=⟨M',fun p=>C0.σ p⟩
 have hM'M:∀ k,M' k→B.M k:=by
  rintro k (⟨n,i,hi,hk⟩|hk)
  ·obtain⟨cs,_,h1,_⟩:=lent n i hi
   exact hH.own _ _ h1 k hk
  ·exact hbase k hk
 let G:Gh:=⟨i0,w,C.F,B',fun k hk=>hM k (hM'M k hk),hb0⟩
 have hrn:∀ (n:Nat) (i:Nat × Option Nat),is[n]? = some i→rn is n=some i.1:=fun n i hi=>by simp[rn,hi]
 have hσ0:∀ (n:Nat) (i:Nat × Option Nat),is[n]? = some i→C0.σ n=C.σ i.1:=fun n i hi=>by simp only[C0,Cx.ren,hrn n i hi]
 have hne':∀ (n n':Nat) (i i':Nat × Option Nat),is[n]? = some i→is[n']? = some i'→n≠n'→i.1≠i'.1:=by
  intro n n' i i' hi hi' hnn he
  have h1:(is.map (·.1))[n]? = some i.1:=by simp[hi]
  have h2:(is.map (·.1))[n']? = some i.1:=by simp[hi',he]
  have hlt:n < (is.map (·.1)).length:=(List.getElem?_eq_some_iff.1 h1).1
  exact hnn ((List.getElem?_inj hlt hne).1 (h1.trans h2.symm))
 have hget:∀ id b,heapL (lentH 0 css) id=some b→∃ (i:Nat × Option Nat) (cs:List D),is[id]? = some i∧css[id]? = some cs∧b=.box (some id) cs∧H i.1=some (.box i.2 (cs.map (D.ren1 (rn is))))∧cs.all (D.idOk1 (rn is) is.length)=true:=by
  intro id b hb'
  obtain⟨n,cs,h1,h2,h3⟩:=lentH_at css 0 id b hb'
  rw[Nat.zero_add] at h1
  subst h1
  have hlt:id < is.length:=by rw[hlen];exact(List.getElem?_eq_some_iff.1 h2).1
  obtain⟨k1,k2⟩:=hcs id is[id] cs (List.getElem?_eq_getElem hlt) h2
  exact⟨is[id],cs,List.getElem?_eq_getElem hlt,h2,h3,k1,k2⟩
 have hheap0:HOK C0 w B' (heapL (lentH 0 css)):=by
  refine⟨fun id b hb'=>?_,fun id b hb' g hg=>?_,fun id k cs hb'=>?_,fun id id' b b' hb' hb'' hne2 g hg hg'=>?_⟩
  ·obtain⟨i,cs,h1,h2,rfl,h3,h4⟩:=hget id b hb'
   obtain⟨k1,k2⟩:=hH.rep _ _ h3
   refine⟨⟨(List.getElem?_eq_some_iff.1 h1).1,by rw[hrn id i h1];exact k1⟩,?_⟩
   obtain⟨g,t,vs,q1,q2,q3,q4,q5⟩:=k2
   exact⟨g,t,vs,(hσ0 id i h1).trans q1,q2,q3,⟨by simpa using q4.len,q4.one,ren_list h4 q4.rep⟩,q5⟩
  ·obtain⟨i,cs,h1,h2,rfl,h3,h4⟩:=hget id b hb'
   rw[hσ0 id i h1] at hg
   exact .inl ⟨id,i,h1,hg⟩
  ·obtain⟨i,cs',h1,h2,h5,h3,h4⟩:=hget id _ hb'
   injection h5 with h5 _
   injection h5 with h5
   subst h5
   rfl
  ·obtain⟨i,cs,h1,h2,rfl,h3,h4⟩:=hget id b hb'
   obtain⟨i',cs',h1',h2',rfl,h3',h4'⟩:=hget id' b' hb''
   rw[hσ0 id i h1] at hg
   rw[hσ0 id' i' h1'] at hg'
   exact hH.apart _ _ _ _ h3 h3' (hne' id id' i i' h1 h1' hne2) g hg hg'
 have hR:Rel I G (fun id=>id < is.length) ⟨argL ds0,heapL (lentH 0 css),is.length,fn.ntmps⟩ C0 { tmps:=args.toArray++Array.replicate (fn.ntmps - args.toArray.size) Go.undef,defers:=[] } w:=by
  refine⟨⟨fun t=>?_,hheap0,hF,fun g hg=>.inr hg⟩,hI,BelM.refl _ _,fun b o h=>.inl h,⟨fun _ _ h=>h,fun _ _ _=>rfl,fun _ h=>h.elim,fun _ h=>h.elim⟩,rfl,?_,fun id h=>h.1⟩
  ·simp only[argL_getD]
   by_cases ht:t < ds0.length
   ·rw[show ds0.getD t .any=ds0[t] by simp[List.getD,ht]]
    have ha:t < args.length:=by simpa[hal] using ht
    have:(args.toArray++Array.replicate (fn.ntmps - args.toArray.size) Go.undef).getD t Go.undef=args[t]:=by
     simp[Array.getD_eq_getD_getElem?,Array.getElem?_append,ha]
    rw[this]
    have:=hrep t _ (ds0[t].ren (rn is)) (List.getElem?_eq_getElem ha) (by simp[ht])
    exact this.ren (List.all_eq_true.1 hdo _ (List.getElem_mem ht))
   ·rw[show ds0.getD t .any=.any by simp[List.getD,ht]]
    exact .any _
  ·simp only[List.length_map] at hal
   simp;omega
 refine wp_mono (bwp_sound hstab c _ _ G _ _ w hok (by unfold runB goB at h;exact h) hR) ?_
 rintro e a' w' ⟨S',C',hnt,hR',hq⟩
 have fin:retP1 (resD P S' fn.results.toList) (lentD S' pl 0 []) S'.heap nid is r eff→a'.defers=[]∧∃ v,(results fn a'.tmps).run P w'=.ok v w'∧∃ v' C2,Ending.returned v=.returned v'∧BelM B.M w w'∧Ext C w C2 w'∧Rep w' C2 v' r∧HOK C2 w' B (appEff H eff)∧FB C2 w'∧(∀ id,C2.live id→C.live id∨id=nid)∧∀ b o,C2.F b o→C.F b o∨B.M b:=by
  intro hp
  refine⟨hR'.defers,?_⟩
  cases h1:resD P S' fn.results.toList with
  | none=>rw[h1] at hp;exact hp.elim
  | some rs =>
  cases h2:lentD S' pl 0 [] with
  | none=>rw[h1,h2] at hp;exact hp.elim
  | some fl =>
  rw[h1,h2] at hp
  simp only[retP1] at hp
  obtain⟨vs,hr,hl,hv⟩:=resD_run (P:=P) (G:=G) hR'.ok _ _ h1
  obtain⟨hfl,hfb⟩:=lentD_ok pl 0 [] fl rfl (by simp) h2
  have hlf:is.length=fl.length:=by omega
  -- the values in the lent boxes
  have hbox:∀ (n:Nat) (x:Nat × List D),fl[n]? = some x→∃ g t vs,C'.σ x.1=.pointer (some ⟨g,0,none⟩)∧w'.heap[g]? = some (.cells vs t (0,0))∧RepL C' w' vs.toList x.2:=by
   intro n x hx
   obtain⟨k1,k2⟩:=hR'.ok.heap.rep _ _ (hfb n x.1 x.2 hx)
   obtain⟨g,t,vs,q1,q2,q3,q4,q5⟩:=k2
   exact⟨g,t,vs,q1,q3,q4⟩
  have hvss:∃ vss:List (List Value),vss.length=fl.length∧∀ (n:Nat) (vs:List Value) (x:Nat × List D),vss[n]? = some vs→fl[n]? = some x→∃ g t,C'.σ x.1=.pointer (some ⟨g,0,none⟩)∧w'.heap[g]? = some (.cells vs.toArray t (0,0))∧RepL C' w' vs x.2:=by
   have key:∀ l:List (Nat × List D),(∀ (n:Nat) (x:Nat × List D),l[n]? = some x→∃ g t vs,C'.σ x.1=.pointer (some ⟨g,0,none⟩)∧w'.heap[g]? = some (.cells vs t (0,0))∧RepL C' w' vs.toList x.2)→∃ vss:List (List Value),vss.length=l.length∧∀ (n:Nat) (vs:List Value) (x:Nat × List D),vss[n]? = some vs→l[n]? = some x→∃ g t,C'.σ x.1=.pointer (some ⟨g,0,none⟩)∧w'.heap[g]? = some (.cells vs.toArray t (0,0))∧RepL C' w' vs x.2:=by
    intro l
    induction l with
    | nil=>intro _;exact⟨[],rfl,by simp⟩
    | cons x l ih =>
     intro h
     obtain⟨vss,k1,k2⟩:=ih fun n y hy=>h (n+1) y (by simpa using hy)
     obtain⟨g,t,vs,q1,q2,q3⟩:=h 0 x rfl
     refine⟨vs.toList::vss,by simp[k1],fun n us y hu hy=>?_⟩
     cases n with
     | zero=>simp at hu hy;subst hu hy;exact⟨g,t,q1,by simpa using q2,q3⟩
     | succ n=>exact k2 n us y (by simpa using hu) (by simpa using hy)
   exact key fl hbox
  obtain⟨vss,hvl,hvs⟩:=hvss
  have hflat:RepL C' w' vss.flatten (fl.flatMap (·.2)):=RepL.flat vss fl hvl fun n vs x h1 h2=>(hvs n vs x h1 h2).choose_spec.choose_spec.2.2
  have hpin:∀ (n:Nat) (i:Nat × Option Nat) (x:Nat × List D),is[n]? = some i→fl[n]? = some x→C'.σ x.1=C.σ i.1:=by
   intro n i x hi hx
   exact(hR'.ok.heap.pin _ _ _ (hfb n x.1 x.2 hx)).trans (hσ0 n i hi)
  have hrun:(results fn a'.tmps).run P w'=.ok (if h:vs.toArray.size=1 then vs.toArray[0] else .tuple vs.toArray) w':=by
   rw[results_eq,Array.mapM_eq_mapM_toList]
   simp only[Sem.run_bind,Sem.run_map,hr]
   rfl
  -- the end, whether or not there is a box of its own
  have final:∀ (nw:Bool) (k:Nat) (nv:List Value) (ncs:List D) (gk:Nat) (tk:TypeId) (ρ:List (Nat × Nat)),
    (∀ id j,look ρ id=some j→(nw=true∧id=k∧j=nid)∨look (zipI fl is) id=some j)→(nw=false→nv=[]∧ncs=[]) →
    (nw=true→k ∉ fl.map (·.1)∧S'.heap k=some (.box none ncs)∧C'.σ k=.pointer (some ⟨gk,0,none⟩)∧w'.heap[gk]? = some (.cells nv.toArray tk (0,0)))→RepL C' w' nv ncs →
    retP3 (outL ρ S'.heap (rs++(fl.flatMap (·.2)++ncs))) rs.length nw nid is fl r eff →
    ∃ v' C2,(if h:vs.toArray.size=1 then vs.toArray[0] else Value.tuple vs.toArray)=v'∧BelM B.M w w'∧Ext C w C2 w'∧Rep w' C2 v' r∧HOK C2 w' B (appEff H eff)∧FB C2 w'∧(∀ id,C2.live id→C.live id∨id=nid)∧∀ b o,C2.F b o→C.F b o∨B.M b:=by
   intro nw k nv ncs gk tk ρ hρ hnw0 hnw hnv hq3
   cases ho:outL ρ S'.heap (rs++(fl.flatMap (·.2)++ncs)) with
   | none=>rw[ho] at hq3;exact hq3.elim
   | some p =>
   obtain⟨all,ep⟩:=p
   rw[ho] at hq3
   obtain⟨hmk,heff⟩:=hq3
   simp only at hmk heff
   have hcells:=hflat.append hnv
   have hrepA:∀ (i:Nat) v d,(vs++(vss.flatten++nv))[i]? = some v→(rs++(fl.flatMap (·.2)++ncs))[i]? = some d→Rep w' C' v d:=by
    intro i v d hi hd
    by_cases hlt:i < vs.length
    ·rw[List.getElem?_append_left hlt] at hi
     rw[List.getElem?_append_left (by omega)] at hd
     exact hv i v d hi hd
    ·rw[List.getElem?_append_right (by omega)] at hi
     rw[List.getElem?_append_right (by omega),← hl] at hd
     exact hcells.rep _ v d hi hd
   obtain⟨C1,hP,hal1,hO⟩:=outL_sound (w:=w') (B:=B') _ (vs++(vss.flatten++nv)) C' S'.heap all ep hR'.ok.heap hR'.ok.fb (by have:=hcells.len;simp only[List.length_append] at this ⊢;omega) hrepA ho
   let C2:Cx:=⟨C1.F,fun id=>if id=nid then C1.σ k else C.σ id,fun id=>C.live id∨(nw=true∧id=nid)⟩
   have hσ2:∀ id,C.live id→C2.σ id=C.σ id:=fun id hid=>by
    have:id≠nid:=fun e=>hnid (e ▸ hid)
    simp only[C2,if_neg this]
   have he:Ext C w C2 w':=⟨fun b o h=>hP.ext.F _ _ (hR'.ext.F _ _ h),fun b o h=>hR'.ext.blk b o h,fun _ h=>.inl h,hσ2⟩
   have toC2:∀ v d,RepO w' C1 ρ v d→Rep w' C2 v d:=by
    rintro v d (⟨id,j,off,hl1,rfl,hr1⟩|⟨hr1,_⟩)
    ·cases hr1 with
     | ptr _ _ g hlv hs =>
      rcases hρ id j hl1 with⟨hnw1,rfl,rfl⟩|hz
      ·refine .ptr _ off g (.inr ⟨hnw1,rfl⟩) ?_
       simp only[C2,if_true];exact hs
      ·obtain⟨n,x,i,hx,hi,rfl,rfl⟩:=zipI_look _ _ _ _ hz
       obtain⟨cs,_,h3,_⟩:=lent n i hi
       have hli:=(hH.rep _ _ h3).1
       refine .ptr _ off g (.inl hli) ?_
       rw[hσ2 _ hli,← hpin n i x hi hx,← hP.σ];exact hs
    ·exact hr1.ext ⟨fun _ _ h=>h,fun _ _ _=>rfl,fun _ h=>h.elim,fun _ h=>h.elim⟩
   have hall:∀ (i:Nat) v d,(vs++(vss.flatten++nv))[i]? = some v→all[i]? = some d→Rep w' C2 v d:=fun i v d h1 h2=>toC2 v d (hO i v d h1 h2)
   have hRL:RepL C2 w' (vss.flatten++nv) (all.drop rs.length):=by
    refine⟨by simp only[List.length_drop,← hal1,List.length_append];omega,hcells.one,fun i v d h1 h2=>?_⟩
    refine hall (vs.length+i) v d ?_ ?_
    ·rw[List.getElem?_append_right (by omega)];simpa using h1
    ·rw[hl];simpa using h2
   have hem:∀ i ob,(i,ob) ∈ eff→(∃ (n:Nat) (pn:Option Nat) (x:Nat × List D) (vs:List Value) (seg:List D),is[n]? = some (i,pn)∧fl[n]? = some x∧vss[n]? = some vs∧ob=some (.box pn seg)∧RepL C2 w' vs seg)∨(nw=true∧i=nid∧∃ seg,ob=some (.box none seg)∧RepL C2 w' nv seg):=by
    rw[← heff]
    exact effs_mem is fl vss _ hlf hvl (fun n us x h1 h2=>by obtain⟨g,t,q1,q2,q3⟩:=hvs n us x h1 h2;exact q3.len) hRL
   have hkeys:∀ (n:Nat) (i:Nat × Option Nat),is[n]? = some i→∃ ob,(i.1,ob) ∈ eff:=by rw[← heff];exact effs_keys is fl _ hlf
   have noF1:∀ q pn cs g,S'.heap q=some (.box pn cs)→C'.σ q=.pointer (some ⟨g,0,none⟩)→∀ o,¬ C1.F g o:=by
    intro q pn cs g h1 h2 o
    obtain⟨k1,k2⟩:=hP.ok.rep q _ (outL_box _ _ _ _ ho h1)
    obtain⟨g',t,us,q1,q2,q3,q4,q5⟩:=k2
    rw[hP.σ,h2] at q1
    injection q1 with q1;injection q1 with q1;injection q1 with q1
    subst q1
    exact q5 o
   have hnoid:H nid=none:=by
    cases hn2:H nid with
    | none=>rfl
    | some b=>exact absurd (hH.rep _ _ hn2).1 hnid
   -- what each block is behind the call
   have hcase:∀ id b,appEff H eff id=some b→(H id=some b∧(∀ (n:Nat) (i:Nat × Option Nat),is[n]? = some i→i.1≠id))∨(∃ (n:Nat) (pn:Option Nat) (x:Nat × List D) (us:List Value) (seg:List D),is[n]? = some (id,pn)∧fl[n]? = some x∧vss[n]? = some us∧b=.box pn seg∧RepL C2 w' us seg)∨(nw=true∧id=nid∧∃ seg,b=.box none seg∧RepL C2 w' nv seg):=by
    intro id b hb'
    rcases appEff_cases _ _ _ _ hb' with⟨h1,h2⟩|h1
    ·refine .inl ⟨h2,fun n i hi he'=>?_⟩
     obtain⟨ob,hob⟩:=hkeys n i hi
     exact h1 _ hob he'
    ·rcases hem _ _ h1 with⟨n,pn,x,us,seg,q1,q2,q3,q4,q5⟩|⟨q1,q2,seg,q3,q4⟩
     ·injection q4 with q4;exact .inr (.inl ⟨n,pn,x,us,seg,q1,q2,q3,q4,q5⟩)
     ·injection q3 with q3;exact .inr (.inr ⟨q1,q2,seg,q3,q4⟩)
   have hold:∀ id b,appEff H eff id=some b→id≠nid→∃ b',H id=some b':=by
    intro id b hb' hidn
    rcases hcase id b hb' with⟨h1,_⟩|⟨n,pn,x,us,seg,q1,_⟩|⟨_,q2,_⟩
    ·exact⟨b,h1⟩
    ·obtain⟨cs,_,h3,_⟩:=lent n _ q1;exact⟨_,h3⟩
    ·exact absurd q2 hidn
   have hnwid:∀ b,appEff H eff nid=some b→nw=true:=by
    intro b hb'
    rcases hcase nid b hb' with⟨h1,_⟩|⟨n,pn,x,us,seg,q1,_⟩|⟨q1,_⟩
    ·rw[hnoid] at h1;cases h1
    ·obtain⟨cs,_,h3,_⟩:=lent n _ q1;rw[hnoid] at h3;cases h3
    ·exact q1
   have hσn:C2.σ nid=C1.σ k:=by simp only[C2,if_true]
   have hnewblk:nw=true→blockOf (C2.σ nid)=some gk∧M' gk∧∀ id b g,H id=some b→blockOf (C.σ id)=some g→g≠gk:=by
    intro hn1
    obtain⟨h1,h2,h3,h4⟩:=hnw hn1
    have hMg:M' gk:=hR'.ok.heap.own k _ h2 gk (by rw[h3];rfl)
    refine⟨by rw[hσn,hP.σ,h3];rfl,hMg,fun id b g hid hg hgk=>?_⟩
    subst hgk
    rcases hMg with⟨n,i,hi,hik⟩|hge
    ·have hnl:n < fl.length:=by have:=(List.getElem?_eq_some_iff.1 hi).1;omega
     obtain⟨x,hx⟩:∃ x,fl[n]? = some x:=⟨_,List.getElem?_eq_getElem hnl⟩
     have hne3:x.1≠k:=fun e=>h1 (by rw[← e];exact List.mem_map_of_mem (List.mem_of_getElem? hx))
     refine hR'.ok.heap.apart _ _ _ _ (hfb n x.1 x.2 hx) h2 hne3 g ?_ (by rw[h3];rfl)
     rw[hpin n i x hi hx];exact hik
    ·have:=((hH.rep id b hid).2.lt g hg).2;omega
   refine⟨_,C2,rfl,hR'.below.mono (fun k' _ hk'=>hM'M k' hk'),he,?_,?_,hP.fb,fun id hid=>hid.elim .inl fun h=>.inr h.2,fun b o hbo=>?_⟩
   ·rw[← hmk]
    refine mkRes_rep (by rw[List.length_take,← hal1];simp[hl]) fun i v d h1 h2=>?_
    have hlt:i < vs.length:=(List.getElem?_eq_some_iff.1 h1).1
    refine hall i v d (by rw[List.getElem?_append_left hlt];exact h1) ?_
    rw[List.getElem?_take] at h2
    rw[if_pos (by omega)] at h2
    exact h2
   ·refine⟨fun id b hb'=>?_,fun id b hb' g hg=>?_,fun id kk cs hb'=>?_,fun id id' b b' hb' hb'' hne2 g hg hg'=>?_⟩
    ·rcases hcase id b hb' with⟨h1,hni⟩|⟨n,pn,x,us,seg,q1,q2,q3,rfl,q5⟩|⟨hn1,rfl,seg,rfl,q4⟩
     ·obtain⟨k1,k2⟩:=hH.rep id b h1
      refine⟨.inl k1,k2.keep k1 he (fun g hg=>?_) (fun g o hg hgo=>?_)⟩
      ·refine hR'.below.block g (k2.lt g hg).2 ?_
       rintro(⟨n,i,hi,hik⟩|hge)
       ·obtain⟨cs,_,h3,_⟩:=lent n i hi
        exact hH.apart _ _ _ _ h3 h1 (hni n i hi) g hik hg
       ·have:=(k2.lt g hg).2;omega
      ·rcases hP.new g o hgo with h5|h5
       ·rcases hR'.new g o h5 with h6|h6
        ·exact h6
        ·rcases h6 with⟨n,i,hi,hik⟩|hge
         ·obtain⟨cs,_,h3,_⟩:=lent n i hi
          exact absurd hg (hH.apart _ _ _ _ h3 h1 (hni n i hi) g hik)
         ·have:=(k2.lt g hg).2;omega
       ·rcases h5 with⟨n,i,hi,hik⟩|hge
        ·obtain⟨cs,_,h3,_⟩:=lent n i hi
         exact absurd hg (hH.apart _ _ _ _ h3 h1 (hni n i hi) g hik)
        ·have:=(k2.lt g hg).2;omega
     ·obtain⟨cs,_,h3,_⟩:=lent n _ q1
      have hli:=(hH.rep _ _ h3).1
      obtain⟨g,t,p1,p2,p3⟩:=hvs n us x q3 q2
      refine⟨.inl hli,g,t,us.toArray,?_,Nat.zero_le _,p2,by simpa using q5,noF1 _ _ _ g (hfb n x.1 x.2 q2) p1⟩
      rw[hσ2 _ hli,← hpin n _ x q1 q2];exact p1
     ·obtain⟨h1,h2,h3,h4⟩:=hnw hn1
      refine⟨.inr ⟨hn1,rfl⟩,gk,tk,nv.toArray,by rw[hσn,hP.σ];exact h3,Nat.zero_le _,h4,by simpa using q4,noF1 _ _ _ gk h2 h3⟩
    ·by_cases hidn:id=nid
     ·subst hidn
      obtain⟨h1,h2,_⟩:=hnewblk (hnwid b hb')
      rw[h1] at hg
      injection hg with hg
      subst hg
      exact hM'M _ h2
     ·obtain⟨b0,hb0'⟩:=hold id b hb' hidn
      rw[hσ2 id (hH.rep _ _ hb0').1] at hg
      exact hH.own id b0 hb0' g hg
    ·rcases hcase id _ hb' with⟨h1,hni⟩|⟨n,pn,x,us,seg,q1,q2,q3,q4,q5⟩|⟨hn1,rfl,seg,q3,q4⟩
     ·rw[hσ2 id (hH.rep _ _ h1).1]
      exact hH.pin id kk cs h1
     ·obtain⟨cs',_,h3,_⟩:=lent n _ q1
      injection q4 with q4 _
      subst q4
      rw[hσ2 id (hH.rep _ _ h3).1]
      exact hH.pin id kk _ h3
     ·injection q3 with q3 _
      cases q3
    ·by_cases hidn:id=nid
     ·subst hidn
      obtain⟨h1,_,h2⟩:=hnewblk (hnwid b hb')
      obtain⟨b0,hb0'⟩:=hold id' b' hb'' (fun e=>hne2 e.symm)
      rw[hσ2 id' (hH.rep _ _ hb0').1] at hg'
      rw[h1] at hg
      injection hg with hg
      exact h2 id' b0 g hb0' hg' hg.symm
     ·obtain⟨b0,hb0'⟩:=hold id b hb' hidn
      rw[hσ2 id (hH.rep _ _ hb0').1] at hg
      by_cases hidn':id'=nid
      ·subst hidn'
       obtain⟨h1,_,h2⟩:=hnewblk (hnwid b' hb'')
       rw[h1] at hg'
       injection hg' with hg'
       exact h2 id b0 g hb0' hg hg'.symm
      ·obtain⟨b1,hb1⟩:=hold id' b' hb'' hidn'
       rw[hσ2 id' (hH.rep _ _ hb1).1] at hg'
       exact hH.apart id id' b0 b1 hb0' hb1 hne2 g hg hg'
   ·rcases hP.new b o hbo with h1|h1
    ·rcases hR'.new b o h1 with h2|h2
     ·exact .inl h2
     ·exact .inr (hM'M b h2)
    ·exact .inr (hM'M b h1)
  refine⟨_,hrun,?_⟩
  cases hk:newD (fl.map (·.1)) rs with
  | none =>
   rw[hk] at hp
   simp only[retP2] at hp
   obtain⟨v',C2,e1,rest⟩:=final false 0 [] [] 0 0 (zipI fl is) (fun id j h=>.inr h) (fun _=>⟨rfl,rfl⟩) (fun h=>by cases h) RepL.nil (by rw[List.append_nil];exact hp)
   exact⟨v',C2,by rw[e1],rest⟩
  | some k =>
   rw[hk] at hp
   simp only[retP2] at hp
   cases hkb:S'.heap k with
   | none=>rw[hkb] at hp;exact hp.elim
   | some bk =>
    rw[hkb] at hp
    split at hp
    ·rename_i ncs hbk
     injection hbk with hbk
     subst hbk
     obtain⟨k1,k2⟩:=hR'.ok.heap.rep _ _ hkb
     obtain⟨gk,tk,nv,q1,q2,q3,q4,q5⟩:=k2
     obtain⟨v',C2,e1,rest⟩:=final true k nv.toList ncs gk tk ((k,nid)::zipI fl is) (fun id j h=>by
      simp only[look] at h
      split at h
      ·rename_i he;injection h with h;exact .inl ⟨rfl,he,h.symm⟩
      ·exact .inr h) (fun h=>by cases h) (fun _=>⟨newD_notin hk,hkb,q1,by simpa using q3⟩) q4 hp
     exact⟨v',C2,by rw[e1],rest⟩
    ·exact hp.elim
 cases e with
 | normal=>exact fin hq
 | ret=>exact fin hq
 | exit id=>exact hq.elim
 | goto l=>exact hq.elim
 | panic ch=>exact hq.elim
 | outgrown=>exact hq.elim
end
theorem vp:type_of% (And.intro @retP1.eq_1<|And.intro @retP2.eq_1<|And.intro @retP2.eq_2<|And.intro @retP3.eq_1<|And.intro @lentD.eq_1<|And.intro @lentD.eq_2<|And.intro @lentD.eq_3<|And.intro @fnd.eq_1<|And.intro @newD.eq_1<|And.intro @newD.eq_2<|And.intro @newD.eq_3<|And.intro @memN.eq_1<|And.intro @memN.eq_2<|And.intro @zipI.eq_1<|And.intro @zipI.eq_2<|And.intro @zipI.eq_3<|And.intro @effs.eq_1<|And.intro @effs.eq_2<|And.intro @effs.eq_3<|And.intro @outL.eq_1<|And.intro @outL.eq_2<|And.intro @out1.eq_1<|And.intro @out1.eq_2<|And.intro @List.flatMap_cons.{0,0}<|And.intro @List.flatMap_nil.{0,0}<|And.intro @List.map_cons.{0,0}<|And.intro @List.map_nil.{0,0}<|And.intro @List.cons_append.{0}<|And.intro @List.nil_append.{0}<|And.intro @List.append_nil.{0}<|And.intro @List.length_cons.{0}<|And.intro @List.length_nil.{0}<|And.intro @List.take_succ_cons.{0}<|And.intro @List.take_zero.{0}<|And.intro @List.drop_succ_cons.{0}<|And.intro @List.drop_zero.{0}<|And.intro @List.getElem?_cons_zero.{0} @List.getElem?_cons_succ.{0}):=And.intro @retP1.eq_1<|And.intro @retP2.eq_1<|And.intro @retP2.eq_2<|And.intro @retP3.eq_1<|And.intro @lentD.eq_1<|And.intro @lentD.eq_2<|And.intro @lentD.eq_3<|And.intro @fnd.eq_1<|And.intro @newD.eq_1<|And.intro @newD.eq_2<|And.intro @newD.eq_3<|And.intro @memN.eq_1<|And.intro @memN.eq_2<|And.intro @zipI.eq_1<|And.intro @zipI.eq_2<|And.intro @zipI.eq_3<|And.intro @effs.eq_1<|And.intro @effs.eq_2<|And.intro @effs.eq_3<|And.intro @outL.eq_1<|And.intro @outL.eq_2<|And.intro @out1.eq_1<|And.intro @out1.eq_2<|And.intro @List.flatMap_cons.{0,0}<|And.intro @List.flatMap_nil.{0,0}<|And.intro @List.map_cons.{0,0}<|And.intro @List.map_nil.{0,0}<|And.intro @List.cons_append.{0}<|And.intro @List.nil_append.{0}<|And.intro @List.append_nil.{0}<|And.intro @List.length_cons.{0}<|And.intro @List.length_nil.{0}<|And.intro @List.take_succ_cons.{0}<|And.intro @List.take_zero.{0}<|And.intro @List.drop_succ_cons.{0}<|And.intro @List.drop_zero.{0}<|And.intro @List.getElem?_cons_zero.{0} @List.getElem?_cons_succ.{0}
inductive XE where
 | eff (e:Eff)
 | pat (id off:Nat) (xs:List D)
def patB (off:Nat)(xs:List D):Option Blk→Option Blk
 | some (.box pn cs)=>if off+xs.length≤cs.length then some (.box pn (cs.take off++xs++cs.drop (off+xs.length))) else some (.box pn cs)
 | b=>b
def appX (H:Nat→Option Blk):XE→Nat→Option Blk
 | .eff e=>appEff H e
 | .pat id off xs=>upd H id (patB off xs (H id))
def AS.stepX(S:AS)(o:Oper)(d:D)(x:XE):AS:={ S with env:=(match o.dst with|some t=>upd S.env t d|none=>S.env),heap:=appX S.heap x }
def SimB (lo n:Nat)(b b':Option Blk):Prop:=b=b'∨∃ pn cs cs',b=some (.box pn cs)∧b'=some (.box pn cs')∧cs.length=cs'.length∧∀ i,lo≤i→i < lo+n→cs[i]? = cs'[i]?
theorem pat_get{cs xs:List D}{off:Nat}(h:off+xs.length≤cs.length)(i:Nat):(cs.take off++xs++cs.drop (off+xs.length))[i]? = if i < off then cs[i]? else if i < off+xs.length then xs[i - off]? else cs[i]?:=by
 have h1:(cs.take off).length=off:=by rw[List.length_take];omega
 by_cases hi:i < off
 ·rw[if_pos hi,List.append_assoc,List.getElem?_append_left (by omega),List.getElem?_take,if_pos hi]
 rw[if_neg hi,List.append_assoc,List.getElem?_append_right (by omega),h1];by_cases hk:i < off+xs.length
 ·rw[if_pos hk,List.getElem?_append_left (by omega)]
 rw[if_neg hk,List.getElem?_append_right (by omega),List.getElem?_drop];congr 1;omega
theorem pat_len{cs xs:List D}{off:Nat}(h:off+xs.length≤cs.length):(cs.take off++xs++cs.drop (off+xs.length)).length=cs.length:=by
 simp only[List.length_append,List.length_take,List.length_drop];omega
theorem patB_sim{lo n off:Nat}{xs:List D}{b b':Option Blk}(h:SimB lo n b b'):SimB lo n (patB off xs b) (patB off xs b'):=by
 rcases h with rfl|⟨pn,cs,cs',rfl,rfl,hl,hg⟩
 ·exact .inl rfl
 simp only[patB];by_cases hc:off+xs.length≤cs.length
 ·rw[if_pos hc,if_pos (by omega)];refine .inr ⟨pn,_,_,rfl,rfl,by rw[pat_len hc,pat_len (by omega),hl],fun i h1 h2=>?_⟩;rw[pat_get hc,pat_get (by omega)];split
  ·exact hg i h1 h2
  split
  ·rfl
  exact hg i h1 h2
 rw[if_neg hc,if_neg (by omega)];exact .inr ⟨pn,cs,cs',rfl,rfl,hl,hg⟩
theorem patB_out{lo n off:Nat}{xs:List D}{b b':Option Blk}(ho:off+xs.length≤lo∨lo+n≤off)(h:SimB lo n b b'):SimB lo n (patB off xs b) b':=by
 have key:∀ pn (cs cs':List D),cs.length=cs'.length→(∀ i,lo≤i→i < lo+n→cs[i]? = cs'[i]?)→SimB lo n (patB off xs (some (.box pn cs))) (some (.box pn cs')):=by
  intro pn cs cs' hl hg
  simp only[patB]
  by_cases hc:off+xs.length≤cs.length
  ·rw[if_pos hc]
   refine .inr ⟨pn,_,_,rfl,rfl,by rw[pat_len hc,hl],fun i h1 h2=>?_⟩
   rw[pat_get hc]
   split
   ·exact hg i h1 h2
   ·rw[if_neg (by omega)];exact hg i h1 h2
  ·rw[if_neg hc];exact .inr ⟨pn,cs,cs',rfl,rfl,hl,hg⟩
 rcases h with rfl|⟨pn,cs,cs',rfl,rfl,hl,hg⟩
 ·cases b with
  | none=>exact .inl rfl
  | some bb =>
   cases bb with
   | box pn cs=>exact key pn cs cs rfl (fun _ _ _=>rfl)
   | _=>exact .inl rfl
 ·exact key pn cs cs' hl hg
theorem SimB.symm{lo n:Nat}{b b':Option Blk}(h:SimB lo n b b'):SimB lo n b' b:=by
 rcases h with rfl|⟨pn,cs,cs',rfl,rfl,hl,hg⟩
 ·exact .inl rfl
 exact .inr ⟨pn,cs',cs,rfl,rfl,hl.symm,fun i h1 h2=>(hg i h1 h2).symm⟩
theorem patB_comm{off off':Nat}{xs xs':List D}{b:Option Blk}(h:off+xs.length≤off'∨off'+xs'.length≤off):patB off xs (patB off' xs' b)=patB off' xs' (patB off xs b):=by
 cases b with
 | none=>rfl
 | some bb =>
  cases bb with
  | box pn cs =>
   simp only[patB]
   by_cases hc:off+xs.length≤cs.length<;>by_cases hc':off'+xs'.length≤cs.length
   ·rw[if_pos hc,if_pos hc']
    simp only[patB]
    rw[if_pos (by rw[pat_len hc'];exact hc),if_pos (by rw[pat_len hc];exact hc')]
    congr 2
    apply List.ext_getElem?
    intro i
    rw[pat_get (by rw[pat_len hc'];exact hc),pat_get hc',pat_get (by rw[pat_len hc];exact hc'),pat_get hc]
    by_cases h1:i < off<;>by_cases h2:i < off+xs.length<;>by_cases h3:i < off'<;>by_cases h4:i < off'+xs'.length<;>simp only[h1,h2,h3,h4,if_true,if_false]<;>omega
   ·rw[if_pos hc,if_neg hc']
    simp only[patB]
    rw[if_pos hc,if_neg (by rw[pat_len hc];exact hc')]
   ·rw[if_neg hc,if_pos hc']
    simp only[patB]
    rw[if_neg (by rw[pat_len hc'];exact hc),if_pos hc']
   ·rw[if_neg hc,if_neg hc']
    simp only[patB]
    rw[if_neg hc,if_neg hc']
  | _=>rfl
section
variable {P:Program}{I:World→Prop}{ops:Array Oper}{S:AS}{tr:Nat→D × XE}
def stY (ops:Array Oper)(S:AS)(tr:Nat→D × XE)(X:Nat→Bool):Nat→AS
 | 0=>S
 | m+1=>match ops[m]? with
  | some o=>if X m then(stY ops S tr X m).stepX o (tr m).1 (tr m).2 else stY ops S tr X m
  | none=>stY ops S tr X m
theorem stY_next(X:Nat→Bool):∀ m,(stY ops S tr X m).next=S.next∧(stY ops S tr X m).nt=S.nt
 | 0=>⟨rfl,rfl⟩
 | m+1=>by
  simp only[stY]
  split
  ·split
   ·exact stY_next X m
   ·exact stY_next X m
  ·exact stY_next X m
theorem stY_env{X Y:Nat→Bool}{t:Nat}:∀ m,(∀ i o,i < m→ops[i]? = some o→o.dst=some t→X i=Y i)→(stY ops S tr X m).env t=(stY ops S tr Y m).env t
 | 0,_=>rfl
 | m+1,h=>by
  have ih:=stY_env (X:=X) (Y:=Y) m fun i o hi=>h i o (by omega)
  simp only[stY]
  cases ho:ops[m]? with
  | none=>exact ih
  | some o =>
   simp only
   by_cases hd:o.dst=some t
   ·have hxy:=h m o (by omega) ho hd
    rw[hxy]
    split
    ·simp[AS.stepX,hd,upd]
    ·exact ih
   ·have hstep:∀ S1:AS,(S1.stepX o (tr m).1 (tr m).2).env t=S1.env t:=by
     intro S1
     simp only[AS.stepX]
     cases hdst:o.dst with
     | none=>rfl
     | some t'=>simp only[upd];rw[if_neg (fun e=>hd (by rw[hdst,e]))]
    split<;>split<;>simp only[hstep,ih]
theorem stY_cut(j:Nat):∀ m,j≤m→stY ops S tr (fun i=>decide (i < j)) m=stY ops S tr (fun _=>true) j:=by
 intro m
 induction m with
 | zero=>intro h;obtain rfl:j=0:=(by omega);rfl
 | succ m ih =>
  intro h
  by_cases hj:j=m+1
  ·subst hj
   have:∀ m',m'≤m+1→stY ops S tr (fun i=>decide (i < m+1)) m'=stY ops S tr (fun _=>true) m':=by
    intro m'
    induction m' with
    | zero=>intro _;rfl
    | succ m' ih' =>
     intro h'
     have hm:decide (m' < m+1)=true:=decide_eq_true (by omega)
     simp only[stY,ih' (by omega),hm]
   exact this _ (Nat.le_refl _)
  ·have hm:decide (m < j)=false:=decide_eq_false (by omega)
   have ihm:=ih (by omega)
   simp only[stY]
   cases ops[m]? with
   | none=>exact ihm
   | some o=>simp only[hm,Bool.false_eq_true,if_false];exact ihm
theorem light_out{nid:Nat}{e:Eff}{id:Nat}(h:effOk nid e=true)(hne:id≠nid)(H:Nat→Option Blk):appEff H e id=H id:=by
 refine appEff_notin _ _ _ fun p hp hpe=>hne ?_;unfold effOk at h;split at h
 ·cases hp
 ·simp at hp h;subst hp;rw[← hpe,h]
 simp at h
theorem stY_sim{X Y:Nat→Bool}{id lo n:Nat}:∀ m,(∀ i e,i < m→(tr i).2=.eff e→effOk (S.next+i) e=false→X i=Y i∨∀ p ∈ e,p.1≠id)→(∀ i,i < m→id=S.next+i→X i=Y i) →
  (∀ i off xs,i < m→(tr i).2=.pat id off xs→X i=Y i∨off+xs.length≤lo∨lo+n≤off)→SimB lo n ((stY ops S tr X m).heap id) ((stY ops S tr Y m).heap id)
 | 0,_,_,_=>.inl rfl
 | m+1,hv,h,hp=>by
  have ih:=stY_sim (X:=X) (Y:=Y) (id:=id) (lo:=lo) (n:=n) m (fun i e hi=>hv i e (by omega)) (fun i hi=>h i (by omega)) (fun i off xs hi=>hp i off xs (by omega))
  simp only[stY]
  cases ho:ops[m]? with
  | none=>exact ih
  | some o =>
   simp only
   have both:∀ (S1 S2:AS),SimB lo n (S1.heap id) (S2.heap id)→SimB lo n ((S1.stepX o (tr m).1 (tr m).2).heap id) ((S2.stepX o (tr m).1 (tr m).2).heap id):=by
    intro S1 S2 hs
    simp only[AS.stepX]
    cases hx:(tr m).2 with
    | eff e =>
     simp only[appX]
     by_cases h1:∃ p ∈ e,p.1=id
     ·exact .inl (appEff_in e _ _ id h1)
     ·have h1':∀ p ∈ e,p.1≠id:=fun p hp he=>h1 ⟨p,hp,he⟩
      rw[appEff_notin e _ id h1',appEff_notin e _ id h1'];exact hs
    | pat id' off xs =>
     simp only[appX,upd]
     by_cases he:id=id'
     ·subst he;simp only[if_true];exact patB_sim hs
     ·rw[if_neg he,if_neg he];exact hs
   have same:X m=Y m→SimB lo n ((if X m=true then(stY ops S tr X m).stepX o (tr m).1 (tr m).2 else stY ops S tr X m).heap id) ((if Y m=true then(stY ops S tr Y m).stepX o (tr m).1 (tr m).2 else stY ops S tr Y m).heap id):=by
    intro hxy
    rw[hxy]
    split
    ·exact both _ _ ih
    ·exact ih
   cases hx:(tr m).2 with
   | eff e =>
    rw[← hx]
    cases he:effOk (S.next+m) e with
    | false =>
     rcases hv m e (by omega) hx he with hxy|hni
     ·exact same hxy
     ·have hstep:∀ S1:AS,(S1.stepX o (tr m).1 (tr m).2).heap id=S1.heap id:=by
       intro S1
       simp only[AS.stepX,hx,appX]
       exact appEff_notin _ _ _ hni
      split<;>split<;>(try simp only[hstep])<;>exact ih
    | true =>
     by_cases hid:id=S.next+m
     ·exact same (h m (by omega) hid)
     ·have hstep:∀ S1:AS,(S1.stepX o (tr m).1 (tr m).2).heap id=S1.heap id:=by
       intro S1
       simp only[AS.stepX,hx,appX]
       exact light_out he hid _
      split<;>split<;>(try simp only[hstep])<;>exact ih
   | pat id' off xs =>
    rw[← hx]
    by_cases hid:id'=id
    ·subst hid
     rcases hp m off xs (by omega) hx with h1|h1
     ·exact same h1
     ·have out1:∀ (S1:AS) b',SimB lo n (S1.heap id') b'→SimB lo n ((S1.stepX o (tr m).1 (tr m).2).heap id') b':=by
       intro S1 b' hs
       simp only[AS.stepX,hx,appX,upd,if_true]
       exact patB_out h1 hs
      split<;>split
      ·exact both _ _ ih
      ·exact out1 _ _ ih
      ·exact(out1 _ _ ih.symm).symm
      ·exact ih
    ·have hstep:∀ S1:AS,(S1.stepX o (tr m).1 (tr m).2).heap id=S1.heap id:=by
      intro S1
      simp only[AS.stepX,hx,appX,upd]
      rw[if_neg (fun e=>hid e.symm)]
     split<;>split<;>(try simp only[hstep])<;>exact ih
theorem stY_heap{X Y:Nat→Bool}{id:Nat}:∀ m,(∀ i e,i < m→(tr i).2=.eff e→effOk (S.next+i) e=false→X i=Y i∨∀ p ∈ e,p.1≠id)→(∀ i,i < m→id=S.next+i→X i=Y i) →
  (∀ i off xs,i < m→(tr i).2=.pat id off xs→X i=Y i)→(stY ops S tr X m).heap id=(stY ops S tr Y m).heap id
 | 0,_,_,_=>rfl
 | m+1,hv,h,hp=>by
  have ih:=stY_heap (X:=X) (Y:=Y) (id:=id) m (fun i e hi=>hv i e (by omega)) (fun i hi=>h i (by omega)) (fun i off xs hi=>hp i off xs (by omega))
  simp only[stY]
  cases ho:ops[m]? with
  | none=>exact ih
  | some o =>
   simp only
   have same:X m=Y m→(if X m=true then(stY ops S tr X m).stepX o (tr m).1 (tr m).2 else stY ops S tr X m).heap id=(if Y m=true then(stY ops S tr Y m).stepX o (tr m).1 (tr m).2 else stY ops S tr Y m).heap id:=by
    intro hxy
    rw[hxy]
    split
    ·simp only[AS.stepX]
     cases hx:(tr m).2 with
     | eff e=>simp only[appX];exact appEff_congr _ _ _ id ih
     | pat id' off xs =>
      simp only[appX,upd]
      by_cases he:id=id'
      ·subst he;simp only[if_true,ih]
      ·rw[if_neg he,if_neg he];exact ih
    ·exact ih
   cases hx:(tr m).2 with
   | eff e =>
    rw[← hx]
    cases he:effOk (S.next+m) e with
    | false =>
     rcases hv m e (by omega) hx he with hxy|hni
     ·exact same hxy
     ·have hstep:∀ S1:AS,(S1.stepX o (tr m).1 (tr m).2).heap id=S1.heap id:=by
       intro S1
       simp only[AS.stepX,hx,appX]
       exact appEff_notin _ _ _ hni
      split<;>split<;>simp only[hstep,ih]
    | true =>
     by_cases hid:id=S.next+m
     ·exact same (h m (by omega) hid)
     ·have hstep:∀ S1:AS,(S1.stepX o (tr m).1 (tr m).2).heap id=S1.heap id:=by
       intro S1
       simp only[AS.stepX,hx,appX]
       exact light_out he hid _
      split<;>split<;>simp only[hstep,ih]
   | pat id' off xs =>
    rw[← hx]
    by_cases hid:id'=id
    ·subst hid;exact same (hp m off xs (by omega) hx)
    ·have hstep:∀ S1:AS,(S1.stepX o (tr m).1 (tr m).2).heap id=S1.heap id:=by
      intro S1
      simp only[AS.stepX,hx,appX,upd]
      rw[if_neg (fun e=>hid e.symm)]
     split<;>split<;>simp only[hstep,ih]
def XComm(x y:XE)(id:Nat):Prop:=∀ H,appX (appX H x) y id=appX (appX H y) x id
theorem appX_congr{x:XE}{H H':Nat→Option Blk}{id:Nat}(h:H id=H' id):appX H x id=appX H' x id:=by
 cases x with
 | eff e=>exact appEff_congr _ _ _ id h
 | pat id' off xs =>
  simp only[appX,upd]
  split
  ·rename_i he;subst he;rw[h]
  ·exact h
theorem stY_comm{X X':Nat→Bool}{j:Nat}{o:Oper}(hX:∀ i,X' i=if i=j then true else X i)(hj:X j=false)(ho:ops[j]? = some o)(hc:∀ m,j < m→m < ops.size→X m=true→∀ id,XComm (tr j).2 (tr m).2 id)(id:Nat) :
  ∀ m,j < m→m≤ops.size→(stY ops S tr X' m).heap id=appX (stY ops S tr X m).heap (tr j).2 id:=by
 have hsame:∀ m,m≤j→stY ops S tr X' m=stY ops S tr X m:=by
  intro m
  induction m with
  | zero=>intro _;rfl
  | succ m ihm =>
   intro hm
   have hXm:X' m=X m:=by rw[hX,if_neg (by omega)]
   simp only[stY,ihm (by omega),hXm]
 intro m
 induction m with
 | zero=>intro h;omega
 | succ m ihm =>
  intro hjm hms
  by_cases hmj:m=j
  ·subst hmj
   have hXm:X' m=true:=by rw[hX,if_pos rfl]
   simp only[stY,ho,hsame m (Nat.le_refl _),hXm,if_true,hj,Bool.false_eq_true,if_false,AS.stepX]
  ·have ih2:=ihm (by omega) (by omega)
   have hom:ops[m]? = some ops[m]:=Array.getElem?_eq_getElem (by omega)
   have hXm:X' m=X m:=by rw[hX,if_neg hmj]
   simp only[stY,hom,hXm]
   cases hxm:X m with
   | false=>simp only[Bool.false_eq_true,if_false];exact ih2
   | true =>
    simp only[if_true,AS.stepX]
    rw[appX_congr ih2]
    exact hc m (by omega) (by omega) hxm id _
inductive Foot where
 | all
 | cell (id off n:Nat)
 | ids (l:List Nat)
def apartF(id off k:Nat):Foot→Bool
 | .all=>false
 | .cell id' off' n=>!(id' == id)||decide (off+k≤off')||decide (off'+n≤off)
 | .ids l=>!memN l id
def apartL(l:List Nat):Foot→Bool
 | .all=>false
 | .cell id _ _=>!memN l id
 | .ids l'=>l.all fun a=>!memN l' a
def FootOK(P:Program)(I:World→Prop)(ops:Array Oper)(i:Nat)(S:AS)(o:Oper)(d:D)(x:XE):Foot→Prop
 | .all=>True
 | .cell id off n=>(∃ b,S.heap id=some b)∧((∃ t a,o.op=.load t a∧S.val a=.ptr id off∧(aggT P t=some true→szT P t=some n)∧0 < n)∨(∃ t a v,o.op=.store t a v∧S.val a=.ptr id off∧((∃ xs,x=.pat id off xs∧xs.length=n)∨awant ops S.env o=some false)))
 | .ids l=>(∀ t ∈ o.looksAt ops,∀ id ∈ (S.env t).ids,id ∈ l)∧∃ e,x=.eff e∧St1N P I ops i o S d e
def StX (P:Program)(I:World→Prop)(ops:Array Oper)(i:Nat)(o:Oper)(S:AS)(d:D):XE→Prop
 | .eff e=>St1 P I ops i o S d e
 | .pat id off xs=>awant ops S.env o=some true∧d=.undef∧∃ t a v pn cs,o.op=.store t a v∧S.val a=.ptr id off∧xs=(S.val v).cells∧S.heap id=some (.box pn cs)∧(S.val v).okS=true∧szT P t=some xs.length∧off+xs.length≤cs.length
theorem StX.toO{i:Nat}{o:Oper}{d:D}{x:XE}(h:StX P I ops i o S d x):awpO P I ops i o S (·=S.stepX o d x):=by
 cases x with
 | eff e=>exact St1.toO h
 | pat id off xs =>
  obtain⟨h1,rfl,t,a,v,pn,cs,h2,h3,rfl,h4,h5,h6,h7⟩:=h
  unfold awpO
  simp only[h1,if_true]
  have hc:acallee S o.op=none:=by rw[h2];rfl
  simp only[hc,h2,aop,h3,h4]
  rw[if_pos ⟨h5,h6,h7⟩]
  simp only[AS.step,AS.stepX,appX,appEff,patB,h4]
  rw[if_pos h7]
  rfl
theorem loadD_cells{P:Program}{t:TypeId}{ds ds':List D}{n:Nat}{d:D}(hl:ds.length=ds'.length)(hg:∀ i,i < n→ds[i]? = ds'[i]?)(hz:aggT P t=some true→szT P t=some n)(hn:0 < n)(h:loadD P t ds=some d):loadD P t ds'=some d:=by
 unfold loadD at h ⊢
 cases ha:aggT P t with
 | none=>rw[ha] at h;simp at h
 | some b =>
  rw[ha] at h
  cases b with
  | true =>
   simp only[hz ha] at h ⊢
   split at h
   ·rename_i hle
    rw[if_pos (by omega)]
    rw[← h]
    congr 2
    apply List.ext_getElem?
    intro i
    rw[List.getElem?_take,List.getElem?_take]
    split
    ·rename_i hi;exact(hg i hi).symm
    ·rfl
   ·simp at h
  | false =>
   simp only at h ⊢
   rw[List.head?_eq_getElem?] at h ⊢
   rw[← hg 0 hn]
   exact h
theorem StX.mono{S':AS}{i:Nat}{o:Oper}{d:D}{x:XE}{f:Foot}(hq:quietOp o.op=true)(hn:S'.next=S.next)(he:∀ t ∈ o.looksAt ops,S'.env t=S.env t)(hf:heapy o.op=true→FootOK P I ops i S o d x f)
  (hcell:heapy o.op=true→∀ id off n,f=.cell id off n→SimB off n (S.heap id) (S'.heap id)) (hids:heapy o.op=true→∀ l,f=.ids l→∀ id ∈ l,∀ t ∈ o.looksAt ops,id ∈ (S.env t).ids→∀ b,S.heap id=some b→S'.heap id=some b)
  (hall:heapy o.op=true→f=.all→(∀ t ∈ o.looksAt ops,Sub S.heap S'.heap (S.env t).ids)∧∀ id b,id < S.next→S.heap id=some b→S'.heap id=some b)
  (hpf:∀ id off xs,x=.pat id off xs→f=.cell id off xs.length) (h:StX P I ops i o S d x):StX P I ops i o S' d x:=by
 have hops:∀ y ∈ o.op.operands.toList,S'.val y=S.val y:=by
  intro y hy
  cases y with
  | tmp t=>exact he t (by unfold Oper.looksAt;exact List.mem_append_left _ (List.mem_filterMap.2 ⟨_,hy,rfl⟩))
  | _=>rfl
 have hw:awant ops S'.env o=awant ops S.env o:=by
  unfold awant
  cases hg:o.guard with
  | none=>rfl
  | some jw =>
   obtain⟨j,want⟩:=jw
   simp only
   cases hj:gdst ops j with
   | none=>rfl
   | some t =>
    simp only
    rw[he t]
    unfold Oper.looksAt
    refine List.mem_append_right _ ?_
    rw[hg]
    unfold gdst at hj
    cases ho:ops[j]? with
    | none=>rw[ho] at hj;simp at hj
    | some oj=>rw[ho] at hj;simp[ho];simpa using hj
 cases hhp:heapy o.op with
 | false =>
  cases x with
  | eff e=>exact St1.mono hq hn he (fun h=>by rw[hhp] at h;cases h) (fun h=>by rw[hhp] at h;cases h) h
  | pat id off xs=>obtain⟨_,_,t,a,v,pn,cs,h2,_⟩:=h;rw[h2] at hhp;simp[heapy] at hhp
 | true =>
  cases f with
  | all =>
   cases x with
   | eff e=>exact St1.mono hq hn he (fun _=>(hall hhp rfl).1) (fun _ _=>(hall hhp rfl).2) h
   | pat id off xs=>have:=hpf id off xs rfl;cases this
  | ids l =>
   cases x with
   | eff e =>
    obtain⟨h1,e',h2,h3⟩:=hf hhp
    injection h2 with h2
    subst h2
    exact(St1N.mono hq hn he (fun _ t ht id hid b hb=>hids hhp l rfl id (h1 t ht id hid) t ht hid b hb) h3).to1
   | pat id off xs=>have:=hpf id off xs rfl;cases this
  | cell id off n =>
   have hs:=hcell hhp id off n rfl
   rcases(hf hhp).2 with⟨t,a,ho,ha,hz,hn0⟩|⟨t,a,v,ho,ha,hvx⟩
   ·-- a load
    cases x with
    | pat id' off' xs=>obtain⟨_,_,t',a',v,pn,cs,h2,_⟩:=h;rw[ho] at h2;cases h2
    | eff e =>
     rcases h with⟨h1,h2,h3⟩|⟨h1,h2⟩
     ·exact .inl ⟨by rw[hw];exact h1,h2,h3⟩
     ·refine .inr ⟨by rw[hw];exact h1,?_⟩
      have hac:∀ S:AS,acallee S o.op=none:=fun S=>by rw[ho];rfl
      rcases h2 with⟨f',ds,ds',h3,_⟩|⟨h3,h4⟩|⟨f',ds,_,_,_,h3,_⟩
      ·rw[hac] at h3;cases h3
      ·refine .inr (.inl ⟨hac S',?_⟩)
       have ha':S'.val a=.ptr id off:=by rw[hops a (by rw[ho];simp[Op.operands])];exact ha
       simp only[ho,aop,ha] at h4
       simp only[ho,aop,ha']
       rcases hs with hs|⟨pn,cs,cs',e1,e2,e3,e4⟩
       ·rw[← hs];exact h4
       ·rw[e1] at h4
        rw[e2]
        simp only[Option.map_eq_some_iff] at h4 ⊢
        obtain⟨d',h5,h6⟩:=h4
        refine⟨d',loadD_cells (by simp[e3]) (fun i hi=>?_) hz hn0 h5,h6⟩
        rw[List.getElem?_drop,List.getElem?_drop]
        exact e4 _ (by omega) (by omega)
      ·rw[hac] at h3;cases h3
   ·-- a store
    have hav:S'.val a=.ptr id off:=by rw[hops a (by rw[ho];simp[Op.operands])];exact ha
    have hvv:S'.val v=S.val v:=hops v (by rw[ho];simp[Op.operands])
    cases x with
    | eff e =>
     rcases h with⟨h1,h2,h3⟩|⟨h1,h2⟩
     ·exact .inl ⟨by rw[hw];exact h1,h2,h3⟩
     ·rcases hvx with⟨xs,hxs,_⟩|hvx
      ·cases hxs
      ·rw[h1] at hvx;cases hvx
    | pat id' off' xs =>
     obtain⟨h1,rfl,t',a',v',pn,cs,h2,h3,rfl,h4,h5,h6,h7⟩:=h
     rw[ho] at h2
     injection h2 with e1 e2 e3
     subst e1 e2 e3
     rw[ha] at h3
     injection h3 with e1 e2
     subst e1 e2
     rcases hs with hs|⟨pn',cs1,cs',e1,e2,e3,e4⟩
     ·exact⟨by rw[hw];exact h1,rfl,t,a,v,pn,cs,ho,hav,by rw[hvv],by rw[← hs];exact h4,by rw[hvv];exact h5,h6,h7⟩
     ·rw[h4] at e1
      injection e1 with e1;injection e1 with e1 e5
      subst e1 e5
      exact⟨by rw[hw];exact h1,rfl,t,a,v,pn,cs',ho,hav,by rw[hvv],e2,by rw[hvv];exact h5,h6,by omega⟩
theorem XComm.eff{e e':Eff}(h:∀ p ∈ e,∀ q ∈ e',p.1≠q.1)(id:Nat):XComm (.eff e) (.eff e') id:=fun H=>appEff_comm e e' H id h
theorem XComm.patEff{pid off:Nat}{xs:List D}{e:Eff}(h:∀ q ∈ e,q.1≠pid)(id:Nat):XComm (.pat pid off xs) (.eff e) id:=by
 intro H;simp only[appX];by_cases hid:id=pid
 ·subst hid;rw[appEff_notin e _ id h];simp only[upd,if_true];rw[appEff_notin e _ id h]
 rw[show upd (appEff H e) pid (patB off xs (appEff H e pid)) id=appEff H e id by simp only[upd];rw[if_neg hid]];refine appEff_congr e _ _ id ?_;simp only[upd];rw[if_neg hid]
theorem XComm.symm{x y:XE}{id:Nat}(h:XComm x y id):XComm y x id:=fun H=>(h H).symm
theorem XComm.pat{a b off off':Nat}{xs xs':List D}(h:a≠b∨off+xs.length≤off'∨off'+xs'.length≤off)(id:Nat):XComm (.pat a off xs) (.pat b off' xs') id:=by
 intro H;simp only[appX,upd];by_cases hab:a=b
 ·subst hab;by_cases hid:id=a
  ·subst hid;simp only[if_true];rcases h with h|h
   ·exact absurd rfl h
   exact(patB_comm (h.symm)).symm ▸ rfl
  simp only[if_neg hid]
 by_cases h1:id=a
 ·subst h1;simp only[if_true,if_neg hab]
 by_cases h2:id=b
 ·subst h2;simp only[if_true,if_neg h1]
 simp only[if_neg h1,if_neg h2]
set_option maxHeartbeats 2000000 in
theorem draw_any2{ft:Nat→Foot}{G:Gh}{Q:Exit→Act→World→Prop}(hstab:Stab I)(hd:dstsOk ops S.nt=true)(hok:drawOk ops=true)(heff:∀ i e,(tr i).2=.eff e→effOk (S.next+i) e=true∨(effIn ops S.next i e=true∧∀ j oj,ops[j]? = some oj→j≠i→heapy oj.op=true→((aheads ops).getD (max j i) 0).testBit (min j i)=true∨(apartL (e.map (·.1)) (ft j)=true∧∀ e',(tr j).2=.eff e'→effOk (S.next+j) e'=true∨∀ p ∈ e,∀ q ∈ e',p.1≠q.1)))(hS:∀ id b,S.heap id=some b→id < S.next)
  (hft:∀ i o,ops[i]? = some o→heapy o.op=true→FootOK P I ops i (stY ops S tr (fun _=>true) i) o (tr i).1 (tr i).2 (ft i))
  (hpf:∀ i id off xs,(tr i).2=.pat id off xs→i < ops.size∧ft i=.cell id off xs.length)
  (hpat:∀ i id off xs,(tr i).2=.pat id off xs→(id < S.next∨∃ m,m < i∧id=S.next+m∧((aheads ops).getD i 0).testBit m=true) ∧
   ∀ j oj,ops[j]? = some oj→j≠i→heapy oj.op=true→((aheads ops).getD (max j i) 0).testBit (min j i)=true∨(apartF id off xs.length (ft j)=true∧∀ e,(tr j).2=.eff e→effOk (S.next+j) e=true∨∀ q ∈ e,q.1≠id))
  (hT:∀ i o,ops[i]? = some o→StX P I ops i o (stY ops S tr (fun _=>true) i) (tr i).1 (tr i).2)
  (hQ:∀ C a w,Rel I G (fun id=>id < S.next+ops.size) (stY ops S tr (fun _=>true) ops.size) C a w→Q .normal a w) :
  ∀ (fuel:Nat) (listed:Array Bool) (C:Cx) (a:Act) (w:World),listed.size=ops.size→(∀ j o,ops[j]? = some o→listed.getD j false=true→∀ e ∈ edgesOf o,listed.getD e false=true)→(listed.toList.filter (fun b=>!b)).length≤fuel →
   Rel I G (fun id=>id < S.next∨∃ i,i < ops.size∧listed.getD i false=true∧id=S.next+i) (stY ops S tr (fun i=>listed.getD i false) ops.size) C a w→wpAny P .any ops Q fuel listed a w:=by
 -- the static conditions
 simp only[drawOk,Bool.and_eq_true] at hok
 obtain⟨hok1,hok2⟩:=hok
 have quiet:∀ j o,ops[j]? = some o→quietOp o.op=true∧∀ e ∈ edgesOf o,e < j:=by
  intro j o ho
  have hm:(o,j) ∈ ops.toList.zipIdx:=by
   rw[List.mem_zipIdx_iff_getElem?];simpa using ho
  have:=List.all_eq_true.1 hok1 (o,j) hm
  simp only[Bool.and_eq_true,List.all_eq_true,decide_eq_true_eq] at this
  exact this
 have order:∀ i j oi oj t,ops[i]? = some oi→ops[j]? = some oj→i≠j→oi.dst=some t→(t ∈ oj.looksAt ops∨oj.dst=some t)→((aheads ops).getD (max i j) 0).testBit (min i j)=true:=by
  intro i j oi oj t hi hj hne hdst ht
  have hm:(oj,j) ∈ ops.toList.zipIdx:=by rw[List.mem_zipIdx_iff_getElem?];simpa using hj
  have hm':(oi,i) ∈ ops.toList.zipIdx:=by rw[List.mem_zipIdx_iff_getElem?];simpa using hi
  have:=List.all_eq_true.1 (List.all_eq_true.1 hok2 (oj,j) hm) (oi,i) hm'
  simp only[hdst,Bool.or_eq_true,Bool.and_eq_true,beq_iff_eq,Bool.not_eq_true',bne_iff_ne,ne_eq] at this
  rcases this with h|h|h
  ·exact absurd h hne
  ·rcases ht with ht|ht
   ·have:(oj.looksAt ops).contains t=true:=by simpa using ht
    rw[this] at h;simp at h
   ·exact absurd ht h.2
  ·exact h
 have T_dst:∀ j o,ops[j]? = some o→j < ops.size:=by
  intro j o ho
  rcases Nat.lt_or_ge j ops.size with h|h
  ·exact h
  ·rw[Array.getElem?_eq_none h] at ho;cases ho
 have heavy:∀ i e,(tr i).2=.eff e→effOk (S.next+i) e=false→effIn ops S.next i e=true∧∀ j oj,ops[j]? = some oj→j≠i→heapy oj.op=true→((aheads ops).getD (max j i) 0).testBit (min j i)=true∨(apartL (e.map (·.1)) (ft j)=true∧∀ e',(tr j).2=.eff e'→effOk (S.next+j) e'=true∨∀ p ∈ e,∀ q ∈ e',p.1≠q.1):=by
  intro i e hx hi
  rcases heff i e hx with h|h
  ·rw[hi] at h;cases h
  ·exact h
 have efflight:∀ i e,effOk (S.next+i) e=true→∀ p ∈ e,p.1=S.next+i:=by
  intro i e he p hp
  unfold effOk at he
  split at he
  ·cases hp
  ·simp at hp he
   subst hp
   exact he
  ·simp at he
 have effin:∀ i e,(tr i).2=.eff e→∀ p ∈ e,p.1 < S.next∨p.1=S.next+i∨(p.1 < S.next+i∧((aheads ops).getD i 0).testBit (p.1 - S.next)=true):=by
  intro i e hx p hp
  cases he:effOk (S.next+i) e with
  | false =>
   have:=List.all_eq_true.1 (heavy i e hx he).1 p hp
   simp only[Bool.or_eq_true,decide_eq_true_eq,beq_iff_eq,Bool.and_eq_true] at this
   rcases this with(h|h)|h
   ·exact .inl h
   ·exact .inr (.inl h)
   ·exact .inr (.inr h)
  | true=>exact .inr (.inl (efflight i e he p hp))
 have fresh:∀ j i,j≤i→∀ m,(stY ops S tr (fun i=>decide (i < j)) m).heap (S.next+i)=S.heap (S.next+i):=by
  intro j i hji m
  induction m with
  | zero=>rfl
  | succ m ihm =>
   simp only[stY]
   cases hom:ops[m]? with
   | none=>exact ihm
   | some om =>
    simp only
    split
    ·rename_i hm
     have hm':m < j:=by simpa using hm
     simp only[AS.stepX]
     cases hx:(tr m).2 with
     | eff e =>
      simp only[appX]
      rw[appEff_notin _ _ _ (fun p hp=>by rcases effin m e hx p hp with h|h|h<;>omega)]
      exact ihm
     | pat id off xs =>
      simp only[appX,upd]
      rw[if_neg (fun e=>by rcases(hpat m id off xs hx).1 with h|⟨m',h1,h2,_⟩<;>omega)]
      exact ihm
    ·exact ihm
 have endst:∀ (listed:Array Bool),(∀ i,i < ops.size→listed.getD i false=true)→stY ops S tr (fun i=>listed.getD i false) ops.size=stY ops S tr (fun _=>true) ops.size:=by
  intro listed hall
  exact AS.ext2 (fun t=>stY_env _ fun i o hi _ _=>hall i hi) (fun id=>stY_heap _ (fun i e hi _ _=>.inl (hall i hi)) (fun i hi _=>hall i hi) (fun i off xs hi _=>hall i hi)) (by rw[(stY_next _ _).1,(stY_next _ _).1]) (by rw[(stY_next _ _).2,(stY_next _ _).2])
 intro fuel
 induction fuel with
 | zero =>
  intro listed C a w hsz hcl hfu hR
  have hall:∀ i,i < ops.size→listed.getD i false=true:=by
   intro i hi
   have hnil:listed.toList.filter (fun b=>!b)=[]:=List.eq_nil_of_length_eq_zero (by omega)
   rw[List.filter_eq_nil_iff] at hnil
   have hlt:i < listed.size:=by omega
   have:=hnil listed[i] (by simp)
   simpa[Array.getD,hlt] using this
  refine⟨?_,?_⟩
  ·cases hr:Region.ready .any ops listed with
   | nil=>rfl
   | cons j rest =>
    have hj:j ∈ Region.ready .any ops listed:=by rw[hr];simp
    obtain⟨o,ho,h1,_⟩:=mem_ready'.1 hj
    have h2:=hall j (T_dst j o ho)
    have hlt:j < listed.size:=by have:=T_dst j o ho;omega
    simp[Array.getD,hlt] at h1 h2
    rw[h1] at h2;cases h2
  ·refine hQ C a w ?_
   rw[endst listed hall] at hR
   exact⟨hR.ok,hR.inv,hR.below,hR.new,hR.ext,hR.defers,hR.size,fun id hl=>by rcases hR.live id hl with h|⟨i,hi,_,h⟩<;>omega⟩
 | succ fuel ih =>
  intro listed C a w hsz hcl hfu hR
  refine⟨fun hr=>?_,fun j hj=>?_⟩
  ·-- nothing is ready: all are done
   have hall:∀ i,i < ops.size→listed.getD i false=true:=by
    intro i
    induction i using Nat.strongRecOn with
    | _ i ihi =>
     intro hi
     cases hb:listed.getD i false with
     | true=>rfl
     | false =>
      exfalso
      have ho:ops[i]? = some ops[i]:=Array.getElem?_eq_getElem hi
      have hlt:i < listed.size:=by omega
      have:i ∈ Region.ready .any ops listed:=mem_ready'.2 ⟨_,ho,by simpa[Array.getD,hlt] using hb,fun e he=>ihi e ((quiet i _ ho).2 e he) (by have:=(quiet i _ ho).2 e he;omega)⟩
      rw[hr] at this
      cases this
   refine hQ C a w ?_
   rw[endst listed hall] at hR
   exact⟨hR.ok,hR.inv,hR.below,hR.new,hR.ext,hR.defers,hR.size,fun id hl=>by rcases hR.live id hl with h|⟨i,hi,_,h⟩<;>omega⟩
  ·obtain⟨o,ho,hl0,hed⟩:=mem_ready'.1 hj
   have hjlt:=T_dst j o ho
   have hjl:j < listed.size:=by omega
   have hjX:listed.getD j false=false:=by simpa[Array.getD,hjl] using hl0
   have XX:∀ j' o',ops[j']? = some o'→listed.getD j' false=true→∀ e ∈ edgesOf o',listed.getD e false=true:=hcl
   have done:∀ i,((aheads ops).getD j 0).testBit i=true→listed.getD i false=true:=fun i hb=>aheads_spec (fun i=>listed.getD i false=true) XX j o ho hed i hb
   have notdone:∀ i oi,ops[i]? = some oi→((aheads ops).getD i 0).testBit j=true→listed.getD i false=false:=by
    intro i oi hi hb
    cases hx:listed.getD i false with
    | false=>rfl
    | true =>
     have:=aheads_spec (fun i=>listed.getD i false=true) XX i oi hi (XX i oi hi hx) j hb
     rw[hjX] at this;cases this
   -- what is ordered against j stands as in the text
   have byord:∀ i,i < ops.size→i≠j→((aheads ops).getD (max i j) 0).testBit (min i j)=true→listed.getD i false=decide (i < j):=by
    intro i hi hne hb
    have hoi:ops[i]? = some ops[i]:=Array.getElem?_eq_getElem hi
    by_cases hij:i < j
    ·rw[Nat.max_eq_right (by omega),Nat.min_eq_left (by omega)] at hb
     rw[done i hb,decide_eq_true hij]
    ·rw[Nat.max_eq_left (by omega),Nat.min_eq_right (by omega)] at hb
     rw[notdone i _ hoi hb,decide_eq_false hij]
   have agree:∀ t,(t ∈ o.looksAt ops∨o.dst=some t)→∀ i oi,ops[i]? = some oi→oi.dst=some t→i≠j→listed.getD i false=decide (i < j):=by
    intro t ht i oi hi hdst hne
    exact byord i (T_dst i oi hi) hne (order i j oi o t hi ho hne hdst ht)
   have hcut:=stY_cut (ops:=ops) (S:=S) (tr:=tr) j ops.size (by omega)
   have henv:∀ t ∈ o.looksAt ops,(stY ops S tr (fun i=>listed.getD i false) ops.size).env t=(stY ops S tr (fun _=>true) j).env t:=by
    intro t ht
    rw[← hcut]
    refine stY_env _ fun i oi _ hi hdst=>?_
    by_cases hne:i=j
    ·subst hne;rw[hjX,decide_eq_false (by omega)]
    ·exact agree t (.inl ht) i oi hi hdst hne
   have hvj:heapy o.op=true→∀ i e,i < ops.size→(tr i).2=.eff e→effOk (S.next+i) e=false→listed.getD i false=decide (i < j)∨apartL (e.map (·.1)) (ft j)=true:=by
    intro hp i e hi hx he
    by_cases hne:i=j
    ·subst hne;left;rw[hjX,decide_eq_false (by omega)]
    ·rcases(heavy i e hx he).2 j o ho (fun e=>hne e.symm) hp with hb|hb
     ·left;rw[Nat.max_comm,Nat.min_comm] at hb;exact byord i hi hne hb
     ·exact .inr hb.1
   have apc:∀ (e:Eff) id off n,ft j=.cell id off n→apartL (e.map (·.1)) (ft j)=true→∀ p ∈ e,p.1≠id:=by
    intro e id off n hfe h p hp hpe
    rw[hfe] at h
    simp only[apartL,Bool.not_eq_true'] at h
    rw[memN_iff.2 (by rw[← hpe];exact List.mem_map_of_mem hp)] at h
    cases h
   have api:∀ (e:Eff) l id,ft j=.ids l→id ∈ l→apartL (e.map (·.1)) (ft j)=true→∀ p ∈ e,p.1≠id:=by
    intro e l id hfe hil h p hp hpe
    rw[hfe] at h
    have:=List.all_eq_true.1 h p.1 (List.mem_map_of_mem hp)
    simp only[Bool.not_eq_true'] at this
    rw[hpe,memN_iff.2 hil] at this
    cases this
   -- a patch that is not ordered against j is apart from what j looks at
   have hpj:heapy o.op=true→∀ i id off xs,i < ops.size→(tr i).2=.pat id off xs→listed.getD i false=decide (i < j)∨apartF id off xs.length (ft j)=true:=by
    intro hp i id off xs hi hx
    by_cases hne:i=j
    ·subst hne;left;rw[hjX,decide_eq_false (by omega)]
    ·rcases(hpat i id off xs hx).2 j o ho (fun e=>hne e.symm) hp with hb|hb
     ·left;rw[Nat.max_comm,Nat.min_comm] at hb;exact byord i hi hne hb
     ·exact .inr hb.1
   have hrepj:∀ t ∈ o.looksAt ops,∀ id ∈ ((stY ops S tr (fun _=>true) j).env t).ids,id < S.next∨∃ i,i < ops.size∧listed.getD i false=true∧id=S.next+i:=by
    intro t ht id hid
    have hrep:=hR.ok.env t
    rw[henv t ht] at hrep
    exact hR.live id (hrep.liveS hid)
   have hown:∀ id b,(stY ops S tr (fun _=>true) j).heap id=some b→(id < S.next∨∃ i,i < ops.size∧listed.getD i false=true∧id=S.next+i)→∀ i,i < ops.size→id=S.next+i→listed.getD i false=decide (i < j):=by
    intro id b hb hlive i hi hidi
    rcases hlive with h|⟨i',hi',hx,h⟩
    ·omega
    ·obtain rfl:i=i':=by omega
     rw[hx]
     by_cases hij:i < j
     ·rw[decide_eq_true hij]
     ·exfalso
      rw[← hcut,h,fresh j i (by omega)] at hb
      have:=hS _ b hb
      omega
   have hst1:=(hT j o ho).mono (f:=ft j) (S':=stY ops S tr (fun i=>listed.getD i false) ops.size) (quiet j o ho).1 (by rw[(stY_next _ _).1,(stY_next _ _).1]) henv (hft j o ho)
    (fun hp id off n hfe=>by
     -- the block that a load or store looks at
     have hval:(∃ t ∈ o.looksAt ops,id ∈ ((stY ops S tr (fun _=>true) j).env t).ids)∨False:=by
      have hfo:=hft j o ho hp
      rw[hfe] at hfo
      have look:∀ a,a ∈ o.op.operands.toList→(stY ops S tr (fun _=>true) j).val a=.ptr id off→∃ t ∈ o.looksAt ops,id ∈ ((stY ops S tr (fun _=>true) j).env t).ids:=by
       intro a ha hav
       cases a with
       | tmp t=>exact⟨t,by unfold Oper.looksAt;exact List.mem_append_left _ (List.mem_filterMap.2 ⟨_,ha,rfl⟩),by simp only[AS.val] at hav;rw[hav];simp[D.ids,D.ids1]⟩
       | const v =>
        exfalso
        simp only[AS.val] at hav
        unfold cD cD1 at hav
        repeat' split at hav
        all_goals cases hav
       | global g=>simp[AS.val] at hav
       | func f=>simp[AS.val] at hav
      rcases hfo.2 with⟨t,a',h1,h2,_⟩|⟨t,a',v,h1,h2,_⟩
      ·exact .inl (look a' (by rw[h1];simp[Op.operands]) h2)
      ·exact .inl (look a' (by rw[h1];simp[Op.operands]) h2)
     rcases hval with⟨t,ht,hid⟩|h
     ·cases hbk:(stY ops S tr (fun _=>true) j).heap id with
      | none =>
       have hfo:=hft j o ho hp
       rw[hfe] at hfo
       obtain⟨b,hb⟩:=hfo.1
       rw[hbk] at hb;cases hb
      | some b =>
       have:SimB off n ((stY ops S tr (fun i=>decide (i < j)) ops.size).heap id) ((stY ops S tr (fun i=>listed.getD i false) ops.size).heap id):=by
        refine stY_sim _ (fun i e hi hx he=>(hvj hp i e hi hx he).elim (fun h=>.inl h.symm) (fun h=>.inr (apc e id off n hfe h))) (fun i hi hidi=>(hown id b hbk (hrepj t ht id hid) i hi hidi).symm) (fun i off' xs hi hx=>?_)
        rcases hpj hp i id off' xs hi hx with h|h
        ·exact .inl h.symm
        ·rw[hfe] at h
         simp only[apartF,beq_self_eq_true,Bool.not_true,Bool.false_or,Bool.or_eq_true,decide_eq_true_eq] at h
         exact .inr h
       rw[hcut,hbk] at this
       exact this
     ·exact h.elim)
    (fun hp l hfe id hil t ht hid b hb=>by
     have hlv:=hrepj t ht id hid
     have hb':=hb
     rw[← hcut] at hb'
     rw[← hb']
     refine(stY_heap _ (fun i e hi hx he=>(hvj hp i e hi hx he).elim .inl (fun h=>.inr (api e l id hfe hil h))) (fun i hi hidi=>?_) (fun i off xs hi hx=>?_))
     ·exact hown id b hb hlv i hi hidi
     ·rcases hpj hp i id off xs hi hx with h|h
      ·exact h
      ·rw[hfe] at h
       simp only[apartF,Bool.not_eq_true'] at h
       rw[memN_iff.2 hil] at h;cases h)
    (fun hp hfe=>by
     have key:∀ id b,(id < S.next∨∃ i,i < ops.size∧listed.getD i false=true∧id=S.next+i)→(stY ops S tr (fun _=>true) j).heap id=some b→(stY ops S tr (fun i=>listed.getD i false) ops.size).heap id=some b:=by
      intro id b hlv hb
      have hb':=hb
      rw[← hcut] at hb'
      rw[← hb']
      refine stY_heap _ (fun i e hi hx he=>(hvj hp i e hi hx he).elim .inl (fun h=>by rw[hfe] at h;cases h)) (fun i hi hidi=>hown id b hb hlv i hi hidi) (fun i off xs hi hx=>?_)
      rcases hpj hp i id off xs hi hx with h|h
      ·exact h
      ·rw[hfe] at h;cases h
     exact⟨fun t ht id hid b hb=>key id b (hrepj t ht id hid) hb,fun id b hlt hb=>key id b (.inl (by rw[(stY_next _ _).1] at hlt;exact hlt)) hb⟩)
    (fun id off xs hx=>(hpf j id off xs hx).2)
   have hnx:=(stY_next (ops:=ops) (S:=S) (tr:=tr) (fun i=>listed.getD i false) ops.size).1
   have hnt:=(stY_next (ops:=ops) (S:=S) (tr:=tr) (fun i=>listed.getD i false) ops.size).2
   refine awpO_sound hstab hR (by rw[hnt];exact hd) ho ?_ hst1.toO ?_
   ·rw[hnx]
    rintro(h|⟨i,hi,hx,h⟩)
    ·omega
    ·obtain rfl:i=j:=by omega
     rw[hjX] at hx;cases hx
   ·intro S' C' a' w' hS' _ _ hR'
    subst hS'
    have hget:∀ i,(listed.setIfInBounds j true).getD i false=if i=j then true else listed.getD i false:=by
     intro i
     by_cases hij:i=j
     ·subst hij;simp[Array.getD,hjl]
     ·rw[if_neg hij];exact getD_set_ne false (fun e=>hij e.symm)
    have hstep:(stY ops S tr (fun i=>listed.getD i false) ops.size).stepX o (tr j).1 (tr j).2=stY ops S tr (fun i=>(listed.setIfInBounds j true).getD i false) ops.size:=by
     have hcut':=stY_cut (ops:=ops) (S:=S) (tr:=tr) (j+1) ops.size (by omega)
     refine AS.ext2 (fun t=>?_) (fun id=>?_) ?_ ?_
     ·by_cases hdt:o.dst=some t
      ·have h1:(stY ops S tr (fun i=>(listed.setIfInBounds j true).getD i false) ops.size).env t=(stY ops S tr (fun i=>decide (i < j+1)) ops.size).env t:=by
        refine stY_env _ fun i oi _ hi hdst=>?_
        rw[hget]
        by_cases hij:i=j
        ·subst hij;simp
        ·rw[if_neg hij,agree t (.inr hdt) i oi hi hdst hij]
         by_cases h:i < j
         ·rw[decide_eq_true h,decide_eq_true (by omega)]
         ·rw[decide_eq_false h,decide_eq_false (by omega)]
       rw[h1,hcut']
       simp[stY,ho,AS.stepX,hdt,upd]
      ·have h1:(stY ops S tr (fun i=>(listed.setIfInBounds j true).getD i false) ops.size).env t=(stY ops S tr (fun i=>listed.getD i false) ops.size).env t:=by
        refine stY_env _ fun i oi _ hi hdst=>?_
        rw[hget]
        by_cases hij:i=j
        ·subst hij;rw[ho] at hi;injection hi with hi;subst hi;exact absurd hdst hdt
        ·rw[if_neg hij]
       rw[h1]
       simp only[AS.stepX]
       cases hdst:o.dst with
       | none=>rfl
       | some t'=>simp only[upd];rw[if_neg (fun e=>hdt (by rw[hdst,e]))]
     ·-- what j does to blocks commutes with what was done ahead of it
      simp only[AS.stepX]
      refine(stY_comm (X:=fun i=>listed.getD i false) (X':=fun i=>(listed.setIfInBounds j true).getD i false) hget hjX ho ?_ id ops.size (by omega) (Nat.le_refl _)).symm
      intro m hjm hms hxm id0
      have hmj:m≠j:=by omega
      have hom:ops[m]? = some ops[m]:=Array.getElem?_eq_getElem hms
      have nob:((aheads ops).getD m 0).testBit j=true→False:=fun hb=>by
       have:=notdone m _ hom hb
       rw[hxm] at this;cases this
      have hheapj:∀ e,(tr j).2=.eff e→effOk (S.next+j) e=false→heapy o.op=true:=by
       intro e hx he
       cases hhe:heapy o.op with
       | true=>rfl
       | false =>
        have hTj:=hT j o ho
        rw[hx] at hTj
        have:=St1.light (quiet j o ho).1 hhe hTj
        rw[(stY_next _ _).1,he] at this;cases this
      have hheapm:∀ e,(tr m).2=.eff e→effOk (S.next+m) e=false→heapy (ops[m]).op=true:=by
       intro e hx he
       cases hhe:heapy (ops[m]).op with
       | true=>rfl
       | false =>
        have hTm:=hT m _ hom
        rw[hx] at hTm
        have:=St1.light (quiet m _ hom).1 hhe hTm
        rw[(stY_next _ _).1,he] at this;cases this
      have hpatheapy:∀ i oi id off xs,ops[i]? = some oi→(tr i).2=.pat id off xs→heapy oi.op=true:=by
       intro i oi id off xs hoi hx
       have hTi:=hT i oi hoi
       rw[hx] at hTi
       obtain⟨_,_,t,a,v,pn,cs,h2,_⟩:=hTi
       rw[h2];rfl
      cases hxj:(tr j).2 with
      | eff e =>
       cases hxm':(tr m).2 with
       | eff e' =>
        refine XComm.eff (fun p hp q hq hpq=>?_) id0
        cases hej:effOk (S.next+j) e with
        | true =>
         have hpj':=efflight j e hej p hp
         cases hem:effOk (S.next+m) e' with
         | true=>have:=efflight m e' hem q hq;omega
         | false =>
          rcases effin m e' hxm' q hq with h|h|⟨h,hb⟩
          ·omega
          ·omega
          ·rw[← hpq,hpj',Nat.add_sub_cancel_left] at hb
           exact nob hb
        | false =>
         have hhj:=hheapj e hxj hej
         cases hem:effOk (S.next+m) e' with
         | false =>
          rcases(heavy j e hxj hej).2 m _ hom hmj (hheapm e' hxm' hem) with hb|⟨_,hb⟩
          ·rw[Nat.max_eq_left (by omega),Nat.min_eq_right (by omega)] at hb
           exact nob hb
          ·rcases hb e' hxm' with hb|hb
           ·rw[hem] at hb;cases hb
           ·exact hb p hp q hq hpq
         | true =>
          have:=efflight m e' hem q hq
          rcases effin j e hxj p hp with h|h|h<;>omega
       | pat id' off xs =>
        refine(XComm.patEff (fun q hq hqe=>?_) id0).symm
        have hhm:=hpatheapy m _ _ _ _ hom hxm'
        cases hej:effOk (S.next+j) e with
        | true =>
         have:=efflight j e hej q hq
         rcases(hpat m id' off xs hxm').1 with h|⟨m',h1,h2,h3⟩
         ·omega
         ·obtain rfl:m'=j:=by omega
          exact nob h3
        | false =>
         rcases(hpat m id' off xs hxm').2 j o ho (fun e=>hmj e.symm) (hheapj e hxj hej) with hb|⟨_,hb⟩
         ·rw[Nat.max_eq_right (by omega),Nat.min_eq_left (by omega)] at hb
          exact nob hb
         ·rcases hb e hxj with hb|hb
          ·rw[hej] at hb;cases hb
          ·exact hb q hq hqe
      | pat id' off xs =>
       have hhj:=hpatheapy j o _ _ _ ho hxj
       cases hxm':(tr m).2 with
       | eff e' =>
        refine XComm.patEff (fun q hq hqe=>?_) id0
        cases hem:effOk (S.next+m) e' with
        | true =>
         have:=efflight m e' hem q hq
         rcases(hpat j id' off xs hxj).1 with h|⟨m',h1,h2,h3⟩<;>omega
        | false =>
         rcases(hpat j id' off xs hxj).2 m _ hom hmj (hheapm e' hxm' hem) with hb|⟨_,hb⟩
         ·rw[Nat.max_eq_left (by omega),Nat.min_eq_right (by omega)] at hb
          exact nob hb
         ·rcases hb e' hxm' with hb|hb
          ·rw[hem] at hb;cases hb
          ·exact hb q hq hqe
       | pat id2 off2 xs2 =>
        refine XComm.pat ?_ id0
        rcases(hpat j id' off xs hxj).2 m _ hom hmj (hpatheapy m _ _ _ _ hom hxm') with hb|⟨hb,_⟩
        ·rw[Nat.max_eq_left (by omega),Nat.min_eq_right (by omega)] at hb
         exact(nob hb).elim
        ·rw[(hpf m id2 off2 xs2 hxm').2] at hb
         simp only[apartF,Bool.or_eq_true,Bool.not_eq_true',beq_eq_false_iff_ne,ne_eq,decide_eq_true_eq] at hb
         rcases hb with(hb|hb)|hb
         ·exact .inl fun e=>hb e.symm
         ·exact .inr (.inl hb)
         ·exact .inr (.inr hb)
     ·simp only[AS.stepX];rw[(stY_next _ _).1,(stY_next _ _).1]
     ·simp only[AS.stepX];rw[(stY_next _ _).2,(stY_next _ _).2]
    rw[hstep] at hR'
    refine ih (listed.setIfInBounds j true) C' a' w' (by simpa using hsz) ?_ ?_ ?_
    ·intro j' o' ho' hx e he
     rw[hget] at hx ⊢
     by_cases hej:e=j
     ·simp[hej]
     ·rw[if_neg hej]
      by_cases hjj:j'=j
      ·subst hjj;rw[ho] at ho';injection ho' with ho';subst ho';exact hed e he
      ·rw[if_neg hjj] at hx;exact hcl j' o' ho' hx e he
    ·have hcount:∀ (l:List Bool) (j:Nat),l[j]? = some false→((l.set j true).filter (fun b=>!b)).length+1=(l.filter (fun b=>!b)).length:=by
      intro l
      induction l with
      | nil=>intro j h;simp at h
      | cons b l ihl =>
       intro j h
       cases j with
       | zero=>simp at h;subst h;simp
       | succ j =>
        simp only[List.getElem?_cons_succ] at h
        have:=ihl j h
        cases b<;>simp at this ⊢<;>omega
     have:=hcount listed.toList j (by simpa[Array.getD,hjl] using hjX)
     simp only[Array.toList_setIfInBounds]
     omega
    ·refine⟨hR'.ok,hR'.inv,hR'.below,hR'.new,hR'.ext,hR'.defers,hR'.size,fun id hl=>?_⟩
     rcases hR'.live id hl with(h|⟨i,hi,hx,h⟩)|h
     ·exact .inl h
     ·exact .inr ⟨i,hi,by rw[hget];split<;>simp_all,h⟩
     ·rw[hnx] at h;exact .inr ⟨j,hjlt,by rw[hget];simp,h⟩
end
structure Seen where
 ft:Foot
 pt:Option (Nat × Nat × Nat)
 ei:List Nat
def apartN(a b:List Nat):Bool:=a.all fun x=>!memN b x
def ordB (ops:Array Oper)(i j:Nat):Bool:=((aheads ops).getD (max i j) 0).testBit (min i j)
def heapyAt(ops:Array Oper)(j:Nat):Bool:=match ops[j]? with
 | some o=>heapy o.op
 | none=>false
def patOk1(ops:Array Oper)(n:Nat)(acc:List Seen)(i:Nat)(t:Nat × Nat × Nat):Bool :=
 (decide (t.1 < n)||(decide (n≤t.1)&&decide (t.1 - n < i)&&((aheads ops).getD i 0).testBit (t.1 - n))) &&
 acc.zipIdx.all fun q=>q.2 == i||!heapyAt ops q.2||ordB ops q.2 i||(apartF t.1 t.2.1 t.2.2 q.1.ft&&!memN q.1.ei t.1)
def effOk1(ops:Array Oper)(acc:List Seen)(i:Nat)(l:List Nat):Bool :=
 acc.zipIdx.all fun q=>q.2 == i||!heapyAt ops q.2||ordB ops q.2 i||(apartL l q.1.ft&&apartN l q.1.ei)
def patsOk(ops:Array Oper)(n:Nat)(acc:List Seen):Bool:=acc.zipIdx.all fun p=>(match p.1.pt with
 | none=>true
 | some t=>patOk1 ops n acc p.2 t)&&(match p.1.ei with
 | []=>true
 | _::_=>effOk1 ops acc p.2 p.1.ei)
def eiOf (n i:Nat)(e:Eff):List Nat:=if effOk (n+i) e=true then[] else e.map (·.1)
def seen (n i:Nat)(x:XE)(f:Foot):Seen:=match x with
 | .eff e=>⟨f,none,eiOf n i e⟩
 | .pat id off xs=>⟨f,some (id,off,xs.length),[]⟩
def xOk (ops:Array Oper)(n i:Nat)(x:XE)(f:Foot):Prop:=match x with
 | .eff e=>effOk (n+i) e=true∨effIn ops n i e=true
 | .pat id off xs=>f=.cell id off xs.length
section
variable {P:Program}{I:World→Prop}{ops:Array Oper}{S:AS}
def awpLp(P:Program)(I:World→Prop)(ops:Array Oper):List Oper→Nat→AS→List Seen→(AS→Prop)→Prop
 | [],i,S,acc,K=>patsOk ops S.next acc=true∧K { S with next:=S.next+i }
 | o::l,i,S,acc,K=>∃ d x f,(StX P I ops i o S d x∧(heapy o.op=true→FootOK P I ops i S o d x f)∧xOk ops S.next i x f)∧awpLp P I ops l (i+1) (S.stepX o d x) (acc++[seen S.next i x f]) K
theorem stY_tr{tr tr':Nat→D × XE}{X:Nat→Bool}:∀ m,(∀ i,i < m→tr i=tr' i)→stY ops S tr X m=stY ops S tr' X m
 | 0,_=>rfl
 | m+1,h=>by simp only[stY,stY_tr m (fun i hi=>h i (by omega)),h m (by omega)]
theorem awpLp_trace{K:AS→Prop}:∀ (l:List Oper) (i:Nat) (tr:Nat→D × XE) (ft:Nat→Foot) (acc:List Seen),i≤ops.size→ops.toList.drop i=l→acc.length=i→(∀ m,m < i→acc[m]? = some (seen S.next m (tr m).2 (ft m)))→(∀ m,i≤m→tr m=(.any,.eff [])) →
  (∀ m o,m < i→ops[m]? = some o→StX P I ops m o (stY ops S tr (fun _=>true) m) (tr m).1 (tr m).2∧(heapy o.op=true→FootOK P I ops m (stY ops S tr (fun _=>true) m) o (tr m).1 (tr m).2 (ft m))∧xOk ops S.next m (tr m).2 (ft m))→awpLp P I ops l i (stY ops S tr (fun _=>true) i) acc K →
  ∃ (tr':Nat→D × XE) (ft':Nat→Foot) (acc':List Seen),(acc'.length=ops.size∧(∀ m,m < ops.size→acc'[m]? = some (seen S.next m (tr' m).2 (ft' m)))∧∀ m,ops.size≤m→tr' m=(.any,.eff [])) ∧
   (∀ m o,ops[m]? = some o→StX P I ops m o (stY ops S tr' (fun _=>true) m) (tr' m).1 (tr' m).2∧(heapy o.op=true→FootOK P I ops m (stY ops S tr' (fun _=>true) m) o (tr' m).1 (tr' m).2 (ft' m))∧xOk ops S.next m (tr' m).2 (ft' m))∧patsOk ops S.next acc'=true∧K { stY ops S tr' (fun _=>true) ops.size with next:=S.next+ops.size }:=by
 intro l
 induction l with
 | nil =>
  intro i tr ft acc hi hd hal hacc htr hT h
  obtain rfl:i=ops.size:=by have:=congrArg List.length hd;simp at this;omega
  simp only[awpLp] at h
  rw[(stY_next _ _).1] at h
  refine⟨tr,ft,acc,⟨hal,hacc,htr⟩,fun m o ho=>hT m o ?_ ho,h.1,h.2⟩
  rcases Nat.lt_or_ge m ops.size with h1|h1
  ·exact h1
  ·rw[Array.getElem?_eq_none h1] at ho;cases ho
 | cons o l ih =>
  intro i tr ft acc hi hd hal hacc htr hT h
  have hoi:ops[i]? = some o:=by
   have:(ops.toList.drop i)[0]? = some o:=by rw[hd];rfl
   simpa using this
  have hd':ops.toList.drop (i+1)=l:=by rw[← List.drop_drop,hd];rfl
  simp only[awpLp] at h
  obtain⟨d,x,f,⟨h1,h2,h2'⟩,h3⟩:=h
  rw[(stY_next _ _).1] at h2' h3
  have hsame:∀ m,m≤i→stY ops S (upd tr i (d,x)) (fun _=>true) m=stY ops S tr (fun _=>true) m:=fun m hm=>stY_tr m fun i' hi'=>by
   simp only[upd];rw[if_neg (by omega)]
  have hst:stY ops S (upd tr i (d,x)) (fun _=>true) (i+1)=(stY ops S tr (fun _=>true) i).stepX o d x:=by
   simp[stY,hoi,hsame i (Nat.le_refl _),upd]
  refine ih (i+1) (upd tr i (d,x)) (upd ft i f) (acc++[seen S.next i x f]) (by have:=congrArg List.length hd;simp at this;omega) hd' (by simp[hal]) (fun m hm=>?_) (fun m hm=>?_) (fun m o' hm ho'=>?_) (by rw[hst];exact h3)
  ·by_cases he:m=i
   ·subst he
    rw[List.getElem?_append_right (by omega),hal]
    simp[upd]
   ·rw[List.getElem?_append_left (by omega),hacc m (by omega)]
    simp only[upd];rw[if_neg he,if_neg he]
  ·simp only[upd];rw[if_neg (by omega)];exact htr m (by omega)
  ·rw[hsame m (by omega)]
   by_cases he:m=i
   ·subst he
    rw[hoi] at ho';injection ho' with ho';subst ho'
    simpa[upd] using⟨h1,h2,h2'⟩
   ·simp only[upd];rw[if_neg he,if_neg he]
    exact hT m o' (by omega) ho'
theorem awpD_of2{K:AS→Prop}(hstab:Stab I)(hm:P.follows .mixedOrders=true)(hok:drawOk ops=true)(h:awpLp P I ops ops.toList 0 S [] K):awpD P I ops S K:=by
 intro hd G C a w hR Q rid hK
 obtain⟨tr,ft,acc,⟨hal,hacc,htr⟩,h2,hp,h3⟩:=awpLp_trace (S:=S) (P:=P) (I:=I) ops.toList 0 (fun _=>(.any,.eff [])) (fun _=>.all) [] (Nat.zero_le _) (by simp) rfl (fun m hm=>absurd hm (by omega)) (fun _ _=>rfl) (fun m o hm=>absurd hm (by omega)) h
 refine wp_region_any hm ?_
 have hR':Rel I G (fun id=>id < S.next) S C a { w with drawn:=w.drawn+1 }:=by
  have hcell:∀ b o,C.F b o→({ w with drawn:=w.drawn+1 }:World).heap[b]? = w.heap[b]?:=fun _ _ _=>rfl
  have he:Ext C w C { w with drawn:=w.drawn+1 }:=⟨fun _ _ h=>h,hcell,fun _ h=>h,fun _ _=>rfl⟩
  refine⟨⟨fun t=>(hR.ok.env t).ext he,⟨fun id b hb=>?_,hR.ok.heap.own,hR.ok.heap.pin,hR.ok.heap.apart⟩,hR.ok.fb,hR.ok.base⟩,hR.inv,⟨hR.below.os,hR.below.tape,hR.below.output,hR.below.size,hR.below.block⟩,hR.new,hR.ext.trans he,hR.defers,hR.size,hR.live⟩
  obtain⟨k1,k2⟩:=hR.ok.heap.rep id b hb
  exact⟨k1,k2.keep k1 he (fun _ _=>rfl) (fun _ _ _ h=>h)⟩
 have hnone:∀ i,(Array.replicate ops.size false).getD i false=false:=by
  intro i
  rw[Array.getD_eq_getD_getElem?,Array.getElem?_replicate]
  split<;>rfl
 have hst0:∀ m,stY ops S tr (fun i=>(Array.replicate ops.size false).getD i false) m=S:=by
  intro m
  rw[show(fun i=>(Array.replicate ops.size false).getD i false)=fun _=>false from funext hnone]
  induction m with
  | zero=>rfl
  | succ m ihm =>
   simp only[stY,ihm,Bool.false_eq_true,if_false]
   cases ops[m]?<;>rfl
 have inr:∀ i id off xs,(tr i).2=.pat id off xs→i < ops.size:=by
  intro i id off xs hx
  rcases Nat.lt_or_ge i ops.size with h|h
  ·exact h
  ·rw[htr i h] at hx;cases hx
 have hpfx:∀ i id off xs,(tr i).2=.pat id off xs→i < ops.size∧ft i=.cell id off xs.length:=by
  intro i id off xs hx
  have hi:=inr i id off xs hx
  have:=(h2 i ops[i] (Array.getElem?_eq_getElem hi)).2.2
  rw[hx] at this
  exact⟨hi,this⟩
 refine draw_any2 (ft:=ft) hstab hd hok (fun i e hx=>?_) (fun id b hb=>hR'.live id (hR'.ok.heap.rep id b hb).1) (fun i o ho=>(h2 i o ho).2.1) hpfx (fun i id off xs hx=>?_) (fun i o ho=>(h2 i o ho).1) (fun C' a' w' hr=>?_) ops.size (Array.replicate ops.size false) C a _ (by simp) (fun j o _ hx=>by rw[hnone] at hx;cases hx) (by simp[List.filter_replicate]) (by
  rw[hst0]
  exact⟨hR'.ok,hR'.inv,hR'.below,hR'.new,hR'.ext,hR'.defers,hR'.size,fun id hl=>.inl (hR'.live id hl)⟩)
 ·rcases Nat.lt_or_ge i ops.size with h|h
  ·cases hl:effOk (S.next+i) e with
   | true=>exact .inl rfl
   | false =>
    right
    have hx2:=(h2 i ops[i] (Array.getElem?_eq_getElem h)).2.2
    rw[hx] at hx2
    have hai:=hacc i h
    rw[hx] at hai
    have hei:eiOf S.next i e=e.map (·.1):=by unfold eiOf;rw[hl];simp
    have hne:e.map (·.1)≠[]:=by
     intro h0
     have:e=[]:=List.map_eq_nil_iff.1 h0
     subst this
     simp[effOk] at hl
    refine⟨?_,fun j oj hoj hne' hh=>?_⟩
    ·rcases hx2 with h5|h5
     ·rw[hl] at h5;cases h5
     ·exact h5
    ·have hj:j < ops.size:=by
      rcases Nat.lt_or_ge j ops.size with h|h
      ·exact h
      ·rw[Array.getElem?_eq_none h] at hoj;cases hoj
     have hmi:(seen S.next i (.eff e) (ft i),i) ∈ acc.zipIdx:=by rw[List.mem_zipIdx_iff_getElem?];exact hai
     have h5:=List.all_eq_true.1 hp _ hmi
     simp only[seen,hei,Bool.true_and] at h5
     have h6:effOk1 ops acc i (e.map (·.1))=true:=by
      revert h5
      cases hc:e.map (·.1) with
      | nil=>exact absurd hc hne
      | cons a l=>exact fun h=>h
     have hmj:(seen S.next j (tr j).2 (ft j),j) ∈ acc.zipIdx:=by rw[List.mem_zipIdx_iff_getElem?];exact hacc j hj
     have h10:=List.all_eq_true.1 h6 _ hmj
     simp only[heapyAt,hoj,hh,Bool.or_eq_true,beq_iff_eq,Bool.not_true,Bool.false_eq_true,or_false,Bool.and_eq_true] at h10
     rcases h10 with(h10|h10)|h10
     ·exact absurd h10 hne'
     ·exact .inl h10
     ·right
      have hsf:(seen S.next j (tr j).2 (ft j)).ft=ft j:=by unfold seen;split<;>rfl
      rw[hsf] at h10
      refine⟨h10.1,fun e' hx3=>?_⟩
      have h11:=h10.2
      rw[hx3] at h11
      simp only[seen] at h11
      cases hl':effOk (S.next+j) e' with
      | true=>exact .inl rfl
      | false =>
       right
       have hei':eiOf S.next j e'=e'.map (·.1):=by unfold eiOf;rw[hl'];simp
       rw[hei'] at h11
       intro p hp' q hq hpq
       have:=List.all_eq_true.1 h11 p.1 (List.mem_map_of_mem hp')
       simp only[Bool.not_eq_true'] at this
       rw[memN_iff.2 (by rw[hpq];exact List.mem_map_of_mem hq)] at this
       cases this
  ·rw[htr i h] at hx;injection hx with hx;subst hx;exact .inl rfl
 ·have hi:=inr i id off xs hx
  have hai:=hacc i hi
  rw[hx] at hai
  have hmi:(seen S.next i (.pat id off xs) (ft i),i) ∈ acc.zipIdx:=by rw[List.mem_zipIdx_iff_getElem?];exact hai
  have h5:=List.all_eq_true.1 hp _ hmi
  simp only[seen,patOk1,Bool.and_eq_true,Bool.or_eq_true,decide_eq_true_eq] at h5
  obtain⟨⟨h6,h7⟩,_⟩:=h5
  refine⟨?_,fun j oj hoj hne hh=>?_⟩
  ·rcases h6 with h6|⟨⟨h6,h8⟩,h9⟩
   ·exact .inl h6
   ·exact .inr ⟨id - S.next,h8,by omega,h9⟩
  ·have hj:j < ops.size:=by
    rcases Nat.lt_or_ge j ops.size with h|h
    ·exact h
    ·rw[Array.getElem?_eq_none h] at hoj;cases hoj
   have hmj:(seen S.next j (tr j).2 (ft j),j) ∈ acc.zipIdx:=by rw[List.mem_zipIdx_iff_getElem?];exact hacc j hj
   have h10:=List.all_eq_true.1 h7 _ hmj
   simp only[heapyAt,hoj,hh,Bool.or_eq_true,beq_iff_eq,Bool.not_true,Bool.false_eq_true,or_false,Bool.and_eq_true] at h10
   rcases h10 with(h10|h10)|h10
   ·exact absurd h10 hne
   ·exact .inl h10
   ·right
    have hsf:(seen S.next j (tr j).2 (ft j)).ft=ft j:=by unfold seen;split<;>rfl
    rw[hsf] at h10
    refine⟨h10.1,fun e hx2=>?_⟩
    have h11:=h10.2
    rw[hx2] at h11
    simp only[seen,Bool.not_eq_true'] at h11
    cases hl':effOk (S.next+j) e with
    | true=>exact .inl rfl
    | false =>
     right
     have hei':eiOf S.next j e=e.map (·.1):=by unfold eiOf;rw[hl'];simp
     rw[hei'] at h11
     intro q hq hqe
     rw[memN_iff.2 (by rw[← hqe];exact List.mem_map_of_mem hq)] at h11
     cases h11
 ·refine hK _ C' a' w' h3 ?_ ?_
  ·exact(stY_next (ops:=ops) (S:=S) (tr:=tr) _ _).2
  ·exact⟨⟨hr.ok.env,hr.ok.heap,hr.ok.fb,hr.ok.base⟩,hr.inv,hr.below,hr.new,hr.ext,hr.defers,hr.size,hr.live⟩
end
section
variable (P:Program)(I:World→Prop)
def rgP (ops:Array Oper)(l:List Oper)(i:Nat)(S:AS)(acc:List Seen)(k:List Kont)(Q:BPost):Prop:=awpLp P I ops l i S acc (goB P I k Q .normal)
def sP (x : Option (D × Eff))(o : Oper)(ops : Array Oper)(l : List Oper)(i : Nat)(S : AS)(acc : List Seen)(k : List Kont)(Q : BPost) : Prop := ∃ d eff, x = some (d, eff) ∧
  ((∃ f, (heapy o.op = true → St1N P I ops i o S d eff → FootOK P I ops i S o d (.eff eff) f) ∧ (effOk (S.next + i) eff = true ∨ effIn ops S.next i eff = true) ∧ rgP P I ops l (i + 1) (S.step o d eff) (acc ++ [⟨f, none, eiOf S.next i eff⟩]) k Q) ∨
   (∃ t a v id off n, o.op = .store t a v ∧ S.val a = .ptr id off ∧ (S.val v).cells.length = n ∧ rgP P I ops l (i + 1) (S.step o d eff) (acc ++ [⟨.cell id off n, some (id, off, n), []⟩]) k Q))
def eP (ds0:List D)(f:FuncId)(o:Oper)(ops:Array Oper)(l:List Oper)(i:Nat)(S:AS)(acc:List Seen)(k:List Kont)(Q:BPost):Prop:=∃ ds' ep d eff fo,ArgX S.heap ds0 ds' ep∧CallLoc P I f ds0 ds' ep S.heap (S.next+i) d eff∧(effOk (S.next+i) (ep++eff)=true∨effIn ops S.next i (ep++eff)=true)∧(St1N P I ops i o S d (ep++eff)→FootOK P I ops i S o d (.eff (ep++eff)) fo)∧rgP P I ops l (i+1) (S.step o d (ep++eff)) (acc++[⟨fo,none,eiOf S.next i (ep++eff)⟩]) k Q
def cP (ds:List D)(eff:Eff)(ds0:List D)(f:FuncId)(o:Oper)(ops:Array Oper)(l:List Oper)(i:Nat)(S:AS)(acc:List Seen)(k:List Kont)(Q:BPost):Prop:=eP P I ds0 f o ops l i S acc k Q∨(effOk (S.next+i) eff=true∨effIn ops S.next i eff=true)∧∃ d fo,AFun P I f ds d∧(St1N P I ops i o S d eff→FootOK P I ops i S o d (.eff eff) fo)∧rgP P I ops l (i+1) (S.step o d eff) (acc++[⟨fo,none,eiOf S.next i eff⟩]) k Q
def qP (x:Option (List D × Eff))(ds0:List D)(f:FuncId)(o:Oper)(ops:Array Oper)(l:List Oper)(i:Nat)(S:AS)(acc:List Seen)(k:List Kont)(Q:BPost):Prop:=match x with
 | some (ds,eff)=>cP P I ds eff ds0 f o ops l i S acc k Q
 | none=>eP P I ds0 f o ops l i S acc k Q
def lP (x:Option (FuncId × List D))(o:Oper)(ops:Array Oper)(l:List Oper)(i:Nat)(S:AS)(acc:List Seen)(k:List Kont)(Q:BPost):Prop:=match x with
 | some (f,ds)=>qP P I (purDs S.heap ds) ds f o ops l i S acc k Q
 | none=>sP P I (aop P o.op (S.next+i) S) o ops l i S acc k Q
def wP (x:Option Bool)(o:Oper)(ops:Array Oper)(l:List Oper)(i:Nat)(S:AS)(acc:List Seen)(k:List Kont)(Q:BPost):Prop:=match x with
 | some true=>lP P I (acallee S o.op) o ops l i S acc k Q
 | some false=>rgP P I ops l (i+1) (S.step o .undef []) (acc++[⟨.all,none,[]⟩]) k Q
 | none=>False
end
section
variable {P:Program}{I:World→Prop}{S:AS}{k:List Kont}{Q:BPost}{ops:Array Oper}{o:Oper}{l:List Oper}{i:Nat}{acc:List Seen}
theorem rb_drawP(hstab:Stab I){id:Nat}(hm:P.follows .mixedOrders=true)(hok:drawOk ops=true)(h:∀ K,K=k→rgP P I ops ops.toList 0 S [] K Q):runB P I (.region id ops true) S k Q:=by
 have h':=h k rfl;unfold runB;unfold rgP at h';exact awpD_of2 hstab hm hok h'
theorem rgP_nil(hp:patsOk ops S.next acc=true)(h:extB P I .normal { S with next:=S.next+i } k Q):rgP P I ops [] i S acc k Q:=by
 unfold extB at h;unfold rgP;exact⟨hp,h⟩
theorem stepX_eff{S:AS}{o:Oper}{d:D}{eff:Eff}{x:XE}(h:appX S.heap x=appEff S.heap eff):S.stepX o d x=S.step o d eff:=by
 unfold AS.stepX AS.step;rw[h];rfl
theorem rgP_cons(h:wP P I (awant ops S.env o) o ops l i S acc k Q):rgP P I ops (o::l) i S acc k Q:=by
 simp only[rgP,awpLp]
 cases hw:awant ops S.env o with
 | none=>rw[hw] at h;exact h.elim
 | some r =>
  rw[hw] at h
  cases r with
  | false=>exact⟨.undef,.eff [],.all,⟨.inl ⟨hw,rfl,rfl⟩,fun _=>trivial,.inl rfl⟩,h⟩
  | true =>
   simp only[wP] at h
   cases hc:acallee S o.op with
   | some p =>
    obtain⟨f,ds⟩:=p
    rw[hc] at h
    simp only[lP] at h
    have eff_:eP P I ds f o ops l i S acc k Q→∃ d x f,(StX P I ops i o S d x∧(heapy o.op=true→FootOK P I ops i S o d x f)∧xOk ops S.next i x f)∧awpLp P I ops l (i+1) (S.stepX o d x) (acc++[seen S.next i x f]) (goB P I k Q .normal):=by
     rintro⟨ds',ep,d,eff,fo,h3,h4,h2,h5,h6⟩
     have hN:St1N P I ops i o S d (ep++eff):=.inr ⟨hw,.inr (.inr ⟨f,ds,ds',ep,eff,hc,h3,rfl,h4⟩)⟩
     exact⟨d,.eff (ep++eff),fo,⟨hN.to1,fun _=>h5 hN,h2⟩,h6⟩
    cases hp:purDs S.heap ds with
    | none=>rw[hp] at h;exact eff_ h
    | some q =>
     obtain⟨ds',eff⟩:=q
     rw[hp] at h
     rcases h with h|h
     ·exact eff_ h
     obtain⟨h2,d,fo,h3,h5,h4⟩:=h
     have hN:St1N P I ops i o S d eff:=.inr ⟨hw,.inl ⟨f,ds,ds',hc,hp,h3⟩⟩
     exact⟨d,.eff eff,fo,⟨hN.to1,fun _=>h5 hN,h2⟩,h4⟩
   | none =>
    rw[hc] at h
    obtain⟨d,eff,h1,h⟩:=h
    rcases h with⟨f,h2,h3,h4⟩|⟨t,a,v,id,off,n,h2,h3,h4,h5⟩
    ·have hN:St1N P I ops i o S d eff:=.inr ⟨hw,.inr (.inl ⟨hc,h1⟩)⟩
     exact⟨d,.eff eff,f,⟨hN.to1,fun hh=>h2 hh hN,h3⟩,h4⟩
    ·simp only[h2,aop,h3] at h1
     cases hb:S.heap id with
     | none=>rw[hb] at h1;simp at h1
     | some b =>
      rw[hb] at h1
      cases b<;>simp only[reduceCtorEq] at h1
      rename_i pn cs
      split at h1
      ·rename_i hcnd
       injection h1 with h1
       injection h1 with e1 e2
       subst e1 e2
       refine⟨.undef,.pat id off (S.val v).cells,.cell id off n,⟨⟨hw,rfl,t,a,v,pn,cs,h2,h3,rfl,hb,hcnd.1,hcnd.2.1,hcnd.2.2⟩,fun _=>⟨⟨_,hb⟩,.inr ⟨t,a,v,h2,h3,.inl ⟨_,rfl,h4⟩⟩⟩,by subst h4;rfl⟩,?_⟩
       rw[stepX_eff (eff:=[(id,some (.box pn (putD cs off (S.val v))))])]
       ·subst h4;exact h5
       ·simp only[appX,appEff,hb,patB]
        rw[if_pos hcnd.2.2]
        rfl
      ·simp at h1
theorem sP.light{d:D}{eff:Eff}(hh:heapy o.op=false)(he:effOk (S.next+i) eff=true)(h:rgP P I ops l (i+1) (S.step o d eff) (acc++[⟨.all,none,[]⟩]) k Q):sP P I (some (d,eff)) o ops l i S acc k Q :=
 ⟨d,eff,rfl,.inl ⟨.all,⟨fun _ _=>trivial,.inl he,by unfold eiOf;rw[if_pos he];exact h⟩⟩⟩
theorem sP.foot{d:D}{eff:Eff}{b:List Nat}(f:Foot)(hf:St1N P I ops i o S d eff→FootOK P I ops i S o d (.eff eff) f)(hb:eiOf S.next i eff=b)(he:effOk (S.next+i) eff=true∨effIn ops S.next i eff=true)(h:rgP P I ops l (i+1) (S.step o d eff) (acc++[⟨f,none,b⟩]) k Q):sP P I (some (d,eff)) o ops l i S acc k Q :=
 ⟨d,eff,rfl,.inl ⟨f,fun _=>hf,he,by rw[hb];exact h⟩⟩
theorem sP.pat{d:D}{eff:Eff}{t:TypeId}{a v:Operand}(id off n:Nat)(ho:o.op=.store t a v)(ha:S.val a=.ptr id off)(hn:(S.val v).cells.length=n)(h:rgP P I ops l (i+1) (S.step o d eff) (acc++[⟨.cell id off n,some (id,off,n),[]⟩]) k Q):sP P I (some (d,eff)) o ops l i S acc k Q :=
 ⟨d,eff,rfl,.inr ⟨t,a,v,id,off,n,ho,ha,hn,h⟩⟩
theorem eP.intro{ds0 ds':List D}{ep eff:Eff}{f:FuncId}{d:D}{b:List Nat}{nid:Nat}(h:∀ H',Sub S.heap H' (ds0.flatMap D.ids)→CallOK P I f ds' (appEff H' ep) nid d eff)(he':purXs S.heap ds0=some (ds',ep))(hn:nid=S.next+i)(fo:Foot)(hf:St1N P I ops i o S d (ep++eff)→FootOK P I ops i S o d (.eff (ep++eff)) fo)(hb:eiOf S.next i (ep++eff)=b)(he:effOk (S.next+i) (ep++eff)=true∨effIn ops S.next i (ep++eff)=true)(hk:rgP P I ops l (i+1) (S.step o d (ep++eff)) (acc++[⟨fo,none,b⟩]) k Q):eP P I ds0 f o ops l i S acc k Q :=
 ⟨ds',ep,d,eff,fo,.inl he',by subst hn;exact h,he,hf,by rw[hb];exact hk⟩
theorem eP.introR{ds0:List D}{eff:Eff}{f:FuncId}{d:D}{b:List Nat}{nid:Nat}(h:∀ H',Sub S.heap H' (ds0.flatMap D.ids)→CallOK P I f ds0 H' nid d eff)(hn:nid=S.next+i)(fo:Foot)(hf:St1N P I ops i o S d eff→FootOK P I ops i S o d (.eff eff) fo)(hb:eiOf S.next i eff=b)(he:effOk (S.next+i) eff=true∨effIn ops S.next i eff=true)(hk:rgP P I ops l (i+1) (S.step o d eff) (acc++[⟨fo,none,b⟩]) k Q):eP P I ds0 f o ops l i S acc k Q :=
 ⟨ds0,[],d,eff,fo,.inr ⟨rfl,rfl⟩,by subst hn;exact h,he,hf,by rw[List.nil_append,hb];exact hk⟩
theorem cP.introE{ds0 ds ds':List D}{ep eff eff0:Eff}{f:FuncId}{d:D}{b:List Nat}{nid:Nat}(h:∀ H',Sub S.heap H' (ds0.flatMap D.ids)→CallOK P I f ds' (appEff H' ep) nid d eff)(he':purXs S.heap ds0=some (ds',ep))(hn:nid=S.next+i)(fo:Foot)(hf:St1N P I ops i o S d (ep++eff)→FootOK P I ops i S o d (.eff (ep++eff)) fo)(hb:eiOf S.next i (ep++eff)=b)(he:effOk (S.next+i) (ep++eff)=true∨effIn ops S.next i (ep++eff)=true)(hk:rgP P I ops l (i+1) (S.step o d (ep++eff)) (acc++[⟨fo,none,b⟩]) k Q):cP P I ds eff0 ds0 f o ops l i S acc k Q :=
 .inl (eP.intro h he' hn fo hf hb he hk)
theorem cP.intro{ds ds' ds0:List D}{eff:Eff}{f:FuncId}{d:D}{b:List Nat}(h:AFun P I f ds' d)(he':ds'=ds)(fo:Foot)(hf:St1N P I ops i o S d eff→FootOK P I ops i S o d (.eff eff) fo)(hb:eiOf S.next i eff=b)(he:effOk (S.next+i) eff=true∨effIn ops S.next i eff=true)(hk:rgP P I ops l (i+1) (S.step o d eff) (acc++[⟨fo,none,b⟩]) k Q):cP P I ds eff ds0 f o ops l i S acc k Q :=
 .inr ⟨he,d,fo,he' ▸ h,hf,by rw[hb];exact hk⟩
def subN (a b:List Nat):Bool:=a.all fun x=>memN b x
theorem FootOK.idsB{d:D}{eff:Eff}(ids:List Nat)(h:(o.op.operands.toList.all fun y=>subN (S.val y).ids ids)=true)(hg:o.guard=none)(hN:St1N P I ops i o S d eff):FootOK P I ops i S o d (.eff eff) (.ids ids):=by
 refine⟨fun t ht id hid=>?_,eff,rfl,hN⟩;unfold Oper.looksAt at ht;rw[hg] at ht;simp only[List.mem_append,List.mem_filterMap] at ht;rcases ht with⟨y,hy,hyt⟩|ht
 ·cases y<;>simp at hyt;subst hyt;have h1:=List.all_eq_true.1 h _ hy;exact memN_iff.1 (List.all_eq_true.1 h1 id hid)
 simp at ht
theorem FootOK.ld{d:D}{x:XE}{t:TypeId}{a:Operand}{id off n:Nat}{b:Blk}(ho:o.op=.load t a)(ha:S.val a=.ptr id off)(hb:S.heap id=some b)(hs:szT P t=some n)(hn:0 < n):FootOK P I ops i S o d x (.cell id off n):=⟨⟨b,hb⟩,.inl ⟨t,a,ho,ha,fun _=>hs,hn⟩⟩
theorem wP_t:wP P I (some true) o ops l i S acc k Q=lP P I (acallee S o.op) o ops l i S acc k Q:=rfl
theorem wP_f:wP P I (some false) o ops l i S acc k Q=rgP P I ops l (i+1) (S.step o .undef []) (acc++[⟨.all,none,[]⟩]) k Q:=rfl
theorem lP_s{f:FuncId}{ds:List D}:lP P I (some (f,ds)) o ops l i S acc k Q=qP P I (purDs S.heap ds) ds f o ops l i S acc k Q:=rfl
theorem qP_s{f:FuncId}{ds ds0:List D}{eff:Eff}:qP P I (some (ds,eff)) ds0 f o ops l i S acc k Q=cP P I ds eff ds0 f o ops l i S acc k Q:=rfl
theorem qP_n{f:FuncId}{ds0:List D}:qP P I none ds0 f o ops l i S acc k Q=eP P I ds0 f o ops l i S acc k Q:=rfl
theorem lP_n:lP P I none o ops l i S acc k Q=sP P I (aop P o.op (S.next+i) S) o ops l i S acc k Q:=rfl
theorem vq:type_of% (And.intro @wP_t<|And.intro @wP_f<|And.intro @lP_s<|And.intro @qP_s<|And.intro @qP_n @lP_n):=And.intro @wP_t<|And.intro @wP_f<|And.intro @lP_s<|And.intro @qP_s<|And.intro @qP_n @lP_n
end
attribute [irreducible] rgP
def rnR (is:List Nat)(j:Nat):Option Nat:=is[j]?
def lentR:Nat→List Blk→List (Nat × Blk)
 | _,[]=>[]
 | p,b::r=>(p,b)::lentR (p+1) r
theorem lentR_at:∀ (bs:List Blk) (p id:Nat) (b:Blk),look (lentR p bs) id=some b→∃ n:Nat,id=p+n∧bs[n]? = some b
 | [],_,_,_,h=>by simp[lentR,look] at h
 | c::bs,p,id,b,h=>by
  simp only[lentR,look] at h
  split at h
  ·rename_i e
   subst e
   injection h with h
   subst h
   exact⟨0,rfl,rfl⟩
  ·obtain⟨n,h1,h2⟩:=lentR_at bs (p+1) id b h
   exact⟨n+1,by omega,by simpa using h2⟩
def retV1(x:Option (List D))(H:Nat→Option Blk)(nid:Nat)(is:List Nat)(r:D)(eff:Eff):Prop:=match x with
 | some [.own j m]=>match H j with
  | some (.vec e k ys false)=>r=.own nid m∧eff=is.map (fun i=>(i,none))++[(nid,some (.vec e k ys false))]
  | _=>False
 | _=>False
def retV (P:Program)(fn:Func)(nid:Nat)(is:List Nat)(r:D)(eff:Eff):BPost:=fun e S=>match e with
 | .exit _=>False
 | .goto _=>False
 | _=>retV1 (resD P S fn.results.toList) S.heap nid is r eff
section
variable {P:Program}{I:World→Prop}
theorem retV_n{fn:Func}{nid:Nat}{is:List Nat}{r:D}{eff:Eff}{S:AS}:retV P fn nid is r eff .normal S=retV1 (resD P S fn.results.toList) S.heap nid is r eff:=rfl
theorem retV_r{fn:Func}{nid:Nat}{is:List Nat}{r:D}{eff:Eff}{S:AS}:retV P fn nid is r eff .ret S=retV1 (resD P S fn.results.toList) S.heap nid is r eff:=rfl
def lentRs(H:Nat→Option Blk):List Nat→List Blk→Prop
 | i::is,b::bs=>(H i=some b∧∃ e k xs,b=.vec e k xs false)∧lentRs H is bs
 | [],[]=>True
 | _,_=>False
theorem lentRs_at{H:Nat→Option Blk}:∀ {is:List Nat} {bs:List Blk},lentRs H is bs→is.length=bs.length∧∀ (n:Nat) (i:Nat) (b:Blk),is[n]? = some i→bs[n]? = some b→H i=some b∧∃ e k xs,b=.vec e k xs false
 | [],[],_=>⟨rfl,by simp⟩
 | i::is,b::bs,h=>by
  obtain⟨h1,h2⟩:=lentRs_at h.2
  refine⟨by simp[h1],fun n j c hj hc=>?_⟩
  cases n with
  | zero=>simp at hj hc;subst hj hc;exact h.1
  | succ n=>exact h2 n j c (by simpa using hj) (by simpa using hc)
 | _::_,[],h=>h.elim
 | [],_::_,h=>h.elim
theorem CallOK.row(hstab:Stab I){f:FuncId}{fn:Func}{c:Code}{is:List Nat}{bs:List Blk}{ds0 ds:List D}{H:Nat→Option Blk}{nid:Nat}{r:D}{eff:Eff}
  (hf:P.funcs[f]? = some fn) (hb:fn.body=some c) (hnm:fn.name ≠ "runtime.NumGoroutine") (hn:ds0.length≤fn.ntmps) (hok:codeOk fn.ntmps c=true)
  (hds:ds0.map (D.ren (rnR is))=ds) (hdo:ds0.all (D.idOk (rnR is) is.length)=true)
  (hcs:lentRs H is bs) (hne:is.Nodup)
  (h:runB P I c ⟨argL ds0,heapL (lentR 0 bs),is.length,fn.ntmps⟩ [] (retV P fn nid is r eff)):CallOK P I f ds H nid r eff:=by
 refine⟨by simp[enterable,hf,hb,hnm],fun i0 w C B args hI hb0 hM hH hF hbase hnid hal hrep=>?_⟩
 refine calls_of_wp hf hb ?_
 subst hds
 obtain⟨hlen,hcs⟩:=lentRs_at hcs
 have lent:∀ (n i:Nat),is[n]? = some i→∃ b,bs[n]? = some b∧H i=some b∧∃ e k xs,b=.vec e k xs false:=by
  intro n i hi
  have hlt:n < bs.length:=by rw[← hlen];exact(List.getElem?_eq_some_iff.1 hi).1
  exact⟨bs[n],List.getElem?_eq_getElem hlt,hcs n i bs[n] hi (List.getElem?_eq_getElem hlt)⟩
 let M':Nat→Prop:=fun k=>(∃ (n i:Nat),is[n]? = some i∧blockOf (C.σ i)=some k)∨w.heap.size≤k
 let C0:Cx:=C.ren (rnR is) is.length
 let B':Bx:=⟨M',fun p=>C0.σ p⟩
 have hM'M:∀ k,M' k→B.M k:=by
  rintro k (⟨n,i,hi,hk⟩|hk)
  ·obtain⟨b,_,h1,_⟩:=lent n i hi
   exact hH.own _ _ h1 k hk
  ·exact hbase k hk
 let G:Gh:=⟨i0,w,C.F,B',fun k hk=>hM k (hM'M k hk),hb0⟩
 have hrn:∀ (n i:Nat),is[n]? = some i→rnR is n=some i:=fun n i hi=>hi
 have hσ0:∀ (n i:Nat),is[n]? = some i→C0.σ n=C.σ i:=fun n i hi=>by simp only[C0,Cx.ren,hrn n i hi]
 have hne':∀ (n n' i i':Nat),is[n]? = some i→is[n']? = some i'→n≠n'→i≠i':=by
  intro n n' i i' hi hi' hnn he
  subst he
  have hlt:n < is.length:=(List.getElem?_eq_some_iff.1 hi).1
  exact hnn ((List.getElem?_inj hlt hne).1 (hi.trans hi'.symm))
 have hget:∀ id b,heapL (lentR 0 bs) id=some b→∃ i:Nat,is[id]? = some i∧H i=some b∧∃ e k xs,b=.vec e k xs false:=by
  intro id b hb'
  obtain⟨n,h1,h2⟩:=lentR_at bs 0 id b hb'
  rw[Nat.zero_add] at h1
  subst h1
  have hlt:id < is.length:=by rw[hlen];exact(List.getElem?_eq_some_iff.1 h2).1
  exact⟨is[id],List.getElem?_eq_getElem hlt,hcs id is[id] b (List.getElem?_eq_getElem hlt) h2⟩
 have hheap0:HOK C0 w B' (heapL (lentR 0 bs)):=by
  refine⟨fun id b hb'=>?_,fun id b hb' g hg=>?_,fun id k cs hb'=>?_,fun id id' b b' hb' hb'' hne2 g hg hg'=>?_⟩
  ·obtain⟨i,h1,h2,e,k,xs,rfl⟩:=hget id b hb'
   obtain⟨k1,k2⟩:=hH.rep _ _ h2
   refine⟨⟨(List.getElem?_eq_some_iff.1 h1).1,by rw[hrn id i h1];exact k1⟩,?_⟩
   simp only[BRep] at k2 ⊢
   rw[hσ0 id i h1]
   exact k2
  ·obtain⟨i,h1,h2,_⟩:=hget id b hb'
   rw[hσ0 id i h1] at hg
   exact .inl ⟨id,i,h1,hg⟩
  ·obtain⟨i,h1,h2,e,k,xs,h3⟩:=hget id _ hb'
   cases h3
  ·obtain⟨i,h1,h2,_⟩:=hget id b hb'
   obtain⟨i',h1',h2',_⟩:=hget id' b' hb''
   rw[hσ0 id i h1] at hg
   rw[hσ0 id' i' h1'] at hg'
   exact hH.apart _ _ _ _ h2 h2' (hne' id id' i i' h1 h1' hne2) g hg hg'
 have hR:Rel I G (fun id=>id < is.length) ⟨argL ds0,heapL (lentR 0 bs),is.length,fn.ntmps⟩ C0 { tmps:=args.toArray++Array.replicate (fn.ntmps - args.toArray.size) Go.undef,defers:=[] } w:=by
  refine⟨⟨fun t=>?_,hheap0,hF,fun g hg=>.inr hg⟩,hI,BelM.refl _ _,fun b o h=>.inl h,⟨fun _ _ h=>h,fun _ _ _=>rfl,fun _ h=>h.elim,fun _ h=>h.elim⟩,rfl,?_,fun id h=>h.1⟩
  ·simp only[argL_getD]
   by_cases ht:t < ds0.length
   ·rw[show ds0.getD t .any=ds0[t] by simp[List.getD,ht]]
    have ha:t < args.length:=by simpa[hal] using ht
    have:(args.toArray++Array.replicate (fn.ntmps - args.toArray.size) Go.undef).getD t Go.undef=args[t]:=by
     simp[Array.getD_eq_getD_getElem?,Array.getElem?_append,ha]
    rw[this]
    have:=hrep t _ (ds0[t].ren (rnR is)) (List.getElem?_eq_getElem ha) (by simp[ht])
    exact this.ren (List.all_eq_true.1 hdo _ (List.getElem_mem ht))
   ·rw[show ds0.getD t .any=.any by simp[List.getD,ht]]
    exact .any _
  ·simp only[List.length_map] at hal
   simp;omega
 refine wp_mono (bwp_sound hstab c _ _ G _ _ w hok (by unfold runB goB at h;exact h) hR) ?_
 rintro e a' w' ⟨S',C',hnt,hR',hq⟩
 have fin:retV1 (resD P S' fn.results.toList) S'.heap nid is r eff→a'.defers=[]∧∃ v,(results fn a'.tmps).run P w'=.ok v w'∧∃ v' C2,Ending.returned v=.returned v'∧BelM B.M w w'∧Ext C w C2 w'∧Rep w' C2 v' r∧HOK C2 w' B (appEff H eff)∧FB C2 w'∧(∀ id,C2.live id→C.live id∨id=nid)∧∀ b o,C2.F b o→C.F b o∨B.M b:=by
  intro hp
  refine⟨hR'.defers,?_⟩
  cases h1:resD P S' fn.results.toList with
  | none=>rw[h1] at hp;exact hp.elim
  | some rs =>
  rw[h1] at hp
  obtain⟨vs,hr,hl,hv⟩:=resD_run (P:=P) (G:=G) hR'.ok _ _ h1
  have hrun:(results fn a'.tmps).run P w'=.ok (if h:vs.toArray.size=1 then vs.toArray[0] else .tuple vs.toArray) w':=by
   rw[results_eq,Array.mapM_eq_mapM_toList]
   simp only[Sem.run_bind,Sem.run_map,hr]
   rfl
  refine⟨_,hrun,?_⟩
  unfold retV1 at hp
  split at hp
  rotate_left
  ·exact hp.elim
  rename_i j m hrs
  injection hrs with hrs
  subst hrs
  split at hp
  rotate_left
  ·exact hp.elim
  rename_i ve vk ys hj
  obtain⟨rfl,rfl⟩:=hp
  obtain⟨v,rfl⟩:∃ v,vs=[v]:=by
   match vs,hl with
   | [v],_=>exact⟨v,rfl⟩
  have hv0:Rep w' C' v (.own j m):=hv 0 v _ rfl rfl
  obtain⟨hjl,hjb⟩:=hR'.ok.heap.rep j _ hj
  let C2:Cx:=⟨C'.F,fun id=>if id=nid then C'.σ j else C.σ id,fun id=>C.live id∨id=nid⟩
  have hσ2:∀ id,C.live id→C2.σ id=C.σ id:=fun id hid=>by
   have:id≠nid:=fun e=>hnid (e ▸ hid)
   simp only[C2,if_neg this]
  have hσn:C2.σ nid=C'.σ j:=by simp only[C2,if_true]
  have he:Ext C w C2 w':=⟨fun b o h=>hR'.ext.F _ _ h,fun b o h=>hR'.ext.blk b o h,fun _ h=>.inl h,hσ2⟩
  have hnoid:H nid=none:=by
   cases hn2:H nid with
   | none=>rfl
   | some b=>exact absurd (hH.rep _ _ hn2).1 hnid
  -- what each block is behind the call
  have hcase:∀ id b,appEff H (is.map (fun i=>(i,none))++[(nid,some (.vec ve vk ys false))]) id=some b→(id≠nid∧H id=some b∧∀ (n i:Nat),is[n]? = some i→i≠id)∨(id=nid∧b=.vec ve vk ys false):=by
   intro id b hb'
   rcases appEff_cases _ _ _ _ hb' with⟨h1,h2⟩|h1
   ·refine .inl ⟨fun e=>?_,h2,fun n i hi he'=>?_⟩
    ·subst e;rw[hnoid] at h2;cases h2
    ·exact h1 (i,none) (by simp only[List.mem_append,List.mem_map];exact .inl ⟨i,List.mem_of_getElem? hi,rfl⟩) he'
   ·simp only[List.mem_append,List.mem_map,Prod.mk.injEq,reduceCtorEq,and_false,exists_false,List.mem_singleton,Option.some.injEq,false_or] at h1
    exact .inr h1
  have hnewblk:∀ g,blockOf (C'.σ j)=some g→M' g∧∀ id b,H id=some b→(∀ (n i:Nat),is[n]? = some i→i≠id)→blockOf (C.σ id)≠some g:=by
   intro g hg
   have hMg:M' g:=hR'.ok.heap.own j _ hj g hg
   refine⟨hMg,fun id b hid hni hgk=>?_⟩
   rcases hMg with⟨n,i,hi,hik⟩|hge
   ·obtain⟨b',_,h3,_⟩:=lent n i hi
    exact hH.apart _ _ _ _ h3 hid (hni n i hi) g hik hgk
   ·have:=((hH.rep id b hid).2.lt g hgk).2;omega
  refine⟨v,C2,by simp,hR'.below.mono (fun k' _ hk'=>hM'M k' hk'),he,?_,?_,hR'.ok.fb,fun id hid=>hid,fun b o hbo=>?_⟩
  ·cases hv0 with
   | own _ _ cc A hl' hm' hs=>exact .own nid m cc A (.inr rfl) hm' (by rw[hσn];exact hs)
  ·refine⟨fun id b hb'=>?_,fun id b hb' g hg=>?_,fun id kk cs hb'=>?_,fun id id' b b' hb' hb'' hne2 g hg hg'=>?_⟩
   ·rcases hcase id b hb' with⟨h0,h1,hni⟩|⟨rfl,rfl⟩
    ·obtain⟨k1,k2⟩:=hH.rep id b h1
     refine⟨.inl k1,k2.keep k1 he (fun g hg=>?_) (fun g o hg hgo=>?_)⟩
     ·refine hR'.below.block g (k2.lt g hg).2 ?_
      rintro(⟨n,i,hi,hik⟩|hge)
      ·obtain⟨b',_,h3,_⟩:=lent n i hi
       exact hH.apart _ _ _ _ h3 h1 (hni n i hi) g hik hg
      ·have:=(k2.lt g hg).2;omega
     ·rcases hR'.new g o hgo with h6|h6
      ·exact h6
      ·rcases h6 with⟨n,i,hi,hik⟩|hge
       ·obtain⟨b',_,h3,_⟩:=lent n i hi
        exact absurd hg (hH.apart _ _ _ _ h3 h1 (hni n i hi) g hik)
       ·have:=(k2.lt g hg).2;omega
    ·refine⟨.inr rfl,?_⟩
     simp only[BRep] at hjb ⊢
     rw[hσn]
     exact hjb
   ·rcases hcase id b hb' with⟨h0,h1,hni⟩|⟨rfl,rfl⟩
    ·rw[hσ2 id (hH.rep _ _ h1).1] at hg
     exact hH.own id b h1 g hg
    ·rw[hσn] at hg
     exact hM'M _ (hnewblk g hg).1
   ·rcases hcase id _ hb' with⟨h0,h1,hni⟩|⟨rfl,h3⟩
    ·rw[hσ2 id (hH.rep _ _ h1).1]
     exact hH.pin id kk cs h1
    ·cases h3
   ·rcases hcase id b hb' with⟨h0,h1,hni⟩|⟨rfl,rfl⟩
    ·rw[hσ2 id (hH.rep _ _ h1).1] at hg
     rcases hcase id' b' hb'' with⟨h0',h1',hni'⟩|⟨rfl,rfl⟩
     ·rw[hσ2 id' (hH.rep _ _ h1').1] at hg'
      exact hH.apart id id' b b' h1 h1' hne2 g hg hg'
     ·rw[hσn] at hg'
      exact(hnewblk g hg').2 id b h1 hni hg
    ·rcases hcase id' b' hb'' with⟨h0',h1',hni'⟩|⟨rfl,rfl⟩
     ·rw[hσ2 id' (hH.rep _ _ h1').1] at hg'
      rw[hσn] at hg
      exact(hnewblk g hg).2 id' b' h1' hni' hg'
     ·exact hne2 rfl
  ·rcases hR'.new b o hbo with h2|h2
   ·exact .inl h2
   ·exact .inr (hM'M b h2)
 cases e with
 | normal=>exact fin hq
 | ret=>exact fin hq
 | exit id=>exact hq.elim
 | goto l=>exact hq.elim
 | panic ch=>exact hq.elim
 | outgrown=>exact hq.elim
end
def fixN1:D→D→D
 | .nils,_=>.nils
 | _,d=>d
def fixN:D→D→D
 | .agg a,.agg b=>.agg (List.zipWith fixN1 a b)
 | a,b=>fixN1 a b
def nslD:List D→D
 | []=>.nils
 | xs=>.sl xs
theorem nslD_nil:nslD []=.nils:=rfl
theorem nslD_cons{a:D}{l:List D}:nslD (a::l)=.sl (a::l):=rfl
section
variable {P:Program}{I:World→Prop}
theorem Rep.fixN1{w:World}{C:Cx}{F:Nat→Nat→Prop}{v:Value}{a b:D}(h:Rep w C v a)(k:Rep w (cF F) v b):Rep w (cF F) v (fixN1 a b):=by
 cases a;case nils=>cases h;exact .nils
 all_goals exact k
theorem Rep.fixN{w:World}{C:Cx}{F:Nat→Nat→Prop}{v:Value}{a b:D}(h:Rep w C v a)(k:Rep w (cF F) v b):Rep w (cF F) v (fixN a b):=by
 cases a
 case agg ax =>
  cases b
  case agg bs =>
   cases h with
   | agg vs _ hl h1 hr =>
    generalize hx:Value.agg vs.toArray=x at k
    cases k with
    | agg vs' _ hl' h1' hr' =>
     have:vs=vs':=by simpa using hx
     subst this
     refine .agg vs _ (by rw[List.length_zipWith];omega) h1 fun i v d hv hd=>?_
     rw[List.getElem?_zipWith] at hd
     cases ha:ax[i]? with
     | none=>rw[ha] at hd;cases hd
     | some x =>
      cases hb:bs[i]? with
      | none=>rw[ha,hb] at hd;cases hd
      | some y =>
       rw[ha,hb] at hd
       cases hd
       exact Rep.fixN1 (hr i v x hv ha) (hr' i v y hv hb)
  all_goals exact k
 case nils=>cases h;cases b<;>exact .nils
 all_goals exact k
def retN2(ds:List D)(x:Option (List D × Eff))(r:D):Prop:=match x with
 | some p=>mkRes (List.zipWith fixN ds p.1)=r
 | none=>False
def retN1(x:Option (List D))(H:Nat→Option Blk)(r:D):Prop:=match x with
 | some ds=>retN2 ds (purDs H ds) r
 | none=>False
def retN (P:Program)(fn:Func)(r:D):BPost:=fun e S=>match e with
 | .exit _=>False
 | .goto _=>False
 | _=>retN1 (resD P S fn.results.toList) S.heap r
theorem retN_n{fn:Func}{r:D}{S:AS}:retN P fn r .normal S=retN1 (resD P S fn.results.toList) S.heap r:=rfl
theorem retN_r{fn:Func}{r:D}{S:AS}:retN P fn r .ret S=retN1 (resD P S fn.results.toList) S.heap r:=rfl
end
end Go.Proofs.YtejeinnfompgpaaGreatDoor

namespace Go.Proofs.YtejeinnfompgpaaGreatDoor
open Go.RowKit
theorem om{α:Type}{f:α→D}{k:Nat}{l:List α}(h:∀ x,(f x).okS=true∧(f x).cells.length=k):(∀ y,y ∈ l.map f→y.okS=true∧y.cells.length=k)=True :=
 eq_true fun y hy=>by obtain⟨x,_,rfl⟩:=List.mem_map.1 hy;exact h x
theorem zz{A B:Prop}(h:B)(e:A=B:=by(conv=>lhs;(try simp -implicitDefEqProofs only[vt,vm,om,↓atI_fold,forall_const,implies_true,false_implies,sevalprocAttr,dd,k,q]))):A:=e ▸ h
theorem zq{A B:Prop}(h:B)(e:A=B:=by(conv=>lhs;(try simp -implicitDefEqProofs only[vt,vq,vm,om,↓atI_fold,forall_const,implies_true,false_implies,sevalprocAttr,dd,k,q]))):A:=e ▸ h
theorem fi{A:Prop}(e:A:=by first|rfl|(simp[List.map_append,dd];done)|(simp[List.map_append,dd,k];done)):A:=e
theorem fz{A:Prop}(e:A:=by first|rfl|(simp -implicitDefEqProofs only[vt,vm,om,↓atI_fold,forall_const,implies_true,false_implies,sevalprocAttr,dd,k,q];done)|(simp -implicitDefEqProofs only[vt,vm,om,↓atI_fold,forall_const,implies_true,false_implies,sevalprocAttr,dd,k,q];rfl)|(simp -implicitDefEqProofs only[vt,vm,om,↓atI_fold,forall_const,implies_true,false_implies,sevalprocAttr,dd,k,q,List.map_append];done)):A:=e
theorem fs{A:Prop}(e:A:=by first|rfl|(simp;done)):A:=e
theorem fd{A:Prop}(e:A:=by first|rfl|decide):A:=e
theorem fk{A:Prop}(e:A:=by kernel_rfl):A:=e
theorem fr{A:Prop}(e:A:=by simp -implicitDefEqProofs only[vt,vm,om,↓atI_fold,forall_const,implies_true,false_implies,sevalprocAttr,retQ_r,retQ_n,rs,dd,k,q]<;>first|rfl|(simp[List.map_append,dd];done)|(simp[List.map_append,dd,k];done)):A:=e
theorem fp{A:Prop}(e:A:=by simp -implicitDefEqProofs only[vt,vm,om,↓atI_fold,forall_const,implies_true,false_implies,sevalprocAttr,vp,retP_r,retP_n,rs,dd,k,q]<;>first|exact⟨rfl,rfl⟩|(refine⟨?_,?_⟩<;>first|rfl|(simp[List.map_append,dd];done)|(simp[List.map_append,dd,k];done))):A:=e
theorem fv{A:Prop}(e:A:=by simp -implicitDefEqProofs only[vt,vm,om,↓atI_fold,forall_const,implies_true,false_implies,sevalprocAttr,retV_r,retV_n,retV1,rs,dd,k,q]<;>first|rfl|exact⟨rfl,rfl⟩|(refine⟨?_,?_⟩<;>first|rfl|(simp[List.map_append,dd];done)|(simp[List.map_append,dd,k];done))|(simp[List.map_append,dd];done)|(simp[List.map_append,dd,k];done)):A:=e
theorem fn{A:Prop}(e:A:=by simp -implicitDefEqProofs only[vt,vm,om,↓atI_fold,forall_const,implies_true,false_implies,sevalprocAttr,retN_r,retN_n,retN1,retN2,fixN,fixN1,nslD_nil,nslD_cons,List.zipWith_cons_cons,List.zipWith_nil_left,rs,dd,k,q]<;>first|rfl|(simp[List.map_append,dd];done)|(simp[List.map_append,dd,k];done)):A:=e
def ro:List (Nat × Option Nat)→Nat→Option Nat
 | [],i=>some i
 | (a,b)::l,i=>if i=a then b else ro l i
theorem wk{S:AS}{l:List (Nat × D)}{h:List (Nat × Blk)}{n:Nat}(r:List (Nat × Option Nat))(he:wkEnv S (ro r) n l:=by first|(simp -implicitDefEqProofs [kv,km,ro,dd,k];done)|(simp -implicitDefEqProofs [kv,km,ro,dd,k,Nat.add_assoc];done)|(simp -implicitDefEqProofs [kv,km,ro,dd,k];omega))(hh:wkHeap S (ro r) n h:=by first|(simp -implicitDefEqProofs [kv,km,ro,dd,k];done)|(simp -implicitDefEqProofs [kv,km,ro,dd,k,Nat.add_assoc];done)|(simp -implicitDefEqProofs [kv,km,ro,dd,k];omega)):Wk S ⟨envL l,heapL h,n,S.nt⟩:=Wk.of (ro r) l h n he hh
section
variable {P:Program}{I:World→Prop}{S S':AS}{k:List Kont}{Q:BPost}{o:Oper}{ops:Array Oper}{l:List Oper}{i:Nat}{f:FuncId}{ds:List D}{d:D}{eff:Eff}{x y:Code}
theorem xk(h:extB P I .normal S k Q):runB P I .skip S k Q:=rb_skip h
theorem xx{id:Nat}(h:extB P I (.exit id) S k Q):runB P I (.exit id) S k Q:=rb_exit h
theorem xr(h:extB P I .ret S k Q):runB P I .ret S k Q:=rb_ret h
theorem xs(h:runB P I x S (.seq y::k) Q):runB P I (.seq x y) S k Q:=rb_seq h
theorem xb{id:Nat}(h:runB P I x S (.blk id::k) Q):runB P I (.block id x) S k Q:=rb_block h
theorem es(h:runB P I y S k Q):extB P I .normal S (.seq y::k) Q:=eb_seq h
theorem ee{id:Nat}(h:extB P I (.exit id) S k Q):extB P I (.exit id) S (.seq y::k) Q:=eb_seq_e h
theorem er(h:extB P I .ret S k Q):extB P I .ret S (.seq y::k) Q:=eb_seq_r h
theorem bn{id:Nat}(h:extB P I .normal S k Q):extB P I .normal S (.blk id::k) Q:=eb_blk_n h
theorem bh{id:Nat}(h:extB P I .normal S k Q):extB P I (.exit id) S (.blk id::k) Q:=eb_blk_hit h
theorem bm{id id':Nat}(h:extB P I (.exit id') S k Q)(hne:id'≠id:=by decide):extB P I (.exit id') S (.blk id::k) Q:=eb_blk_miss hne h
theorem br{id:Nat}(h:extB P I .ret S k Q):extB P I .ret S (.blk id::k) Q:=eb_blk_r h
theorem en{e:AExit}(h:Q e S):extB P I e S [] Q:=eb_nil h
theorem xt{c:Operand}(h:runB P I x S k Q)(hc:S.val c=.bool true:=by first|rfl|exact congrArg D.bool k.1|exact congrArg D.bool (congrArg Bool.not k.1)|(simp -implicitDefEqProofs only[vt,vm,om,dd,k];done)):runB P I (.cond c x y) S k Q:=rb_true hc h
theorem xf{c:Operand}(h:runB P I y S k Q)(hc:S.val c=.bool false:=by first|rfl|exact congrArg D.bool k.1|exact congrArg D.bool (congrArg Bool.not k.1)|(simp -implicitDefEqProofs only[vt,vm,om,dd,k];done)):runB P I (.cond c x y) S k Q:=rb_false hc h
theorem rz{id:Nat}(h:extB P I .normal S' k Q)(e:∀ K R,rgL P I ops ops.toList 0 S K R=extB P I .normal S' K R:=by(intro K R;conv=>lhs;(try simp -implicitDefEqProofs only[vt,vm,om,↓atI_fold,forall_const,implies_true,false_implies,sevalprocAttr,dd,k,q]))):runB P I (.region id ops false) S k Q:=rb_region (e k Q ▸ h)
theorem rd(hI:Stab I){id:Nat}(h:extB P I .normal S' k Q)(e:∀ K R,rgD P I ops ops.toList 0 S K R=extB P I .normal S' K R:=by(intro K R;conv=>lhs;(try simp -implicitDefEqProofs only[vt,vm,om,↓atI_fold,forall_const,implies_true,false_implies,sevalprocAttr,dd,k,q])))(hm:P.follows .mixedOrders=true:=by kernel_rfl)(hok:drawOk ops=true:=by kernel_rfl):runB P I (.region id ops true) S k Q:=rb_draw hI hm hok (e k Q ▸ h)
theorem rK{id:Nat}(h:∀ K R,K=k→R=Q→rgL P I ops ops.toList 0 S K R):runB P I (.region id ops false) S k Q:=rb_region (h k Q rfl rfl)
theorem rD(hI:Stab I){id:Nat}(h:∀ K R,K=k→R=Q→rgD P I ops ops.toList 0 S K R)(hm:P.follows .mixedOrders=true:=by kernel_rfl)(hok:drawOk ops=true:=by kernel_rfl):runB P I (.region id ops true) S k Q:=rb_draw hI hm hok (h k Q rfl rfl)
theorem rP(hI:Stab I){id:Nat}(h:∀ K,K=k→rgP P I ops ops.toList 0 S [] K Q)(hm:P.follows .mixedOrders=true:=by kernel_rfl)(hok:drawOk ops=true:=by kernel_rfl):runB P I (.region id ops true) S k Q:=rb_drawP hI hm hok h
theorem hd(hk:rgD P I ops l (i+1) (S.step o d eff) k Q)(he:effH ops S.next i eff=true:=by kernel_rfl):hD P I d eff o ops l i S k Q:=hD.intro he hk
theorem cw{ds' ds0:List D}{nid:Nat}(h:AFun P I f ds' d)(hk:rgL P I ops l i (S.step o d eff) k Q)(he:ds'=ds:=by first|rfl|(simp[List.map_append,dd];done)|(simp[List.map_append,dd,k];done)):cW P I f ds eff ds0 nid o ops l i S k Q:=cW.intro h he hk
theorem cd{ds' ds0:List D}{nid:Nat}(h:AFun P I f ds' d)(hk:rgD P I ops l (i+1) (S.step o d eff) k Q)(he:ds'=ds:=by first|rfl|(simp[List.map_append,dd];done)|(simp[List.map_append,dd,k];done))(hf:effH ops S.next i eff=true:=by kernel_rfl):cD' P I f ds eff ds0 nid o ops l i S k Q:=cD'.intro h he hf hk
theorem AFun.en(hI:Stab I){r:D}{fn:Func}{nt:Nat}{c:Code}(hf:P.funcs[f]? = some fn)(hn:fn.ntmps=nt)(h:runB P I c ⟨argL ds,heapL [],0,nt⟩ [] (retQ P fn r))(hb:fn.body=some c:=by exact rfl)(hnm:decide (fn.name ≠ "runtime.NumGoroutine")=true:=by kernel_rfl)(hl:Nat.ble ds.length nt=true:=by kernel_rfl)(hok:codeOk fn.ntmps c=true:=by kernel_rfl):AFun P I f ds r :=
 AFun.enterB hI hf hb (of_decide_eq_true hnm) (by subst hn;exact Nat.le_of_ble_eq_true hl) hok (by subst hn;exact h)
end
section
variable {P:Prop}{α β:Type}{z:α}
theorem iK{b:Bool}{x y:Option α}(k:P)(h:(if b=true then x else y)=some z):((b=true∧P)∧x=some z)∨((b=false∧P)∧y=some z):=by
 rcases ite_or h with⟨h1,h2⟩|⟨h1,h2⟩
 ·exact .inl ⟨⟨h1,k⟩,h2⟩
 exact .inr ⟨⟨h1,k⟩,h2⟩
theorem bs{o:Option β}{F:β→Option α}(h:o.bind F=some z):∃ x,o=some x∧F x=some z:=bind_some h
theorem bK{o:Option β}{F:β→Option α}(q:P)(h:o.bind F=some z):∃ x,(o=some x∧P)∧F x=some z:=by
 obtain⟨x,h1,h2⟩:=bind_some h;exact⟨x,⟨h1,q⟩,h2⟩
theorem oK{p:Prop}[Decidable p]{x:Option α}(q:P)(h:(if p then x else none)=some z):(p∧P)∧x=some z:=by
 obtain⟨h1,h2⟩:=ite_on h;exact⟨⟨h1,q⟩,h2⟩
theorem oN{l:List β}{n:Int}{F:β→Option α}(q:P)(h:(atI l n).bind F=some z):∃ x,((0≤n∧n < (l.length:Int)∧∀ {γ:Type} (f:β→γ),(l.map f)[n.toNat]? = some (f x))∧P)∧F x=some z:=by
 obtain⟨x,h1,h2⟩:=bind_some h;exact⟨x,⟨atI_own h1,q⟩,h2⟩
end
end Go.Proofs.YtejeinnfompgpaaGreatDoor

