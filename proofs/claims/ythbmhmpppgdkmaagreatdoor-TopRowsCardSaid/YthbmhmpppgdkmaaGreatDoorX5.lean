/- Texts of one proof, put together (Opn). No condition but those that each theorem states. -/
import Derived.Test.YthbmhmpppgdkmaaGreatDoorX4
import Derived.ProofKit
import Derived.OpenShut
import Derived.Deep.DeepHandedRow
import Derived.Lib.SmallJoins
import Derived.Deep.Slices
import Derived.Deep.Fields
set_option linter.unusedSimpArgs false
set_option linter.unusedVariables false
namespace Go.Proofs.YthbmhmpppgdkmaaGreatDoor
open Go.ChangeShapes Go.WideShapes Go.ChangeAt Go.RowKit Go.Joins
set_option maxRecDepth 100000
def FA (w:World):Nat→Nat→Prop:=fun b _=>b < w.heap.size
theorem FA_fb(w:World):FB (cF (FA w)) w:=fun _ _ h=>h
theorem wf_inR{k:IntKind}{n:Int}(h:(Lit.int k n).wf=true):inR k n:=by
 simp only[Lit.wf,Bool.and_eq_true,decide_eq_true_eq] at h
 cases k<;>simp[IntKind.min,IntKind.max,IntKind.signed,IntKind.bits] at h<;>simp[inR,kLo,kHi]<;>omega
theorem strOfBytes(s:ByteArray):(⟨s.data.toList.toArray⟩:ByteArray)=s:=by cases s;simp
theorem AFun.law{P:Program}{I:World→Prop}{f:FuncId}{ds:List D}(h:AFun P I f ds (.bool true)){W:World}{args:List Value}(hI:I W)(hl:args.length=ds.length)(hr:∀ (i:Nat) v d,args[i]? = some v→ds[i]? = some d→Rep W (cF (FA W)) v d) :
  Calls P f args.toArray W fun e w'=>e=.returned (.bool true)∧Below W.heap.size W w':=by
 refine(h.2 W (FA W) args hI (FA_fb W) hl hr).mono ?_
 rintro e w' ⟨v,F',rfl,hb,_,_,_,hrep⟩
 cases hrep
 exact⟨rfl,hb⟩
section
variable (H:Type)(enc:TypeId × Value→H)(P:Program)
def OpT {α:Type}(t:TypeId)(δ:α→D):Prop :=
 ∀ (w:World) (fuel:Nat) (cs:List Value) (x:DataW H × List MemPlace),DataW.trod enc P w 0 (fun _=>true) true fuel t cs=some x→∃ a:α,RepL (cF (FA w)) w cs (δ a).cells
def OpFd {α:Type}(fs:List Field)(off:Nat)(γ:α→List D):Prop :=
 ∀ (w:World) (fuel:Nat) (cs:List Value),off≤cs.length→(∀ f ∈ fs,∃ x,DataW.trod enc P w 0 (fun _=>true) true fuel f.type ((cs.drop f.offset).take (P.cellsOf f.type))=some x)→(fs=[]→cs.length=off)→(∀ f ∈ fs,f.offset+P.cellsOf f.type≤cs.length)→((fs.map fun f=>P.cellsOf f.type).sum+off=cs.length)→∃ a:α,RepL (cF (FA w)) w (cs.drop off) (γ a)
end
section
variable {H:Type}{enc:TypeId × Value→H}{P:Program}
theorem OpT.int{t:TypeId}{k:IntKind}(ht:P.underlying t=some (.int k)):OpT H enc P t (D.int k):=by
 intro w fuel cs x h
 obtain⟨n,rfl,_,hw⟩:=DataW.trod_int ht h
 exact⟨n,RepL.one1 rfl (.int _ _ (wf_inR hw))⟩
theorem OpT.bool{t:TypeId}(ht:P.underlying t=some .bool):OpT H enc P t D.bool:=by
 intro w fuel cs x h
 obtain⟨n,rfl,_⟩:=DataW.trod_bool ht h
 exact⟨n,RepL.one1 rfl (.bool _)⟩
theorem rep_strB{w:World}{C:Cx}(s:ByteArray)(h:s.size≤maxLen):Rep w C (.string s) (.str s.data.toList):=by
 have:=Rep.str (w:=w) (C:=C) s.data.toList (by rw[Array.length_toList];exact h)
 rwa[strOfBytes] at this
theorem OpT.str{t:TypeId}(ht:P.underlying t=some .string):OpT H enc P t D.str:=by
 intro w fuel cs x h
 obtain⟨s,rfl,_,hs⟩:=DataW.trod_string ht h
 exact⟨s.data.toList,RepL.one1 rfl (rep_strB s hs)⟩
theorem OpT.map{α β:Type}{t:TypeId}{δ:α→D}{ε:β→D}(h:OpT H enc P t δ)(φ:α→β)(hφ:∀ a,ε (φ a)=δ a):OpT H enc P t ε:=by
 intro w fuel cs x hx
 obtain⟨a,ha⟩:=h w fuel cs x hx
 exact⟨φ a,by rw[hφ];exact ha⟩
theorem OpFd.nil{off:Nat}:OpFd H enc P [] off (fun _:Unit=>[]):=by
 intro w fuel cs h1 h2 h3 h4 h5
 refine⟨(),?_⟩
 rw[List.drop_eq_nil_of_le (by have:=h3 rfl;omega)]
 exact RepL.nil
theorem OpFd.cons{α β:Type}{f:Field}{fs:List Field}{off:Nat}{δ:α→D}{γ:β→List D}(ho:f.offset=off)(h:OpT H enc P f.type δ)(hr:OpFd H enc P fs (off+P.cellsOf f.type) γ):OpFd H enc P (f::fs) off (fun p:α × β=>(δ p.1).cells++γ p.2):=by
 intro w fuel cs h1 h2 h3 h4 h5
 subst ho
 obtain⟨x,hx⟩:=h2 f (by simp)
 obtain⟨a,ha⟩:=h w fuel _ x hx
 have hlen:f.offset+P.cellsOf f.type≤cs.length:=h4 f (by simp)
 simp only[List.map_cons,List.sum_cons] at h5
 obtain⟨b,hb⟩:=hr w fuel cs hlen (fun g hg=>h2 g (by simp[hg])) (fun e=>by subst e;simp at h5;omega) (fun g hg=>h4 g (by simp[hg])) (by omega)
 refine⟨(a,b),?_⟩
 have:=ha.append hb
 rw[show(cs.drop f.offset).take (P.cellsOf f.type)++cs.drop (f.offset+P.cellsOf f.type)=cs.drop f.offset by rw[← List.drop_drop];exact List.take_append_drop _ _] at this
 exact this
theorem OpT.struct{α β:Type}{t:TypeId}{fs:Array Field}{γ:α→List D}{ε:β→D}(ht:P.underlying t=some (.struct fs))(hoff:(fs.toList.all fun f=>decide (f.offset+P.cellsOf f.type≤P.cellsOf t))=true)(hsum:(fs.toList.map fun f=>P.cellsOf f.type).sum=P.cellsOf t)(h:OpFd H enc P fs.toList 0 γ)(φ:α→β)(hφ:∀ a,(ε (φ a)).cells=γ a):OpT H enc P t ε:=by
 intro w fuel cs x hx
 obtain⟨xs,n,_,_,hl,hxl,hf⟩:=DataW.trod_struct ht hx
 obtain⟨a,ha⟩:=h w n cs (Nat.zero_le _) (fun f hf'=>by
  obtain⟨i,hi,rfl⟩:=List.getElem_of_mem hf'
  have hi':fs[i]? = some fs.toList[i]:=by simp at hi ⊢
  have:=hf i _ hi'
  rw[List.getElem?_eq_getElem (by rw[hxl];simpa using hi)] at this
  exact⟨_,this⟩) (fun e=>by rw[e] at hsum;simp at hsum;omega) (fun f hf'=>by have:=List.all_eq_true.1 hoff f hf';simp at this;omega) (by omega)
 refine⟨φ a,?_⟩
 rw[hφ]
 simpa using ha
theorem addr_addO(b o i:Nat):(⟨b,o,none⟩:Addr).add i=⟨b,o+i,none⟩:=by
 unfold Addr.add
 split
 ·rename_i e;subst e;rfl
 ·rfl
theorem rows_of{w:World}{b off k:Nat}{α:Type}{δ:α→D}(hk:∀ a,(δ a).cells.length=k):∀ (n:Nat) (s:Nat),(∀ i,i < n→∃ cs',(∀ j,j < k→w.cell? ⟨b,off+(s+i) * k+j,none⟩=cs'[j]?)∧cs'.length=k∧∃ a:α,RepL (cF (FA w)) w cs' (δ a).cells) →
  ∃ (l:List α) (vals:List Value),l.length=n∧vals.length=n * k∧RepL (cF (FA w)) w vals ((l.map δ).flatMap D.cells)∧∀ (i:Nat) v,vals[i]? = some v→w.cell? ⟨b,off+s * k+i,none⟩=some v:=by
 intro n
 induction n with
 | zero=>intro s _;exact⟨[],[],rfl,by simp,RepL.nil,by simp⟩
 | succ n ih =>
  intro s h
  obtain⟨cs,hc,hcl,a,ha⟩:=h 0 (by omega)
  obtain⟨l,vals,h1,h2,h3,h4⟩:=ih (s+1) (fun i hi=>by
   obtain⟨cs',hh⟩:=h (i+1) (by omega)
   refine⟨cs',?_⟩
   rw[show s+1+i=s+(i+1) by omega]
   exact hh)
  refine⟨a::l,cs++vals,by simp[h1],by rw[List.length_append,hcl,h2,Nat.add_mul];omega,?_,?_⟩
  ·simp only[List.map_cons,List.flatMap_cons]
   exact ha.append h3
  ·intro i v hv
   by_cases hi:i < k
   ·rw[List.getElem?_append_left (by omega)] at hv
    have:=hc i hi
    rw[Nat.add_zero] at this
    rw[this,hv]
   ·rw[List.getElem?_append_right (by omega)] at hv
    have:=h4 _ v hv
    rw[hcl] at this
    rw[← this]
    congr 2
    rw[Nat.add_mul]
    omega
theorem OpT.slice{α:Type}{t e:TypeId}{δ:α→D}(ht:P.underlying t=some (.slice e))(hpos:0 < P.cellsOf e)(hk:∀ a,(δ a).cells.length=P.cellsOf e)(h:OpT H enc P e δ):OpT H enc P t (fun l:List α=>D.sl (l.map δ)):=by
 intro w fuel cs x hx
 rcases Deep.open_slice ht hx with⟨rfl,_⟩|⟨a,len,cap,m,n,Dd,Pl,rfl,hb,hl,hm,hmm,_,hel⟩
 ·exact⟨[],RepL.one1 rfl (.sl0 _ _ (Nat.zero_le _))⟩
 ·simp only[if_true] at hmm
  subst hmm
  by_cases h0:len=0
  ·subst h0
   exact⟨[],RepL.one1 rfl (.sl0 _ _ hm)⟩
  ·obtain⟨b,off,spot⟩:=a
   obtain⟨c0,hc0,_⟩:=hel 0 (by omega)
   obtain⟨_,hl0,hg0⟩:=World.cells?_some hc0
   have hcell0:=hg0 0 hpos
   have hx0:c0[0]? = some (c0[0]'(by omega)):=List.getElem?_eq_getElem _
   rw[hx0] at hcell0
   have hspot:spot=none:=by simpa[Addr.add] using World.cell?_spot hcell0
   subst hspot
   have hbl:b < w.heap.size:=by
    rcases Nat.lt_or_ge b w.heap.size with h1|h1
    ·exact h1
    ·simp[Addr.add,World.cell?,Array.getElem?_eq_none h1] at hcell0
   obtain⟨l,vals,h1,h2,h3,h4⟩:=rows_of (w:=w) (b:=b) (off:=off) (k:=P.cellsOf e) hk len 0 (fun i hi=>by
    obtain⟨cs',hc',ht'⟩:=hel i (by omega)
    obtain⟨_,hl',hg'⟩:=World.cells?_some hc'
    refine⟨cs',fun j hj=>?_,hl',h w n cs' _ ht'⟩
    have:=hg' j hj
    rw[addr_addO,addr_addO] at this
    rw[← this]
    simp)
   refine⟨l,RepL.one1 rfl ?_⟩
   have hkk:∀ x ∈ l.map δ,x.cells.length=P.cellsOf e:=fun x hx=>by obtain⟨y,_,rfl⟩:=List.mem_map.1 hx;exact hk y
   have:=Rep.sl (w:=w) (C:=cF (FA w)) b off (P.cellsOf e) m (l.map δ) vals (by simp[h1];omega) hm hkk h3.len h3.one (fun _ _=>hbl) (fun i v hv=>by have:=h4 i v hv;simpa using this) (fun i v d hv hd=>h3.rep i v d hv hd)
   rw[List.length_map,h1] at this
   exact this
theorem arr_rows{α:Type}{e:TypeId}{δ:α→D}(h:OpT H enc P e δ)(w:World)(fuel:Nat)(cs:List Value)(k:Nat):∀ (n s:Nat),(∀ i,s≤i→i < s+n→∃ x,DataW.trod enc P w 0 (fun _=>true) true fuel e ((cs.drop (i * k)).take k)=some x)→cs.length=(s+n) * k →
  ∃ l:List α,l.length=n∧RepL (cF (FA w)) w (cs.drop (s * k)) (l.flatMap fun a=>(δ a).cells):=by
 intro n
 induction n with
 | zero=>intro s _ hl;exact⟨[],rfl,by rw[List.drop_eq_nil_of_le (by rw[hl];exact Nat.le_refl _)];exact RepL.nil⟩
 | succ n ih =>
  intro s hx hl
  obtain⟨x,hx0⟩:=hx s (by omega) (by omega)
  obtain⟨a,ha⟩:=h w fuel _ x hx0
  obtain⟨l,hll,hr⟩:=ih (s+1) (fun i h1 h2=>hx i (by omega) (by omega)) (by rw[hl];congr 1;omega)
  refine⟨a::l,by simp[hll],?_⟩
  have:=ha.append hr
  rw[show(cs.drop (s * k)).take k++cs.drop ((s+1) * k)=cs.drop (s * k) by rw[show(s+1) * k=s * k+k by rw[Nat.add_mul];omega,← List.drop_drop];exact List.take_append_drop _ _] at this
  exact this
theorem OpT.array{α β:Type}{t e:TypeId}{n:Nat}{δ:α→D}{ε:β→D}(ht:P.underlying t=some (.array n e))(hc:P.cellsOf t=n * P.cellsOf e)(h:OpT H enc P e δ)(φ:(l:List α)→l.length=n→β)(hφ:∀ l h,(ε (φ l h)).cells=l.flatMap fun a=>(δ a).cells):OpT H enc P t ε:=by
 intro w fuel cs x hx
 obtain⟨xs,m,_,_,hl,hxl,hf⟩:=DataW.trod_array ht hx
 obtain⟨l,hll,hr⟩:=arr_rows h w m cs (P.cellsOf e) n 0 (fun i _ hi=>by
  have:=hf i (by omega)
  rw[List.getElem?_eq_getElem (by omega)] at this
  exact⟨_,this⟩) (by rw[hl,hc,Nat.zero_add])
 refine⟨φ l hll,?_⟩
 rw[hφ]
 simpa using hr
theorem OpT.arg1{α:Type}{t:TypeId}{δ:α→D}(h:OpT H enc P t δ){w:World}{v:Value}{d:DataW H}{p:List MemPlace}(hv:v.cells=#[v])(hδ:∀ a,(δ a).cells=[δ a])(ht:DataW.Trod enc P w 0 (fun _=>true) true t v d p):∃ a,Rep w (cF (FA w)) v (δ a):=by
 obtain⟨fuel,hf⟩:=ht
 obtain⟨a,ha⟩:=h w fuel _ _ hf
 refine⟨a,?_⟩
 rw[hv,hδ] at ha
 exact ha.rep 0 v (δ a) rfl rfl
theorem OpT.argS{α:Type}{t:TypeId}{δ:α→D}{cs:Array Value}(h:OpT H enc P t δ){w:World}{d:DataW H}{p:List MemPlace}(hδ:∀ a,∃ ds,δ a=.agg ds)(ht:DataW.Trod enc P w 0 (fun _=>true) true t (.agg cs) d p):∃ a,Rep w (cF (FA w)) (.agg cs) (δ a):=by
 obtain⟨fuel,hf⟩:=ht
 obtain⟨a,ha⟩:=h w fuel _ _ hf
 refine⟨a,?_⟩
 obtain⟨ds,hd⟩:=hδ a
 rw[hd] at ha ⊢
 have:=ha.agg
 simpa[Value.cells,D.cells] using this
theorem OpT.argStr{α:Type}{t:TypeId}{δ:α→D}(ht:P.underlying t=some .string)(h:OpT H enc P t δ)(hδ:∀ a,(δ a).cells=[δ a]){w:World}{r:Reach}{b0:Nat}{v:Value}{d:DataW H}{p:List MemPlace}(hv:Value.okWide P w r b0 t v)(hd:DataW.Trod enc P w 0 (fun _=>true) true t v d p):∃ a,Rep w (cF (FA w)) v (δ a):=by
 obtain⟨n,rfl⟩:=okWide_string ht hv
 exact h.arg1 rfl hδ hd
theorem OpT.argSlice{α:Type}{t e:TypeId}{δ:α→D}(ht:P.underlying t=some (.slice e))(h:OpT H enc P t δ)(hδ:∀ a,(δ a).cells=[δ a]){w:World}{r:Reach}{b0:Nat}{v:Value}{d:DataW H}{p:List MemPlace}(hv:Value.okWide P w r b0 t v)(hd:DataW.Trod enc P w 0 (fun _=>true) true t v d p):∃ a,Rep w (cF (FA w)) v (δ a):=by
 obtain⟨_,_,_,rfl⟩:=okWide_slice ht hv
 exact h.arg1 rfl hδ hd
theorem OpT.argStruct{α:Type}{t:TypeId}{fs:Array Field}{δ:α→D}(ht:P.underlying t=some (.struct fs))(h:OpT H enc P t δ)(hδ:∀ a,∃ ds,δ a=.agg ds){w:World}{r:Reach}{b0:Nat}{v:Value}{d:DataW H}{p:List MemPlace}(hv:Value.okWide P w r b0 t v)(hd:DataW.Trod enc P w 0 (fun _=>true) true t v d p):∃ a,Rep w (cF (FA w)) v (δ a):=by
 obtain⟨_,rfl,_⟩:=okWide_struct ht hv
 exact h.argS hδ hd
end
end Go.Proofs.YthbmhmpppgdkmaaGreatDoor
