/- Texts of one proof, put together (FwMt, FwMu, FwLr, FwOr, FwFz). No condition but those that each theorem states. -/
import Derived.Test.YtejeinnfompgpaaGreatDoorX2
set_option linter.unusedSimpArgs false
set_option linter.unusedVariables false
namespace Go.Proofs.YtejeinnfompgpaaGreatDoor
open Go.RowKit
def pureD:D→Bool
 | .sl _|.nils|.int _ _|.bool _|.str _=>true
 | _=>false
theorem pureD_cells{x:D}(h:pureD x=true):x.cells=[x]:=by
 cases x<;>first|rfl|(simp[pureD] at h)
theorem flat_pure:∀ (l:List D),(∀ x ∈ l,x.cells=[x])→l.flatMap D.cells=l
 | [],_=>rfl
 | x::l,h=>by
  rw[List.flatMap_cons,h x (by simp),flat_pure l (fun y hy=>h y (by simp[hy]))]
  rfl
theorem Rep.pureF{w:World}{C:Cx}{v:Value}{x:D}(h:Rep w C v x)(hp:pureD x=true):Rep w (cF C.F) v x:=by
 cases x with
 | sl xs=>exact h.slF
 | nils=>cases h;exact .nils
 | int k n=>cases h;exact .int _ _ (by assumption)
 | bool b=>cases h;exact .bool _
 | str s=>cases h;exact .str _ (by assumption)
 | _=>simp[pureD] at hp
theorem Wk.trans{S S' S'':AS}(h:Wk S S')(k:Wk S' S''):Wk S S'' :=
 ⟨k.1.trans h.1,fun I G C a w hR=>by
  obtain⟨C',h'⟩:=h.2 I G C a w hR
  exact k.2 I G C' a w h'⟩
theorem Wk.close{S:AS}{id j n i:Nat}{e e2:TypeId}{k2:Nat}{xs ys:List D}{p:Bool}(h1:S.heap id=some (.mat e 1 (xs.set i (.own j n))))(hi:i < xs.length)(h2:S.heap j=some (.vec e2 k2 ys p))(hn:ys.length=n)(hj:j≠id)(hp:∀ x ∈ xs,pureD x=true) :
  Wk S ⟨S.env,upd (upd S.heap j (some (.vec e2 k2 ys true))) id (some (.vec e 1 (xs.set i (.sl ys)) false)),S.next,S.nt⟩:=by
 subst hn
 refine⟨rfl,fun I G C a w hR=>?_⟩
 have hH:=hR.ok.heap
 obtain⟨C',P1,hsl⟩:=pub_vec hH hR.ok.fb h2
 have hid:upd S.heap j (some (.vec e2 k2 ys true)) id=some (.mat e 1 (xs.set i (.own j ys.length))):=by
  simp[upd,Ne.symm hj,h1]
 obtain⟨_,_,_,_,_,n4⟩:=P1.ok.rep id _ hid
 obtain⟨_,vals,q1,q2,q3,q4⟩:=hH.rep id _ h1
 have hcell:∀ x ∈ xs,x.cells=[x]:=fun x hx=>pureD_cells (hp x hx)
 have c1:∀ x ∈ xs.set i (.own j ys.length),x.cells=[x]:=fun x hx=>by
  rcases List.mem_or_eq_of_mem_set hx with h|rfl
  ·exact hcell x h
  ·rfl
 have c2:∀ x ∈ xs.set i (.sl ys),x.cells=[x]:=fun x hx=>by
  rcases List.mem_or_eq_of_mem_set hx with h|rfl
  ·exact hcell x h
  ·rfl
 rw[flat_pure _ c1] at q3
 have hnew:BRep C' w 0 id (.vec e 1 (xs.set i (.sl ys)) false):=by
  refine⟨vals,?_,fun x hx=>by rw[c2 x hx];rfl,?_,fun g hg=>⟨fun o ho=>absurd ho (n4 g hg o),fun h=>by cases h⟩⟩
  ·rw[P1.σ,List.length_set]
   rw[List.length_set] at q1
   exact q1
  ·rw[flat_pure _ c2]
   refine⟨by rw[List.length_set];have:=q3.len;rw[List.length_set] at this;exact this,q3.one,fun m v d hv hd=>?_⟩
   rw[List.getElem?_set] at hd
   by_cases hm:i=m
   ·subst hm
    rw[if_pos rfl,if_pos hi] at hd
    injection hd with hd
    subst hd
    refine hsl v (q3.rep i v _ hv ?_)
    rw[List.getElem?_set,if_pos rfl,if_pos hi]
   ·rw[if_neg hm] at hd
    have hr:=q3.rep m v d hv (by rw[List.getElem?_set,if_neg hm];exact hd)
    exact(hr.pureF (hp d (List.mem_of_getElem? hd))).ext P1.ext.cF
 have hok:=HOK.change P1.ok hid (Ext.refl C' w) (fun _ _ _=>rfl) (fun k cs h=>by cases h) hnew
 refine⟨C',⟨⟨fun t=>(hR.ok.env t).ext P1.ext,hok,P1.fb,hR.ok.base⟩,hR.inv,hR.below,fun b o hF=>(P1.new b o hF).elim (hR.new b o) .inr,hR.ext.trans P1.ext,hR.defers,hR.size,fun id hl=>hR.live id (by rw[← P1.live];exact hl)⟩⟩
theorem mat_at{α:Type}{f:α→D}{L:List α}{i:Nat}{x:D}(h:i < L.length):((L.map f).set i x)[i]? = some x:=by
 rw[List.getElem?_set,if_pos rfl,if_pos (by simpa using h)]
theorem mat_ne{α:Type}{f:α→D}{L:List α}{i m:Nat}{x y:D}(h:(L.map f)[m]? = some y)(hne:i≠m):((L.map f).set i x)[m]? = some y:=by
 rw[List.getElem?_set,if_neg hne];exact h
@[simp] theorem renC_sl {r:Nat→Option Nat} {l:List D}:D.renC r (.sl l)=.sl l:=rfl
@[simp] theorem renC_own {r:Nat→Option Nat} {i n:Nat}:D.renC r (.own i n)=D.ren1 r (.own i n):=rfl
@[simp] theorem renC_map {α:Type} {f:α→D} {r:Nat→Option Nat} {L:List α} (h:∀ x,(f x).renC r=f x):(L.map f).map (D.renC r)=L.map f:=by
 rw[List.map_map]
 exact List.map_congr_left fun x _=>h x
@[simp] theorem all_mat {α:Type} {f:α→D} {L:List α} {i:Nat} {x:D} {p:D→Bool} (h:∀ y,(f y).cells.all p=true) (hx:x.cells.all p=true):(((L.map f).set i x).flatMap D.cells).all p=true:=by
 rw[List.all_eq_true]
 intro d hd
 obtain⟨z,hz,hdz⟩:=List.mem_flatMap.1 hd
 rcases List.mem_or_eq_of_mem_set hz with hz|hz
 ·obtain⟨y,_,rfl⟩:=List.mem_map.1 hz
  exact List.all_eq_true.1 (h y) d hdz
 ·subst hz
  exact List.all_eq_true.1 hx d hdz
theorem pure_map{α:Type}{f:α→D}{L:List α}(h:∀ x,pureD (f x)=true):∀ x ∈ L.map f,pureD x=true:=fun x hx=>by
 obtain⟨y,_,rfl⟩:=List.mem_map.1 hx
 exact h y
theorem Wk.closeM{S:AS}{id j n i:Nat}{e e2:TypeId}{k2:Nat}{α:Type}{f:α→D}{L:List α}{ys:List D}{p:Bool}(h1:S.heap id=some (.mat e 1 ((L.map f).set i (.own j n))))(hi:i < L.length)(h2:S.heap j=some (.vec e2 k2 ys p))(hn:ys.length=n)(hj:j≠id)(hp:∀ x,pureD (f x)=true) :
  Wk S ⟨S.env,upd (upd S.heap j (some (.vec e2 k2 ys true))) id (some (.vec e 1 ((L.map f).set i (.sl ys)) false)),S.next,S.nt⟩:=Wk.close h1 (by simpa using hi) h2 hn hj (pure_map hp)
theorem CallOK.ro{P:Program}{I:World→Prop}{f:FuncId}{ds:List D}{H:Nat→Option Blk}{nid:Nat}{d:D}{eff:Eff}(h:CallOK P I f ds H nid d eff)(he:appEff H eff=H):CallOK P I f ds H nid d []:=by
 unfold CallOK at h ⊢;rw[he] at h;exact h
theorem ro1{H:Nat→Option Blk}{i:Nat}{b:Blk}(h:H i=some b):appEff H [(i,some b)]=H:=by
 funext j;simp only[appEff,upd];split
 ·rename_i e;rw[e,h]
 rfl
def emD {α:Type}(f:α→D)(L:List α)(N:Nat):List D:=L.map f++replL (N - L.length) .nils
theorem emD_0{α:Type}(f:α→D)(N:Nat):emD f [] N=replL N .nils:=rfl
attribute [simp] emD_0
@[simp] theorem all_emD {α:Type} {f:α→D} {L:List α} {N i:Nat} {x:D} {p:D→Bool} (h:∀ y,(f y).cells.all p=true) (h0:p .nils=true) (hx:x.cells.all p=true):(((emD f L N).set i x).flatMap D.cells).all p=true:=by
 rw[List.all_eq_true]
 intro d hd
 obtain⟨z,hz,hdz⟩:=List.mem_flatMap.1 hd
 rcases List.mem_or_eq_of_mem_set hz with hz|hz
 ·unfold emD replL at hz
  rcases List.mem_append.1 hz with hz|hz
  ·obtain⟨y,_,rfl⟩:=List.mem_map.1 hz
   exact List.all_eq_true.1 (h y) d hdz
  ·rw[List.eq_of_mem_replicate hz] at hdz
   simp[D.cells] at hdz
   subst hdz
   exact h0
 ·subst hz
  exact List.all_eq_true.1 hx d hdz
@[simp] theorem renC_emD {α:Type} {f:α→D} {r:Nat→Option Nat} {L:List α} {N:Nat} (h:∀ x,(f x).renC r=f x):(emD f L N).map (D.renC r)=emD f L N:=by
 unfold emD replL
 rw[List.map_append,renC_map h,List.map_replicate]
 rfl
theorem mat_at0{α:Type}{f:α→D}{L:List α}{i:Int}{m:Nat}{x:D}(h0:i=(m:Int))(h:m < L.length):((L.map f).set i.toNat x)[m]? = some x:=by
 rw[List.getElem?_set,if_pos (by omega),if_pos (by rw[List.length_map];omega)]
@[simp] theorem renC_comp {α:Type} {f:α→D} {r:Nat→Option Nat} {L:List α} (h:∀ x,(f x).renC r=f x):L.map (D.renC r ∘ f)=L.map f:=List.map_congr_left fun x _=>h x
@[simp high] theorem all_matB {α:Type} {f:α→D} {L:List α} {i:Nat} {x:D} {p:D→Bool} (h:∀ y,(f y).cells.all p=true) (hx:x.cells.all p=true):(((L.map f).set i x).flatMap D.cells).all p=true:=by
 rw[List.all_eq_true]
 intro d hd
 obtain⟨z,hz,hdz⟩:=List.mem_flatMap.1 hd
 rcases List.mem_or_eq_of_mem_set hz with hz|hz
 ·obtain⟨y,_,rfl⟩:=List.mem_map.1 hz
  exact List.all_eq_true.1 (h y) d hdz
 ·subst hz
  exact List.all_eq_true.1 hx d hdz
@[simp high] theorem all_emB {α:Type} {f:α→D} {L:List α} {N i:Nat} {x:D} {p:D→Bool} (h:∀ y,(f y).cells.all p=true) (h0:p .nils=true) (hx:x.cells.all p=true):(((emD f L N).set i x).flatMap D.cells).all p=true:=all_emD h h0 hx
@[simp] theorem cells_sl (l:List D):(D.sl l).cells=[.sl l]:=rfl
@[simp] theorem cells_own (i n:Nat):(D.own i n).cells=[.own i n]:=rfl
def rowB:Option Value→TypeId→Nat→List D→Blk
 | none,e,k,xs=>.vec e k xs false
 | some v,e,k,xs=>.lrow v e k xs
def retI1(j:Nat)(v:Value)(e:TypeId)(k:Nat)(ys:List D)(r:D)(H:Nat→Option Blk):Option (List D)→Prop
 | some rs=>match purDs H rs with
  | some (rs',ep)=>mkRes rs'=r∧appEff H ep j=some (.lrow v e k ys)
  | none=>False
 | none=>False
def retI (P:Program)(fn:Func)(v:Value)(e:TypeId)(k:Nat)(ys:List D)(r:D):BPost:=fun x S=>match x with
 | .exit _=>False
 | .goto _=>False
 | _=>∃ j,retI1 j v e k ys r S.heap (resD P S fn.results.toList)
section
variable {P:Program}{I:World→Prop}
theorem BRep.rowB{C:Cx}{w:World}{i:Nat}{pn:Option Value}{e:TypeId}{k:Nat}{xs:List D}(h:BRep C w 0 i (rowB pn e k xs)):BRep C w 0 i (.vec e k xs false):=by
 cases pn with
 | none=>exact h
 | some v=>exact h.2
theorem CallOK.inrow(hstab:Stab I){f:FuncId}{fn:Func}{c:Code}{i0:Nat}{pn:Option Value}{e:TypeId}{k:Nat}{xs ys:List D}{ds0 ds:List D}{H:Nat→Option Blk}{nid:Nat}{r:D}
  (hf:P.funcs[f]? = some fn) (hb:fn.body=some c) (hnm:fn.name ≠ "runtime.NumGoroutine") (hn:ds0.length≤fn.ntmps) (hok:codeOk fn.ntmps c=true)
  (hds:ds0.map (D.ren (rnR [i0]))=ds) (hdo:ds0.all (D.idOk (rnR [i0]) 1)=true)
  (hb0:H i0=some (rowB pn e k xs))
  (h:∀ v:Value,runB P I c ⟨argL ds0,heapL [(0,.lrow v e k xs)],1,fn.ntmps⟩ [] (retI P fn v e k ys r)):CallOK P I f ds H nid r [(i0,some (rowB pn e k ys))]:=by
 refine⟨by simp[enterable,hf,hb,hnm],fun iw w C B args hI hbl hM hH hF hbase hnid hal hrep=>?_⟩
 refine calls_of_wp hf hb ?_
 subst hds
 obtain⟨hl0,hB0⟩:=hH.rep i0 _ hb0
 let M':Nat→Prop:=fun g=>blockOf (C.σ i0)=some g∨w.heap.size≤g
 let C0:Cx:=C.ren (rnR [i0]) 1
 let B':Bx:=⟨M',fun p=>C0.σ p⟩
 have hM'M:∀ g,M' g→B.M g:=by
  rintro g (hg|hg)
  ·exact hH.own _ _ hb0 g hg
  ·exact hbase g hg
 let G:Gh:=⟨iw,w,C.F,B',fun g hg=>hM g (hM'M g hg),hbl⟩
 have hσ0:C0.σ 0=C.σ i0:=by simp[C0,Cx.ren,rnR]
 have hget:∀ id b,heapL [(0,Blk.lrow (C.σ i0) e k xs)] id=some b→id=0∧b=.lrow (C.σ i0) e k xs:=by
  intro id b hb'
  simp only[heapL,look] at hb'
  split at hb'
  ·rename_i hid;exact⟨hid,by injection hb' with hb';exact hb'.symm⟩
  ·cases hb'
 have hheap0:HOK C0 w B' (heapL [(0,Blk.lrow (C.σ i0) e k xs)]):=by
  refine⟨fun id b hb'=>?_,fun id b hb' g hg=>?_,fun id kk cs hb'=>?_,fun id id' b b' hb' hb'' hne2 g hg hg'=>?_⟩
  ·obtain⟨rfl,rfl⟩:=hget id b hb'
   refine⟨⟨Nat.zero_lt_one,hl0⟩,hσ0,?_⟩
   have:=hB0.rowB
   simp only[BRep] at this ⊢
   rw[hσ0]
   exact this
  ·obtain⟨rfl,rfl⟩:=hget id b hb'
   rw[hσ0] at hg
   exact .inl hg
  ·obtain⟨_,h3⟩:=hget id _ hb'
   cases h3
  ·obtain⟨rfl,_⟩:=hget id b hb'
   obtain⟨rfl,_⟩:=hget id' b' hb''
   exact absurd rfl hne2
 have hR:Rel I G (fun id=>id < 1) ⟨argL ds0,heapL [(0,.lrow (C.σ i0) e k xs)],1,fn.ntmps⟩ C0 { tmps:=args.toArray++Array.replicate (fn.ntmps - args.toArray.size) Go.undef,defers:=[] } w:=by
  refine⟨⟨fun t=>?_,hheap0,hF,fun g hg=>.inr hg⟩,hI,BelM.refl _ _,fun b o h=>.inl h,⟨fun _ _ h=>h,fun _ _ _=>rfl,fun _ h=>h.elim,fun _ h=>h.elim⟩,rfl,?_,fun id h=>h.1⟩
  ·simp only[argL_getD]
   by_cases ht:t < ds0.length
   ·rw[show ds0.getD t .any=ds0[t] by simp[List.getD,ht]]
    have ha:t < args.length:=by simpa[hal] using ht
    have:(args.toArray++Array.replicate (fn.ntmps - args.toArray.size) Go.undef).getD t Go.undef=args[t]:=by
     simp[Array.getD_eq_getD_getElem?,Array.getElem?_append,ha]
    rw[this]
    have:=hrep t _ (ds0[t].ren (rnR [i0])) (List.getElem?_eq_getElem ha) (by simp[ht])
    exact this.ren (List.all_eq_true.1 hdo _ (List.getElem_mem ht))
   ·rw[show ds0.getD t .any=.any by simp[List.getD,ht]]
    exact .any _
  ·simp only[List.length_map] at hal
   simp;omega
 refine wp_mono (bwp_sound hstab c _ _ G _ _ w hok (by have h:=h (C.σ i0);unfold runB goB at h;exact h) hR) ?_
 rintro ex a' w' ⟨S',C',hnt,hR',hq⟩
 have fin:(∃ j,retI1 j (C.σ i0) e k ys r S'.heap (resD P S' fn.results.toList))→a'.defers=[]∧∃ v,(results fn a'.tmps).run P w'=.ok v w'∧∃ v' C2,Ending.returned v=.returned v'∧BelM B.M w w'∧Ext C w C2 w'∧Rep w' C2 v' r∧HOK C2 w' B (appEff H [(i0,some (Go.Proofs.YtejeinnfompgpaaGreatDoor.rowB pn e k ys))])∧FB C2 w'∧(∀ id,C2.live id→C.live id∨id=nid)∧∀ b o,C2.F b o→C.F b o∨B.M b:=by
  rintro⟨j,hp⟩
  refine⟨hR'.defers,?_⟩
  cases h1:resD P S' fn.results.toList with
  | none=>rw[h1] at hp;exact hp.elim
  | some rs =>
  rw[h1] at hp
  obtain⟨vs,hr,hl,hv⟩:=resD_run (P:=P) (G:=G) hR'.ok _ _ h1
  have hrun:(results fn a'.tmps).run P w'=.ok (if h:vs.toArray.size=1 then vs.toArray[0] else .tuple vs.toArray) w':=by
   rw[results_eq,Array.mapM_eq_mapM_toList]
   simp only[Sem.run_bind,Sem.run_map,hr]
   rfl
  refine⟨_,hrun,?_⟩
  simp only[retI1] at hp
  cases h2:purDs S'.heap rs with
  | none=>rw[h2] at hp;exact hp.elim
  | some p =>
  obtain⟨rs',ep⟩:=p
  rw[h2] at hp
  obtain⟨h3,hj⟩:=hp
  obtain⟨C1,hP,hl',hv'⟩:=purDs_sound (w:=w') (B:=B') rs vs C' S'.heap rs' ep hR'.ok.heap hR'.ok.fb hl hv h2
  obtain⟨hjl,hjσ,hjb⟩:=hP.ok.rep j _ hj
  let C2:Cx:=⟨C1.F,C.σ,C.live⟩
  have he:Ext C w C2 w':=⟨fun b o h=>hP.ext.F _ _ (hR'.ext.F _ _ h),fun b o h=>hR'.ext.blk b o h,fun _ h=>h,fun _ _=>rfl⟩
  have hnew:∀ b o,C1.F b o→C.F b o∨M' b:=fun b o hbo=>(hP.new b o hbo).elim (hR'.new b o) .inr
  have hcase:∀ id b,appEff H [(i0,some (Go.Proofs.YtejeinnfompgpaaGreatDoor.rowB pn e k ys))] id=some b→(id=i0∧b=Go.Proofs.YtejeinnfompgpaaGreatDoor.rowB pn e k ys)∨(id≠i0∧H id=some b):=by
   intro id b hb'
   simp only[appEff,upd] at hb'
   split at hb'
   ·rename_i hid;injection hb' with hb';exact .inl ⟨hid,hb'.symm⟩
   ·rename_i hid;exact .inr ⟨hid,hb'⟩
  refine⟨_,C2,rfl,hR'.below.mono (fun k' _ hk'=>hM'M k' hk'),he,?_,?_,hP.fb,fun id hid=>.inl hid,fun b o hbo=>(hnew b o hbo).imp id (hM'M b)⟩
  ·rw[← h3]
   exact mkRes_rep hl' (fun i v d hi hd=>(hv' i v d hi hd).1.ext (C':=C2) ⟨fun _ _ h=>h,fun _ _ _=>rfl,fun _ h=>h.elim,fun _ h=>h.elim⟩)
  ·have hvec:BRep C2 w' 0 i0 (.vec e k ys false):=by
    simp only[BRep] at hjb ⊢
    rw[hjσ] at hjb
    exact hjb
   refine⟨fun id b hb'=>?_,fun id b hb' g hg=>?_,fun id kk cs hb'=>?_,fun id id' b b' hb' hb'' hne2 g hg hg'=>?_⟩
   ·rcases hcase id b hb' with⟨rfl,rfl⟩|⟨hid,h4⟩
    ·refine⟨hl0,?_⟩
     cases pn with
     | none=>exact hvec
     | some u=>exact⟨hB0.1,hvec⟩
    ·obtain⟨k1,k2⟩:=hH.rep id b h4
     refine⟨k1,k2.keep k1 he (fun g hg=>?_) (fun g o hg hgo=>?_)⟩
     ·refine hR'.below.block g (k2.lt g hg).2 ?_
      rintro(hg2|hge)
      ·exact hH.apart id i0 _ _ h4 hb0 hid g hg hg2
      ·have:=(k2.lt g hg).2;omega
     ·rcases hnew g o hgo with h6|hg2|hge
      ·exact h6
      ·exact absurd hg2 (hH.apart id i0 _ _ h4 hb0 hid g hg)
      ·have:=(k2.lt g hg).2;omega
   ·rcases hcase id b hb' with⟨rfl,rfl⟩|⟨hid,h4⟩
    ·exact hH.own _ _ hb0 g hg
    ·exact hH.own _ _ h4 g hg
   ·rcases hcase id _ hb' with⟨rfl,h4⟩|⟨hid,h4⟩
    ·cases pn<;>cases h4
    ·exact hH.pin id kk cs h4
   ·have hx:∀ id b,appEff H [(i0,some (Go.Proofs.YtejeinnfompgpaaGreatDoor.rowB pn e k ys))] id=some b→∃ b',H id=some b':=by
     intro id b hb'
     rcases hcase id b hb' with⟨rfl,_⟩|⟨_,h4⟩
     ·exact⟨_,hb0⟩
     ·exact⟨_,h4⟩
    obtain⟨b1,e1⟩:=hx id b hb'
    obtain⟨b2,e2⟩:=hx id' b' hb''
    exact hH.apart _ _ _ _ e1 e2 hne2 g hg hg'
 cases ex with
 | normal=>exact fin hq
 | ret=>exact fin hq
 | exit id=>exact hq.elim
 | goto l=>exact hq.elim
 | panic ch=>exact hq.elim
 | outgrown=>exact hq.elim
end
section
variable {w:World}{C:Cx}{B:Bx}{H:Nat→Option Blk}{j nid:Nat}
def keep1(j nid:Nat)(H:Nat→Option Blk):D→Option (D × Eff)
 | .own id n=>if id=j then some (.own nid n,[]) else pur1 H (.own id n)
 | d=>pur1 H d
def keepL(j nid:Nat)(H:Nat→Option Blk):List D→Option (List D × Eff)
 | []=>some ([],[])
 | d::ds=>match keep1 j nid H d with
  | some (d',e)=>match keepL j nid (appEff H e) ds with
   | some (ds',e')=>some (d'::ds',e++e')
   | none=>none
  | none=>none
def keepD(j nid:Nat)(H:Nat→Option Blk):D→Option (D × Eff)
 | .agg ds=>match keepL j nid H ds with
  | some (ds',e)=>some (.agg ds',e)
  | none=>none
 | d=>keep1 j nid H d
def keepDs(j nid:Nat)(H:Nat→Option Blk):List D→Option (List D × Eff)
 | []=>some ([],[])
 | d::ds=>match keepD j nid H d with
  | some (d',e)=>match keepDs j nid (appEff H e) ds with
   | some (ds',e')=>some (d'::ds',e++e')
   | none=>none
  | none=>none
def RepK (j nid:Nat)(C:Cx)(w:World)(v:Value)(d:D):Prop:=∀ C2:Cx,(∀ b o,C.F b o→C2.F b o)→C2.live nid→C2.σ nid=C.σ j→Rep w C2 v d
theorem RepK.pub{C':Cx}{H':Nat→Option Blk}{v:Value}{d:D}(h:RepK j nid C w v d)(p:Pub C w B H C' H'):RepK j nid C' w v d :=
 fun C2 h1 h2 h3=>h C2 (fun b o hb=>h1 b o (p.ext.F b o hb)) h2 (h3.trans (by rw[p.σ]))
theorem keep1_sound{d d':D}{ep:Eff}{v:Value}(hH:HOK C w B H)(hF:FB C w)(h:keep1 j nid H d=some (d',ep))(hv:Rep w C v d):∃ C',Pub C w B H C' (appEff H ep)∧RepK j nid C' w v d':=by
 have pure:∀ e:D,pur1 H e=some (d',ep)→Rep w C v e→∃ C',Pub C w B H C' (appEff H ep)∧RepK j nid C' w v d':=by
  intro e he hr
  obtain⟨C',p1,p2,_⟩:=pur1_sound hH hF he hr
  exact⟨C',p1,fun C2 h1 _ _=>p2.ext ⟨h1,fun _ _ _=>rfl,fun _ h=>h.elim,fun _ h=>h.elim⟩⟩
 unfold keep1 at h
 split at h
 ·rename_i id n
  split at h
  ·rename_i hid
   subst hid
   simp at h
   obtain⟨rfl,rfl⟩:=h
   refine⟨C,Pub.refl hH hF,fun C2 _ h2 h3=>?_⟩
   cases hv with
   | own _ _ c A hl hm hs=>exact .own nid n c A h2 hm (h3.trans hs)
  ·exact pure _ h hv
 ·exact pure _ h hv
theorem keepL_sound:∀ (ds:List D) (vs:List Value) (C:Cx) (H:Nat→Option Blk) (ds':List D) (ep:Eff),HOK C w B H→FB C w→vs.length=ds.length→(∀ (i:Nat) v d,vs[i]? = some v→ds[i]? = some d→Rep w C v d)→keepL j nid H ds=some (ds',ep) →
  ∃ C',Pub C w B H C' (appEff H ep)∧vs.length=ds'.length∧∀ (i:Nat) v d,vs[i]? = some v→ds'[i]? = some d→RepK j nid C' w v d:=by
 intro ds
 induction ds with
 | nil =>
  intro vs C H ds' ep hH hF hl _ h
  simp[keepL] at h
  obtain⟨rfl,rfl⟩:=h
  exact⟨C,Pub.refl hH hF,hl,by simp⟩
 | cons d ds ih =>
  intro vs C H ds' ep hH hF hl hR h
  cases vs with
  | nil=>simp at hl
  | cons v vs =>
   simp only[keepL] at h
   cases h1:keep1 j nid H d with
   | none=>rw[h1] at h;simp at h
   | some p =>
    obtain⟨d',e1⟩:=p
    rw[h1] at h
    simp only at h
    cases h2:keepL j nid (appEff H e1) ds with
    | none=>rw[h2] at h;simp at h
    | some q =>
     obtain⟨ds'',e2⟩:=q
     rw[h2] at h
     simp at h
     obtain⟨rfl,rfl⟩:=h
     obtain⟨C1,p1,p2⟩:=keep1_sound hH hF h1 (hR 0 v d rfl rfl)
     obtain⟨C2,p3,p4,p5⟩:=ih vs C1 _ _ _ p1.ok p1.fb (by simpa using hl) (fun i u x hu hx=>(hR (i+1) u x (by simpa using hu) (by simpa using hx)).ext p1.ext) h2
     rw[appEff_append]
     refine⟨C2,p1.trans p3,by simpa using p4,fun i u x hu hx=>?_⟩
     cases i with
     | zero=>simp at hu hx;subst hu hx;exact p2.pub p3
     | succ i=>exact p5 i u x (by simpa using hu) (by simpa using hx)
theorem keepD_sound{d d':D}{ep:Eff}{v:Value}(hH:HOK C w B H)(hF:FB C w)(h:keepD j nid H d=some (d',ep))(hv:Rep w C v d):∃ C',Pub C w B H C' (appEff H ep)∧RepK j nid C' w v d':=by
 unfold keepD at h
 split at h
 ·rename_i ds
  cases h1:keepL j nid H ds with
  | none=>rw[h1] at h;simp at h
  | some p =>
   obtain⟨ds',e1⟩:=p
   rw[h1] at h
   simp at h
   obtain⟨rfl,rfl⟩:=h
   cases hv with
   | agg vs _ hl h1' hr =>
    obtain⟨C',p1,p2,p3⟩:=keepL_sound ds vs C H ds' e1 hH hF hl hr h1
    exact⟨C',p1,fun C2 a b c=>.agg vs ds' p2 h1' fun i u x hu hx=>p3 i u x hu hx C2 a b c⟩
 ·exact keep1_sound hH hF h hv
theorem keepDs_sound:∀ (ds:List D) (vs:List Value) (C:Cx) (H:Nat→Option Blk) (ds':List D) (ep:Eff),HOK C w B H→FB C w→vs.length=ds.length→(∀ (i:Nat) v d,vs[i]? = some v→ds[i]? = some d→Rep w C v d)→keepDs j nid H ds=some (ds',ep) →
  ∃ C',Pub C w B H C' (appEff H ep)∧vs.length=ds'.length∧∀ (i:Nat) v d,vs[i]? = some v→ds'[i]? = some d→RepK j nid C' w v d:=by
 intro ds
 induction ds with
 | nil =>
  intro vs C H ds' ep hH hF hl _ h
  simp[keepDs] at h
  obtain⟨rfl,rfl⟩:=h
  exact⟨C,Pub.refl hH hF,hl,by simp⟩
 | cons d ds ih =>
  intro vs C H ds' ep hH hF hl hR h
  cases vs with
  | nil=>simp at hl
  | cons v vs =>
   simp only[keepDs] at h
   cases h1:keepD j nid H d with
   | none=>rw[h1] at h;simp at h
   | some p =>
    obtain⟨d',e1⟩:=p
    rw[h1] at h
    simp only at h
    cases h2:keepDs j nid (appEff H e1) ds with
    | none=>rw[h2] at h;simp at h
    | some q =>
     obtain⟨ds'',e2⟩:=q
     rw[h2] at h
     simp at h
     obtain⟨rfl,rfl⟩:=h
     obtain⟨C1,p1,p2⟩:=keepD_sound hH hF h1 (hR 0 v d rfl rfl)
     obtain⟨C2,p3,p4,p5⟩:=ih vs C1 _ _ _ p1.ok p1.fb (by simpa using hl) (fun i u x hu hx=>(hR (i+1) u x (by simpa using hu) (by simpa using hx)).ext p1.ext) h2
     rw[appEff_append]
     refine⟨C2,p1.trans p3,by simpa using p4,fun i u x hu hx=>?_⟩
     cases i with
     | zero=>simp at hu hx;subst hu hx;exact p2.pub p3
     | succ i=>exact p5 i u x (by simpa using hu) (by simpa using hx)
end
def retO1(j nid:Nat)(e:TypeId)(k:Nat)(ys:List D)(r:D)(H:Nat→Option Blk):Option (List D)→Prop
 | some rs=>match keepDs j nid H rs with
  | some (rs',ep)=>mkRes rs'=r∧appEff H ep j=some (.vec e k ys false)
  | none=>False
 | none=>False
def retO (P:Program)(fn:Func)(nid:Nat)(e:TypeId)(k:Nat)(ys:List D)(r:D):BPost:=fun x S=>match x with
 | .exit _=>False
 | .goto _=>False
 | _=>∃ j,retO1 j nid e k ys r S.heap (resD P S fn.results.toList)
section
variable {P:Program}{I:World→Prop}
theorem CallOK.own(hstab:Stab I){f:FuncId}{fn:Func}{c:Code}{e:TypeId}{k:Nat}{ys:List D}{ds:List D}{H:Nat→Option Blk}{nid:Nat}{r:D}
  (hf:P.funcs[f]? = some fn) (hb:fn.body=some c) (hnm:fn.name ≠ "runtime.NumGoroutine") (hn:ds.length≤fn.ntmps) (hok:codeOk fn.ntmps c=true)
  (hds:ds.map (D.ren (rnR []))=ds) (hdo:ds.all (D.idOk (rnR []) 0)=true)
  (h:runB P I c ⟨argL ds,heapL [],0,fn.ntmps⟩ [] (retO P fn nid e k ys r)):CallOK P I f ds H nid r [(nid,some (.vec e k ys false))]:=by
 refine⟨by simp[enterable,hf,hb,hnm],fun iw w C B args hI hbl hM hH hF hbase hnid hal hrep=>?_⟩
 refine calls_of_wp hf hb ?_
 let M':Nat→Prop:=fun g=>w.heap.size≤g
 let C0:Cx:=C.ren (rnR []) 0
 let B':Bx:=⟨M',fun p=>C0.σ p⟩
 have hM'M:∀ g,M' g→B.M g:=fun g hg=>hbase g hg
 let G:Gh:=⟨iw,w,C.F,B',fun g hg=>hM g (hM'M g hg),hbl⟩
 have hheap0:HOK C0 w B' (heapL []):=⟨fun id b h=>by simp[heapL,look] at h,fun id b h=>by simp[heapL,look] at h,fun id k cs h=>by simp[heapL,look] at h,fun id id' b b' h=>by simp[heapL,look] at h⟩
 have hR:Rel I G (fun id=>id < 0) ⟨argL ds,heapL [],0,fn.ntmps⟩ C0 { tmps:=args.toArray++Array.replicate (fn.ntmps - args.toArray.size) Go.undef,defers:=[] } w:=by
  refine⟨⟨fun t=>?_,hheap0,hF,fun g hg=>hg⟩,hI,BelM.refl _ _,fun b o h=>.inl h,⟨fun _ _ h=>h,fun _ _ _=>rfl,fun _ h=>h.elim,fun _ h=>h.elim⟩,rfl,?_,fun id h=>h.1⟩
  ·simp only[argL_getD]
   by_cases ht:t < ds.length
   ·rw[show ds.getD t .any=ds[t] by simp[List.getD,ht]]
    have ha:t < args.length:=by simpa[hal] using ht
    have:(args.toArray++Array.replicate (fn.ntmps - args.toArray.size) Go.undef).getD t Go.undef=args[t]:=by
     simp[Array.getD_eq_getD_getElem?,Array.getElem?_append,ha]
    rw[this]
    have hdt:ds[t].ren (rnR [])=ds[t]:=by
     have h1:=congrArg (fun l=>l[t]?) hds
     simp only[List.getElem?_map,List.getElem?_eq_getElem ht,Option.map_some,Option.some.injEq] at h1
     exact h1
    have:=hrep t _ (ds[t].ren (rnR [])) (List.getElem?_eq_getElem ha) (by rw[hdt];simp[ht])
    exact this.ren (List.all_eq_true.1 hdo _ (List.getElem_mem ht))
   ·rw[show ds.getD t .any=.any by simp[List.getD,ht]]
    exact .any _
  ·simp;omega
 refine wp_mono (bwp_sound hstab c _ _ G _ _ w hok (by unfold runB goB at h;exact h) hR) ?_
 rintro ex a' w' ⟨S',C',hnt,hR',hq⟩
 have fin:(∃ j,retO1 j nid e k ys r S'.heap (resD P S' fn.results.toList))→a'.defers=[]∧∃ v,(results fn a'.tmps).run P w'=.ok v w'∧∃ v' C2,Ending.returned v=.returned v'∧BelM B.M w w'∧Ext C w C2 w'∧Rep w' C2 v' r∧HOK C2 w' B (appEff H [(nid,some (.vec e k ys false))])∧FB C2 w'∧(∀ id,C2.live id→C.live id∨id=nid)∧∀ b o,C2.F b o→C.F b o∨B.M b:=by
  rintro⟨j,hp⟩
  refine⟨hR'.defers,?_⟩
  cases h1:resD P S' fn.results.toList with
  | none=>rw[h1] at hp;exact hp.elim
  | some rs =>
  rw[h1] at hp
  obtain⟨vs,hr,hl,hv⟩:=resD_run (P:=P) (G:=G) hR'.ok _ _ h1
  have hrun:(results fn a'.tmps).run P w'=.ok (if h:vs.toArray.size=1 then vs.toArray[0] else .tuple vs.toArray) w':=by
   rw[results_eq,Array.mapM_eq_mapM_toList]
   simp only[Sem.run_bind,Sem.run_map,hr]
   rfl
  refine⟨_,hrun,?_⟩
  simp only[retO1] at hp
  cases h2:keepDs j nid S'.heap rs with
  | none=>rw[h2] at hp;exact hp.elim
  | some p =>
  obtain⟨rs',ep⟩:=p
  rw[h2] at hp
  obtain⟨h3,hj⟩:=hp
  obtain⟨C1,hP,hl',hv'⟩:=keepDs_sound (w:=w') (B:=B') (j:=j) (nid:=nid) rs vs C' S'.heap rs' ep hR'.ok.heap hR'.ok.fb hl hv h2
  obtain⟨hjl,hjb⟩:=hP.ok.rep j _ hj
  let C2:Cx:=⟨C1.F,fun id=>if id=nid then C1.σ j else C.σ id,fun id=>C.live id∨id=nid⟩
  have hσ2:∀ id,C.live id→C2.σ id=C.σ id:=fun id hid=>by
   have:id≠nid:=fun e=>hnid (e ▸ hid)
   simp only[C2,if_neg this]
  have hσn:C2.σ nid=C1.σ j:=by simp only[C2,if_true]
  have he:Ext C w C2 w':=⟨fun b o h=>hP.ext.F _ _ (hR'.ext.F _ _ h),fun b o h=>hR'.ext.blk b o h,fun _ h=>.inl h,hσ2⟩
  have hnew:∀ b o,C1.F b o→C.F b o∨M' b:=fun b o hbo=>(hP.new b o hbo).elim (hR'.new b o) .inr
  have hnoid:H nid=none:=by
   cases hn2:H nid with
   | none=>rfl
   | some b=>exact absurd (hH.rep _ _ hn2).1 hnid
  have hcase:∀ id b,appEff H [(nid,some (Blk.vec e k ys false))] id=some b→(id=nid∧b=.vec e k ys false)∨(id≠nid∧H id=some b):=by
   intro id b hb'
   simp only[appEff,upd] at hb'
   split at hb'
   ·rename_i hid;injection hb' with hb';exact .inl ⟨hid,hb'.symm⟩
   ·rename_i hid;exact .inr ⟨hid,hb'⟩
  have hge:∀ g,blockOf (C1.σ j)=some g→w.heap.size≤g:=fun g hg=>hP.ok.own j _ hj g hg
  refine⟨_,C2,rfl,hR'.below.mono (fun k' _ hk'=>hM'M k' hk'),he,?_,?_,hP.fb,fun id hid=>hid,fun b o hbo=>(hnew b o hbo).imp id (hM'M b)⟩
  ·rw[← h3]
   exact mkRes_rep hl' (fun i v d hi hd=>hv' i v d hi hd C2 (fun _ _ h=>h) (.inr rfl) hσn)
  ·refine⟨fun id b hb'=>?_,fun id b hb' g hg=>?_,fun id kk cs hb'=>?_,fun id id' b b' hb' hb'' hne2 g hg hg'=>?_⟩
   ·rcases hcase id b hb' with⟨rfl,rfl⟩|⟨hid,h4⟩
    ·refine⟨.inr rfl,?_⟩
     simp only[BRep] at hjb ⊢
     rw[hσn]
     exact hjb
    ·obtain⟨k1,k2⟩:=hH.rep id b h4
     refine⟨.inl k1,k2.keep k1 he (fun g hg=>?_) (fun g o hg hgo=>?_)⟩
     ·refine hR'.below.block g (k2.lt g hg).2 ?_
      intro hge2
      have:=(k2.lt g hg).2
      exact absurd hge2 (by omega)
     ·rcases hnew g o hgo with h6|hge2
      ·exact h6
      ·have:=(k2.lt g hg).2
       exact absurd hge2 (by omega)
   ·rcases hcase id b hb' with⟨rfl,rfl⟩|⟨hid,h4⟩
    ·rw[hσn] at hg;exact hM'M g (hge g hg)
    ·rw[hσ2 id (hH.rep _ _ h4).1] at hg
     exact hH.own _ _ h4 g hg
   ·rcases hcase id _ hb' with⟨_,h4⟩|⟨hid,h4⟩
    ·cases h4
    ·rw[hσ2 id (hH.rep _ _ h4).1]
     exact hH.pin id kk cs h4
   ·rcases hcase id b hb' with⟨rfl,rfl⟩|⟨hid,h4⟩
    ·rw[hσn] at hg
     have h5:=hge g hg
     rcases hcase id' b' hb'' with⟨rfl,rfl⟩|⟨hid',h4'⟩
     ·exact hne2 rfl
     ·rw[hσ2 id' (hH.rep _ _ h4').1] at hg'
      have:=((hH.rep _ _ h4').2.lt g hg').2
      omega
    ·rw[hσ2 id (hH.rep _ _ h4).1] at hg
     rcases hcase id' b' hb'' with⟨rfl,rfl⟩|⟨hid',h4'⟩
     ·rw[hσn] at hg'
      have h5:=hge g hg'
      have:=((hH.rep _ _ h4).2.lt g hg).2
      omega
     ·rw[hσ2 id' (hH.rep _ _ h4').1] at hg'
      exact hH.apart _ _ _ _ h4 h4' hne2 g hg hg'
 cases ex with
 | normal=>exact fin hq
 | ret=>exact fin hq
 | exit id=>exact hq.elim
 | goto l=>exact hq.elim
 | panic ch=>exact hq.elim
 | outgrown=>exact hq.elim
end
def pureC:D→Bool
 | .int _ _|.bool _|.str _|.sl _|.nilp|.nils|.err _|.iptr _|.mp _ _ _|.fsl _=>true
 | .fn _ cs=>cs.all isI
 | _=>false
theorem Rep.pureC{w:World}{C:Cx}{v:Value}{x:D}(h:Rep w C v x)(hp:pureC x=true):Rep w (cF C.F) v x:=by
 cases x with
 | sl xs=>exact h.slF
 | nils=>cases h;exact .nils
 | int k n=>cases h;exact .int _ _ (by assumption)
 | bool b=>cases h;exact .bool _
 | str s=>cases h;exact .str _ (by assumption)
 | nilp=>cases h;exact .nilp
 | err b =>
  cases h with
  | err0=>exact .err0
  | err1 u v=>exact .err1 u v
 | iptr ds=>exact h.iptrF
 | mp k ks vs=>exact h.mpF
 | fsl xs =>
  cases h with
  | fsl A _ hr=>exact .fsl A _ hr.slF
 | fn f cs =>
  cases h with
  | fn _ vs _ hl hr =>
   refine .fn f vs _ hl fun i u y hu hy=>?_
   have hI:=List.all_eq_true.1 hp y (List.mem_of_getElem? hy)
   have hyr:=hr i u y hu hy
   cases y with
   | iptr ds=>exact hyr.iptrF
   | _=>simp[isI] at hI
 | _=>simp[Go.Proofs.YtejeinnfompgpaaGreatDoor.pureC] at hp
def D.frz1(id:Nat)(cs:List D):D→D
 | .ptr i off=>if i=id then .iptr (cs.drop off) else .ptr i off
 | d=>d
def D.frz(id:Nat)(cs:List D):D→D
 | .fn f ds=>.fn f (ds.map (D.frz1 id cs))
 | d=>d.frz1 id cs
def Blk.frz(id:Nat)(cs:List D):Blk→Blk
 | .box pn ds=>.box pn (ds.map (D.frz1 id cs))
 | b=>b
theorem Wk.freeze{S:AS}{id:Nat}{cs:List D}(h1:S.heap id=some (.box none cs))(hp:cs.all pureC=true) :
  Wk S ⟨fun t=>(S.env t).frz id cs,fun j=>if j=id then none else(S.heap j).map (Blk.frz id cs),S.next,S.nt⟩:=by
 refine⟨rfl,fun I G C a w hR=>?_⟩
 have hH:=hR.ok.heap
 obtain⟨hl,g,t,vs,q1,q2,q3,q4,q5⟩:=hH.rep id _ h1
 have hsz:vs.toList.length=cs.length:=q4.len
 let C':Cx:=⟨fun b o=>C.F b o∨(b=g∧o < cs.length),C.σ,C.live⟩
 have ee:Ext C w C' w:=⟨fun _ _ h=>.inl h,fun _ _ _=>rfl,fun _ h=>h,fun _ _=>rfl⟩
 have f1:∀ (v:Value) (d:D),Rep w C v d→Rep w C' v (d.frz1 id cs):=by
  intro v d hv
  cases d with
  | ptr i off =>
   simp only[D.frz1]
   split
   ·rename_i hi
    subst hi
    cases hv with
    | ptr _ _ g' hl' hs =>
     rw[q1] at hs
     injection hs with hs;injection hs with hs;injection hs with hs
     subst hs
     refine .iptr g off _ (vs.toList.drop off) (by simp[hsz]) (fun u hu=>q4.one u (List.mem_of_mem_drop hu)) (fun i hi=>.inr ⟨rfl,?_⟩) (fun i u hu=>?_) (fun i u x hu hx=>?_)
     ·simp only[List.length_drop] at hi;omega
     ·rw[cell_of_row w g (off+i) vs t (0,0) q3];simpa using hu
     ·simp only[List.getElem?_drop] at hu hx
      exact((q4.rep (off+i) u x hu hx).pureC (List.all_eq_true.1 hp x (List.mem_of_getElem? hx))).ext ee.cF
   ·exact hv.ext ee
  | _=>exact hv.ext ee
 have f0:∀ (v:Value) (d:D),Rep w C v d→Rep w C' v (d.frz id cs):=by
  intro v d hv
  cases d with
  | fn f ds =>
   cases hv with
   | fn _ us _ hl' hr =>
    refine .fn f us _ (by simpa using hl') fun i u x hu hx=>?_
    simp only[List.getElem?_map] at hx
    cases hd:ds[i]? with
    | none=>rw[hd] at hx;cases hx
    | some y=>rw[hd] at hx;injection hx with hx;subst hx;exact f1 u y (hr i u y hu hd)
  | _=>exact f1 v _ hv
 have hget:∀ j b,(if j=id then none else(S.heap j).map (Blk.frz id cs))=some b→j≠id∧∃ b0,S.heap j=some b0∧b=b0.frz id cs:=by
  intro j b h
  split at h
  ·cases h
  ·rename_i hj
   cases hb:S.heap j with
   | none=>rw[hb] at h;cases h
   | some b0=>rw[hb] at h;injection h with h;exact⟨hj,b0,rfl,h.symm⟩
 have hbo:blockOf (C.σ id)=some g:=by rw[q1];rfl
 have hok:HOK C' w G.B (fun j=>if j=id then none else(S.heap j).map (Blk.frz id cs)):=by
  refine⟨fun j b h=>?_,fun j b h g' hg=>?_,fun j k ds h=>?_,fun j j' b1 b2 h1' h2' hne g' hg hg'=>?_⟩
  ·obtain⟨hj,b0,hb0,rfl⟩:=hget j b h
   obtain⟨k1,k2⟩:=hH.rep j b0 hb0
   have hkeep:BRep C' w 0 j b0:=k2.keep k1 ee (fun _ _=>rfl) (fun g' o hg' ho=>by
    rcases ho with ho|⟨rfl,_⟩
    ·exact ho
    ·exact absurd hbo (hH.apart j id b0 _ hb0 h1 hj _ hg'))
   refine⟨k1,?_⟩
   cases b0 with
   | box pn ds =>
    obtain⟨_,_,_,z1,z2,z3,z4,z5⟩:=hkeep
    obtain⟨g2,t2,vs2,r1,r2,r3,r4,r5⟩:=k2
    refine⟨g2,t2,vs2,r1,r2,r3,⟨by simpa using r4.len,r4.one,fun i u x hu hx=>?_⟩,?_⟩
    ·simp only[List.getElem?_map] at hx
     cases hd:ds[i]? with
     | none=>rw[hd] at hx;cases hx
     | some y=>rw[hd] at hx;injection hx with hx;subst hx;exact f1 u y (r4.rep i u y hu hd)
    ·have:∀ {x y:Nat},C'.σ j=.pointer (some ⟨x,0,none⟩)→C.σ j=.pointer (some ⟨y,0,none⟩)→x=y:=by
      intro x y hx hy
      have hx':C.σ j=.pointer (some ⟨x,0,none⟩):=hx
      rw[hy] at hx'
      injection hx' with hx';injection hx' with hx';injection hx' with hx'
      exact hx'.symm
     have:=this z1 r1
     subst this
     exact z5
   | _=>exact hkeep
  ·obtain⟨hj,b0,hb0,rfl⟩:=hget j b h
   exact hH.own j b0 hb0 g' hg
  ·obtain⟨hj,b0,hb0,h3⟩:=hget j _ h
   cases b0 with
   | box pn ds0 =>
    simp only[Blk.frz,Blk.box.injEq] at h3
    obtain⟨rfl,_⟩:=h3
    exact hH.pin j k ds0 hb0
   | _=>simp[Blk.frz] at h3
  ·obtain⟨hj,b0,hb0,rfl⟩:=hget j b1 h1'
   obtain⟨hj',b0',hb0',rfl⟩:=hget j' b2 h2'
   exact hH.apart j j' b0 b0' hb0 hb0' hne g' hg hg'
 refine⟨C',⟨⟨fun t=>f0 _ _ (hR.ok.env t),hok,fun b o h=>?_,hR.ok.base⟩,hR.inv,hR.below,fun b o h=>?_,hR.ext.trans ee,hR.defers,hR.size,hR.live⟩⟩
 ·rcases h with h|⟨rfl,_⟩
  ·exact hR.ok.fb b o h
  ·exact(Array.getElem?_eq_some_iff.1 q3).1
 ·rcases h with h|⟨rfl,_⟩
  ·exact hR.new b o h
  ·exact .inr (hH.own id _ h1 _ hbo)
theorem fzs:type_of% (And.intro @D.frz.eq_1<|And.intro @D.frz.eq_2<|And.intro @D.frz1.eq_1<|And.intro @D.frz1.eq_2<|And.intro @Blk.frz.eq_1<|And.intro @Blk.frz.eq_2<|And.intro @isI.eq_1<|And.intro @Option.map_some.{0,0} @Option.map_none.{0,0}):=And.intro @D.frz.eq_1<|And.intro @D.frz.eq_2<|And.intro @D.frz1.eq_1<|And.intro @D.frz1.eq_2<|And.intro @Blk.frz.eq_1<|And.intro @Blk.frz.eq_2<|And.intro @isI.eq_1<|And.intro @Option.map_some.{0,0} @Option.map_none.{0,0}
theorem wkF{S:AS}{l:List (Nat × D)}{h:List (Nat × Blk)}{n:Nat}(r:List (Nat × Option Nat))(he:wkEnv S (ro r) n l:=by first|(simp -implicitDefEqProofs [kv,km,fzs,ro,dd,k];done)|(simp -implicitDefEqProofs [kv,km,fzs,ro,dd,k,Nat.add_assoc];done)|(simp -implicitDefEqProofs [kv,km,fzs,ro,dd,k];omega))(hh:wkHeap S (ro r) n h:=by first|(simp -implicitDefEqProofs [kv,km,fzs,ro,dd,k];done)|(simp -implicitDefEqProofs [kv,km,fzs,ro,dd,k,Nat.add_assoc];done)|(simp -implicitDefEqProofs [kv,km,fzs,ro,dd,k];omega)):Wk S ⟨envL l,heapL h,n,S.nt⟩:=Wk.of (ro r) l h n he hh
section
variable {P:Program}{I:World→Prop}{S:AS}{k:List Kont}{Q:BPost}
theorem eWk{y:Code}(S':AS)(hw:Wk S S')(h:runB P I y S' k Q):extB P I .normal S (.seq y::k) Q:=by
 unfold extB goB;unfold runB at h;exact⟨S',hw,h⟩
end
theorem ko:type_of% (And.intro @keep1.eq_1<|And.intro @keep1.eq_2<|And.intro @keepL.eq_1<|And.intro @keepL.eq_2<|And.intro @keepD.eq_1<|And.intro @keepD.eq_2<|And.intro @keepDs.eq_1<|And.intro @keepDs.eq_2<|And.intro @retO1.eq_1<|And.intro @retI1.eq_1<|And.intro @ite_true.{1} @ite_false.{1}):=And.intro @keep1.eq_1<|And.intro @keep1.eq_2<|And.intro @keepL.eq_1<|And.intro @keepL.eq_2<|And.intro @keepD.eq_1<|And.intro @keepD.eq_2<|And.intro @keepDs.eq_1<|And.intro @keepDs.eq_2<|And.intro @retO1.eq_1<|And.intro @retI1.eq_1<|And.intro @ite_true.{1} @ite_false.{1}
section
variable {P:Program}{fn:Func}{S:AS}{x:AExit}{v:Value}{nid:Nat}{e:TypeId}{k0:Nat}{ys:List D}{r:D}
theorem fI(j:Nat)(h:retI1 j v e k0 ys r S.heap (resD P S fn.results.toList):=by simp -implicitDefEqProofs only[vt,vm,om,ko,↓atI_fold,forall_const,implies_true,false_implies,sevalprocAttr,rs,dd,k,q]<;>first|rfl|exact⟨rfl,rfl⟩|(refine⟨?_,?_⟩<;>first|rfl|(simp[List.map_append,dd];done)|(simp[List.map_append,dd,k];done))|(simp[List.map_append,dd];done)|(simp[List.map_append,dd,k];done))(hx:x=.ret∨x=.normal:=by first|exact .inl rfl|exact .inr rfl):retI P fn v e k0 ys r x S:=by
 rcases hx with rfl|rfl<;>exact⟨j,h⟩
theorem fO(j:Nat)(h:retO1 j nid e k0 ys r S.heap (resD P S fn.results.toList):=by simp -implicitDefEqProofs only[vt,vm,om,ko,↓atI_fold,forall_const,implies_true,false_implies,sevalprocAttr,rs,dd,k,q]<;>first|rfl|exact⟨rfl,rfl⟩|(refine⟨?_,?_⟩<;>first|rfl|(simp[List.map_append,dd];done)|(simp[List.map_append,dd,k];done))|(simp[List.map_append,dd];done)|(simp[List.map_append,dd,k];done))(hx:x=.ret∨x=.normal:=by first|exact .inl rfl|exact .inr rfl):retO P fn nid e k0 ys r x S:=by
 rcases hx with rfl|rfl<;>exact⟨j,h⟩
end
end Go.Proofs.YtejeinnfompgpaaGreatDoor
