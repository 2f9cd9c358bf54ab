/- Texts of one proof, put together (FwFz). No condition but those that each theorem states. -/
import Derived.Test.YtobglplholhkcaaGreatDoorS2
set_option linter.unusedSimpArgs false
set_option linter.unusedVariables false
namespace Go.Proofs.YtobglplholhkcaaGreatDoor
open Go.RowKit
def pureC:D->Bool
 | .int _ _|.bool _|.str _|.sl _|.nilp|.nils|.err _|.iptr _|.mp _ _ _|.fsl _=>true
 | .fn _ cs=>cs.all isI
 | _=>false
theorem Rep.pureC{w:World}{C:Cx}{v:Value}{x:D}(h:Rep w C v x)(hp:pureC x=true):Rep w (cF C.F) v x:=by
 cases x with
 | sl xs=>exact h.slF
 | nils=>cases h;exact .nils
 | int k n=>cases h;exact .int _ _ (by assumption)
 | bool b=>cases h;exact .bool _
 | str s=>cases h;exact .str _ (by assumption)
 | nilp=>cases h;exact .nilp
 | err b =>
  cases h with
  | err0=>exact .err0
  | err1 u v=>exact .err1 u v
 | iptr ds=>exact h.iptrF
 | mp k ks vs=>exact h.mpF
 | fsl xs =>
  cases h with
  | fsl A _ hr=>exact .fsl A _ hr.slF
 | fn f cs =>
  cases h with
  | fn _ vs _ hl hr =>
   refine .fn f vs _ hl fun i u y hu hy=>?_
   have hI:=List.all_eq_true.1 hp y (List.mem_of_getElem? hy)
   have hyr:=hr i u y hu hy
   cases y with
   | iptr ds=>exact hyr.iptrF
   | _=>simp[isI] at hI
 | _=>simp[Go.Proofs.YtobglplholhkcaaGreatDoor.pureC] at hp
def D.frz1(id:Nat)(cs:List D):D->D
 | .ptr i off=>if i=id then .iptr (cs.drop off) else .ptr i off
 | d=>d
def D.frz(id:Nat)(cs:List D):D->D
 | .fn f ds=>.fn f (ds.map (D.frz1 id cs))
 | d=>d.frz1 id cs
def Blk.frz(id:Nat)(cs:List D):Blk->Blk
 | .box pn ds=>.box pn (ds.map (D.frz1 id cs))
 | b=>b
theorem Wk.freeze{S:AS}{id:Nat}{cs:List D}(h1:S.heap id=some (.box none cs))(hp:cs.all pureC=true) :
  Wk S ⟨fun t=>(S.env t).frz id cs,fun j=>if j=id then none else(S.heap j).map (Blk.frz id cs),S.next,S.nt⟩:=by
 refine⟨rfl,fun I G C a w hR=>?_⟩
 have hH:=hR.ok.heap
 obtain⟨hl,g,t,vs,q1,q2,q3,q4,q5⟩:=hH.rep id _ h1
 have hsz:vs.toList.length=cs.length:=q4.len
 let C':Cx:=⟨fun b o=>C.F b o\/(b=g/\o < cs.length),C.σ,C.live⟩
 have ee:Ext C w C' w:=⟨fun _ _ h=>.inl h,fun _ _ _=>rfl,fun _ h=>h,fun _ _=>rfl⟩
 have f1:∀ (v:Value) (d:D),Rep w C v d->Rep w C' v (d.frz1 id cs):=by
  intro v d hv
  cases d with
  | ptr i off =>
   simp only[D.frz1]
   split
   ·rename_i hi
    subst hi
    cases hv with
    | ptr _ _ g' hl' hs =>
     rw[q1] at hs
     injection hs with hs;injection hs with hs;injection hs with hs
     subst hs
     refine .iptr g off _ (vs.toList.drop off) (by simp[hsz]) (fun u hu=>q4.one u (List.mem_of_mem_drop hu)) (fun i hi=>.inr ⟨rfl,?_⟩) (fun i u hu=>?_) (fun i u x hu hx=>?_)
     ·simp only[List.length_drop] at hi;omega
     ·rw[cell_of_row w g (off+i) vs t (0,0) q3];simpa using hu
     ·simp only[List.getElem?_drop] at hu hx
      exact((q4.rep (off+i) u x hu hx).pureC (List.all_eq_true.1 hp x (List.mem_of_getElem? hx))).ext ee.cF
   ·exact hv.ext ee
  | _=>exact hv.ext ee
 have f0:∀ (v:Value) (d:D),Rep w C v d->Rep w C' v (d.frz id cs):=by
  intro v d hv
  cases d with
  | fn f ds =>
   cases hv with
   | fn _ us _ hl' hr =>
    refine .fn f us _ (by simpa using hl') fun i u x hu hx=>?_
    simp only[List.getElem?_map] at hx
    cases hd:ds[i]? with
    | none=>rw[hd] at hx;cases hx
    | some y=>rw[hd] at hx;injection hx with hx;subst hx;exact f1 u y (hr i u y hu hd)
  | _=>exact f1 v _ hv
 have hget:∀ j b,(if j=id then none else(S.heap j).map (Blk.frz id cs))=some b->j≠id/\∃ b0,S.heap j=some b0/\b=b0.frz id cs:=by
  intro j b h
  split at h
  ·cases h
  ·rename_i hj
   cases hb:S.heap j with
   | none=>rw[hb] at h;cases h
   | some b0=>rw[hb] at h;injection h with h;exact⟨hj,b0,rfl,h.symm⟩
 have hbo:Zj (C.σ id)=some g:=by rw[q1];rfl
 have hok:HOK C' w G.B (fun j=>if j=id then none else(S.heap j).map (Blk.frz id cs)):=by
  refine⟨fun j b h=>?_,fun j b h g' hg=>?_,fun j k ds h=>?_,fun j j' b1 b2 h1' h2' hne g' hg hg'=>?_⟩
  ·obtain⟨hj,b0,hb0,rfl⟩:=hget j b h
   obtain⟨k1,k2⟩:=hH.rep j b0 hb0
   have hkeep:BRep C' w 0 j b0:=k2.keep k1 ee (fun _ _=>rfl) (fun g' o hg' ho=>by
    rcases ho with ho|⟨rfl,_⟩
    ·exact ho
    ·exact absurd hbo (hH.apart j id b0 _ hb0 h1 hj _ hg'))
   refine⟨k1,?_⟩
   cases b0 with
   | box pn ds =>
    obtain⟨_,_,_,z1,z2,z3,z4,z5⟩:=hkeep
    obtain⟨g2,t2,vs2,r1,r2,r3,r4,r5⟩:=k2
    refine⟨g2,t2,vs2,r1,r2,r3,⟨by simpa using r4.len,r4.one,fun i u x hu hx=>?_⟩,?_⟩
    ·simp only[List.getElem?_map] at hx
     cases hd:ds[i]? with
     | none=>rw[hd] at hx;cases hx
     | some y=>rw[hd] at hx;injection hx with hx;subst hx;exact f1 u y (r4.rep i u y hu hd)
    ·have:∀ {x y:Nat},C'.σ j=.pointer (some ⟨x,0,none⟩)->C.σ j=.pointer (some ⟨y,0,none⟩)->x=y:=by
      intro x y hx hy
      have hx':C.σ j=.pointer (some ⟨x,0,none⟩):=hx
      rw[hy] at hx'
      injection hx' with hx';injection hx' with hx';injection hx' with hx'
      exact hx'.symm
     have:=this z1 r1
     subst this
     exact z5
   | _=>exact hkeep
  ·obtain⟨hj,b0,hb0,rfl⟩:=hget j b h
   exact hH.own j b0 hb0 g' hg
  ·obtain⟨hj,b0,hb0,h3⟩:=hget j _ h
   cases b0 with
   | box pn ds0 =>
    simp only[Blk.frz,Blk.box.injEq] at h3
    obtain⟨rfl,_⟩:=h3
    exact hH.pin j k ds0 hb0
   | _=>simp[Blk.frz] at h3
  ·obtain⟨hj,b0,hb0,rfl⟩:=hget j b1 h1'
   obtain⟨hj',b0',hb0',rfl⟩:=hget j' b2 h2'
   exact hH.apart j j' b0 b0' hb0 hb0' hne g' hg hg'
 refine⟨C',⟨⟨fun t=>f0 _ _ (hR.ok.env t),hok,fun b o h=>?_,hR.ok.base⟩,hR.inv,hR.below,fun b o h=>?_,hR.ext.trans ee,hR.defers,hR.size,hR.live⟩⟩
 ·rcases h with h|⟨rfl,_⟩
  ·exact hR.ok.fb b o h
  ·exact(Array.getElem?_eq_some_iff.1 q3).1
 ·rcases h with h|⟨rfl,_⟩
  ·exact hR.new b o h
  ·exact .inr (hH.own id _ h1 _ hbo)
theorem fzs:type_of% (And.intro @D.frz.eq_1<|And.intro @D.frz.eq_2<|And.intro @D.frz1.eq_1<|And.intro @D.frz1.eq_2<|And.intro @Blk.frz.eq_1<|And.intro @Blk.frz.eq_2<|And.intro @isI.eq_1<|And.intro @Option.map_some.{0,0} @Option.map_none.{0,0}):=And.intro @D.frz.eq_1<|And.intro @D.frz.eq_2<|And.intro @D.frz1.eq_1<|And.intro @D.frz1.eq_2<|And.intro @Blk.frz.eq_1<|And.intro @Blk.frz.eq_2<|And.intro @isI.eq_1<|And.intro @Option.map_some.{0,0} @Option.map_none.{0,0}
theorem wkF{S:AS}{l:List (Nat × D)}{h:List (Nat × Blk)}{n:Nat}(r:List (Nat × Option Nat))(he:Z7k S (ro r) n l:=by first|(simp -implicitDefEqProofs [kv,km,fzs,ro,dd,k];done)|(simp -implicitDefEqProofs [kv,km,fzs,ro,dd,k,Nat.add_assoc];done)|(simp -implicitDefEqProofs [kv,km,fzs,ro,dd,k];omega))(hh:Z60 S (ro r) n h:=by first|(simp -implicitDefEqProofs [kv,km,fzs,ro,dd,k];done)|(simp -implicitDefEqProofs [kv,km,fzs,ro,dd,k,Nat.add_assoc];done)|(simp -implicitDefEqProofs [kv,km,fzs,ro,dd,k];omega)):Wk S ⟨envL l,Z5 h,n,S.nt⟩:=Wk.of (ro r) l h n he hh
section
variable {P:Program}{I:World->Prop}{S:AS}{k:List Kont}{Q:ZL}
theorem eWk{y:Code}(S':AS)(hw:Wk S S')(h:runB P I y S' k Q):extB P I .normal S (.seq y::k) Q:=by
 unfold extB goB;unfold runB at h;exact⟨S',hw,h⟩
end
theorem ko:type_of% (And.intro @Z7e.eq_1<|And.intro @Z7e.eq_2<|And.intro @Z6w.eq_1<|And.intro @Z6w.eq_2<|And.intro @Z7T.eq_1<|And.intro @Z7T.eq_2<|And.intro @Z5G.eq_1<|And.intro @Z5G.eq_2<|And.intro @Z9O.eq_1<|And.intro @Z9N.eq_1<|And.intro @ite_true.{1} @ite_false.{1}):=And.intro @Z7e.eq_1<|And.intro @Z7e.eq_2<|And.intro @Z6w.eq_1<|And.intro @Z6w.eq_2<|And.intro @Z7T.eq_1<|And.intro @Z7T.eq_2<|And.intro @Z5G.eq_1<|And.intro @Z5G.eq_2<|And.intro @Z9O.eq_1<|And.intro @Z9N.eq_1<|And.intro @ite_true.{1} @ite_false.{1}
section
variable {P:Program}{fn:Func}{S:AS}{x:Z4t}{v:Value}{nid:Nat}{e:TypeId}{k0:Nat}{ys:List D}{r:D}
theorem fI(j:Nat)(h:Z9N j v e k0 ys r S.heap (resD P S fn.results.toList):=by simp -implicitDefEqProofs only[vt,vm,om,ko,↓Z2n,forall_const,implies_true,false_implies,sevalprocAttr,rs,dd,k,q]<;>first|rfl|exact⟨rfl,rfl⟩|(refine⟨?_,?_⟩<;>first|rfl|(simp[List.map_append,dd];done)|(simp[List.map_append,dd,k];done))|(simp[List.map_append,dd];done)|(simp[List.map_append,dd,k];done))(hx:x=.ret\/x=.normal:=by first|exact .inl rfl|exact .inr rfl):retI P fn v e k0 ys r x S:=by
 rcases hx with rfl|rfl<;>exact⟨j,h⟩
theorem fO(j:Nat)(h:Z9O j nid e k0 ys r S.heap (resD P S fn.results.toList):=by simp -implicitDefEqProofs only[vt,vm,om,ko,↓Z2n,forall_const,implies_true,false_implies,sevalprocAttr,rs,dd,k,q]<;>first|rfl|exact⟨rfl,rfl⟩|(refine⟨?_,?_⟩<;>first|rfl|(simp[List.map_append,dd];done)|(simp[List.map_append,dd,k];done))|(simp[List.map_append,dd];done)|(simp[List.map_append,dd,k];done))(hx:x=.ret\/x=.normal:=by first|exact .inl rfl|exact .inr rfl):retO P fn nid e k0 ys r x S:=by
 rcases hx with rfl|rfl<;>exact⟨j,h⟩
end
end Go.Proofs.YtobglplholhkcaaGreatDoor
