/- Texts of one proof, put together (V28, EL, V29, EM, V35, LP, Opn, OpnB). No condition but those that each theorem states. -/
import Derived.Test.YtobglplholhkcaaGreatDoorS6
import Derived.ProofKit
import Derived.OpenShut
import Derived.Deep.DeepHandedRow
import Derived.Lib.SmallJoins
import Derived.Deep.Slices
import Derived.Deep.Fields
import Derived.Test.YtobglplholhkcaaGreatDoorRows
set_option linter.unusedSimpArgs false
set_option linter.unusedVariables false
namespace Go.Proofs.YtobglplholhkcaaGreatDoor
set_option maxRecDepth 100000
set_option maxHeartbeats 10000000
theorem Zkh(a b c d:UInt8)(t y:List UInt8):decL (a::b::c::d::t++y)=decL (a::b::c::d::t):=by
 simp[decL]
theorem ZhL:∀ (l y:List UInt8),(decL l).1≠65533->decL (l++y)=decL l/\(decL l).2<=l.length
 | [],y,h=>absurd rfl h
 | [a],y,h=>by
  have ha:a.toNat < 128:=by
   rcases Nat.lt_or_ge a.toNat 128 with q|q
   ·exact q
   ·exfalso;apply h
    have:¬ a.toNat < 128:=by omega
    simp[decL,this]
  simp[decL,ha]
 | [a,b],y,h=>by
  by_cases ha:a.toNat < 128
  ·simp[decL,ha]
  ·by_cases h1:(a.toNat / 32 == 6&&b.toNat / 64 == 2)=true
   ·have h1':=h1
    simp only[Bool.and_eq_true,beq_iff_eq] at h1'
    simp only[decL,ha,List.cons_append,List.nil_append,List.getElem?_cons_zero,List.getD_cons_zero,h1,if_true,if_false,List.length_cons,List.length_nil]
    split<;>simp
   ·exfalso;apply h
    have h1:(a.toNat / 32 == 6&&b.toNat / 64 == 2)=false:=by simpa using h1
    simp[decL,ha,h1]
 | [a,b,c],y,h=>by
  by_cases ha:a.toNat < 128
  ·simp[decL,ha]
  ·by_cases h1:(a.toNat / 32 == 6&&b.toNat / 64 == 2)=true
   ·simp only[decL,ha,List.cons_append,List.nil_append,List.getElem?_cons_zero,List.getD_cons_zero,h1,if_true,if_false,List.length_cons,List.length_nil]
    split<;>simp
   ·by_cases h2:(a.toNat / 16 == 14&&b.toNat / 64 == 2&&c.toNat / 64 == 2)=true
    ·simp only[decL,ha,List.cons_append,List.nil_append,List.getElem?_cons_zero,List.getElem?_cons_succ,List.getD_cons_zero,List.getD_cons_succ,h1,h2,if_true,if_false,List.length_cons,List.length_nil,Bool.false_eq_true]
     split<;>simp
    ·exfalso;apply h
     simp only[decL,ha,List.getElem?_cons_zero,List.getElem?_cons_succ,List.getElem?_nil,h1,h2,if_false,Bool.and_false,Bool.false_eq_true]
 | a::b::c::d::t,y,h=>by
  refine⟨Zkh a b c d t y,?_⟩
  simp only[decL,List.length_cons]
  repeat' split
  all_goals omega
theorem ixv_bad':ixv 65533=-1:=by unfold ixv;rw[Zfd];rfl
theorem Zkq{l:List UInt8}(h:l≠[])(hg:gv l=true):(decL l).1≠65533/\gv (l.drop (decL l).2)=true:=by
 rw[Z9I h] at hg;simp only[Bool.and_eq_true,decide_eq_true_eq] at hg;refine⟨fun e=>?_,hg.2⟩;have:=hg.1;rw[e] at this;have e2:((65533:Nat):Int)=65533:=rfl;rw[e2,ixv_bad'] at this;omega
theorem ZjK:∀ (n:Nat) (l y:List UInt8),l.length<=n->gv l=true->rnL (l++y)=rnL l++rnL y/\gv (l++y)=gv y:=by
 intro n
 induction n with
 | zero =>
  intro l y h _
  have:l=[]:=List.eq_nil_of_length_eq_zero (by omega)
  subst this
  simp[Z6H]
 | succ n ih =>
  intro l y h hg
  by_cases hl:l=[]
  ·subst hl;simp[Z6H]
  ·obtain⟨h1,h2⟩:=Zkq hl hg
   obtain⟨a1,a2⟩:=ZhL l y h1
   have hw:=Z6C hl
   have hpos:=List.length_pos_iff.2 hl
   have hne:l++y≠[]:=by simp[hl]
   obtain⟨b1,b2⟩:=ih (l.drop (decL l).2) y (by simp;omega) h2
   have hdrop:(l++y).drop (decL l).2=l.drop (decL l).2++y:=List.drop_append_of_le_length a2
   refine⟨?_,?_⟩
   ·rw[Z9v hne,Z9v hl,a1,hdrop,b1];rfl
   ·rw[Z9I hne,a1,hdrop,b2]
    rw[Z9I hl] at hg
    simp only[Bool.and_eq_true] at hg
    rw[hg.1];simp
theorem Zfb:∀ (l:List (List UInt8)),(∀ s ∈ l,gv s=true)->gv l.flatten=true
 | [],_=>ZgJ
 | s::t,h=>by
  rw[List.flatten_cons,(ZjK s.length s _ (Nat.le_refl _) (h s (by simp))).2]
  exact Zfb t fun u hu=>h u (by simp[hu])
theorem Zhb(s:List UInt8)(hs:s.length<=16777216):Z28 s=some (rnL s):=by
 unfold Z28
 have key:iter (Z2p s) ([],0)=some (rnL s):=by
  refine Z0T (fun x e=>x.1.length<=x.2/\x.1.length<=16777216/\e=x.1++rnL (s.drop x.2)) (fun x=>s.length - x.2) ?_ (x:=([],0)) ⟨Nat.le_refl _,by simp,by simp⟩ (by show s.length - 0 < _;omega)
  rintro⟨o,p⟩ e ⟨h1,h2,rfl⟩
  dsimp only at h1 h2 ⊢
  unfold Z2p
  dsimp only
  by_cases h:p < s.length
  ·left
   have hw:1<=Z0q s p:=Z6Y h
   refine⟨(o++[Z0F s p],p+Z0q s p),?_,⟨?_,?_,?_⟩,?_⟩
   ·rw[if_pos (by simpa using h),if_pos (by omega)]
   ·simp;omega
   ·simp;omega
   ·dsimp only
    rw[Z9u h,List.append_assoc];rfl
   ·dsimp only;omega
  ·right
   rw[if_neg (by simpa using h),Z7m (by omega)]
   simp
 rw[key];rfl
theorem Zgn(s:List UInt8)(hs:s.length<=16777216)(hg:gv s=true):Z26 s=some (rnL s):=by
 unfold Z26;rw[Z3K s (by omega),hg];simp only[Option.bind_some,if_true];rw[Zhb s hs];rfl
theorem ZkV(r:Z6)(h:RowZ r)(h0:Z0J r=some 0):∀ u ∈ r.Runs,gv u.Text=true:=by
 unfold Z0J at h0
 split at h0
 ·cases h0
 ·rename_i h16
  obtain⟨e,he,hp⟩:=Z4q (step:=Z0D r) r.Runs.length (by simp at h16;omega) (fun i=>∀ j (hj:j < r.Runs.length),j < i->gv r.Runs[j].Text=true) (fun e=>(∃ v,e=.inl v/\v≠0)\/∀ j (hj:j < r.Runs.length),gv r.Runs[j].Text=true) (fun j _ h=>by omega) (fun i hi hI=>by
   have hz:=h _ (List.getElem_mem hi)
   have hpre:i<=16:=by simp at h16;omega
   unfold Z0D
   rw[if_pos (by simpa using hi),Zc hi,wr64 (x:=(i:Int)+1) (by omega)]
   simp only[Option.bind_some]
   rw[Z0K _ (by omega),Z0K _ (by omega)]
   simp only[Option.bind_some,Z42]
   cases hg:gv r.Runs[i].Text with
   | false=>exact .inr ⟨_,rfl,.inl ⟨10,rfl,by decide⟩⟩
   | true =>
    have next:∀ j (hj:j < r.Runs.length),j < i+1->gv r.Runs[j].Text=true:=fun j hj hji=>by
     rcases Nat.lt_succ_iff_lt_or_eq.1 hji with q|rfl
     ·exact hI j hj q
     ·exact hg
    simp only[if_true]
    split
    ·exact .inr ⟨_,rfl,.inl ⟨4,rfl,by decide⟩⟩
    ·split
     ·split
      ·by_cases q:0 < (i:Int)
       ·rw[if_pos (by simpa using q),wr64 (by omega),show((i:Int) - 1)=((i - 1:Nat):Int) by omega,Zc (show i - 1 < r.Runs.length by omega)]
        simp only[Option.bind_some]
        obtain⟨v,hv⟩:=ZbX (r.Runs[i - 1]'(by omega)) r.Runs[i]
        rw[hv]
        simp only[Option.bind_some]
        split
        ·exact .inr ⟨_,rfl,.inl ⟨8,rfl,by decide⟩⟩
        ·exact .inl ⟨rfl,next⟩
       ·rw[if_neg (by simpa using q)]
        exact .inl ⟨rfl,next⟩
      ·exact .inr ⟨_,rfl,.inl ⟨10,rfl,by decide⟩⟩
     ·exact .inr ⟨_,rfl,.inl ⟨12,rfl,by decide⟩⟩) (fun hI=>⟨.inr (),by unfold Z0D;rw[if_neg (by simp)],.inr fun j hj=>hI j hj hj⟩)
  rw[he] at h0
  rcases hp with⟨v,rfl,hv⟩|hall
  ·simp only[Option.bind_some,Option.some.injEq] at h0;exact absurd h0 hv
  ·intro u hu
   obtain⟨j,hj,rfl⟩:=List.getElem_of_mem hu
   exact hall j hj
theorem Zjl(e:Z0)(h:EvZ e)(l:List Z3)(hc:Z0c e l=some 0):∀ r ∈ e.Rows,Z0J r=some 0:=by
 have hr:∀ r ∈ e.Rows,erR r=0:=by
  unfold Z0c at hc
  rw[Zck e h] at hc
  have key:∀ (L:List Z6),(∃ v,runF (fun(_:Unit) y=>if erR y≠0 then .inl (.inl (erR y)) else .inr ()) (fun _=>(.inr ():Int ⊕ Unit)) () L=.inl v/\v≠0)\/((∃ u,runF (fun(_:Unit) y=>if erR y≠0 then .inl (.inl (erR y)) else .inr ()) (fun _=>(.inr ():Int ⊕ Unit)) () L=.inr u)/\∀ r ∈ L,erR r=0):=by
   intro L
   induction L with
   | nil=>exact .inr ⟨⟨(),rfl⟩,by simp⟩
   | cons y t ih =>
    simp only[runF]
    by_cases q:erR y=0
    ·simp only[q,ne_eq,not_true,if_false]
     rcases ih with ih|⟨ih,ih2⟩
     ·exact .inl ih
     ·exact .inr ⟨ih,fun r hr=>by rcases List.mem_cons.1 hr with rfl|hr;exact q;exact ih2 r hr⟩
    ·simp only[q,ne_eq,not_false_eq_true,if_true]
     exact .inl ⟨_,rfl,q⟩
  rcases key e.Rows with⟨v,hv,hv0⟩|⟨_,h2⟩
  ·exfalso
   rw[hv] at hc
   cases hf:Z2c l e.Region with
   | none=>rw[hf] at hc;simp at hc
   | some f =>
    rw[hf] at hc
    simp only[Option.bind_some] at hc
    revert hc
    generalize (if decide (e.ID < 1)=true then some true else if decide (1099511627776 < e.ID)=true then some true else(Z30 e.Span).bind fun r69=>some !r69:Option Bool)=o1
    cases o1 with
    | none=>intro hc;cases hc
    | some b1 =>
     simp only[Option.bind_some]
     cases b1 with
     | true=>intro hc;cases hc
     | false =>
      simp only[Bool.false_eq_true,if_false]
      cases f.2 with
      | false=>intro hc;cases hc
      | true =>
       simp only[if_true]
       cases Z18 e.Kind with
       | none=>intro hc;cases hc
       | some kn =>
        simp only[Option.bind_some]
        split
        ·intro hc;cases hc
        ·generalize (if(e.Speaker == ([]:List UInt8))=true then some false else(Z0N e.Speaker).bind fun r94=>some !r94:Option Bool)=o2
         cases o2 with
         | none=>intro hc;cases hc
         | some b2 =>
          simp only[Option.bind_some]
          cases b2 with
          | true=>intro hc;cases hc
          | false =>
           simp only[Bool.false_eq_true,if_false]
           generalize (if((e.Rows.length:Int) == 0)=true then some true else some (decide (4 < (e.Rows.length:Int))):Option Bool)=o3
           cases o3 with
           | none=>intro hc;cases hc
           | some b3 =>
            simp only[Option.bind_some]
            cases b3 with
            | true=>intro hc;cases hc
            | false =>
             simp only[Bool.false_eq_true,if_false,Option.some.injEq]
             intro hc
             exact hv0 hc
  ·exact h2
 intro r hm
 obtain⟨v,h1,h2,_⟩:=Zdw r (h.2 r hm).1 (h.2 r hm).2
 rw[hr r hm] at h2
 by_cases q:v=0
 ·rw[h1,q]
 ·rw[if_pos q] at h2;exact absurd h2.symm q
def cntN:List Int->Int
 | []=>0
 | x::t=>(if x≠32 then 1 else 0)+cntN t
theorem Zks(s:List UInt8)(hs:s.length<=16777216)(c:Int):iter (Z1o s) (IntKind.i64.wrap c,0)=some (IntKind.i64.wrap (c+cntN (rnL s))):=by
 refine Z0T (fun x e=>∃ c',x.1=IntKind.i64.wrap c'/\e=IntKind.i64.wrap (c'+cntN (rnL (s.drop x.2)))) (fun x=>s.length - x.2) ?_ (x:=(IntKind.i64.wrap c,0)) ⟨c,rfl,by simp⟩ (by dsimp only;omega);rintro⟨x,p⟩ e ⟨c',h1,rfl⟩;dsimp only at h1 ⊢;subst h1;unfold Z1o;dsimp only;by_cases h:p < s.length
 ·left;have hw:=Z6Y h;rw[if_pos (by simpa using h),Z9u h];by_cases q:Z0F s p=32
  ·rw[if_neg (by simpa using q)];exact⟨_,rfl,⟨c',rfl,by simp[cntN,q]⟩,by dsimp only;omega⟩
  rw[if_pos (by simpa using q),wadd];exact⟨_,rfl,⟨c'+1,rfl,by simp[cntN,q,Int.add_assoc]⟩,by dsimp only;omega⟩
 right;rw[if_neg (by simpa using h),Z7m (by omega)];simp[cntN]
theorem Zkf(l:List Int)(hl:l.length<=16777216)(c:Int):iter (Z4O l) (IntKind.i64.wrap c,0)=some (IntKind.i64.wrap (c+cntN l)):=by
 refine Z0T (fun x e=>∃ c',∃ i:Nat,x=(IntKind.i64.wrap c',(i:Int))/\i<=l.length/\e=IntKind.i64.wrap (c'+cntN (l.drop i))) (fun x=>l.length - x.2.toNat) ?_ (x:=(IntKind.i64.wrap c,0)) ⟨c,0,rfl,by omega,by simp⟩ (by dsimp only;omega);rintro x e ⟨c',i,rfl,hi,rfl⟩;unfold Z4O;dsimp only;by_cases h:i < l.length
 ·left;rw[if_pos (by simpa using h),Zc h,wr64 (x:=(i:Int)+1) (by omega),List.drop_eq_getElem_cons h];simp only[Option.bind_some];by_cases q:l[i]=32
  ·rw[if_neg (by simpa using q)];exact⟨_,rfl,⟨c',i+1,rfl,by omega,by simp[cntN,q]⟩,by dsimp only;omega⟩
  rw[if_pos (by simpa using q),wadd];exact⟨_,rfl,⟨c'+1,i+1,rfl,by omega,by simp[cntN,q,Int.add_assoc]⟩,by dsimp only;omega⟩
 right;rw[if_neg (by simpa using h),List.drop_eq_nil_of_le (by omega)];simp[cntN]
theorem w0:IntKind.i64.wrap 0=0:=by decide
theorem Zi4(e:Z0)(h:EvZ e)(hr:∀ r ∈ e.Rows,r.Runs.length<=16)(hs:∀ r ∈ e.Rows,Z0J r=some 0):Z57 e.Rows=some (letS e):=by
 have hn:=h.1
 have k1:=ZF (step:=Z11 e) e.Rows (by omega) (fun i (s:Int)=>(IntKind.i64.wrap s,i)) (fun s y=>.inr (s+cntN (rnL (plS y)))) (fun s=>IntKind.i64.wrap s) (fun _ _=>True) (s0:=0) trivial
  (fun i hi s _=>.inr ⟨_,rfl,by
   have hm:=List.getElem_mem hi
   have hz:=(h.2 _ hm).1
   unfold Z11
   dsimp only
   rw[if_pos (by simpa using hi),Zc hi,wr64 (x:=(i:Int)+1) (by omega)]
   simp only[Option.bind_some]
   rw[Z8u _ hz (hr _ hm)]
   simp only[Option.bind_some]
   rw[Zks _ (Z9M _ hz (hr _ hm))]
   rfl,trivial⟩)
  (fun s _=>by unfold Z11;dsimp only;rw[if_neg (by simp)])
 have k2:=ZF (step:=Z3A e.Rows) e.Rows (by omega) (fun i (s:Int)=>(IntKind.i64.wrap s,i)) (fun s y=>.inr (s+cntN (rnL (plS y)))) (fun s=>IntKind.i64.wrap s) (fun _ _=>True) (s0:=0) trivial
  (fun i hi s _=>.inr ⟨_,rfl,by
   have hm:=List.getElem_mem hi
   have hz:=(h.2 _ hm).1
   have hg:gv (plS e.Rows[i])=true:=by
    unfold plS
    refine Zfb _ fun s hs'=>?_
    obtain⟨u,hu,rfl⟩:=List.mem_map.1 hs'
    exact ZkV _ hz (hs _ hm) u hu
   have hpl:=Z9M _ hz (hr _ hm)
   unfold Z3A
   dsimp only
   rw[if_pos (by simpa using hi),Zc hi,wr64 (x:=(i:Int)+1) (by omega)]
   simp only[Option.bind_some]
   rw[Zcc _ hz (hr _ hm)]
   simp only[Option.bind_some]
   rw[Zgn _ hpl hg]
   simp only[Option.bind_some]
   rw[Zkf _ (by have:=ZbO _ _ (Nat.le_refl (plS e.Rows[i]).length);omega)]
   rfl,trivial⟩)
  (fun s _=>by unfold Z3A;dsimp only;rw[if_neg (by simp)])
 rw[w0] at k1 k2
 unfold letS Z1c Z57
 rw[k1,k2]
 rfl
end Go.Proofs.YtobglplholhkcaaGreatDoor

namespace Go.Proofs.YtobglplholhkcaaGreatDoor
set_option maxRecDepth 100000
theorem Zkp{f:Int}(h:0<=f/\f<=5184000):frB f=true:=by unfold frB;simp[h.1,h.2]
theorem refZ(l:List Int)(hl:l.length<=1000)(f:Int)(p:Z7)(h1:p.Name.length<=1048576)(h2:p.Forbidden.length<=1048576)(hc:ckS p=0)(hs:shC l=0)(hf:0<=f/\f<=5184000):Z4F l f p=some (zoS l f p):=by
 rw[Zir l hl f p (Zci p h1 h2),hc,hs,Zkp hf];simp
theorem Zkz(p:Z7)(l:List Int)(hl:l.length<=1000)(h1:p.Name.length<=1048576)(h2:p.Forbidden.length<=1048576)(hc:ckS p=0)(hs:shC l=0)(out0:List Z1)(i:Nat)(hi:i<=1000)(y:Z0)(hy:EvOK y)(out:List Z1)(ho:out.length<=900000) :
  iter (Z1i p l ((i:Int),out0) y) (0,out)=some (if(zoS l y.Span.In p).2≠0 then .inl (zoS l y.Span.In p).2 else if(zoS l y.Span.Out p).2≠0 then .inl (zoS l y.Span.Out p).2 else .inr (out++bsZ (2 * i+1) (zoS l y.Span.In p).1 y.ID++bsZ (2 * i+2) (zoS l y.Span.Out p).1 y.ID)):=by
 have hsp:=hy.span
 have hst:∀ (k:Nat) (f:Int) (s:List Z1),(k=0/\f=y.Span.In\/k=1/\f=y.Span.Out)->s.length<=999999->Z1i p l ((i:Int),out0) y ((k:Int),s)=if(zoS l f p).2≠0 then some (.out (.inl (zoS l f p).2)) else some (.go ((k:Int)+1,s++bsZ (2 * i+1+k) (zoS l f p).1 y.ID)):=by
  intro k f s hk hs'
  have hf:0<=f/\f<=5184000:=by rcases hk with⟨_,rfl⟩|⟨_,rfl⟩<;>omega
  have hsel:atI [y.Span.In,y.Span.Out] (k:Int)=some f:=by
   rcases hk with⟨rfl,rfl⟩|⟨rfl,rfl⟩<;>rfl
  unfold Z1i
  dsimp only
  rw[if_pos (by rw[decide_eq_true_eq];omega),hsel]
  simp only[Option.bind_some]
  rw[refZ l hl f p h1 h2 hc hs hf]
  simp only[Option.bind_some]
  by_cases q:(zoS l f p).2=0
  ·have hb:=Z8e l hl f p q
   have hcap:(s.length+2) * 48<=140737488355328:=by omega
   rw[if_neg (by rw[bne_iff_ne];exact fun h=>h q),if_pos hcap,if_neg (fun h=>h q)]
   rw[wr64 (x:=2 * (i:Int)) (by omega),wr64 (x:=2 * (i:Int)+1) (by omega),wr64 (x:=2 * (i:Int)+1+(k:Int)) (by omega),wr64 (x:=(zoS l f p).1.Out - 1) (by omega),wr64 (x:=(k:Int)+1) (by omega),wr64 (x:=0 - (zoS l f p).1.In) (by omega),Int.zero_sub]
   rfl
  ·rw[if_pos (by rw[bne_iff_ne];exact q),if_pos q]
 have hend:∀ s,Z1i p l ((i:Int),out0) y (2,s)=some (.out (.inr s)):=fun s=>by unfold Z1i;rw[if_neg (by simp)]
 refine Z0T (fun x e=>(x=(0,out)/\e=(if(zoS l y.Span.In p).2≠0 then .inl (zoS l y.Span.In p).2 else if(zoS l y.Span.Out p).2≠0 then .inl (zoS l y.Span.Out p).2 else .inr (out++bsZ (2 * i+1) (zoS l y.Span.In p).1 y.ID++bsZ (2 * i+2) (zoS l y.Span.Out p).1 y.ID)))\/(x=(1,out++bsZ (2 * i+1) (zoS l y.Span.In p).1 y.ID)/\e=(if(zoS l y.Span.Out p).2≠0 then .inl (zoS l y.Span.Out p).2 else .inr (out++bsZ (2 * i+1) (zoS l y.Span.In p).1 y.ID++bsZ (2 * i+2) (zoS l y.Span.Out p).1 y.ID)))\/(x=(2,out++bsZ (2 * i+1) (zoS l y.Span.In p).1 y.ID++bsZ (2 * i+2) (zoS l y.Span.Out p).1 y.ID)/\e=.inr (out++bsZ (2 * i+1) (zoS l y.Span.In p).1 y.ID++bsZ (2 * i+2) (zoS l y.Span.Out p).1 y.ID))) (fun x=>2 - x.1.toNat) ?_ (x:=(0,out)) (.inl ⟨rfl,rfl⟩) (by dsimp only;omega)
 rintro x e (⟨rfl,rfl⟩|⟨rfl,rfl⟩|⟨rfl,rfl⟩)
 ·have h:=hst 0 y.Span.In out (.inl ⟨rfl,rfl⟩) (by omega)
  rw[show(((0:Nat):Int),out)=((0:Int),out) from rfl] at h
  rw[h]
  by_cases q:(zoS l y.Span.In p).2=0
  ·rw[if_neg (fun h=>h q),if_neg (fun h=>h q)]
   exact .inl ⟨_,rfl,.inr (.inl ⟨by simp,rfl⟩),by simp⟩
  ·rw[if_pos q,if_pos q];exact .inr rfl
 ·have h:=hst 1 y.Span.Out (out++bsZ (2 * i+1) (zoS l y.Span.In p).1 y.ID) (.inr ⟨rfl,rfl⟩) (by simp[bsZ];omega)
  rw[show(((1:Nat):Int),out++bsZ (2 * i+1) (zoS l y.Span.In p).1 y.ID)=((1:Int),out++bsZ (2 * i+1) (zoS l y.Span.In p).1 y.ID) from rfl] at h
  rw[h]
  by_cases q:(zoS l y.Span.Out p).2=0
  ·rw[if_neg (fun h=>h q),if_neg (fun h=>h q)]
   exact .inl ⟨_,rfl,.inr (.inr ⟨by rw[show(2 * (i:Int)+1+((1:Nat):Int))=2 * (i:Int)+2 by omega];rfl,rfl⟩),by simp⟩
  ·rw[if_pos q,if_pos q];exact .inr rfl
 ·exact .inr (hend _)
theorem ZkA(tol:Int)(ht:0<=tol/\tol<=5184000)(out0:List Z1)(i:Nat)(hi:i<=1000)(y:Z0)(hy:EvOK y)(out:List Z1)(ho:out.length<=900000) :
  iter (Z1j tol ((i:Int),out0) y) (0,out)=some (out++bsT (2 * i+1) y.Span.In tol y.ID++bsT (2 * i+2) y.Span.Out tol y.ID):=by
 have hsp:=hy.span
 have hst:∀ (k:Nat) (f:Int) (s:List Z1),(k=0/\f=y.Span.In\/k=1/\f=y.Span.Out)->s.length<=999999->Z1j tol ((i:Int),out0) y ((k:Int),s)=some (.go ((k:Int)+1,s++bsT (2 * i+1+k) f tol y.ID)):=by
  intro k f s hk hs
  have hf:0<=f/\f<=5184000:=by rcases hk with⟨_,rfl⟩|⟨_,rfl⟩<;>omega
  have hsel:atI [y.Span.In,y.Span.Out] (k:Int)=some f:=by
   rcases hk with⟨rfl,rfl⟩|⟨rfl,rfl⟩<;>rfl
  unfold Z1j
  dsimp only
  rw[if_pos (by rw[decide_eq_true_eq];omega),hsel]
  simp only[Option.bind_some]
  rw[if_pos (by omega),wr64 (x:=tol - f) (by omega),wr64 (x:=f+tol) (by omega),wr64 (x:=2 * (i:Int)) (by omega),wr64 (x:=2 * (i:Int)+1) (by omega),wr64 (x:=2 * (i:Int)+1+(k:Int)) (by omega),wr64 (x:=(k:Int)+1) (by omega),show tol - f=-(f - tol) by omega]
  rfl
 have hend:∀ s,Z1j tol ((i:Int),out0) y (2,s)=some (.out s):=fun s=>by unfold Z1j;rw[if_neg (by simp)]
 refine Z0T (fun x e=>e=out++bsT (2 * i+1) y.Span.In tol y.ID++bsT (2 * i+2) y.Span.Out tol y.ID/\(x=(0,out)\/x=(1,out++bsT (2 * i+1) y.Span.In tol y.ID)\/x=(2,out++bsT (2 * i+1) y.Span.In tol y.ID++bsT (2 * i+2) y.Span.Out tol y.ID))) (fun x=>2 - x.1.toNat) ?_ (x:=(0,out)) ⟨rfl,.inl rfl⟩ (by dsimp only;omega)
 rintro x e ⟨rfl,rfl|rfl|rfl⟩
 ·have h:=hst 0 y.Span.In out (.inl ⟨rfl,rfl⟩) (by omega)
  exact .inl ⟨_,h,⟨rfl,.inr (.inl (by simp))⟩,by simp⟩
 ·have h:=hst 1 y.Span.Out (out++bsT (2 * i+1) y.Span.In tol y.ID) (.inr ⟨rfl,rfl⟩) (by simp[bsT];omega)
  exact .inl ⟨_,h,⟨rfl,.inr (.inr (by rw[show(2 * (i:Int)+1+((1:Nat):Int))=2 * (i:Int)+2 by omega];rfl))⟩,by simp⟩
 ·exact .inr (hend _)
theorem Ziq(d:Z2)(hd:DocZ d)(hD:Z8f d)(hc0:Zq d=some 0)(p:Z7)(h1:p.Name.length<=1048576)(h2:p.Forbidden.length<=1048576)(hc:ckS p=0)(l:List Int)(hl:l.length<=1000)(hs:shC l=0)(tol:Int)(ht:0<=tol/\tol<=5184000):iter (Z1h d p l tol) (0,[])=some (bnR d p l tol):=by
 have hn:=hD.num
 have hp:=Zbe hc
 have hlz:d.Events.zipIdx.length=d.Events.length:=List.length_zipIdx
 refine ZF (step:=Z1h d p l tol) d.Events.zipIdx (by omega) (fun i (s:List Z1)=>(i,s)) (bnF d p l tol) .inr (fun i s=>s.length<=12 * i) (s0:=[]) (by simp) (fun i hi s hs'=>?_) (fun s hs'=>by unfold Z1h;dsimp only;rw[if_neg (by rw[hlz];simp)])
 have hi':i < d.Events.length:=by omega
 have hm:=List.getElem_mem hi'
 have hx:=hD.ev _ hm
 have hz:=hd.ev _ hm
 have hsr:=Zjl _ hz _ (ZgD d hd hc0 _ hm)
 rw[show d.Events.zipIdx[i]=(d.Events[i],i) from by simp[List.getElem_zipIdx]]
 have hst:Z1h d p l tol ((i:Int),s)=match bsE d p l tol i d.Events[i] with
   | .inl e=>some (.out (.inl e))
   | .inr bs=>some (.go ((i:Int)+1,s++bs)):=by
  unfold Z1h bsE
  dsimp only
  rw[if_pos (by simpa using hi'),Zc hi',wr64 (x:=(i:Int)+1) (by omega)]
  simp only[Option.bind_some]
  generalize d.Events[i]=x at *
  rw[Zi4 x hz hx.runs hsr]
  simp only[Option.bind_some]
  rw[(ZbW d.Rate (letS x) p.Reading hd.rate.1 hd.rate.2).2]
  simp only[Option.bind_some]
  have hnd:=Zas d.Rate (letS x) p.Reading hd.rate.1 hd.rate.2
  unfold okR at hp
  rw[if_pos (by omega),wr64 (x:=2 * (i:Int)) (by omega),wr64 (x:=2 * (i:Int)+2) (by omega),wr64 (x:=2 * (i:Int)+1) (by omega),wr64 (x:=0 - (Z7i d.Rate (letS x) p.Reading).1) (by omega),wr64 (x:=0 - p.MinFrames) (by omega),wr64 (x:=2 * (i:Int)+2+1) (by omega),wr64 (x:=0 - p.MinGap) (by omega)]
  simp only[Int.zero_sub]
  rw[Zkz p l hl h1 h2 hc hs s i (by omega) x hx _ (by simp;omega)]
  by_cases q1:(zoS l x.Span.In p).2=0
  ·simp only[q1,ne_eq,not_true_eq_false,if_false]
   by_cases q2:(zoS l x.Span.Out p).2=0
   ·simp only[q2,ne_eq,not_true_eq_false,if_false,Option.bind_some]
    rw[ZkA tol ht s i (by omega) x hx _ (by simp[bsZ];omega)]
    simp only[Option.bind_some]
    by_cases q3:i+1 < d.Events.length
    ·rw[if_pos (by simp;omega),show(i:Int)+1=((i+1:Nat):Int) by omega,Zc q3]
     simp only[Option.bind_some]
     rw[if_pos (by simp[bsZ,bsT];omega),List.getElem?_eq_getElem q3]
     simp only[bsG,bsA,show 2 * (i:Int)+2+1=2 * (i:Int)+3 by omega,List.append_assoc]
    ·rw[if_neg (by simp;omega),List.getElem?_eq_none (by omega)]
     simp only[bsG,bsA,List.append_assoc,List.append_nil]
   ·simp only[q2,ne_eq,not_false_eq_true,if_true];rfl
  ·simp only[q1,ne_eq,not_false_eq_true,if_true];rfl
 rw[hst]
 unfold bnF
 dsimp only
 cases hb:bsE d p l tol i d.Events[i] with
 | inl e=>exact .inl ⟨.inl e,rfl,rfl⟩
 | inr bs =>
  refine .inr ⟨s++bs,rfl,rfl,?_⟩
  have:=ZbG hb
  simp
  omega
theorem Zbg{d:Z2}{p:Z7}{l:List Int}(h:Z7b d p l)(tol:Int):Z4E d p l tol=some (bnS d p l tol):=by
 unfold Z4E bnS ckB;rw[Zaq d h.doc,(Z5W d h.doc).1,Zci p h.name h.forb,show Z29=Z0w from Z7V,Z8b l h.shots];simp only[Option.bind_some];by_cases q1:dcS d=0
 ·simp only[q1,bne_self_eq_false,Bool.false_eq_true,ne_eq,not_true_eq_false,if_false];by_cases q2:ckS p=0
  ·simp only[q2,bne_self_eq_false,Bool.false_eq_true,not_true_eq_false,if_false];by_cases q3:shC l=0
   ·simp only[q3,bne_self_eq_false,Bool.false_eq_true,not_true_eq_false,if_false];by_cases q4:tol < 0
    ·simp[q4]
    by_cases q5:5184000 < tol
    ·simp[q4,q5]
    simp only[q4,q5,decide_false,Bool.false_eq_true,if_false,Option.bind_some,or_self];by_cases q6:255 < (d.Events.length:Int)
    ·simp[q6]
    simp only[q6,decide_false,Bool.false_eq_true,if_false,not_true_eq_false];have hc0:Zq d=some 0:=by rw[(Z5W d h.doc).1,q1]
    rw[Ziq d h.doc ((Z5W d h.doc).2 q1) hc0 p h.name h.forb q2 l h.shots q3 tol ⟨by omega,by omega⟩];simp only[Option.bind_some];cases bnR d p l tol<;>rfl
   have:(shC l != 0)=true:=by simpa using q3
   simp[q3,this]
  have:(ckS p != 0)=true:=by simpa using q2
  simp[q2,this]
 have:(dcS d != 0)=true:=by simpa using q1
 simp[q1,this]
theorem Zkb(l:List Z1)(hn:l.length<=1048576):ZW l l=some true:=by
 unfold ZW
 obtain⟨e,he,rfl⟩:=Z4q (step:=Z01 l l) l.length (by omega) (fun _=>True) (fun e=>e=Sum.inr ()) trivial (fun i hi _=>.inl ⟨by
  unfold Z01
  rw[if_pos (by simpa using hi),Zc hi,wr64 (x:=(i:Int)+1) (by omega)]
  simp,trivial⟩) (fun _=>⟨_,by unfold Z01;rw[if_neg (by simp)],rfl⟩)
 rw[if_neg (by simp),he]
 rfl
open Go.RowKit
set_option maxHeartbeats 10000000
theorem Zl6:(∀ x,Z3.d x=.agg [.str x.Name,.int .i64 x.Top,.int .i64 x.Height,.int .i64 x.Left,.int .i64 x.Width,.int .u8 x.Align,.bool x.Bottom])/\(∀ x,Z4.d x=.agg [.int .i64 x.ID,.int .i64 x.Event,.int .i64 x.From,.int .i64 x.To,.str x.Author,.str x.Text,.bool x.Done,.bool x.Lost])/\(∀ x,Ze.d x=.agg [.int .i64 x.In,.int .i64 x.Out])/\(∀ x,Zw.d x=.agg [.int .u8 x.Color,.bool x.Italic,.bool x.Underline])/\(∀ x,Zd.d x=.agg [.str x.Text,.int .u8 x.Style.Color,.bool x.Style.Italic,.bool x.Style.Underline,.str x.Ruby])/\(∀ x,Z6.d x=.agg [.sl (x.Runs.map Zd.d)])/\(∀ x,Z0.d x=.agg [.int .i64 x.ID,.int .i64 x.Span.In,.int .i64 x.Span.Out,.str x.Region,.int .u8 x.Kind,.str x.Speaker,.sl (x.Rows.map Z6.d)])/\(∀ x,Z1.d x=.agg [.int .i64 x.I,.int .i64 x.J,.int .i64 x.C,.int .u8 x.Rule,.int .i64 x.ID,.int .i64 x.Other])/\(∀ x,Z2.d x=.agg [.str x.Title,.str x.Lang,.int .u8 x.Rate,.bool x.Drop,.int .i64 x.Last,.sl (x.Regions.map Z3.d),.sl (x.Events.map Z0.d),.sl (x.Comments.map Z4.d)])/\(∀ x,Z7.d x=.agg [.str x.Name,.int .i64 x.Reading,.int .i64 x.MinFrames,.int .i64 x.MaxFrames,.int .i64 x.MinGap,.int .i64 x.ShotBefore,.int .i64 x.ShotAfter,.int .i64 x.Rows,.int .i64 x.Cols,.str x.Forbidden,.int .i64 x.SafeTop,.int .i64 x.SafeBottom,.int .i64 x.SafeLeft,.int .i64 x.SafeRight])/\(∀ x,Zf.d x=.agg [.str x.Doc.Title,.str x.Doc.Lang,.int .u8 x.Doc.Rate,.bool x.Doc.Drop,.int .i64 x.Doc.Last,.sl (x.Doc.Regions.map Z3.d),.sl (x.Doc.Events.map Z0.d),.sl (x.Doc.Comments.map Z4.d),.str x.House.Name,.int .i64 x.House.Reading,.int .i64 x.House.MinFrames,.int .i64 x.House.MaxFrames,.int .i64 x.House.MinGap,.int .i64 x.House.ShotBefore,.int .i64 x.House.ShotAfter,.int .i64 x.House.Rows,.int .i64 x.House.Cols,.str x.House.Forbidden,.int .i64 x.House.SafeTop,.int .i64 x.House.SafeBottom,.int .i64 x.House.SafeLeft,.int .i64 x.House.SafeRight,.sl (x.Shots.map (D.int .i64)),.int .i64 x.Tol])/\(∀ x,Z8.d x=.agg [.int .i64 x.ID,.int .i64 x.In,.int .i64 x.Out])/\(∀ x,Zu.d x=.agg [.str x.Doc.Title,.str x.Doc.Lang,.int .u8 x.Doc.Rate,.bool x.Doc.Drop,.int .i64 x.Doc.Last,.sl (x.Doc.Regions.map Z3.d),.sl (x.Doc.Events.map Z0.d),.sl (x.Doc.Comments.map Z4.d),.sl (x.Shifts.map Z8.d),.int .i64 x.Needed,.sl (x.Conflict.map Z1.d)]):=⟨fun _=>rfl,fun _=>rfl,fun _=>rfl,fun _=>rfl,fun _=>rfl,fun _=>rfl,fun _=>rfl,fun _=>rfl,fun _=>rfl,fun _=>rfl,fun _=>rfl,fun _=>rfl,fun _=>rfl⟩
def Z3Q (t_0:Zf):Option (Bool) :=
 ((Z64).bind fun r7=>(if r7 then((Z5Y t_0).bind fun r0=>((Z0I r0.Doc r0.House r0.Shots r0.Tol).bind fun r1=>((Z3E r0.Doc r0.House r0.Shots r0.Tol).bind fun r2=>((Z65 r1.1 r2.1).bind fun r3=>(if r3 then(some (r1.2 == r2.2)) else(some false)))))) else(some false)))
theorem Z90{I:World->Prop}(hI:Stab I)(hShp:∀ w,I w->Shp w)(hU8T:∀ w,I w->U8T w){t_0:Zf}{r:Bool}(h:Z3Q t_0=some r):AFun Tryz.prog I 6 [Zf.d t_0] (.bool r):=by
 have dd:=Zl6;have k:=True.intro;have q:=k;have rs:=Tryz.results6;unfold Z3Q at h;refine .en hI Tryz.func6 Tryz.ntmps6 ?_;refine xs<|rz ?_;refine es<|xs<|xs<|rK fun K _ E J=>zz ?_;obtain⟨r7,h8,h⟩:=bs h;refine cw (Zcy hI hShp hU8T h8)<|zz ?_;subst E J;refine es ?_;obtain⟨k,h⟩|⟨k,h⟩:=iK k h
 ·refine xf<|xk<|es<|xs<|rK fun K _ E J=>zz ?_;obtain⟨r0,h0,h⟩:=bs h;refine cw (Zeo hI h0)<|zz ?_;subst E J;refine es<|xs<|rK fun K _ E J=>zz ?_;obtain⟨r1,h1,h⟩:=bs h;refine cw (Z71 hI hShp hU8T h1)<|zz ?_;subst E J;refine es<|xs<|rK fun K _ E J=>zz ?_;obtain⟨r2,h2,h⟩:=bs h;refine cw (Zdh hI h2)<|zz ?_;subst E J;refine es<|xs<|rK fun K _ E J=>zz ?_;obtain⟨r3,h3,h⟩:=bs h;refine cw (Zcz hI h3)<|zz ?_;obtain⟨k,h⟩|⟨k,h⟩:=iK k h
  ·exact Lj
  exact Lj
 exact Lc
theorem Zf7{d:Z2}{p:Z7}{l:List Int}(g:Good d p l){t:Int}(ht:0<=t/\t<=5184000)(hok:okT d p l t){i:Nat}(hi:i < d.Events.length) :
  ∃ b1,bsE d p l t i d.Events[i]=.inr b1/\∀ b ∈ b1,heed (sol (2 * d.Events.length+1) (bnT d p l t)) (ed b):=by
 obtain⟨_,hb⟩:=g.bs ht
 have hh:=Z8F hb hok
 obtain⟨bs,hbs⟩:=g.bn t
 have hT:bnT d p l t=bs:=by unfold bnT;rw[hbs];rfl
 have hz:(d.Events[i],i) ∈ d.Events.zipIdx:=List.mem_zipIdx_iff_getElem?.2 (List.getElem?_eq_getElem hi)
 obtain⟨b1,hb1,hm⟩:=(Ze9 _ _ _ hbs).2 _ hz
 exact⟨b1,hb1,fun b hbm=>hh _ (List.mem_map_of_mem (by rw[hT];exact hm b hbm))⟩
theorem Zdl{d:Z2}{p:Z7}{l:List Int}{t:Int}{i:Nat}{x:Z0}{b1:List Z1}(h:bsE d p l t i x=.inr b1):(zoS l x.Span.In p).2=0/\(zoS l x.Span.Out p).2=0 /\
  b1=bsA d p i x++(bsZ (2 * i+1) (zoS l x.Span.In p).1 x.ID++bsZ (2 * i+2) (zoS l x.Span.Out p).1 x.ID)++(bsT (2 * i+1) x.Span.In t x.ID++bsT (2 * i+2) x.Span.Out t x.ID)++bsG p i x.ID d.Events[i+1]?:=by
 unfold bsE at h
 by_cases q1:(zoS l x.Span.In p).2=0
 ·by_cases q2:(zoS l x.Span.Out p).2=0
  ·simp only[q1,q2,ne_eq,not_true_eq_false,if_false] at h
   cases h
   exact⟨q1,q2,rfl⟩
  ·simp only[q1,q2,ne_eq,not_true_eq_false,if_false,not_false_eq_true,if_true] at h
   cases h
 ·simp only[q1,ne_eq,not_false_eq_true,if_true] at h
  cases h
theorem ZjX{d:Z2}{p:Z7}{l:List Int}(g:Good d p l){t:Int}(ht:0<=t/\t<=5184000)(hok:okT d p l t){i:Nat}(hi:i < d.Events.length) :
  0<=(spS (sol (2 * d.Events.length+1) (bnT d p l t)) i).In/\(spS (sol (2 * d.Events.length+1) (bnT d p l t)) i).In < (spS (sol (2 * d.Events.length+1) (bnT d p l t)) i).Out/\(spS (sol (2 * d.Events.length+1) (bnT d p l t)) i).Out<=5184000:=by
 obtain⟨b1,hb1,hin⟩:=Zf7 g ht hok hi
 obtain⟨z1,z2,rfl⟩:=Zdl hb1
 have o1:=Z8e l g.z.shots _ p z1
 have o2:=Z8e l g.z.shots _ p z2
 have hp:=Zbe g.pc
 unfold okR at hp
 generalize sol (2 * d.Events.length+1) (bnT d p l t)=x at hin
 have h1:=hin ⟨2 * i+2,2 * i+1,-p.MinFrames,2,d.Events[i].ID,0⟩ (by simp[bsA])
 have h2:=hin ⟨2 * i+1,0,-(zoS l d.Events[i].Span.In p).1.In,6,d.Events[i].ID,0⟩ (by simp[bsZ])
 have h3:=hin ⟨0,2 * i+2,(zoS l d.Events[i].Span.Out p).1.Out - 1,6,d.Events[i].ID,0⟩ (by simp[bsZ])
 unfold heed ed at h1 h2 h3
 dsimp only at h1 h2 h3
 rw[show(2 * (i:Int)+1).toNat=2 * i+1 by omega] at h1 h2
 rw[show(2 * (i:Int)+2).toNat=2 * i+2 by omega] at h1 h3
 rw[show(0:Int).toNat=0 from rfl] at h2 h3
 unfold spS
 dsimp only
 omega
theorem ZeY:∀ (l:List Z8) (ev:List Z0),(∀ s ∈ l,badS s=false/\(ev.map (·.ID)).contains s.ID=true)->∃ ev',apR ev l=.inr ev'
 | [],ev,_=>⟨ev,rfl⟩
 | s::l,ev,h=>by
  obtain⟨h1,h2⟩:=h s (by simp)
  obtain⟨ev',hev⟩:=ZeY l (ev.map (upE s)) fun s' hs'=>by rw[Z9S];exact h s' (by simp[hs'])
  refine⟨ev',?_⟩
  unfold apR at hev ⊢
  simp only[runF]
  have:apF ev s=.inr (ev.map (upE s)):=by
   unfold apF
   rw[h2,h1]
   rfl
  rw[this]
  exact hev
theorem ZkR{d:Z2}{x:List Int}(hs:∀ i (hi:i < d.Events.length),0<=(spS x i).In/\(spS x i).In < (spS x i).Out/\(spS x i).Out<=5184000):∀ s ∈ shS d x,badS s=false/\(d.Events.map (·.ID)).contains s.ID=true:=by
 intro s hm;rw[ZkQ] at hm;obtain⟨⟨e,i⟩,ha,hsa⟩:=List.mem_flatMap.1 hm;rw[List.mem_zipIdx_iff_getElem?] at ha;simp only at ha;obtain⟨hi,rfl⟩:=List.getElem?_eq_some_iff.1 ha;have:=hs i hi;unfold sh1 at hsa;dsimp only at hsa;split at hsa
 ·simp only[List.mem_singleton] at hsa;subst hsa;refine⟨?_,List.contains_iff_mem.2 (List.mem_map.2 ⟨d.Events[i],List.getElem_mem hi,rfl⟩)⟩;unfold badS;simp only[Bool.or_eq_false_iff,decide_eq_false_iff_not];omega
 cases hsa
theorem ZdN{d:Z2}{p:Z7}{l:List Int}(g:Good d p l){t t':Int}(ht:0<=t/\t<=5184000)(htt:t<=t')(hok:okT d p l t):okT d p l t':=by
 obtain⟨bs,hbs⟩:=g.bn t'
 have hT:bnT d p l t'=bs:=by unfold bnT;rw[hbs];rfl
 unfold okT
 rw[hT]
 have hall:∀ b ∈ bs,heed (sol (2 * d.Events.length+1) (bnT d p l t)) (ed b):=by
  refine Zaz (P:=fun b=>heed (sol (2 * d.Events.length+1) (bnT d p l t)) (ed b)) (Q:=fun a=>a ∈ d.Events.zipIdx) (fun s a s' ha hf hs b hb=>?_) (fun s a e h=>Z87 h) d.Events.zipIdx [] bs (fun a ha=>ha) hbs (fun b hb=>by cases hb)
  obtain⟨b2,hb2,rfl⟩:=Z88 hf
  rcases List.mem_append.1 hb with hb|hb
  ·exact hs b hb
  ·obtain⟨e,i⟩:=a
   rw[List.mem_zipIdx_iff_getElem?] at ha
   simp only at ha
   obtain⟨hi,rfl⟩:=List.getElem?_eq_some_iff.1 ha
   obtain⟨b1,hb1,hin⟩:=Zf7 g ht hok hi
   obtain⟨_,_,rfl⟩:=Zdl hb1
   obtain⟨_,_,rfl⟩:=Zdl hb2
   dsimp only at hb
   rcases List.mem_append.1 hb with hb|hb
   ·rcases List.mem_append.1 hb with hb|hb
    ·exact hin b (by simp only[List.mem_append] at hb ⊢;exact .inl (.inl hb))
    ·have k1:=hin ⟨2 * i+1,0,-(d.Events[i].Span.In - t),11,d.Events[i].ID,0⟩ (by simp[bsT])
     have k2:=hin ⟨0,2 * i+1,d.Events[i].Span.In+t,11,d.Events[i].ID,0⟩ (by simp[bsT])
     have k3:=hin ⟨2 * i+2,0,-(d.Events[i].Span.Out - t),11,d.Events[i].ID,0⟩ (by simp[bsT])
     have k4:=hin ⟨0,2 * i+2,d.Events[i].Span.Out+t,11,d.Events[i].ID,0⟩ (by simp[bsT])
     simp only[bsT,List.mem_append,List.mem_cons,List.not_mem_nil,or_false] at hb
     unfold heed ed at k1 k2 k3 k4 ⊢
     dsimp only at k1 k2 k3 k4
     rcases hb with(rfl|rfl)|(rfl|rfl)<;>dsimp only<;>omega
   ·exact hin b (List.mem_append.2 (.inr hb))
 refine Zat (fun v=>(sol (2 * d.Events.length+1) (bnT d p l t)).getD v 0) fun e he=>?_
 obtain⟨b,hb,rfl⟩:=List.mem_map.1 he
 exact hall b hb
theorem Zay{d:Z2}{p:Z7}{l:List Int}(g:Good d p l){t:Int}(ht:0<=t/\t<=5184000):(okT d p l t/\Z2b d p l t=some (bnT d p l t,sol (2 * d.Events.length+1) (bnT d p l t),[],0))\/(¬ okT d p l t/\∃ k out,Z2b d p l t=some (bnT d p l t,[],out,16)/\Z0m ((2 * d.Events.length+1:Nat):Int) (bnT d p l t)=some ([],out,16)/\0 < k/\k<=2 * d.Events.length+1/\CfOK (bnT d p l t) k out):=by
 obtain⟨h1,h2⟩:=g.bs ht;unfold Z2b;rw[Zbg g.z,h1,numN d g.num];simp only[Option.bind_some,bne_self_eq_false,Bool.false_eq_true,if_false];rcases Zha h2 with⟨a,b,_⟩|⟨a,k,out,b,b',k0,k1,hc⟩
 ·rw[b];exact .inl ⟨a,rfl⟩
 rw[b];exact .inr ⟨a,k,out,rfl,b',k0,k1,hc⟩
theorem Zg8{d:Z2}{p:Z7}{l:List Int}(g:Good d p l){tol:Int}(ht:0<=tol/\tol<=5184000)(hok:okT d p l tol){r:Int}(hr:0<=r/\r<=tol)(hro:okT d p l r)(hrm:r=0\/¬ okT d p l (r - 1)) :
  iter (Z5u d p l) (sol (2 * d.Events.length+1) (bnT d p l tol),0,tol)=some (sol (2 * d.Events.length+1) (bnT d p l r),r):=by
 obtain⟨T,rfl⟩:=Int.eq_ofNat_of_zero_le ht.1
 refine Z0T (fun x e=>(∃ i j:Nat,x=(sol (2 * d.Events.length+1) (bnT d p l (j:Int)),(i:Int),(j:Int))/\i<=j/\j<=T/\okT d p l (j:Int)/\((i:Int)=0\/¬ okT d p l ((i:Int) - 1)))/\e=(sol (2 * d.Events.length+1) (bnT d p l r),r)) (fun x=>(x.2.2 - x.2.1).toNat) ?_ (x:=(sol (2 * d.Events.length+1) (bnT d p l (T:Int)),0,(T:Int))) ⟨⟨0,T,rfl,by omega,by omega,hok,.inl rfl⟩,rfl⟩ (by dsimp only;omega)
 rintro x e ⟨⟨i,j,rfl,h1,h2,h3,h4⟩,rfl⟩
 unfold Z5u
 dsimp only
 by_cases q:i < j
 ·left
  have hmid:IntKind.i64.wrap (Int.tdiv (IntKind.i64.wrap ((i:Int)+(j:Int))) 2)=(((i+j) / 2:Nat):Int):=by
   rw[wr64 (x:=(i:Int)+j) (by omega),Int.tdiv_eq_ediv_of_nonneg (by omega),wr64 (by omega)]
   omega
  rw[if_pos (by simpa using q),hmid]
  have hm1:i<=(i+j) / 2:=by omega
  have hm2:(i+j) / 2 < j:=by omega
  generalize (i+j) / 2=m at hm1 hm2
  rcases Zay g (t:=(m:Int)) ⟨by omega,by omega⟩ with⟨a,b⟩|⟨a,k,out,b,_⟩
  ·rw[b]
   simp only[Option.bind_some,beq_self_eq_true,if_true]
   exact⟨_,rfl,⟨⟨i,m,rfl,hm1,by omega,a,h4⟩,by first|rfl|trivial⟩,by dsimp only;omega⟩
  ·rw[b]
   simp only[Option.bind_some]
   rw[if_neg (by decide),wr64 (x:=(m:Int)+1) (by omega)]
   exact⟨_,rfl,⟨⟨m+1,j,by simp,by omega,h2,h3,.inr (by rw[show((m+1:Nat):Int) - 1=(m:Int) by omega];exact a)⟩,by first|rfl|trivial⟩,by dsimp only;omega⟩
 ·right
  rw[if_neg (by simpa using q)]
  obtain rfl:i=j:=by omega
  have:(i:Int)=r:=by
   rcases Int.lt_trichotomy (i:Int) r with h|h|h
   ·rcases hrm with h5|h5
    ·omega
    ·exact absurd (ZdN g ⟨by omega,by omega⟩ (by omega) h3) h5
   ·exact h
   ·rcases h4 with h5|h5
    ·omega
    ·exact absurd (ZdN g ⟨by omega,by omega⟩ (by omega) hro) h5
  subst this
  rfl
theorem ZjL(r7:List Z1 × List Int × List Int × Int)(ho:r7.2.2.1.length<=1000)(hi:∀ i ∈ r7.2.2.1,0<=i/\i < (r7.1.length:Int)):iter (Z2O r7) (0,[])=some (r7.2.2.1.map (bAt r7.1)):=by
 have:=ZF (step:=Z2O r7) r7.2.2.1 (by omega) (fun i (s:List Z1)=>(i,s)) (fun s i=>.inr (s++[bAt r7.1 i])) id (fun i s=>s.length=i) (s0:=[]) rfl
  (fun i hi' s hs=>.inr ⟨_,rfl,by
   have hq:=hi _ (List.getElem_mem hi')
   unfold Z2O
   dsimp only
   rw[if_pos (by simpa using hi'),Zc hi',wr64 (x:=(i:Int)+1) (by omega)]
   simp only[Option.bind_some]
   generalize r7.2.2.1[i]=k at hq
   obtain⟨k,rfl⟩:=Int.eq_ofNat_of_zero_le hq.1
   have hk:k < r7.1.length:=by omega
   rw[Zc hk]
   simp only[Option.bind_some]
   rw[if_pos (by omega),show bAt r7.1 (k:Int)=r7.1[k] from by simp[bAt,List.getD,hk]],by simp[hs]⟩)
  (fun s hs=>by unfold Z2O;dsimp only;rw[if_neg (by simp)];rfl)
 rw[ZaB (fun i=>bAt r7.1 i)] at this
 exact this
theorem ZjM{d:Z2}(hn:d.Events.length<=255){x:List Int}{r:Int}{K:Int}(hK:K<=2100000)(hx:Bd (2 * d.Events.length+1) K x):iter (Z2P d (x,r)) (0,[])=some (shS d x):=by
 have hlz:d.Events.zipIdx.length=d.Events.length:=List.length_zipIdx
 refine ZF (step:=Z2P d (x,r)) d.Events.zipIdx (by omega) (fun i (s:List Z8)=>(i,s)) (fun s a=>.inr (shF x s a)) id (fun i s=>s.length<=i) (s0:=[]) (by simp)
  (fun i hi s hs=>.inr ⟨_,rfl,?_,by have:=ZbV x s d.Events.zipIdx[i];omega⟩)
  (fun s hs=>by unfold Z2P;dsimp only;rw[if_neg (by rw[hlz];simp)];rfl)
 have hi':i < d.Events.length:=by omega
 rw[show d.Events.zipIdx[i]=(d.Events[i],i) from by simp[List.getElem_zipIdx]]
 have hl:=hx.1
 have h1:=hx.2 (2 * i+1) (by omega)
 have h2:=hx.2 (2 * i+2) (by omega)
 have h0:=hx.2 0 (by omega)
 unfold Z2P shF spS
 dsimp only
 rw[if_pos (by simpa using hi'),Zc hi',wr64 (x:=(i:Int)+1) (by omega),wr64 (x:=2 * (i:Int)) (by omega),wr64 (x:=2 * (i:Int)+1) (by omega),wr64 (x:=2 * (i:Int)+2) (by omega),Z0v (k:=2 * (i:Int)+1) (by omega) (by omega),Z0v (k:=0) (by omega) (by omega),Z0v (k:=2 * (i:Int)+2) (by omega) (by omega)]
 simp only[Option.bind_some]
 rw[show(2 * (i:Int)+1).toNat=2 * i+1 by omega,show(2 * (i:Int)+2).toNat=2 * i+2 by omega,show(0:Int).toNat=0 from rfl]
 generalize x.getD (2 * i+1) 0=a1 at *
 generalize x.getD (2 * i+2) 0=a2 at *
 generalize x.getD 0 0=a0 at *
 rw[wr64 (x:=a1 - a0) (by omega),wr64 (x:=a2 - a0) (by omega)]
 have hc:(s.length+1) * 24<=140737488355328:=by omega
 by_cases q1:a1 - a0=d.Events[i].Span.In
 ·by_cases q2:a2 - a0=d.Events[i].Span.Out
  ·simp[q1,q2]
  ·simp[q1,q2,hc]
 ·simp[q1,hc]
theorem Zix{d:Z2}{p:Z7}{l:List Int}(h:Z7b d p l)(hn:d.Events.length<=19)(tol:Int):∃ x:Zu × Int,Z0I d p l tol=some x/\Z3E d p l tol=some x/\DocZ x.1.Doc/\x.1.Shifts.length<=1000/\x.1.Conflict.length<=1000:=by
 rcases ZjB h hn tol with⟨he,hp⟩|⟨g,ht,a,out,hp,ho⟩|⟨g,ht,a,r,r0,r1,r2,r3,A,hA,hp⟩
 ·refine⟨_,hp,?_,ZgA,by simp,by simp⟩
  unfold Z3E Z2b
  rw[Zbg h]
  simp only[Option.bind_some]
  have:((bnS d p l tol).2 != 0)=true:=by simpa using he
  simp only[this,if_true,Option.bind_some,List.length_nil]
  by_cases q:(bnS d p l tol).2=16
  ·simp[q,docN]
  ·simp[q,he,docN]
 ·rcases Zay g ht with⟨b,_⟩|⟨_,k,o2,hs,hd,k0,k1,hc⟩
  ·exact absurd b a
  ·have hnum:=g.num
   have hpl:Z0I d p l tol=some (⟨docN,[],0,o2.map (bAt (bnT d p l tol))⟩,16):=by
    unfold Z0I
    rw[Z9h h,(g.bs ht).1]
    simp only[Option.bind_some,bne_self_eq_false,Bool.false_eq_true,if_false]
    rw[numN d g.num,hd]
    simp only[Option.bind_some]
    rw[if_pos (by decide),ZgW (bnT d p l tol,0) [] o2 16 (by rw[hc.len];omega) hc.idx]
    rfl
   refine⟨_,hpl,?_,ZgA,by simp,by simp only[List.length_map,hc.len];omega⟩
   unfold Z3E
   rw[hs]
   simp only[Option.bind_some,beq_self_eq_true,if_true]
   rw[decide_eq_true (show 0 < (o2.length:Int) by rw[hc.len];omega)]
   simp only[if_true]
   rw[ZjL (bnT d p l tol,[],o2,16) (by show o2.length<=1000;rw[hc.len];omega) hc.idx]
   rfl
 ·have hnum:=g.num
  have hrr:0<=r/\r<=5184000:=by omega
  obtain⟨_,kb⟩:=g.bs hrr
  have hsb:=Zhn kb
  have hcd:Zq d=some 0:=by rw[(Z5W d h.doc).1,g.dc]
  have hD:=(Z5W d h.doc).2 g.dc
  have hsl:=Zfu d (sol (2 * d.Events.length+1) (bnT d p l r))
  obtain⟨ev,hev⟩:=ZeY _ d.Events (ZkR (x:=sol (2 * d.Events.length+1) (bnT d p l r)) fun i hi=>ZjX g hrr r2 hi)
  rcases Zao d h.doc hcd hD hn (shS d (sol (2 * d.Events.length+1) (bnT d p l r))) (by omega) with⟨v,b1,_⟩|⟨ev',rr,b1,b2,b3,b4⟩
  ·rw[hev] at b1;cases b1
  ·rw[hA] at b2
   injection b2 with b2
   subst b2
   obtain⟨z1,_⟩:=Zes d h.doc hcd hD b1 b3 (Srt.of (by rw[b3.length_eq];exact b4))
   refine⟨_,hp,?_,z1,by show(shS d (sol (2 * d.Events.length+1) (bnT d p l r))).length<=1000;omega,by simp⟩
   unfold Z3E
   rcases Zay g ht with⟨_,hs⟩|⟨b,_⟩
   ·rw[hs]
    simp only[Option.bind_some]
    rw[if_neg (by decide)]
    simp only[Option.bind_some,Bool.false_eq_true,if_false,bne_self_eq_false]
    rw[Zg8 g ht a ⟨r0,r1⟩ r2 r3]
    simp only[Option.bind_some]
    rw[ZjM g.num (by omega) hsb]
    simp only[Option.bind_some]
    rw[ZgY d h.doc hn _ (by omega),hA]
    rfl
   ·exact absurd a b
theorem ZkS(l:List Z8)(hn:l.length<=1048576):Z0h l l=some true:=by
 unfold Z0h
 obtain⟨e,he,rfl⟩:=Z4q (step:=Z02 l l) l.length (by omega) (fun _=>True) (fun e=>e=Sum.inr ()) trivial (fun i hi _=>.inl ⟨by
  unfold Z02
  rw[if_pos (by simpa using hi),Zc hi,wr64 (x:=(i:Int)+1) (by omega)]
  simp,trivial⟩) (fun _=>⟨_,by unfold Z02;rw[if_neg (by simp)],rfl⟩)
 rw[if_neg (by simp),he]
 rfl
theorem Zax(t:Zf)(h:TskZ t):Z3Q t=some true:=by
 obtain⟨hz,hn⟩:=Zkm h;unfold Z3Q;rw[Zja,Zkn];simp only[Option.bind_some,if_true];generalize fewT t=u at hz hn;obtain⟨x,h1,h2,h3,h4,h5⟩:=Zix hz (by omega) u.Tol;rw[h1,h2];simp only[Option.bind_some];unfold Z65;rw[Zjh _ h3,ZkS _ (by omega),Zkb _ (by omega)];simp
theorem Zb9(t:Zf)(hB:Zf.sz t):AFun Tryz.prog Env9 6 [t.d] (.bool true):=by
 refine AFun.sized (by kernel_rfl) fun hz=>?_;exact Z90 ZiO (fun _ h=>h.2) (fun _ h=>h.1) (Zax t (ZkW hB (Zhr hz (by simp))))
open Go.ChangeShapes Go.WideShapes Go.ChangeAt Go.RowKit Go.Joins
def FA (w:World):Nat->Nat->Prop:=fun b _=>b < w.heap.size
theorem Zl0(w:World):FB (cF (FA w)) w:=fun _ _ h=>h
theorem ZkY{k:IntKind}{n:Int}(h:(Lit.int k n).wf=true):inR k n:=by
 simp only[Lit.wf,Bool.and_eq_true,decide_eq_true_eq] at h;cases k<;>simp[IntKind.min,IntKind.max,IntKind.signed,IntKind.bits] at h<;>simp[inR,kLo,kHi]<;>omega
theorem Zgj(s:ByteArray):(⟨s.data.toList.toArray⟩:ByteArray)=s:=by cases s;simp
theorem AFun.law{P:Program}{I:World->Prop}{f:FuncId}{ds:List D}(h:AFun P I f ds (.bool true)){W:World}{args:List Value}(hI:I W)(hl:args.length=ds.length)(hr:∀ (i:Nat) v d,args[i]? = some v->ds[i]? = some d->Rep W (cF (FA W)) v d) :
  Calls P f args.toArray W fun e w'=>e=.returned (.bool true)/\Below W.heap.size W w':=by
 refine(h.2 W (FA W) args hI (Zl0 W) hl hr).mono ?_
 rintro e w' ⟨v,F',rfl,hb,_,_,_,hrep⟩
 cases hrep
 exact⟨rfl,hb⟩
section
variable (H:Type)(enc:TypeId × Value->H)(P:Program)
def OpT {α:Type}(t:TypeId)(δ:α->D):Prop :=
 ∀ (w:World) (fuel:Nat) (cs:List Value) (x:DataW H × List MemPlace),DataW.trod enc P w 0 (fun _=>true) true fuel t cs=some x->∃ a:α,RepL (cF (FA w)) w cs (δ a).cells
def OpF {α:Type}(fs:List Field)(off:Nat)(γ:α->List D):Prop :=
 ∀ (w:World) (fuel:Nat) (cs:List Value),off<=cs.length->(∀ f ∈ fs,∃ x,DataW.trod enc P w 0 (fun _=>true) true fuel f.type ((cs.drop f.offset).take (P.cellsOf f.type))=some x)->(fs=[]->cs.length=off)->(∀ f ∈ fs,f.offset+P.cellsOf f.type<=cs.length)->((fs.map fun f=>P.cellsOf f.type).sum+off=cs.length)->∃ a:α,RepL (cF (FA w)) w (cs.drop off) (γ a)
end
section
variable {H:Type}{enc:TypeId × Value->H}{P:Program}
theorem OpT.int{t:TypeId}{k:IntKind}(ht:P.underlying t=some (.int k)):OpT H enc P t (D.int k):=by
 intro w fuel cs x h;obtain⟨n,rfl,_,hw⟩:=DataW.trod_int ht h;exact⟨n,RepL.one1 rfl (.int _ _ (ZkY hw))⟩
theorem OpT.bool{t:TypeId}(ht:P.underlying t=some .bool):OpT H enc P t D.bool:=by
 intro w fuel cs x h;obtain⟨n,rfl,_⟩:=DataW.trod_bool ht h;exact⟨n,RepL.one1 rfl (.bool _)⟩
theorem Ze1{w:World}{C:Cx}(s:ByteArray)(h:s.size<=maxLen):Rep w C (.string s) (.str s.data.toList):=by
 have:=Rep.str (w:=w) (C:=C) s.data.toList (by rw[Array.length_toList];exact h);rwa[Zgj] at this
theorem OpT.str{t:TypeId}(ht:P.underlying t=some .string):OpT H enc P t D.str:=by
 intro w fuel cs x h;obtain⟨s,rfl,_,hs⟩:=DataW.trod_string ht h;exact⟨s.data.toList,RepL.one1 rfl (Ze1 s hs)⟩
theorem OpT.map{α β:Type}{t:TypeId}{δ:α->D}{ε:β->D}(h:OpT H enc P t δ)(φ:α->β)(hφ:∀ a,ε (φ a)=δ a):OpT H enc P t ε:=by
 intro w fuel cs x hx;obtain⟨a,ha⟩:=h w fuel cs x hx;exact⟨φ a,by rw[hφ];exact ha⟩
theorem OpF.nil{off:Nat}:OpF H enc P [] off (fun _:Unit=>[]):=by
 intro w fuel cs h1 h2 h3 h4 h5;refine⟨(),?_⟩;rw[List.drop_eq_nil_of_le (by have:=h3 rfl;omega)];exact RepL.nil
theorem OpF.cons{α β:Type}{f:Field}{fs:List Field}{off:Nat}{δ:α->D}{γ:β->List D}(ho:f.offset=off)(h:OpT H enc P f.type δ)(hr:OpF H enc P fs (off+P.cellsOf f.type) γ):OpF H enc P (f::fs) off (fun p:α × β=>(δ p.1).cells++γ p.2):=by
 intro w fuel cs h1 h2 h3 h4 h5;subst ho;obtain⟨x,hx⟩:=h2 f (by simp);obtain⟨a,ha⟩:=h w fuel _ x hx;have hlen:f.offset+P.cellsOf f.type<=cs.length:=h4 f (by simp);simp only[List.map_cons,List.sum_cons] at h5;obtain⟨b,hb⟩:=hr w fuel cs hlen (fun g hg=>h2 g (by simp[hg])) (fun e=>by subst e;simp at h5;omega) (fun g hg=>h4 g (by simp[hg])) (by omega);refine⟨(a,b),?_⟩;have:=ha.append hb;rw[show(cs.drop f.offset).take (P.cellsOf f.type)++cs.drop (f.offset+P.cellsOf f.type)=cs.drop f.offset by rw[<- List.drop_drop];exact List.take_append_drop _ _] at this;exact this
theorem OpT.struct{α β:Type}{t:TypeId}{fs:Array Field}{γ:α->List D}{ε:β->D}(ht:P.underlying t=some (.struct fs))(hoff:(fs.toList.all fun f=>decide (f.offset+P.cellsOf f.type<=P.cellsOf t))=true)(hsum:(fs.toList.map fun f=>P.cellsOf f.type).sum=P.cellsOf t)(h:OpF H enc P fs.toList 0 γ)(φ:α->β)(hφ:∀ a,(ε (φ a)).cells=γ a):OpT H enc P t ε:=by
 intro w fuel cs x hx
 obtain⟨xs,n,_,_,hl,hxl,hf⟩:=DataW.trod_struct ht hx
 obtain⟨a,ha⟩:=h w n cs (Nat.zero_le _) (fun f hf'=>by
  obtain⟨i,hi,rfl⟩:=List.getElem_of_mem hf'
  have hi':fs[i]? = some fs.toList[i]:=by simp at hi ⊢
  have:=hf i _ hi'
  rw[List.getElem?_eq_getElem (by rw[hxl];simpa using hi)] at this
  exact⟨_,this⟩) (fun e=>by rw[e] at hsum;simp at hsum;omega) (fun f hf'=>by have:=List.all_eq_true.1 hoff f hf';simp at this;omega) (by omega)
 refine⟨φ a,?_⟩
 rw[hφ]
 simpa using ha
theorem Z7O(b o i:Nat):(⟨b,o,none⟩:Addr).add i=⟨b,o+i,none⟩:=by
 unfold Addr.add;split
 ·rename_i e;subst e;rfl
 rfl
theorem Zfr{w:World}{b off k:Nat}{α:Type}{δ:α->D}(hk:∀ a,(δ a).cells.length=k):∀ (n:Nat) (s:Nat),(∀ i,i < n->∃ cs',(∀ j,j < k->w.cell? ⟨b,off+(s+i) * k+j,none⟩=cs'[j]?)/\cs'.length=k/\∃ a:α,RepL (cF (FA w)) w cs' (δ a).cells) ->
  ∃ (l:List α) (vals:List Value),l.length=n/\vals.length=n * k/\RepL (cF (FA w)) w vals ((l.map δ).flatMap D.cells)/\∀ (i:Nat) v,vals[i]? = some v->w.cell? ⟨b,off+s * k+i,none⟩=some v:=by
 intro n
 induction n with
 | zero=>intro s _;exact⟨[],[],rfl,by simp,RepL.nil,by simp⟩
 | succ n ih =>
  intro s h
  obtain⟨cs,hc,hcl,a,ha⟩:=h 0 (by omega)
  obtain⟨l,vals,h1,h2,h3,h4⟩:=ih (s+1) (fun i hi=>by
   obtain⟨cs',hh⟩:=h (i+1) (by omega)
   refine⟨cs',?_⟩
   rw[show s+1+i=s+(i+1) by omega]
   exact hh)
  refine⟨a::l,cs++vals,by simp[h1],by rw[List.length_append,hcl,h2,Nat.add_mul];omega,?_,?_⟩
  ·simp only[List.map_cons,List.flatMap_cons]
   exact ha.append h3
  ·intro i v hv
   by_cases hi:i < k
   ·rw[List.getElem?_append_left (by omega)] at hv
    have:=hc i hi
    rw[Nat.add_zero] at this
    rw[this,hv]
   ·rw[List.getElem?_append_right (by omega)] at hv
    have:=h4 _ v hv
    rw[hcl] at this
    rw[<- this]
    congr 2
    rw[Nat.add_mul]
    omega
theorem OpT.slice{α:Type}{t e:TypeId}{δ:α->D}(ht:P.underlying t=some (.slice e))(hpos:0 < P.cellsOf e)(hk:∀ a,(δ a).cells.length=P.cellsOf e)(h:OpT H enc P e δ):OpT H enc P t (fun l:List α=>D.sl (l.map δ)):=by
 intro w fuel cs x hx
 rcases Deep.open_slice ht hx with⟨rfl,_⟩|⟨a,len,cap,m,n,Dd,Pl,rfl,hb,hl,hm,hmm,_,hel⟩
 ·exact⟨[],RepL.one1 rfl (.sl0 _ _ (Nat.zero_le _))⟩
 ·simp only[if_true] at hmm
  subst hmm
  by_cases h0:len=0
  ·subst h0
   exact⟨[],RepL.one1 rfl (.sl0 _ _ hm)⟩
  ·obtain⟨b,off,spot⟩:=a
   obtain⟨c0,hc0,_⟩:=hel 0 (by omega)
   obtain⟨_,hl0,hg0⟩:=World.cells?_some hc0
   have hcell0:=hg0 0 hpos
   have hx0:c0[0]? = some (c0[0]'(by omega)):=List.getElem?_eq_getElem _
   rw[hx0] at hcell0
   have hspot:spot=none:=by simpa[Addr.add] using World.cell?_spot hcell0
   subst hspot
   have hbl:b < w.heap.size:=by
    rcases Nat.lt_or_ge b w.heap.size with h1|h1
    ·exact h1
    ·simp[Addr.add,World.cell?,Array.getElem?_eq_none h1] at hcell0
   obtain⟨l,vals,h1,h2,h3,h4⟩:=Zfr (w:=w) (b:=b) (off:=off) (k:=P.cellsOf e) hk len 0 (fun i hi=>by
    obtain⟨cs',hc',ht'⟩:=hel i (by omega)
    obtain⟨_,hl',hg'⟩:=World.cells?_some hc'
    refine⟨cs',fun j hj=>?_,hl',h w n cs' _ ht'⟩
    have:=hg' j hj
    rw[Z7O,Z7O] at this
    rw[<- this]
    simp)
   refine⟨l,RepL.one1 rfl ?_⟩
   have hkk:∀ x ∈ l.map δ,x.cells.length=P.cellsOf e:=fun x hx=>by obtain⟨y,_,rfl⟩:=List.mem_map.1 hx;exact hk y
   have:=Rep.sl (w:=w) (C:=cF (FA w)) b off (P.cellsOf e) m (l.map δ) vals (by simp[h1];omega) hm hkk h3.len h3.one (fun _ _=>hbl) (fun i v hv=>by have:=h4 i v hv;simpa using this) (fun i v d hv hd=>h3.rep i v d hv hd)
   rw[List.length_map,h1] at this
   exact this
theorem ZhB{α:Type}{e:TypeId}{δ:α->D}(h:OpT H enc P e δ)(w:World)(fuel:Nat)(cs:List Value)(k:Nat):∀ (n s:Nat),(∀ i,s<=i->i < s+n->∃ x,DataW.trod enc P w 0 (fun _=>true) true fuel e ((cs.drop (i * k)).take k)=some x)->cs.length=(s+n) * k ->
  ∃ l:List α,l.length=n/\RepL (cF (FA w)) w (cs.drop (s * k)) (l.flatMap fun a=>(δ a).cells):=by
 intro n
 induction n with
 | zero=>intro s _ hl;exact⟨[],rfl,by rw[List.drop_eq_nil_of_le (by rw[hl];exact Nat.le_refl _)];exact RepL.nil⟩
 | succ n ih =>
  intro s hx hl
  obtain⟨x,hx0⟩:=hx s (by omega) (by omega)
  obtain⟨a,ha⟩:=h w fuel _ x hx0
  obtain⟨l,hll,hr⟩:=ih (s+1) (fun i h1 h2=>hx i (by omega) (by omega)) (by rw[hl];congr 1;omega)
  refine⟨a::l,by simp[hll],?_⟩
  have:=ha.append hr
  rw[show(cs.drop (s * k)).take k++cs.drop ((s+1) * k)=cs.drop (s * k) by rw[show(s+1) * k=s * k+k by rw[Nat.add_mul];omega,<- List.drop_drop];exact List.take_append_drop _ _] at this
  exact this
theorem OpT.array{α β:Type}{t e:TypeId}{n:Nat}{δ:α->D}{ε:β->D}(ht:P.underlying t=some (.array n e))(hc:P.cellsOf t=n * P.cellsOf e)(h:OpT H enc P e δ)(φ:(l:List α)->l.length=n->β)(hφ:∀ l h,(ε (φ l h)).cells=l.flatMap fun a=>(δ a).cells):OpT H enc P t ε:=by
 intro w fuel cs x hx
 obtain⟨xs,m,_,_,hl,hxl,hf⟩:=DataW.trod_array ht hx
 obtain⟨l,hll,hr⟩:=ZhB h w m cs (P.cellsOf e) n 0 (fun i _ hi=>by
  have:=hf i (by omega)
  rw[List.getElem?_eq_getElem (by omega)] at this
  exact⟨_,this⟩) (by rw[hl,hc,Nat.zero_add])
 refine⟨φ l hll,?_⟩
 rw[hφ]
 simpa using hr
theorem OpT.argS{α:Type}{t:TypeId}{δ:α->D}{cs:Array Value}(h:OpT H enc P t δ){w:World}{d:DataW H}{p:List MemPlace}(hδ:∀ a,∃ ds,δ a=.agg ds)(ht:DataW.Trod enc P w 0 (fun _=>true) true t (.agg cs) d p):∃ a,Rep w (cF (FA w)) (.agg cs) (δ a):=by
 obtain⟨fuel,hf⟩:=ht;obtain⟨a,ha⟩:=h w fuel _ _ hf;refine⟨a,?_⟩;obtain⟨ds,hd⟩:=hδ a;rw[hd] at ha ⊢;have:=ha.agg;simpa[Value.cells,D.cells] using this
theorem OpT.argStruct{α:Type}{t:TypeId}{fs:Array Field}{δ:α->D}(ht:P.underlying t=some (.struct fs))(h:OpT H enc P t δ)(hδ:∀ a,∃ ds,δ a=.agg ds){w:World}{r:Reach}{b0:Nat}{v:Value}{d:DataW H}{p:List MemPlace}(hv:Value.okWide P w r b0 t v)(hd:DataW.Trod enc P w 0 (fun _=>true) true t v d p):∃ a,Rep w (cF (FA w)) v (δ a):=by
 obtain⟨_,rfl,_⟩:=okWide_struct ht hv;exact h.argS hδ hd
end
open Go.ChangeShapes Go.WideShapes Go.ChangeAt Go.RowKit Go.Joins
theorem ZhE{H:Type}(d:DataW H):1<=Rows.uptoBulk d:=by
 cases d with
 | lit l=>cases l<;>simp[Rows.uptoBulk]
 | _=>simp[Rows.uptoBulk]
theorem Z8k{H:Type}:∀ {l:List (DataW H)} {d:DataW H},d ∈ l->Rows.uptoBulk d<=Rows.uptoBulkAll l
 | a::l,d,h=>by
  unfold Rows.uptoBulkAll
  rcases List.mem_cons.1 h with rfl|h
  ·omega
  ·have:=Z8k h;omega
theorem Zdm{H:Type}:∀ (l:List (DataW H)),l.length<=Rows.uptoBulkAll l
 | []=>by simp[Rows.uptoBulkAll]
 | a::l=>by
  unfold Rows.uptoBulkAll
  have:=ZhE a;have:=Zdm l
  simp only[List.length_cons];omega
section
variable (H:Type)(enc:TypeId × Value->H)(P:Program)(n:Nat)
def OpTB {α:Type}(t:TypeId)(δ:α->D)(B:α->Prop):Prop :=
 ∀ (w:World) (fuel:Nat) (cs:List Value) (x:DataW H × List MemPlace),DataW.trod enc P w 0 (fun _=>true) true fuel t cs=some x->Rows.uptoBulk x.1<=n->∃ a:α,RepL (cF (FA w)) w cs (δ a).cells/\B a
def OpFB {α:Type}(fs:List Field)(off:Nat)(γ:α->List D)(B:α->Prop):Prop :=
 ∀ (w:World) (fuel:Nat) (cs:List Value),off<=cs.length->(∀ f ∈ fs,∃ x:DataW H × List MemPlace,DataW.trod enc P w 0 (fun _=>true) true fuel f.type ((cs.drop f.offset).take (P.cellsOf f.type))=some x/\Rows.uptoBulk x.1<=n)->(fs=[]->cs.length=off)->(∀ f ∈ fs,f.offset+P.cellsOf f.type<=cs.length)->((fs.map fun f=>P.cellsOf f.type).sum+off=cs.length)->∃ a:α,RepL (cF (FA w)) w (cs.drop off) (γ a)/\B a
end
section
variable {H:Type}{enc:TypeId × Value->H}{P:Program}{n:Nat}
theorem OpTB.int{t:TypeId}{k:IntKind}(ht:P.underlying t=some (.int k)):OpTB H enc P n t (D.int k) (fun _=>True):=by
 intro w fuel cs x h _;obtain⟨a,ha⟩:=OpT.int ht w fuel cs x h;exact⟨a,ha,trivial⟩
theorem OpTB.bool{t:TypeId}(ht:P.underlying t=some .bool):OpTB H enc P n t D.bool (fun _=>True):=by
 intro w fuel cs x h _;obtain⟨a,ha⟩:=OpT.bool ht w fuel cs x h;exact⟨a,ha,trivial⟩
theorem OpTB.str{t:TypeId}(ht:P.underlying t=some .string):OpTB H enc P n t D.str (fun s=>s.length<=n):=by
 intro w fuel cs x h hn;obtain⟨s,rfl,rfl,hs⟩:=DataW.trod_string ht h;refine⟨s.data.toList,RepL.one1 rfl (Ze1 s hs),?_⟩;simp only[Rows.uptoBulk] at hn;omega
theorem OpFB.nil{off:Nat}:OpFB H enc P n [] off (fun _:Unit=>[]) (fun _=>True):=by
 intro w fuel cs h1 h2 h3 h4 h5;refine⟨(),?_,trivial⟩;rw[List.drop_eq_nil_of_le (by have:=h3 rfl;omega)];exact RepL.nil
theorem OpFB.cons{α β:Type}{f:Field}{fs:List Field}{off:Nat}{δ:α->D}{γ:β->List D}{A:α->Prop}{B:β->Prop}(ho:f.offset=off)(h:OpTB H enc P n f.type δ A)(hr:OpFB H enc P n fs (off+P.cellsOf f.type) γ B):OpFB H enc P n (f::fs) off (fun p:α × β=>(δ p.1).cells++γ p.2) (fun p=>A p.1/\B p.2):=by
 intro w fuel cs h1 h2 h3 h4 h5;subst ho;obtain⟨x,hx,hxn⟩:=h2 f (by simp);obtain⟨a,ha,hA⟩:=h w fuel _ x hx hxn;have hlen:f.offset+P.cellsOf f.type<=cs.length:=h4 f (by simp);simp only[List.map_cons,List.sum_cons] at h5;obtain⟨b,hb,hB⟩:=hr w fuel cs hlen (fun g hg=>h2 g (by simp[hg])) (fun e=>by subst e;simp at h5;omega) (fun g hg=>h4 g (by simp[hg])) (by omega);refine⟨(a,b),?_,hA,hB⟩;have:=ha.append hb;rw[show(cs.drop f.offset).take (P.cellsOf f.type)++cs.drop (f.offset+P.cellsOf f.type)=cs.drop f.offset by rw[<- List.drop_drop];exact List.take_append_drop _ _] at this;exact this
theorem OpTB.struct{α β:Type}{t:TypeId}{fs:Array Field}{γ:α->List D}{ε:β->D}{A:α->Prop}{B:β->Prop}(ht:P.underlying t=some (.struct fs))(hoff:(fs.toList.all fun f=>decide (f.offset+P.cellsOf f.type<=P.cellsOf t))=true)(hsum:(fs.toList.map fun f=>P.cellsOf f.type).sum=P.cellsOf t)(h:OpFB H enc P n fs.toList 0 γ A)(φ:α->β)(hφ:∀ a,(ε (φ a)).cells=γ a)(hB:∀ a,A a->B (φ a)):OpTB H enc P n t ε B:=by
 intro w fuel cs x hx hn
 obtain⟨xs,m,_,rfl,hl,hxl,hf⟩:=DataW.trod_struct ht hx
 obtain⟨a,ha,hA⟩:=h w m cs (Nat.zero_le _) (fun f hf'=>by
  obtain⟨i,hi,rfl⟩:=List.getElem_of_mem hf'
  have hi':fs[i]? = some fs.toList[i]:=by simp at hi ⊢
  have:=hf i _ hi'
  have hix:i < xs.length:=by rw[hxl];simpa using hi
  rw[List.getElem?_eq_getElem hix] at this
  refine⟨_,this,?_⟩
  have h1:=Z8k (List.mem_map_of_mem (f:=(·.1)) (List.getElem_mem hix))
  simp only[Rows.uptoBulk] at hn
  omega) (fun e=>by rw[e] at hsum;simp at hsum;omega) (fun f hf'=>by have:=List.all_eq_true.1 hoff f hf';simp at this;omega) (by omega)
 refine⟨φ a,?_,hB a hA⟩
 rw[hφ]
 simpa using ha
theorem OpTB.slice{α:Type}{t e:TypeId}{δ:α->D}{A:α->Prop}(ht:P.underlying t=some (.slice e))(hpos:0 < P.cellsOf e)(hk:∀ a,(δ a).cells.length=P.cellsOf e)(h:OpTB H enc P n e δ A):OpTB H enc P n t (fun l:List α=>D.sl (l.map δ)) (fun l=>l.length<=n/\∀ a ∈ l,A a):=by
 intro w fuel cs x hx hn
 rcases Deep.open_slice ht hx with⟨rfl,_⟩|⟨a,len,cap,m,f,Dd,Pl,rfl,hb,hl,hm,hmm,rfl,hel⟩
 ·exact⟨[],RepL.one1 rfl (.sl0 _ _ (Nat.zero_le _)),by simp,by simp⟩
 ·simp only[if_true] at hmm
  subst hmm
  by_cases h0:len=0
  ·subst h0
   exact⟨[],RepL.one1 rfl (.sl0 _ _ hm),by simp,by simp⟩
  ·obtain⟨b,off,spot⟩:=a
   obtain⟨c0,hc0,_⟩:=hel 0 (by omega)
   obtain⟨_,hl0,hg0⟩:=World.cells?_some hc0
   have hcell0:=hg0 0 hpos
   have hx0:c0[0]? = some (c0[0]'(by omega)):=List.getElem?_eq_getElem _
   rw[hx0] at hcell0
   have hspot:spot=none:=by simpa[Addr.add] using World.cell?_spot hcell0
   subst hspot
   have hbl:b < w.heap.size:=by
    rcases Nat.lt_or_ge b w.heap.size with h1|h1
    ·exact h1
    ·simp[Addr.add,World.cell?,Array.getElem?_eq_none h1] at hcell0
   simp only[Rows.uptoBulk] at hn
   have hln:=Zdm ((List.range len).map Dd)
   rw[List.length_map,List.length_range] at hln
   obtain⟨l,vals,h1,h2,h3,h4⟩:=Zfr (w:=w) (b:=b) (off:=off) (k:=P.cellsOf e) (α:={ a:α // A a }) (δ:=fun a=>δ a.1) (fun a=>hk a.1) len 0 (fun i hi=>by
    obtain⟨cs',hc',ht'⟩:=hel i (by omega)
    obtain⟨_,hl',hg'⟩:=World.cells?_some hc'
    refine⟨cs',fun j hj=>?_,hl',?_⟩
    ·have:=hg' j hj
     rw[Z7O,Z7O] at this
     rw[<- this]
     simp
    ·have hmem:Dd i ∈ (List.range len).map Dd:=List.mem_map_of_mem (List.mem_range.2 hi)
     have:=Z8k hmem
     obtain⟨a,ha,hA⟩:=h w f cs' _ ht' (by dsimp only;omega)
     exact⟨⟨a,hA⟩,ha⟩)
   have hmap:l.map (fun a=>δ a.1)=(l.map (·.1)).map δ:=by rw[List.map_map];rfl
   rw[hmap] at h3
   refine⟨l.map (·.1),RepL.one1 rfl ?_,by rw[List.length_map,h1];omega,fun a ha=>?_⟩
   ·have hkk:∀ x ∈ (l.map (·.1)).map δ,x.cells.length=P.cellsOf e:=fun x hx=>by obtain⟨y,_,rfl⟩:=List.mem_map.1 hx;exact hk y
    have:=Rep.sl (w:=w) (C:=cF (FA w)) b off (P.cellsOf e) m ((l.map (·.1)).map δ) vals (by simp[h1];omega) hm hkk h3.len h3.one (fun _ _=>hbl) (fun i v hv=>by have:=h4 i v hv;simpa using this) (fun i v d hv hd=>h3.rep i v d hv hd)
    rw[List.length_map,List.length_map,h1] at this
    exact this
   ·obtain⟨y,_,rfl⟩:=List.mem_map.1 ha
    exact y.2
theorem Zgr{α:Type}{e:TypeId}{δ:α->D}{A:α->Prop}(h:OpTB H enc P n e δ A)(w:World)(fuel:Nat)(cs:List Value)(k:Nat):∀ (m s:Nat),(∀ i,s<=i->i < s+m->∃ x:DataW H × List MemPlace,DataW.trod enc P w 0 (fun _=>true) true fuel e ((cs.drop (i * k)).take k)=some x/\Rows.uptoBulk x.1<=n)->cs.length=(s+m) * k ->
  ∃ l:List α,l.length=m/\RepL (cF (FA w)) w (cs.drop (s * k)) (l.flatMap fun a=>(δ a).cells)/\∀ a ∈ l,A a:=by
 intro m
 induction m with
 | zero=>intro s _ hl;exact⟨[],rfl,by rw[List.drop_eq_nil_of_le (by rw[hl];exact Nat.le_refl _)];exact RepL.nil,by simp⟩
 | succ m ih =>
  intro s hx hl
  obtain⟨x,hx0,hxn⟩:=hx s (by omega) (by omega)
  obtain⟨a,ha,hA⟩:=h w fuel _ x hx0 hxn
  obtain⟨l,hll,hr,hAl⟩:=ih (s+1) (fun i h1 h2=>hx i (by omega) (by omega)) (by rw[hl];congr 1;omega)
  refine⟨a::l,by simp[hll],?_,fun b hb=>by
   rcases List.mem_cons.1 hb with rfl|hb
   ·exact hA
   ·exact hAl b hb⟩
  have:=ha.append hr
  rw[show(cs.drop (s * k)).take k++cs.drop ((s+1) * k)=cs.drop (s * k) by rw[show(s+1) * k=s * k+k by rw[Nat.add_mul];omega,<- List.drop_drop];exact List.take_append_drop _ _] at this
  exact this
theorem OpTB.array{α β:Type}{t e:TypeId}{m:Nat}{δ:α->D}{ε:β->D}{A:α->Prop}{B:β->Prop}(ht:P.underlying t=some (.array m e))(hc:P.cellsOf t=m * P.cellsOf e)(h:OpTB H enc P n e δ A)(φ:(l:List α)->l.length=m->β)(hφ:∀ l h,(ε (φ l h)).cells=l.flatMap fun a=>(δ a).cells)(hB:∀ l h,(∀ a ∈ l,A a)->B (φ l h)):OpTB H enc P n t ε B:=by
 intro w fuel cs x hx hn
 obtain⟨xs,k,_,rfl,hl,hxl,hf⟩:=DataW.trod_array ht hx
 obtain⟨l,hll,hr,hA⟩:=Zgr h w k cs (P.cellsOf e) m 0 (fun i _ hi=>by
  have:=hf i (by omega)
  rw[List.getElem?_eq_getElem (by omega)] at this
  refine⟨_,this,?_⟩
  have h1:=Z8k (List.mem_map_of_mem (f:=(·.1)) (List.getElem_mem (l:=xs) (n:=i) (by omega)))
  simp only[Rows.uptoBulk] at hn
  omega) (by rw[hl,hc,Nat.zero_add])
 refine⟨φ l hll,?_,hB l hll hA⟩
 rw[hφ]
 simpa using hr
theorem OpTB.argStruct{α:Type}{t:TypeId}{fs:Array Field}{δ:α->D}{B:α->Prop}(ht:P.underlying t=some (.struct fs))(h:OpTB H enc P n t δ B)(hδ:∀ a,∃ ds,δ a=.agg ds){w:World}{r:Reach}{b0:Nat}{v:Value}{d:DataW H}{p:List MemPlace}(hv:Value.okWide P w r b0 t v)(hd:DataW.Trod enc P w 0 (fun _=>true) true t v d p)(hn:Rows.uptoBulk d<=n):∃ a,Rep w (cF (FA w)) v (δ a)/\B a:=by
 obtain⟨cs,rfl,_⟩:=okWide_struct ht hv;obtain⟨fuel,hf⟩:=hd;obtain⟨a,ha,hB⟩:=h w fuel _ _ hf hn;refine⟨a,?_,hB⟩;obtain⟨ds,hd⟩:=hδ a;rw[hd] at ha ⊢;have:=ha.agg;simpa[Value.cells,D.cells] using this
end
end Go.Proofs.YtobglplholhkcaaGreatDoor
