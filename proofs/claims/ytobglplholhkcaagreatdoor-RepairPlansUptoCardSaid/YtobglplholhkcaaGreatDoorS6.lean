/- Texts of one proof, put together (D1, D2, V6, V14, V15, V7, V8, V9, V10, V11, V12, V13, V16, V17, V3, V18, Laid9, LT, FwPv, EP, V33, V34, V22, V23, V24, V25, V26, V27, V19, V31, V20, EN, V32). No condition but those that each theorem states. -/
import Derived.Test.YtobglplholhkcaaGreatDoorS5
import Derived.Test.YtobglplholhkcaaGreatDoorCards
import Derived.Test.YtobglplholhkcaaGreatDoorTie
import Derived.ProofKit
import Derived.OpenShut
import Derived.Deep.DeepHandedRow
import Derived.Lib.LaidIn
import Derived.Lib.LaidU8T
import Derived.Shelf.Vars
set_option linter.unusedSimpArgs false
set_option linter.unusedVariables false
namespace Go.Proofs.YtobglplholhkcaaGreatDoor
structure Ed where
 i:Nat
 j:Nat
 c:Int
inductive Wlk(p:Ed->Prop):Nat->Nat->List Ed->Prop
 | nil (u:Nat):Wlk p u u []
 | cons {e:Ed} {v:Nat} {L:List Ed}:p e->Wlk p e.j v L->Wlk p e.i v (e::L)
theorem Wlk.nil_eq{p:Ed->Prop}{u v:Nat}(h:Wlk p u v []):u=v:=by
 cases h;rfl
def sumE:List Ed->Int
 | []=>0
 | e::L=>e.c+sumE L
theorem Z35:∀ (x y:List Ed),sumE (x++y)=sumE x+sumE y
 | [],y=>by simp[sumE]
 | e::x,y=>by simp only[List.cons_append,sumE,Z35 x y];omega
theorem Wlk.app{p:Ed->Prop}{u v w:Nat}{x y:List Ed}(h:Wlk p u v x)(k:Wlk p v w y):Wlk p u w (x++y):=by
 induction h with
 | nil=>exact k
 | cons h1 _ ih=>exact .cons h1 (ih k)
theorem Wlk.split{p:Ed->Prop}{u w:Nat}:∀ {x y:List Ed},Wlk p u w (x++y)->∃ v,Wlk p u v x/\Wlk p v w y
 | [],y,h=>⟨u,.nil u,h⟩
 | e::x,y,h=>by
  cases h with
  | cons h1 h2 =>
   obtain⟨v,a,b⟩:=Wlk.split (x:=x) h2
   exact⟨v,.cons h1 a,b⟩
theorem Wlk.mono{p q:Ed->Prop}{u v:Nat}{L:List Ed}(h:Wlk p u v L)(hpq:∀ e ∈ L,p e->q e):Wlk q u v L:=by
 induction h with
 | nil=>exact .nil _
 | cons h1 _ ih=>exact .cons (hpq _ (by simp) h1) (ih fun e he=>hpq e (by simp[he]))
theorem Wlk.mem{p:Ed->Prop}{u v:Nat}{L:List Ed}(h:Wlk p u v L):∀ e ∈ L,p e:=by
 induction h with
 | nil=>simp
 | cons h1 _ ih =>
  intro e he
  rcases List.mem_cons.1 he with rfl|he
  ·exact h1
  ·exact ih e he
def Z3M (p:Ed->Prop):Prop:=∀ u L,Wlk p u u L->0<=sumE L
def In (p:Ed->Prop)(n:Nat):Prop:=∀ e,p e->e.i < n/\e.j < n
theorem Z8t:∀ (n:Nat) (l:List Nat),l.Nodup->(∀ x ∈ l,x < n)->l.length<=n
 | 0,l,_,h=>by
  cases l with
  | nil=>simp
  | cons a l=>exact absurd (h a (by simp)) (by omega)
 | n+1,l,hd,h=>by
  by_cases hn:n ∈ l
  ·have h1:(l.erase n).length<=n:=Z8t n (l.erase n) (hd.erase n) (fun x hx=>by
    have h2:=(hd.mem_erase_iff).1 hx
    have:=h x h2.2
    have:=h2.1
    omega)
   rw[List.length_erase_of_mem hn] at h1
   omega
  ·have:=Z8t n l hd (fun x hx=>by
    have:=h x hx
    have:x≠n:=fun e=>hn (e ▸ hx)
    omega)
   omega
theorem Zc3:∀ (l:List Nat),¬ l.Nodup->∃ (a b c:List Nat) (x:Nat),l=a++x::(b++x::c)
 | [],h=>absurd List.nodup_nil h
 | y::l,h=>by
  by_cases hy:y ∈ l
  ·obtain⟨b,c,rfl⟩:=List.append_of_mem hy
   exact⟨[],b,c,y,rfl⟩
  ·have:¬ l.Nodup:=fun hn=>h (List.nodup_cons.2 ⟨hy,hn⟩)
   obtain⟨a,b,c,x,rfl⟩:=Zc3 l this
   exact⟨y::a,b,c,x,rfl⟩
theorem Zdp{p:Ed->Prop}{u v:Nat}{L:List Ed}(h:Wlk p u v L)(hd:¬ (L.map (·.i)).Nodup):∃ (x y z:List Ed) (m:Nat),L=x++y++z/\y≠[]/\Wlk p u m x/\Wlk p m m y/\Wlk p m v z/\z≠[]:=by
 obtain⟨a,b,c,m,e⟩:=Zc3 _ hd
 obtain⟨x,r,rfl,hx,hr⟩:=List.map_eq_append_iff.1 e
 obtain⟨e1,r1,rfl,he1,hr1⟩:=List.map_eq_cons_iff.1 hr
 obtain⟨y,r2,rfl,hy,hr2⟩:=List.map_eq_append_iff.1 hr1
 obtain⟨e2,z,rfl,he2,hz⟩:=List.map_eq_cons_iff.1 hr2
 obtain⟨m1,w1,w2⟩:=Wlk.split h
 have h1:m1=m:=by
  cases w2 with
  | cons _ _=>exact he1
 subst h1
 rw[show e1::(y++e2::z)=(e1::y)++(e2::z) from rfl] at w2
 obtain⟨m2,w3,w4⟩:=Wlk.split w2
 have h2:m2=m1:=by
  cases w4 with
  | cons _ _=>exact he2
 subst h2
 exact⟨x,e1::y,e2::z,m2,by simp,by simp,w1,w3,w4,by simp⟩
theorem ZiI{p:Ed->Prop}{n:Nat}(hn:Z3M p)(hi:In p n){u v:Nat}{L:List Ed}(hv:v < n)(h:Wlk p u v L):∃ L',Wlk p u v L'/\L'.length < n/\sumE L'<=sumE L:=by
 have key:∀ (k:Nat) {u:Nat} {L:List Ed},L.length<=k->Wlk p u v L->∃ L',Wlk p u v L'/\(L'.map (·.i)++[v]).Nodup/\sumE L'<=sumE L:=by
  intro k
  induction k with
  | zero =>
   intro u L hk h
   obtain rfl:L=[]:=List.eq_nil_of_length_eq_zero (by omega)
   exact⟨[],h,by simp,Int.le_refl _⟩
  | succ k ih =>
   intro u L hk h
   by_cases hd:(L.map (·.i)).Nodup
   ·by_cases hm:v ∈ L.map (·.i)
    ·obtain⟨e,he,hev⟩:=List.mem_map.1 hm
     obtain⟨x,y,rfl⟩:=List.append_of_mem he
     obtain⟨m,w1,w2⟩:=Wlk.split h
     have hmv:m=v:=by
      cases w2 with
      | cons _ _=>exact hev
     subst hmv
     obtain⟨L',a1,a2,a3⟩:=ih (L:=x) (by simp only[List.length_append,List.length_cons] at hk;omega) w1
     refine⟨L',a1,a2,Int.le_trans a3 ?_⟩
     have:=hn m _ w2
     rw[Z35]
     omega
    ·refine⟨L,h,?_,Int.le_refl _⟩
     rw[List.nodup_append]
     refine⟨hd,by simp,fun a ha b hb=>?_⟩
     simp only[List.mem_singleton] at hb
     subst hb
     exact fun e=>hm (e ▸ ha)
   ·obtain⟨x,y,z,m,rfl,hy,w1,w2,w3,_⟩:=Zdp h hd
    have hyl:0 < y.length:=List.length_pos_iff.2 hy
    obtain⟨L',a1,a2,a3⟩:=ih (L:=x++z) (by simp only[List.length_append] at hk ⊢;omega) (w1.app w3)
    refine⟨L',a1,a2,Int.le_trans a3 ?_⟩
    have:=hn m y w2
    simp only[Z35]
    omega
 obtain⟨L',a1,a2,a3⟩:=key L.length (Nat.le_refl _) h
 refine⟨L',a1,?_,a3⟩
 have:=Z8t n _ a2 (fun x hx=>by
  rcases List.mem_append.1 hx with hx|hx
  ·obtain⟨e,he,rfl⟩:=List.mem_map.1 hx
   exact(hi e (a1.mem e he)).1
  ·simp at hx;omega)
 simp at this
 omega
def low (x:List Int)(e:Ed):List Int:=if x.getD e.i 0+e.c < x.getD e.j 0 then x.set e.j (x.getD e.i 0+e.c) else x
def rnd (l:List Ed)(x:List Int):List Int:=l.foldl low x
theorem ZbN(x:List Int)(e:Ed):(low x e).length=x.length:=by unfold low;split<;>simp
theorem ZbP:∀ (l:List Ed) (x:List Int),(rnd l x).length=x.length
 | [],x=>rfl
 | e::l,x=>by
  show(rnd l (low x e)).length=_
  rw[ZbP l,ZbN]
theorem Z4V(x:List Int)(i v:Nat)(y:Int):(x.set i y).getD v 0=if i=v/\v < x.length then y else x.getD v 0:=by
 simp only[List.getD,List.getElem?_set];by_cases h:i=v
 ·subst h;by_cases hv:i < x.length
  ·simp[hv]
  simp[hv]
 simp[h]
theorem ZgQ(x:List Int)(e:Ed)(v:Nat):(low x e).getD v 0<=x.getD v 0:=by
 unfold low;split
 ·rw[Z4V];split
  ·rename_i h1 h2;rw[<- h2.1];omega
  exact Int.le_refl _
 exact Int.le_refl _
theorem Ze5:∀ (l:List Ed) (x:List Int) (v:Nat),(rnd l x).getD v 0<=x.getD v 0
 | [],x,v=>Int.le_refl _
 | e::l,x,v=>Int.le_trans (Ze5 l (low x e) v) (ZgQ x e v)
theorem Ze4:∀ (l:List Ed) (x:List Int),(∀ e ∈ l,e.j < x.length)->∀ e ∈ l,(rnd l x).getD e.j 0<=x.getD e.i 0+e.c
 | [],x,_,e,h=>by simp at h
 | e::l,x,hj,e',h=>by
  show(rnd l (low x e)).getD e'.j 0<=_
  rcases List.mem_cons.1 h with rfl|h
  ·refine Int.le_trans (Ze5 l _ _) ?_
   unfold low
   split
   ·rw[Z4V,if_pos ⟨rfl,hj _ (by simp)⟩];exact Int.le_refl _
   ·omega
  ·have h1:=Ze4 l (low x e) (fun e2 he2=>by rw[ZbN];exact hj e2 (by simp[he2])) e' h
   have h2:=ZgQ x e e'.i
   omega
def SumW (p:Ed->Prop)(n:Nat)(x:List Int):Prop:=∀ v,v < n->∃ u L,u < n/\Wlk p u v L/\sumE L=x.getD v 0
theorem Wlk.snoc{p:Ed->Prop}{u v:Nat}{L:List Ed}{e:Ed}(h:Wlk p u v L)(he:p e)(hv:v=e.i):Wlk p u e.j (L++[e]):=by
 subst hv;exact h.app (.cons he (.nil _))
theorem Zi6{p:Ed->Prop}{n:Nat}{x:List Int}{e:Ed}(h:SumW p n x)(hi:In p n)(he:p e):SumW p n (low x e):=by
 intro v hv;unfold low;split
 ·rw[Z4V];split
  ·rename_i h1 h2
   obtain⟨u,L,hu,w,s⟩:=h e.i (hi e he).1;refine⟨u,L++[e],hu,?_,?_⟩
   ·rw[<- h2.1];exact w.snoc he rfl
   rw[Z35,s];simp[sumE]
  exact h v hv
 exact h v hv
theorem Ze6{p:Ed->Prop}{n:Nat}(hi:In p n):∀ (l:List Ed) {x:List Int},(∀ e ∈ l,p e)->SumW p n x->SumW p n (rnd l x)
 | [],x,_,h=>h
 | e::l,x,hl,h=>Ze6 hi l (fun e' he'=>hl e' (by simp[he'])) (Zi6 h hi (hl e (by simp)))
def rnds (l:List Ed)(x:List Int):Nat->List Int
 | 0=>x
 | k+1=>rnd l (rnds l x k)
theorem Z8E(l:List Ed)(x:List Int):∀ k,(rnds l x k).length=x.length
 | 0=>rfl
 | k+1=>by show(rnd l _).length=_;rw[ZbP,Z8E l x k]
theorem Zh6{l:List Ed}{x:List Int}(hx:∀ v,x.getD v 0=0)(hj:∀ e ∈ l,e.j < x.length):∀ (k:Nat) {u v:Nat} {L:List Ed},L.length<=k->Wlk (· ∈ l) u v L->(rnds l x k).getD v 0<=sumE L:=by
 intro k
 induction k with
 | zero =>
  intro u v L hk h
  obtain rfl:L=[]:=List.eq_nil_of_length_eq_zero (by omega)
  show x.getD v 0<=0
  rw[hx];exact Int.le_refl _
 | succ k ih =>
  intro u v L hk h
  show(rnd l (rnds l x k)).getD v 0<=sumE L
  rcases List.eq_nil_or_concat L with rfl|⟨M,e,rfl⟩
  ·refine Int.le_trans (Ze5 l _ v) (ih (L:=[]) (by simp) h)
  ·rw[List.concat_eq_append] at h hk ⊢
   obtain⟨m,w1,w2⟩:=Wlk.split h
   cases w2 with
   | cons he w3 =>
    have hev:=w3.nil_eq
    subst hev
    have h1:=Ze4 l (rnds l x k) (fun e he=>by rw[Z8E];exact hj e he) e he
    have h2:=ih (L:=M) (by simp only[List.length_append,List.length_cons,List.length_nil] at hk;omega) w1
    rw[Z35]
    simp only[sumE]
    omega
theorem Zi5{x:List Int}{e:Ed}(h:x.getD e.j 0<=x.getD e.i 0+e.c):low x e=x:=if_neg (by omega)
theorem Z8D:∀ (l:List Ed) (x:List Int),(∀ e ∈ l,x.getD e.j 0<=x.getD e.i 0+e.c)->rnd l x=x
 | [],x,_=>rfl
 | e::l,x,h=>by
  show rnd l (low x e)=x
  rw[Zi5 (h e (by simp))]
  exact Z8D l x fun e' he'=>h e' (by simp[he'])
theorem Zh5{l:List Ed}{x:List Int}{n:Nat}(hx:∀ v,x.getD v 0=0)(hl:x.length=n)(hi:In (· ∈ l) n)(hn:Z3M (· ∈ l))(hn0:0 < n):∀ e ∈ l,(rnds l x (n - 1)).getD e.j 0<=(rnds l x (n - 1)).getD e.i 0+e.c:=by
 intro e he
 have hj:∀ e ∈ l,e.j < x.length:=fun e he=>by rw[hl];exact(hi e he).2
 have hs:∀ k,SumW (· ∈ l) n (rnds l x k):=by
  intro k
  induction k with
  | zero=>exact fun v hv=>⟨v,[],hv,.nil v,by show(0:Int)=x.getD v 0;rw[hx]⟩
  | succ k ih=>exact Ze6 hi l (fun _ h=>h) ih
 obtain⟨u,L,hu,w,s⟩:=hs (n - 1) e.i (hi e he).1
 obtain⟨L',a1,a2,a3⟩:=ZiI hn hi (hi e he).2 (w.snoc he rfl)
 have:=Zh6 hx hj (n - 1) (by omega) a1
 rw[Z35,s] at a3
 simp only[sumE] at a3
 omega
theorem Zat{p:Ed->Prop}(x:Nat->Int)(h:∀ e,p e->x e.j<=x e.i+e.c):Z3M p:=by
 have key:∀ u v L,Wlk p u v L->x v<=x u+sumE L:=by
  intro u v L hw
  induction hw with
  | nil=>simp[sumE]
  | cons h1 _ ih=>have:=h _ h1;simp only[sumE];omega
 intro u L hw
 have:=key u u L hw
 omega
def far:Int:=1152921504606846976
def tlow (src dst:Ed->Nat)(old:List Int)(r:List Int)(e:Ed):List Int :=
 if old.getD (src e) 0≠far/\old.getD (src e) 0+e.c < r.getD (dst e) 0 then r.set (dst e) (old.getD (src e) 0+e.c) else r
def trow (src dst:Ed->Nat)(l:List Ed)(old:List Int)(n:Nat):List Int:=l.foldl (tlow src dst old) (List.replicate n far)
def RowS (R:Nat->Int->Prop)(n:Nat)(r:List Int):Prop:=r.length=n/\∀ v,v < n->(r.getD v 0≠far->R v (r.getD v 0))/\∀ c,R v c->r.getD v 0<=c
theorem Z6I(src dst:Ed->Nat)(old r:List Int)(e:Ed):(tlow src dst old r e).length=r.length:=by unfold tlow;split<;>simp
theorem Zk3(src dst:Ed->Nat)(old r:List Int)(e:Ed)(v:Nat):(tlow src dst old r e).getD v 0<=r.getD v 0:=by
 unfold tlow;split
 ·rename_i h
  rw[Z4V];split
  ·rename_i h1;rw[<- h1.1];omega
  exact Int.le_refl _
 exact Int.le_refl _
theorem Zej(src dst:Ed->Nat)(old:List Int):∀ (l:List Ed) (r:List Int) (v:Nat),(l.foldl (tlow src dst old) r).getD v 0<=r.getD v 0
 | [],_,_=>Int.le_refl _
 | e::l,r,v=>Int.le_trans (Zej src dst old l _ v) (Zk3 src dst old r e v)
theorem Zcq(src dst:Ed->Nat)(old:List Int):∀ (l:List Ed) (r:List Int),(l.foldl (tlow src dst old) r).length=r.length
 | [],_=>rfl
 | e::l,r=>by rw[List.foldl_cons,Zcq src dst old l,Z6I]
theorem Zbs(src dst:Ed->Nat)(old:List Int)(n:Nat):∀ (l:List Ed) (r:List Int),r.length=n->∀ v,v < n->(l.foldl (tlow src dst old) r).getD v 0=r.getD v 0\/∃ e ∈ l,dst e=v/\old.getD (src e) 0≠far/\(l.foldl (tlow src dst old) r).getD v 0=old.getD (src e) 0+e.c
 | [],_,_,_,_=>.inl rfl
 | e::l,r,hr,v,hv=>by
  rw[List.foldl_cons]
  rcases Zbs src dst old n l (tlow src dst old r e) (by rw[Z6I,hr]) v hv with h|⟨e',he',h⟩
  ·rw[h]
   unfold tlow
   split
   ·rename_i hc
    rw[Z4V]
    split
    ·rename_i h1;exact .inr ⟨e,by simp,h1.1,hc.1,rfl⟩
    ·exact .inl rfl
   ·exact .inl rfl
  ·exact .inr ⟨e',by simp[he'],h⟩
theorem Zbr(src dst:Ed->Nat)(old:List Int)(n:Nat):∀ (l:List Ed) (r:List Int),r.length=n->∀ e ∈ l,dst e < n->old.getD (src e) 0≠far->(l.foldl (tlow src dst old) r).getD (dst e) 0<=old.getD (src e) 0+e.c
 | [],_,_,e,h,_,_=>by simp at h
 | e'::l,r,hr,e,h,hd,ho=>by
  rw[List.foldl_cons]
  rcases List.mem_cons.1 h with rfl|h
  ·refine Int.le_trans (Zej src dst old l _ _) ?_
   unfold tlow
   split
   ·rw[Z4V,if_pos ⟨rfl,by omega⟩];exact Int.le_refl _
   ·rename_i hc
    have:¬ (old.getD (src e) 0+e.c < r.getD (dst e) 0):=fun q=>hc ⟨ho,q⟩
    omega
  ·exact Zbr src dst old n l _ (by rw[Z6I,hr]) e h hd ho
theorem Ze0{n v:Nat}(hv:v < n):(List.replicate n far).getD v 0=far:=by simp[List.getD,hv]
theorem Zcs{src dst:Ed->Nat}{l:List Ed}{old:List Int}{n:Nat}{R R':Nat->Int->Prop}(hb:∀ v c,R v c->c < far)(hb':∀ v c,R' v c->c < far)(hi:∀ e ∈ l,src e < n/\dst e < n)(ho:RowS R n old)
  (hR:∀ v c,R' v c ↔ ∃ e ∈ l,dst e=v/\∃ c',R (src e) c'/\c=c'+e.c):RowS R' n (trow src dst l old n):=by
 refine⟨by unfold trow;rw[Zcq];simp,fun v hv=>⟨fun hne=>?_,fun c hc=>?_⟩⟩
 ·rcases Zbs src dst old n l (List.replicate n far) (by simp) v hv with h|⟨e,he,h1,h2,h3⟩
  ·exact absurd (h.trans (Ze0 hv)) hne
  ·refine(hR v _).2 ⟨e,he,h1,_,(ho.2 _ (hi e he).1).1 h2,h3⟩
 ·obtain⟨e,he,rfl,c',hc',rfl⟩:=(hR v c).1 hc
  have h1:=(ho.2 _ (hi e he).1).2 c' hc'
  have h2:=hb _ _ hc'
  have:=Zbr src dst old n l (List.replicate n far) (by simp) e he (hi e he).2 (by omega)
  show(l.foldl (tlow src dst old) (List.replicate n far)).getD _ 0<=_
  omega
def FW (l:List Ed)(s k v:Nat)(c:Int):Prop:=∃ L,Wlk (· ∈ l) s v L/\L.length=k/\sumE L=c
theorem Z8d{l:List Ed}(hc:∀ e ∈ l,-1099511627776<=e.c/\e.c<=1099511627776):∀ (L:List Ed),(∀ e ∈ L,e ∈ l)->-((L.length:Int) * 1099511627776)<=sumE L/\sumE L<=(L.length:Int) * 1099511627776
 | [],_=>by simp[sumE]
 | e::L,h=>by
  have h1:=Z8d hc L fun e he=>h e (by simp[he])
  have h2:=hc e (h e (by simp))
  simp only[sumE,List.length_cons,Int.natCast_add,Int.natCast_one,Int.add_mul]
  omega
theorem Z7Q{l:List Ed}(hc:∀ e ∈ l,-1099511627776<=e.c/\e.c<=1099511627776){s k v:Nat}{c:Int}(h:FW l s k v c):-((k:Int) * 1099511627776)<=c/\c<=(k:Int) * 1099511627776:=by
 obtain⟨L,w,rfl,rfl⟩:=h;exact Z8d hc L w.mem
theorem fw_0{l:List Ed}{s v:Nat}{c:Int}:FW l s 0 v c ↔ v=s/\c=0:=by
 constructor
 ·rintro⟨L,w,h,rfl⟩;obtain rfl:=List.eq_nil_of_length_eq_zero h;exact⟨w.nil_eq.symm,rfl⟩
 rintro⟨rfl,rfl⟩;exact⟨[],.nil _,rfl,rfl⟩
theorem Zjp{l:List Ed}{s k v:Nat}{c:Int}:FW l s (k+1) v c ↔ ∃ e ∈ l,e.j=v/\∃ c',FW l s k e.i c'/\c=c'+e.c:=by
 constructor
 ·rintro⟨L,w,h,rfl⟩
  rcases List.eq_nil_or_concat L with rfl|⟨M,e,rfl⟩
  ·simp at h
  ·rw[List.concat_eq_append] at w h ⊢
   obtain⟨m,w1,w2⟩:=Wlk.split w
   cases w2 with
   | cons he w3 =>
    refine⟨e,he,w3.nil_eq,_,⟨M,w1,by simpa using h,rfl⟩,?_⟩
    rw[Z35];simp[sumE]
 ·rintro⟨e,he,rfl,c',⟨M,w,h,rfl⟩,rfl⟩
  exact⟨M++[e],w.snoc he rfl,by simp[h],by rw[Z35];simp[sumE]⟩
theorem Zjo{l:List Ed}{k u t:Nat}{c:Int}:FW l u (k+1) t c ↔ ∃ e ∈ l,e.i=u/\∃ c',FW l e.j k t c'/\c=c'+e.c:=by
 constructor
 ·rintro⟨L,w,h,rfl⟩
  cases w with
  | nil=>simp at h
  | @cons e _ M he w2=>exact⟨e,he,rfl,_,⟨M,w2,by simpa using h,rfl⟩,by simp only[sumE];omega⟩
 ·rintro⟨e,he,rfl,c',⟨M,w,h,rfl⟩,rfl⟩
  exact⟨e::M,.cons he w,by simp[h],by simp only[sumE];omega⟩
theorem Zr{l:List Ed}{n s:Nat}(hs:s < n):RowS (fun v c=>FW l s 0 v c) n ((List.replicate n far).set s 0):=by
 refine⟨by simp,fun v hv=>⟨fun h=>?_,fun c hc=>?_⟩⟩
 ·rw[Z4V] at h ⊢;by_cases hsv:s=v
  ·rw[if_pos ⟨hsv,by simpa using hv⟩];exact fw_0.2 ⟨hsv.symm,rfl⟩
  rw[if_neg (fun q=>hsv q.1),Ze0 hv] at h;exact absurd rfl h
 obtain⟨rfl,rfl⟩:=fw_0.1 hc;rw[Z4V,if_pos ⟨rfl,by simpa using hv⟩];exact Int.le_refl _
theorem Zh8{l:List Ed}{n t:Nat}(ht:t < n):RowS (fun u c=>FW l u 0 t c) n ((List.replicate n far).set t 0):=by
 have h:=Zr (l:=l) (n:=n) (s:=t) ht;refine⟨h.1,fun v hv=>⟨fun q=>?_,fun c hc=>?_⟩⟩
 ·have:=fw_0.1 ((h.2 v hv).1 q);exact fw_0.2 ⟨this.1.symm,this.2⟩
 have:=fw_0.1 hc;exact(h.2 v hv).2 c (fw_0.2 ⟨this.1.symm,this.2⟩)
section
variable {l:List Ed}{n:Nat}(hc:∀ e ∈ l,-1099511627776<=e.c/\e.c<=1099511627776)(hi:In (· ∈ l) n)
include hc hi
theorem Zle{s k:Nat}{old:List Int}(hk:k<=1000000)(h:RowS (fun v c=>FW l s k v c) n old):RowS (fun v c=>FW l s (k+1) v c) n (trow (·.i) (·.j) l old n):=by
 refine Zcs (fun v c q=>?_) (fun v c q=>?_) (fun e he=>hi e he) h (fun v c=>Zjp)
 ·have:=Z7Q hc q;unfold far;omega
 have:=Z7Q hc q;unfold far;omega
theorem Zj4{t k:Nat}{old:List Int}(hk:k<=1000000)(h:RowS (fun u c=>FW l u k t c) n old):RowS (fun u c=>FW l u (k+1) t c) n (trow (·.j) (·.i) l old n):=by
 refine Zcs (fun v c q=>?_) (fun v c q=>?_) (fun e he=>⟨(hi e he).2,(hi e he).1⟩) h (fun v c=>Zjo)
 ·have:=Z7Q hc q;unfold far;omega
 have:=Z7Q hc q;unfold far;omega
end
def Cyc (p:Ed->Prop)(k:Nat):Prop:=∃ u L,Wlk p u u L/\L.length=k/\sumE L < 0
def Z6i (p:Ed->Prop)(k:Nat):Prop:=∀ k',k' < k->¬ Cyc p k'
theorem Zb3{p:Ed->Prop}{u:Nat}{L:List Ed}(hl:Z6i p L.length)(w:Wlk p u u L)(hs:sumE L < 0):(L.map (·.i)).Nodup:=by
 refine Classical.byContradiction fun hd=>?_;obtain⟨x,y,z,m,rfl,hy,w1,w2,w3,hz⟩:=Zdp w hd;have hyl:0 < y.length:=List.length_pos_iff.2 hy;have hzl:0 < z.length:=List.length_pos_iff.2 hz;simp only[Z35] at hs;by_cases h:sumE y < 0
 ·exact hl y.length (by simp only[List.length_append];omega) ⟨m,y,w2,rfl,h⟩
 exact hl (x++z).length (by simp only[List.length_append];omega) ⟨u,x++z,w1.app w3,rfl,by rw[Z35];omega⟩
theorem Zkg{p:Ed->Prop}{n:Nat}(hi:In p n)(hn:¬ Z3M p):∃ k,0 < k/\k<=n/\Cyc p k/\Z6i p k:=by
 have h1:∃ k,Cyc p k:=by
  refine Classical.byContradiction fun h=>hn fun u L w=>?_
  refine Classical.byContradiction fun hs=>h ⟨L.length,u,L,w,rfl,by omega⟩
 have hmin:∀ k,Cyc p k->∃ m,Cyc p m/\Z6i p m:=by
  intro k
  induction k using Nat.strongRecOn with
  | ind k ih =>
   intro hk
   by_cases hl:Z6i p k
   ·exact⟨k,hk,hl⟩
   ·have:∃ k',k' < k/\Cyc p k':=by
     refine Classical.byContradiction fun q=>hl fun k' hk' hc=>q ⟨k',hk',hc⟩
    obtain⟨k',hk',hc⟩:=this
    exact ih k' hk' hc
 obtain⟨k,hk⟩:=h1
 obtain⟨m,⟨u,L,w,rfl,hs⟩,hl⟩:=hmin k hk
 have hd:=Zb3 hl w hs
 have hle:=Z8t n _ hd (fun x hx=>by
  obtain⟨e,he,rfl⟩:=List.mem_map.1 hx
  exact(hi e (w.mem e he)).1)
 refine⟨L.length,?_,by simpa using hle,⟨u,L,w,rfl,hs⟩,hl⟩
 rcases Nat.eq_zero_or_pos L.length with h|h
 ·obtain rfl:=List.eq_nil_of_length_eq_zero h
  simp[sumE] at hs
 ·exact h
theorem Wlk.head{p:Ed->Prop}{u v:Nat}{L:List Ed}(h:Wlk p u v L):(L.map (·.i)++[v]).head? = some u:=by
 cases h<;>rfl
set_option maxRecDepth 100000
def ed (b:Z1):Ed:=⟨b.I.toNat,b.J.toNat,b.C⟩
def eds (l:List Z1):List Ed:=l.map ed
structure Z0j(n:Nat)(l:List Z1):Prop where
 n1:1<=n
 n2:n<=512
 len:l.length<=4000
 bd:∀ b ∈ l,0<=b.I/\b.I < (n:Int)/\0<=b.J/\b.J < (n:Int)/\-1099511627776<=b.C/\b.C<=1099511627776
theorem Z0j.inn{n:Nat}{l:List Z1}(h:Z0j n l):In (· ∈ eds l) n:=by
 intro e he;obtain⟨b,hb,rfl⟩:=List.mem_map.1 he;have:=h.bd b hb;simp only[ed];omega
theorem Z0j.cc{n:Nat}{l:List Z1}(h:Z0j n l):∀ e ∈ eds l,-1099511627776<=e.c/\e.c<=1099511627776:=by
 intro e he;obtain⟨b,hb,rfl⟩:=List.mem_map.1 he;have:=h.bd b hb;simp only[ed];omega
theorem Z0v{x:List Int}{k:Int}(h0:0<=k)(h1:k < (x.length:Int)):atI x k=some (x.getD k.toNat 0):=by
 obtain⟨k,rfl⟩:=Int.eq_ofNat_of_zero_le h0;rw[Zc (show k < x.length by omega)];simp[List.getD,show k < x.length by omega]
theorem Z3L{α:Type}{l:List α}{n:Nat}(x:α)(h:n < l.length):setI l (n:Int) x=some (l.set n x):=by
 unfold setI;rw[if_pos (by omega)];rfl
theorem Z4U{α:Type}{l:List α}{k:Int}(x:α)(h0:0<=k)(h1:k < (l.length:Int)):setI l k x=some (l.set k.toNat x):=by
 obtain⟨k,rfl⟩:=Int.eq_ofNat_of_zero_le h0;exact Z3L x (by omega)
theorem Z6e{S α E:Type}(F:S->α->S)(fin:S->E):∀ (L:List α) (s:S),runF (fun s a=>.inr (F s a)) fin s L=fin (L.foldl F s)
 | [],s=>rfl
 | a::L,s=>by simp only[runF,List.foldl_cons];exact Z6e F fin L _
def heed (x:List Int)(e:Ed):Prop:=x.getD e.j 0<=x.getD e.i 0+e.c
def Bd (n:Nat)(K:Int)(x:List Int):Prop:=x.length=n/\∀ v,v < n->-(K * 1099511627776)<=x.getD v 0/\x.getD v 0<=0
def chF (s:Bool × List Int)(b:Z1):Bool × List Int:=if s.2.getD (ed b).i 0+(ed b).c < s.2.getD (ed b).j 0 then(true,s.2.set (ed b).j (s.2.getD (ed b).i 0+(ed b).c)) else s
theorem ZbI(s:Bool × List Int)(b:Z1):(chF s b).2=low s.2 (ed b):=by unfold chF low;split<;>rfl
theorem Z6B:∀ (l:List Z1) (s:Bool × List Int),(l.foldl chF s).2=rnd (eds l) s.2
 | [],s=>rfl
 | b::l,s=>by
  rw[List.foldl_cons,Z6B l]
  show rnd (eds l) (chF s b).2=rnd (eds l) (low s.2 (ed b))
  rw[ZbI]
theorem Zdn:∀ (l:List Z1) (x:List Int),(l.foldl chF (true,x)).1=true
 | [],_=>rfl
 | b::l,x=>by
  rw[List.foldl_cons]
  rw[show chF (true,x) b=(true,(chF (true,x) b).2) from by unfold chF;split<;>rfl]
  exact Zdn l _
theorem Z6T:∀ (l:List Z1) (x:List Int),(l.foldl chF (false,x)).1=false ↔ ∀ e ∈ eds l,heed x e
 | [],x=>by simp[eds]
 | b::l,x=>by
  rw[List.foldl_cons]
  by_cases h:x.getD (ed b).i 0+(ed b).c < x.getD (ed b).j 0
  ·have h1:chF (false,x) b=(true,x.set (ed b).j (x.getD (ed b).i 0+(ed b).c)):=by unfold chF;rw[if_pos h]
   rw[h1,Zdn]
   constructor
   ·intro q;cases q
   ·intro q
    have:=q (ed b) (by simp[eds])
    unfold heed at this
    omega
  ·have h1:chF (false,x) b=(false,x):=by unfold chF;rw[if_neg h]
   rw[h1,Z6T l x]
   constructor
   ·intro q e he
    rcases List.mem_cons.1 he with rfl|he
    ·unfold heed;omega
    ·exact q e he
   ·intro q e he
    exact q e (List.mem_cons_of_mem _ he)
theorem ZdL{n:Nat}{l:List Z1}(hl:Z0j n l){b:Z1}(hb:b ∈ l){K:Int}{x:List Int}(h:Bd n K x):Bd n (K+1) (low x (ed b)):=by
 refine⟨by rw[ZbN];exact h.1,fun v hv=>?_⟩;have hq:=hl.bd b hb;have h1:=h.2 v hv;unfold low;split
 ·rename_i hlt
  rw[Z4V];split
  ·rename_i hvj
   have h2:=h.2 (ed b).i (by simp only[ed];omega);have h3:=h.2 (ed b).j (by simp only[ed];omega);have h4:(ed b).c=b.C:=rfl;omega
  omega
 omega
theorem Ziu{n:Nat}{l:List Z1}(hl:Z0j n l){K:Int}(hK:K<=3000000){x:List Int}(hx:Bd n K x):iter (Z1e l) (false,0,x)=some ((l.foldl chF (false,x)).2,(l.foldl chF (false,x)).1):=by
 have hn:=hl.n2
 have hlen:=hl.len
 have:=ZF (step:=Z1e l) l (by omega) (fun i (s:Bool × List Int)=>(s.1,i,s.2)) (fun s b=>.inr (chF s b)) (fun s=>(s.2,s.1)) (fun i s=>Bd n (K+i) s.2) (s0:=(false,x)) (by simpa using hx)
  (fun i hi s hs=>.inr ⟨_,rfl,by
   have hb:=hl.bd _ (List.getElem_mem hi)
   unfold Z1e
   rw[if_pos (by simpa using hi),Zc hi,wr64 (x:=(i:Int)+1) (by omega)]
   simp only[Option.bind_some]
   generalize l[i]=b at hb
   have hs1:=hs.1
   have h1:=hs.2 b.I.toNat (by omega)
   have h2:=hs.2 b.J.toNat (by omega)
   rw[Z0v hb.1 (by omega),Z0v hb.2.2.1 (by omega)]
   simp only[Option.bind_some]
   rw[if_pos (by rw[bne_iff_ne];omega),wr64 (x:=s.2.getD b.I.toNat 0+b.C) (by omega)]
   by_cases q:s.2.getD b.I.toNat 0+b.C < s.2.getD b.J.toNat 0
   ·have e1:chF s b=(true,s.2.set b.J.toNat (s.2.getD b.I.toNat 0+b.C)):=by unfold chF ed;rw[if_pos q]
    simp only[q,decide_true,Option.bind_some,if_true]
    rw[Z4U _ hb.2.2.1 (by omega),e1]
    rfl
   ·have e1:chF s b=s:=by unfold chF ed;rw[if_neg q]
    simp only[q,decide_false,Option.bind_some,Bool.false_eq_true,if_false]
    rw[e1],by
   rw[ZbI]
   have:=ZdL hl (List.getElem_mem hi) hs
   rw[show K+((i+1:Nat):Int)=K+(i:Int)+1 by omega]
   exact this⟩)
  (fun s hs=>by unfold Z1e;rw[if_neg (by simp)])
 rw[Z6e] at this
 exact this
theorem Zjn{n:Nat}{l:List Z1}(hl:Z0j n l){K:Int}{x:List Int}(hx:Bd n K x):Bd n (K+4000) (rnd (eds l) x):=by
 have key:∀ (t:List Z1) (K:Int) (x:List Int),(∀ b ∈ t,b ∈ l)->Bd n K x->Bd n (K+t.length) (rnd (eds t) x):=by
  intro t
  induction t with
  | nil=>intro K x _ h;simpa[eds,rnd] using h
  | cons b t ih =>
   intro K x ht h
   have:=ih (K+1) (low x (ed b)) (fun c hc=>ht c (by simp[hc])) (ZdL hl (ht b (by simp)) h)
   show Bd n _ (rnd (eds t) (low x (ed b)))
   rw[show K+((b::t).length:Int)=K+1+(t.length:Int) by simp;omega]
   exact this
 have h1:=key l K x (fun _ h=>h) hx
 refine⟨h1.1,fun v hv=>?_⟩
 have:=h1.2 v hv
 have:=hl.len
 have h2:(K+(l.length:Int)) * 1099511627776<=(K+4000) * 1099511627776:=by omega
 omega
def x0 (n:Nat):List Int:=List.replicate n 0
theorem x0_0(n v:Nat):(x0 n).getD v 0=0:=by
 unfold x0;by_cases h:v < n<;>simp[List.getD,h]
theorem Z9R{n:Nat}{l:List Z1}(hl:Z0j n l):∀ k:Nat,Bd n ((k:Int) * 4000) (rnds (eds l) (x0 n) k)
 | 0=>⟨by simp[rnds,x0],fun v hv=>by rw[show rnds (eds l) (x0 n) 0=x0 n from rfl,x0_0];omega⟩
 | k+1=>by
  have:=Zjn hl (Z9R hl k)
  rw[show((k+1:Nat):Int) * 4000=(k:Int) * 4000+4000 by omega]
  exact this
theorem Z9w{l:List Ed}{x:List Int}{k:Nat}(h:∀ e ∈ l,heed (rnds l x k) e):∀ m,rnds l x (k+m)=rnds l x k
 | 0=>rfl
 | m+1=>by
  show rnd l (rnds l x (k+m))=_
  rw[Z9w h m]
  exact Z8D l _ h
def sol (n:Nat)(l:List Z1):List Int:=rnds (eds l) (x0 n) (n - 1)
theorem Z8F{n:Nat}{l:List Z1}(hl:Z0j n l)(hn:Z3M (· ∈ eds l)):∀ e ∈ eds l,heed (sol n l) e :=
 Zh5 (x0_0 n) (by simp[x0]) hl.inn hn hl.n1
theorem ZdZ{n:Nat}{l:List Z1}(hl:Z0j n l):∃ r,Z12 l (x0 n)=some r/\((Z3M (· ∈ eds l)/\r=(true,sol n l))\/(¬ Z3M (· ∈ eds l)/\r.1=false)):=by
 have hn:=hl.n2
 have hn1:=hl.n1
 have hx0:(x0 n).length=n:=by simp[x0]
 obtain⟨e,he,hp⟩:=ZD (step:=Z3h l (x0 n)) (fun x=>∃ i:Nat,x.1=i/\i<=n+1/\x.2=rnds (eds l) (x0 n) i/\∀ k,k < i->¬ ∀ e ∈ eds l,heed (rnds (eds l) (x0 n) k) e) (fun x=>n+1 - x.1.toNat)
  (fun e=>e.elim (fun x=>∃ k,k<=n/\x=rnds (eds l) (x0 n) k/\(∀ e ∈ eds l,heed (rnds (eds l) (x0 n) k) e)/\∀ j,j < k->¬ ∀ e ∈ eds l,heed (rnds (eds l) (x0 n) j) e) (fun x=>x.length=n/\∀ k,k < n+1->¬ ∀ e ∈ eds l,heed (rnds (eds l) (x0 n) k) e))
  (x:=(0,x0 n)) ⟨0,rfl,by omega,rfl,fun k h=>by omega⟩ (by dsimp only;omega) (by
   rintro⟨x,y⟩ ⟨i,h1,h2,h3,h4⟩
   dsimp only at h1 h3
   subst h1 h3
   unfold Z3h
   dsimp only
   rw[hx0,wr64 (x:=(n:Int)+1) (by omega)]
   by_cases q:i < n+1
   ·rw[if_pos (by simp;omega),Ziu hl (by omega) (Z9R hl i),wr64 (x:=(i:Int)+1) (by omega)]
    simp only[Option.bind_some]
    cases hc:(l.foldl chF (false,rnds (eds l) (x0 n) i)).1 with
    | true =>
     left
     simp only[if_true]
     refine⟨_,rfl,⟨i+1,by simp,by omega,?_,fun k hk=>?_⟩,by dsimp only;omega⟩
     ·dsimp only;rw[Z6B];rfl
     ·rcases Nat.lt_succ_iff_lt_or_eq.1 hk with hk|rfl
      ·exact h4 k hk
      ·intro hh
       rw[(Z6T l _).2 hh] at hc
       cases hc
    | false =>
     right
     simp only[Bool.false_eq_true,if_false]
     have hh:=(Z6T l _).1 hc
     refine⟨_,rfl,i,by omega,?_,hh,h4⟩
     rw[Z6B]
     exact Z8D _ _ hh
   ·right
    rw[if_neg (by simp;omega)]
    obtain rfl:i=n+1:=by omega
    exact⟨_,rfl,by rw[Z8E];exact hx0,h4⟩)
 have hw:Z22 l (x0 n)=some (e.elim (fun x=>(true,x)) (fun x=>(false,x))):=by
  unfold Z22
  rw[he]
  cases e<;>rfl
 cases e with
 | inl x =>
  obtain⟨k,hk,rfl,hh,hf⟩:=hp
  have hnn:Z3M (· ∈ eds l):=Zat (fun v=>(rnds (eds l) (x0 n) k).getD v 0) hh
  have hkn:k<=n - 1:=by
   by_cases q:n - 1 < k
   ·exact absurd (Z8F hl hnn) (hf (n - 1) q)
   ·omega
  have hs:rnds (eds l) (x0 n) k=sol n l:=by
   have:=Z9w hh (n - 1 - k)
   rw[show k+(n - 1 - k)=n - 1 by omega] at this
   exact this.symm
  refine⟨(true,sol n l),?_,.inl ⟨hnn,rfl⟩⟩
  unfold Z12
  rw[hw]
  simp only[Option.bind_some]
  exact(if_pos (show(rnds (eds l) (x0 n) k).length=(x0 n).length from Z8E _ _ _)).trans (by rw[hs];rfl)
 | inr x =>
  refine⟨(false,x),?_,.inr ⟨fun hnn=>?_,rfl⟩⟩
  ·unfold Z12
   rw[hw]
   simp only[Option.bind_some]
   exact if_pos (show x.length=(x0 n).length by rw[hx0];exact hp.1)
  ·exact hp.2 (n - 1) (by omega) (Z8F hl hnn)
theorem ZeC(e:Z0)(hz:EvZ e)(hr:∀ r ∈ e.Rows,r.Runs.length<=16):∃ c,Z1c e=some c:=by
 obtain⟨x,he,_⟩:=ZD (step:=Z11 e) (fun x=>0<=x.2/\x.2<=(e.Rows.length:Int)) (fun x=>e.Rows.length - x.2.toNat) (fun _=>True) (x:=(0,0)) ⟨by simp,by simp⟩ (by have:=hz.1;dsimp only;omega) (by
  rintro⟨c,i⟩ ⟨q1,q2⟩
  dsimp only at q1 q2
  obtain⟨i,rfl⟩:=Int.eq_ofNat_of_zero_le q1
  have hn:=hz.1
  unfold Z11
  dsimp only
  by_cases hi:i < e.Rows.length
  ·have hm:=List.getElem_mem hi
   rw[if_pos (by simpa using hi),Zc hi,wr64 (x:=(i:Int)+1) (by omega)]
   simp only[Option.bind_some]
   obtain⟨s,hs,hsl⟩:=Z9q _ (hz.2 _ hm).1 (hr _ hm)
   rw[hs]
   simp only[Option.bind_some]
   obtain⟨y,hy,_⟩:=ZD (step:=Z1o s) (fun x=>True) (fun x=>s.length - x.2) (fun _=>True) (x:=(c,0)) trivial (by dsimp only;omega) (by
    rintro⟨c',p⟩ _
    unfold Z1o
    dsimp only
    by_cases hp:p < s.length
    ·have hw:=Z6Y hp
     rw[if_pos (by simpa using hp)]
     split
     ·exact .inl ⟨_,rfl,trivial,by dsimp only;omega⟩
     ·exact .inl ⟨_,rfl,trivial,by dsimp only;omega⟩
    ·right
     rw[if_neg (by simpa using hp)]
     exact⟨_,rfl,trivial⟩)
   rw[hy]
   exact .inl ⟨_,rfl,⟨by dsimp only;omega,by dsimp only;omega⟩,by dsimp only;omega⟩
  ·right
   rw[if_neg (by simpa using hi)]
   exact⟨_,rfl,trivial⟩)
 unfold Z1c
 rw[he]
 exact⟨_,rfl⟩
def letS (e:Z0):Int:=(Z1c e).getD 0
theorem Zjt(e:Z0)(hz:EvZ e)(hr:∀ r ∈ e.Rows,r.Runs.length<=16):Z1c e=some (letS e):=by
 obtain⟨c,h⟩:=ZeC e hz hr;unfold letS;rw[h];rfl
theorem Zas(r c l:Int)(h0:0<=r)(h1:r<=255):0<=(Z7i r c l).1/\(Z7i r c l).1<=120000000000:=by
 unfold Z7i
 split
 ·rename_i hv
  split
  ·rename_i hw
   have hw':wiB c 0 10000=true/\wiB l 1 10000=true:=by simpa using hw
   have hc:=Zd8 hw'.1
   have hl:=Zd8 hw'.2
   obtain⟨_,_,_,ht⟩:=Zj1 r h0 h1
   obtain⟨_,t1,t2⟩:=ht hv
   have hm:=Zcb 10000 hl.1 hl.2 t1 t2 (by omega)
   generalize l * rtT r=b at hm
   have hle:upQ (c * 12000000) b<=120000000000:=(Zht (by omega) (by omega)).2 (by
    have:120000000000 * 1<=120000000000 * b:=Int.mul_le_mul_of_nonneg_left hm.1 (by omega)
    omega)
   refine⟨?_,hle⟩
   show 0<=upQ (c * 12000000) b
   unfold upQ
   exact Int.tdiv_nonneg (by omega) (by omega)
  ·simp
 ·simp
def bsA (d:Z2)(p:Z7)(i:Int)(x:Z0):List Z1 :=
 [⟨2 * i+2,2 * i+1,-(Z7i d.Rate (letS x) p.Reading).1,1,x.ID,0⟩,⟨2 * i+2,2 * i+1,-p.MinFrames,2,x.ID,0⟩,⟨2 * i+1,2 * i+2,p.MaxFrames,3,x.ID,0⟩]
def bsZ (v:Int)(z:Ze)(id:Int):List Z1:=[⟨v,0,-z.In,6,id,0⟩,⟨0,v,z.Out - 1,6,id,0⟩]
def bsT (v f tol id:Int):List Z1:=[⟨v,0,-(f - tol),11,id,0⟩,⟨0,v,f+tol,11,id,0⟩]
def bsG (p:Z7)(i id:Int):Option Z0->List Z1
 | some y=>[⟨2 * i+3,2 * i+2,-p.MinGap,4,id,y.ID⟩]
 | none=>[]
def bsE (d:Z2)(p:Z7)(l:List Int)(tol:Int)(i:Nat)(x:Z0):Int ⊕ List Z1 :=
 if(zoS l x.Span.In p).2≠0 then .inl (zoS l x.Span.In p).2 else if(zoS l x.Span.Out p).2≠0 then .inl (zoS l x.Span.Out p).2 else
  .inr (bsA d p i x++(bsZ (2 * i+1) (zoS l x.Span.In p).1 x.ID++bsZ (2 * i+2) (zoS l x.Span.Out p).1 x.ID)++(bsT (2 * i+1) x.Span.In tol x.ID++bsT (2 * i+2) x.Span.Out tol x.ID)++bsG p i x.ID d.Events[i+1]?)
theorem Z8e(l:List Int)(hl:l.length<=1000)(f:Int)(p:Z7):(zoS l f p).2=0->0<=(zoS l f p).1.In/\(zoS l f p).1.In<=5184000/\1<=(zoS l f p).1.Out/\(zoS l f p).1.Out<=5184001:=by
 obtain⟨_,h⟩:=Zeg l hl f p.ShotBefore p.ShotAfter
 unfold zoS
 cases hs:(snS l f p.ShotBefore p.ShotAfter).2 with
 | false=>intro q;cases q
 | true =>
  intro _
  have:=ZkZ p (h hs) l
  simp only[if_true]
  have:=h hs
  omega
theorem Zhu(out:List Z1)(ho:out.length<=1000000)(v lo hi rule id:Int)(h:-9000000<=lo/\lo<=9000000):Z2T out v lo hi rule id=some (out++[⟨v,0,-lo,rule,id,0⟩,⟨0,v,hi,rule,id,0⟩]):=by
 unfold Z2T;rw[if_pos (by omega),wr64 (x:=0 - lo) (by omega),Int.zero_sub]
theorem Zkd(p:Z7)(l:List Int)(hl:l.length<=1000)(out0:List Z1)(i:Nat)(hi:i<=1000)(y:Z0)(out:List Z1)(ho:out.length<=900000) :
  iter (Z1a p l (out0,(i:Int)) y) (0,out)=some (if(zoS l y.Span.In p).2≠0 then .inl (zoS l y.Span.In p).2 else if(zoS l y.Span.Out p).2≠0 then .inl (zoS l y.Span.Out p).2 else .inr (out++bsZ (2 * i+1) (zoS l y.Span.In p).1 y.ID++bsZ (2 * i+2) (zoS l y.Span.Out p).1 y.ID)):=by
 have hst:∀ (k:Nat) (f:Int) (s:List Z1),(k=0/\f=y.Span.In\/k=1/\f=y.Span.Out)->s.length<=999999->Z1a p l (out0,(i:Int)) y ((k:Int),s)=if(zoS l f p).2≠0 then some (.out (.inl (zoS l f p).2)) else some (.go ((k:Int)+1,s++bsZ (2 * i+1+k) (zoS l f p).1 y.ID)):=by
  intro k f s hk hs
  have hsel:((if(k:Int) == 0 then(some (y.Span.In,0)) else(if(k:Int) == 1 then(some (y.Span.Out,1)) else none)):Option (Int × Int))=some (f,(k:Int)):=by
   rcases hk with⟨rfl,rfl⟩|⟨rfl,rfl⟩<;>rfl
  unfold Z1a
  dsimp only
  rw[if_pos (by rw[decide_eq_true_eq];omega),hsel]
  simp only[Option.bind_some]
  rw[Zk6 l hl]
  simp only[Option.bind_some]
  by_cases q:(zoS l f p).2=0
  ·have hb:=Z8e l hl f p q
   rw[if_neg (by rw[bne_iff_ne];exact fun h=>h q),if_neg (fun h=>h q),Zhu _ (by omega) _ _ _ _ _ (by omega)]
   simp only[Option.bind_some]
   rw[wr64 (x:=2 * (i:Int)) (by omega),wr64 (x:=2 * (i:Int)+1) (by omega),wr64 (x:=2 * (i:Int)+1+(k:Int)) (by omega),wr64 (x:=(zoS l f p).1.Out - 1) (by omega),wr64 (x:=(k:Int)+1) (by omega)]
   rfl
  ·rw[if_pos (by rw[bne_iff_ne];exact q),if_pos q]
 have hend:∀ s,Z1a p l (out0,(i:Int)) y (2,s)=some (.out (.inr s)):=fun s=>by unfold Z1a;rw[if_neg (by simp)]
 refine Z0T (fun x e=>(x=(0,out)/\e=(if(zoS l y.Span.In p).2≠0 then .inl (zoS l y.Span.In p).2 else if(zoS l y.Span.Out p).2≠0 then .inl (zoS l y.Span.Out p).2 else .inr (out++bsZ (2 * i+1) (zoS l y.Span.In p).1 y.ID++bsZ (2 * i+2) (zoS l y.Span.Out p).1 y.ID)))\/(x=(1,out++bsZ (2 * i+1) (zoS l y.Span.In p).1 y.ID)/\e=(if(zoS l y.Span.Out p).2≠0 then .inl (zoS l y.Span.Out p).2 else .inr (out++bsZ (2 * i+1) (zoS l y.Span.In p).1 y.ID++bsZ (2 * i+2) (zoS l y.Span.Out p).1 y.ID)))\/(x=(2,out++bsZ (2 * i+1) (zoS l y.Span.In p).1 y.ID++bsZ (2 * i+2) (zoS l y.Span.Out p).1 y.ID)/\e=.inr (out++bsZ (2 * i+1) (zoS l y.Span.In p).1 y.ID++bsZ (2 * i+2) (zoS l y.Span.Out p).1 y.ID))) (fun x=>2 - x.1.toNat) ?_ (x:=(0,out)) (.inl ⟨rfl,rfl⟩) (by dsimp only;omega)
 rintro x e (⟨rfl,rfl⟩|⟨rfl,rfl⟩|⟨rfl,rfl⟩)
 ·have h:=hst 0 y.Span.In out (.inl ⟨rfl,rfl⟩) (by omega)
  rw[show(((0:Nat):Int),out)=((0:Int),out) from rfl] at h
  rw[h]
  by_cases q:(zoS l y.Span.In p).2=0
  ·rw[if_neg (fun h=>h q),if_neg (fun h=>h q)]
   exact .inl ⟨_,rfl,.inr (.inl ⟨by simp,rfl⟩),by simp⟩
  ·rw[if_pos q,if_pos q];exact .inr rfl
 ·have h:=hst 1 y.Span.Out (out++bsZ (2 * i+1) (zoS l y.Span.In p).1 y.ID) (.inr ⟨rfl,rfl⟩) (by simp[bsZ];omega)
  rw[show(((1:Nat):Int),out++bsZ (2 * i+1) (zoS l y.Span.In p).1 y.ID)=((1:Int),out++bsZ (2 * i+1) (zoS l y.Span.In p).1 y.ID) from rfl] at h
  rw[h]
  by_cases q:(zoS l y.Span.Out p).2=0
  ·rw[if_neg (fun h=>h q),if_neg (fun h=>h q)]
   exact .inl ⟨_,rfl,.inr (.inr ⟨by rw[show(2 * (i:Int)+1+((1:Nat):Int))=2 * (i:Int)+2 by omega];rfl,rfl⟩),by simp⟩
  ·rw[if_pos q,if_pos q];exact .inr rfl
 ·exact .inr (hend _)
theorem Zke(tol:Int)(ht:0<=tol/\tol<=5184000)(out0:List Z1)(i:Nat)(hi:i<=1000)(y:Z0)(hy:EvOK y)(out:List Z1)(ho:out.length<=900000) :
  iter (Z1b tol (out0,(i:Int)) y) (0,out)=some (out++bsT (2 * i+1) y.Span.In tol y.ID++bsT (2 * i+2) y.Span.Out tol y.ID):=by
 have hsp:=hy.span
 have hst:∀ (k:Nat) (f:Int) (s:List Z1),(k=0/\f=y.Span.In\/k=1/\f=y.Span.Out)->s.length<=999999->Z1b tol (out0,(i:Int)) y ((k:Int),s)=some (.go ((k:Int)+1,s++bsT (2 * i+1+k) f tol y.ID)):=by
  intro k f s hk hs
  have hf:0<=f/\f<=5184000:=by rcases hk with⟨_,rfl⟩|⟨_,rfl⟩<;>omega
  have hsel:((if(k:Int) == 0 then(some (y.Span.In,0)) else(if(k:Int) == 1 then(some (y.Span.Out,1)) else none)):Option (Int × Int))=some (f,(k:Int)):=by
   rcases hk with⟨rfl,rfl⟩|⟨rfl,rfl⟩<;>rfl
  unfold Z1b
  dsimp only
  rw[if_pos (by rw[decide_eq_true_eq];omega),hsel]
  simp only[Option.bind_some]
  rw[wr64 (x:=f - tol) (by omega),wr64 (x:=f+tol) (by omega),Zhu _ (by omega) _ _ _ _ _ (by omega)]
  simp only[Option.bind_some]
  rw[wr64 (x:=2 * (i:Int)) (by omega),wr64 (x:=2 * (i:Int)+1) (by omega),wr64 (x:=2 * (i:Int)+1+(k:Int)) (by omega),wr64 (x:=(k:Int)+1) (by omega)]
  rfl
 have hend:∀ s,Z1b tol (out0,(i:Int)) y (2,s)=some (.out s):=fun s=>by unfold Z1b;rw[if_neg (by simp)]
 refine Z0T (fun x e=>e=out++bsT (2 * i+1) y.Span.In tol y.ID++bsT (2 * i+2) y.Span.Out tol y.ID/\(x=(0,out)\/x=(1,out++bsT (2 * i+1) y.Span.In tol y.ID)\/x=(2,out++bsT (2 * i+1) y.Span.In tol y.ID++bsT (2 * i+2) y.Span.Out tol y.ID))) (fun x=>2 - x.1.toNat) ?_ (x:=(0,out)) ⟨rfl,.inl rfl⟩ (by dsimp only;omega)
 rintro x e ⟨rfl,rfl|rfl|rfl⟩
 ·have h:=hst 0 y.Span.In out (.inl ⟨rfl,rfl⟩) (by omega)
  exact .inl ⟨_,h,⟨rfl,.inr (.inl (by simp))⟩,by simp⟩
 ·have h:=hst 1 y.Span.Out (out++bsT (2 * i+1) y.Span.In tol y.ID) (.inr ⟨rfl,rfl⟩) (by simp[bsT];omega)
  exact .inl ⟨_,h,⟨rfl,.inr (.inr (by rw[show(2 * (i:Int)+1+((1:Nat):Int))=2 * (i:Int)+2 by omega];rfl))⟩,by simp⟩
 ·exact .inr (hend _)
def bnF (d:Z2)(p:Z7)(l:List Int)(tol:Int)(s:List Z1)(a:Z0 × Nat):(Int ⊕ List Z1) ⊕ List Z1 :=
 match bsE d p l tol a.2 a.1 with
 | .inl e=>.inl (.inl e)
 | .inr bs=>.inr (s++bs)
def bnR (d:Z2)(p:Z7)(l:List Int)(tol:Int):Int ⊕ List Z1:=runF (bnF d p l tol) .inr [] d.Events.zipIdx
theorem ZbG{d:Z2}{p:Z7}{l:List Int}{tol:Int}{i:Nat}{x:Z0}{bs:List Z1}(h:bsE d p l tol i x=.inr bs):bs.length<=12:=by
 unfold bsE at h;split at h
 ·cases h
 split at h
 ·cases h
 cases h;cases d.Events[i+1]?<;>simp[bsA,bsZ,bsT,bsG]
theorem Zbe{p:Z7}(h:ckS p=0):okR p:=by
 by_cases hr:okR p
 ·exact hr
 unfold ckS at h;simp only[hr,not_false_eq_true,if_true] at h;split at h<;>cases h
theorem Zjb(d:Z2)(hd:DocZ d)(hD:Z8f d)(p:Z7)(hp:okR p)(l:List Int)(hl:l.length<=1000)(tol:Int)(ht:0<=tol/\tol<=5184000):iter (Z19 d p l tol) ([],0)=some (bnR d p l tol):=by
 have hn:=hD.num
 have hlz:d.Events.zipIdx.length=d.Events.length:=List.length_zipIdx
 refine ZF (step:=Z19 d p l tol) d.Events.zipIdx (by omega) (fun i (s:List Z1)=>(s,i)) (bnF d p l tol) .inr (fun i s=>s.length<=12 * i) (s0:=[]) (by simp) (fun i hi s hs=>?_) (fun s hs=>by unfold Z19;dsimp only;rw[if_neg (by rw[hlz];simp)])
 have hi':i < d.Events.length:=by omega
 have hm:=List.getElem_mem hi'
 have hx:=hD.ev _ hm
 have hz:=hd.ev _ hm
 rw[show d.Events.zipIdx[i]=(d.Events[i],i) from by simp[List.getElem_zipIdx]]
 have hst:Z19 d p l tol (s,(i:Int))=match bsE d p l tol i d.Events[i] with
   | .inl e=>some (.out (.inl e))
   | .inr bs=>some (.go (s++bs,(i:Int)+1)):=by
  unfold Z19 bsE
  dsimp only
  rw[if_pos (by simpa using hi'),Zc hi',wr64 (x:=(i:Int)+1) (by omega)]
  simp only[Option.bind_some]
  generalize d.Events[i]=x at *
  rw[Zjt x hz hx.runs]
  simp only[Option.bind_some]
  rw[(ZbW d.Rate (letS x) p.Reading hd.rate.1 hd.rate.2).1]
  simp only[Option.bind_some]
  have hnd:=Zas d.Rate (letS x) p.Reading hd.rate.1 hd.rate.2
  unfold okR at hp
  rw[if_pos (by omega),wr64 (x:=2 * (i:Int)) (by omega),wr64 (x:=2 * (i:Int)+2) (by omega),wr64 (x:=2 * (i:Int)+1) (by omega),wr64 (x:=0 - (Z7i d.Rate (letS x) p.Reading).1) (by omega),wr64 (x:=0 - p.MinFrames) (by omega),wr64 (x:=2 * (i:Int)+2+1) (by omega),wr64 (x:=0 - p.MinGap) (by omega)]
  simp only[Int.zero_sub]
  rw[Zkd p l hl s i (by omega) x _ (by simp;omega)]
  by_cases q1:(zoS l x.Span.In p).2=0
  ·simp only[q1,ne_eq,not_true_eq_false,if_false]
   by_cases q2:(zoS l x.Span.Out p).2=0
   ·simp only[q2,ne_eq,not_true_eq_false,if_false,Option.bind_some]
    rw[Zke tol ht s i (by omega) x hx _ (by simp[bsZ];omega)]
    simp only[Option.bind_some]
    by_cases q3:i+1 < d.Events.length
    ·rw[if_pos (by simp;omega),show(i:Int)+1=((i+1:Nat):Int) by omega,Zc q3]
     simp only[Option.bind_some]
     rw[if_pos (by simp[bsZ,bsT];omega),List.getElem?_eq_getElem q3]
     simp only[bsG,bsA,show 2 * (i:Int)+2+1=2 * (i:Int)+3 by omega,List.append_assoc]
    ·rw[if_neg (by simp;omega),List.getElem?_eq_none (by omega)]
     simp only[bsG,bsA,List.append_assoc,List.append_nil]
   ·simp only[q2,ne_eq,not_false_eq_true,if_true];rfl
  ·simp only[q1,ne_eq,not_false_eq_true,if_true];rfl
 rw[hst]
 unfold bnF
 dsimp only
 cases hb:bsE d p l tol i d.Events[i] with
 | inl e=>exact .inl ⟨.inl e,rfl,rfl⟩
 | inr bs =>
  refine .inr ⟨s++bs,rfl,rfl,?_⟩
  have:=ZbG hb
  simp
  omega
def dcS (d:Z2):Int:=(Zq d).getD 0
theorem Z5W(d:Z2)(hd:DocZ d):Zq d=some (dcS d)/\(dcS d=0->Z8f d):=by
 obtain⟨v,h1,h2⟩:=Zds d hd;unfold dcS;rw[h1];exact⟨rfl,h2⟩
def ckB (d:Z2)(p:Z7)(l:List Int)(tol:Int):Int :=
 if dcS d≠0 then dcS d else if ckS p≠0 then ckS p else if shC l≠0 then shC l else if tol < 0\/5184000 < tol then 2 else if 255 < (d.Events.length:Int) then 9 else 0
structure Z7b(d:Z2)(p:Z7)(l:List Int):Prop where
 doc:DocZ d
 name:p.Name.length<=1048576
 forb:p.Forbidden.length<=1048576
 shots:l.length<=1000
theorem ZhF{d:Z2}{p:Z7}{l:List Int}(h:Z7b d p l)(tol:Int):Z4G d p l tol=some (ckB d p l tol):=by
 unfold Z4G ckB;rw[(Z5W d h.doc).1,Zg0 p h.name h.forb,Z8b l h.shots];simp only[Option.bind_some,bne_iff_ne];by_cases h1:dcS d=0
 ·simp only[h1,ne_eq,not_true_eq_false,if_false];by_cases h2:ckS p=0
  ·simp only[h2,ne_eq,not_true_eq_false,if_false];by_cases h3:shC l=0
   ·simp only[h3,ne_eq,not_true_eq_false,if_false];by_cases h4:tol < 0
    ·simp[h4]
    by_cases h5:5184000 < tol
    ·simp[h4,h5]
    simp only[h4,h5,decide_false,Bool.false_eq_true,if_false,Option.bind_some,or_self,decide_eq_true_eq];split<;>rfl
   simp only[h3,ne_eq,not_false_eq_true,if_true]
  simp only[h2,ne_eq,not_false_eq_true,if_true]
 simp only[h1,ne_eq,not_false_eq_true,if_true]
def bnS (d:Z2)(p:Z7)(l:List Int)(tol:Int):List Z1 × Int :=
 if ckB d p l tol≠0 then([],ckB d p l tol) else(bnR d p l tol).elim (fun e=>([],e)) (fun bs=>(bs,0))
theorem ZfL{d:Z2}{p:Z7}{l:List Int}{tol:Int}(h:ckB d p l tol=0):dcS d=0/\ckS p=0/\shC l=0/\(0<=tol/\tol<=5184000)/\d.Events.length<=255:=by
 unfold ckB at h;split at h
 ·exact absurd h ‹_›
 split at h
 ·exact absurd h ‹_›
 split at h
 ·exact absurd h ‹_›
 split at h
 ·cases h
 split at h
 ·cases h
 omega
theorem Z9h{d:Z2}{p:Z7}{l:List Int}(h:Z7b d p l)(tol:Int):Z2S d p l tol=some (bnS d p l tol):=by
 unfold Z2S bnS;rw[ZhF h];simp only[Option.bind_some];by_cases h1:ckB d p l tol=0
 ·rw[if_neg (by rw[bne_iff_ne];exact fun q=>q h1),if_neg (fun q=>q h1)];obtain⟨a,b,c,e,f⟩:=ZfL h1;rw[Zjb d h.doc ((Z5W d h.doc).2 a) p (Zbe b) l h.shots tol e];simp only[Option.bind_some];cases bnR d p l tol<;>rfl
 rw[if_pos (by rw[bne_iff_ne];exact h1),if_pos h1]
theorem Zaz{α:Type}{F:List Z1->α->(Int ⊕ List Z1) ⊕ List Z1}{P:Z1->Prop}{Q:α->Prop}(hF:∀ s a s',Q a->F s a=.inr s'->(∀ b ∈ s,P b)->∀ b ∈ s',P b)(hF2:∀ s a e,F s a=.inl e->∃ v,e=.inl v):∀ (L:List α) (s bs:List Z1),(∀ a ∈ L,Q a)->runF F .inr s L=.inr bs->(∀ b ∈ s,P b)->∀ b ∈ bs,P b
 | [],s,bs,_,h,hs=>by cases h;exact hs
 | a::L,s,bs,hQ,h,hs=>by
  simp only[runF] at h
  cases hf:F s a with
  | inl e =>
   rw[hf] at h
   obtain⟨v,rfl⟩:=hF2 s a e hf
   cases h
  | inr s' =>
   rw[hf] at h
   exact Zaz hF hF2 L s' bs (fun a ha=>hQ a (by simp[ha])) h (hF s a s' (hQ a (by simp)) hf hs)
theorem Ze8{α:Type}{F:List Z1->α->(Int ⊕ List Z1) ⊕ List Z1}(hF:∀ s a s',F s a=.inr s'->s'.length<=s.length+12)(hF2:∀ s a e,F s a=.inl e->∃ v,e=.inl v):∀ (L:List α) (s bs:List Z1),runF F .inr s L=.inr bs->bs.length<=s.length+12 * L.length
 | [],s,bs,h=>by cases h;simp
 | a::L,s,bs,h=>by
  simp only[runF] at h
  cases hf:F s a with
  | inl e =>
   rw[hf] at h
   obtain⟨v,rfl⟩:=hF2 s a e hf
   cases h
  | inr s' =>
   rw[hf] at h
   have h1:=Ze8 hF hF2 L s' bs h
   have h2:=hF s a s' hf
   simp only[List.length_cons]
   omega
theorem Z87{d:Z2}{p:Z7}{l:List Int}{tol:Int}{s:List Z1}{a:Z0 × Nat}{e:Int ⊕ List Z1}(h:bnF d p l tol s a=.inl e):∃ v,e=.inl v:=by
 unfold bnF at h;split at h
 ·cases h;exact⟨_,rfl⟩
 cases h
theorem Z88{d:Z2}{p:Z7}{l:List Int}{tol:Int}{s s':List Z1}{a:Z0 × Nat}(h:bnF d p l tol s a=.inr s'):∃ bs,bsE d p l tol a.2 a.1=.inr bs/\s'=s++bs:=by
 unfold bnF at h;split at h
 ·cases h
 rename_i bs hb;cases h;exact⟨bs,hb,rfl⟩
theorem Zkc{d:Z2}{p:Z7}{l:List Int}(h:Z7b d p l){tol:Int}(hc:ckB d p l tol=0){bs:List Z1}(hb:bnR d p l tol=.inr bs):Z0j (2 * d.Events.length+1) bs:=by
 obtain⟨a,b,c,e,f⟩:=ZfL hc
 have hD:=(Z5W d h.doc).2 a
 have hp:=Zbe b
 have hlz:d.Events.zipIdx.length=d.Events.length:=List.length_zipIdx
 have hlen:=Ze8 (fun s a s' hf=>by
  obtain⟨bs,hb,rfl⟩:=Z88 hf
  have:=ZbG hb
  simp;omega) (fun s a e hf=>Z87 hf) _ _ _ hb
 simp only[List.length_nil,hlz] at hlen
 refine⟨by omega,by omega,by omega,?_⟩
 refine Zaz (F:=bnF d p l tol) (P:=fun b=>0<=b.I/\b.I < ((2 * d.Events.length+1:Nat):Int)/\0<=b.J/\b.J < ((2 * d.Events.length+1:Nat):Int)/\-1099511627776<=b.C/\b.C<=1099511627776) (Q:=fun a:Z0 × Nat=>a.2 < d.Events.length/\EvOK a.1/\(a.2+1=d.Events.length->d.Events[a.2+1]? = none)) ?_ (fun s a e hf=>Z87 hf) d.Events.zipIdx [] bs (fun a ha=>?_) hb (by simp)
 ·rintro s ⟨x,i⟩ s' ⟨hi,hx,_⟩ hf hs
  obtain⟨b1,hb1,rfl⟩:=Z88 hf
  intro b hbm
  rcases List.mem_append.1 hbm with hbm|hbm
  ·exact hs b hbm
  ·dsimp only at hi hx hb1
   have hsp:=hx.span
   have hnd:=Zas d.Rate (letS x) p.Reading h.doc.rate.1 h.doc.rate.2
   unfold okR at hp
   unfold bsE at hb1
   split at hb1
   ·cases hb1
   ·rename_i q1
    split at hb1
    ·cases hb1
    ·rename_i q2
     cases hb1
     have z1:=Z8e l h.shots x.Span.In p (by omega)
     have z2:=Z8e l h.shots x.Span.Out p (by omega)
     simp only[bsA,bsZ,bsT,List.mem_append,List.mem_cons,List.not_mem_nil,or_false] at hbm
     rcases hbm with(((rfl|rfl|rfl)|(rfl|rfl)|rfl|rfl)|(rfl|rfl)|rfl|rfl)|hg
     all_goals first|(dsimp only;omega)|skip
     by_cases q3:i+1 < d.Events.length
     ·rw[List.getElem?_eq_getElem q3] at hg
      simp only[bsG,List.mem_singleton] at hg
      subst hg
      dsimp only
      omega
     ·rw[List.getElem?_eq_none (by omega)] at hg
      simp[bsG] at hg
 ·obtain⟨j,hj,rfl⟩:=List.getElem_of_mem ha
  have hj':j < d.Events.length:=by omega
  rw[show d.Events.zipIdx[j]=(d.Events[j],j) from by simp[List.getElem_zipIdx]]
  exact⟨hj',hD.ev _ (List.getElem_mem hj'),fun q=>List.getElem?_eq_none (by dsimp only;omega)⟩
theorem Z5O{α:Type}(by':Int)(n:Nat)(z:α)(h:(n:Int) * by'<=140737488355328)(h2:n<=9223372036854775807):mkI by' (n:Int) z=some (List.replicate n z):=by
 unfold mkI;rw[if_pos ⟨by omega,by omega,h⟩];rfl
theorem Z2A:far=1152921504606846976:=rfl
theorem Z8m{step:Int × List Int->Option (Nx (Int × List Int) (List Int))}(n:Nat)(hn:n<=1000000)(m:List Int)(hm:m.length=n)
  (hgo:∀ (i:Nat) (y:List Int),i < n->y.length=n->step ((i:Int),y)=some (.go ((i:Int)+1,y.set i far))) (hend:∀ y:List Int,y.length=n->step ((n:Int),y)=some (.out y)):iter step (0,m)=some (List.replicate n far):=by
 obtain⟨e,he,hp⟩:=ZD (step:=step) (fun x=>∃ i:Nat,x.1=i/\i<=n/\x.2.length=n/\∀ j,j < i->x.2[j]? = some far) (fun x=>n - x.1.toNat) (fun y=>y.length=n/\∀ j,j < n->y[j]? = some far) (x:=(0,m)) ⟨0,rfl,by omega,hm,fun j h=>by omega⟩ (by dsimp only;omega) (by
  rintro⟨x,y⟩ ⟨i,h1,h2,h3,h4⟩
  dsimp only at h1 h3 h4
  subst h1
  by_cases q:i < n
  ·left
   refine⟨_,hgo i y q h3,⟨i+1,by simp,by omega,by simpa using h3,fun j hj=>?_⟩,by dsimp only;omega⟩
   dsimp only
   rw[List.getElem?_set]
   by_cases hij:i=j
   ·rw[if_pos hij,if_pos (by omega)]
   ·rw[if_neg hij];exact h4 j (by omega)
  ·obtain rfl:i=n:=by omega
   exact .inr ⟨_,hend y h3,h3,h4⟩)
 rw[he]
 congr 1
 refine List.ext_getElem? fun j=>?_
 by_cases hj:j < n
 ·rw[hp.2 j hj];simp[hj]
 ·rw[List.getElem?_eq_none (by omega),List.getElem?_eq_none (by simp;omega)]
theorem ZjV{x:List Int}{j:Nat}:x.set j (x.getD j 0)=x:=by
 refine List.ext_getElem? fun k=>?_;rw[List.getElem?_set];by_cases h:j=k
 ·subst h;by_cases hj:j < x.length
  ·simp[hj,List.getD]
  simp[hj,List.getElem?_eq_none (show x.length<=j by omega)]
 rw[if_neg h]
def RB (n:Nat)(K:Int)(r:List Int):Prop:=r.length=n/\∀ v,v < n->r.getD v 0≠far->-(K * 1099511627776)<=r.getD v 0/\r.getD v 0<=K * 1099511627776
theorem Zld{l:List Ed}(hc:∀ e ∈ l,-1099511627776<=e.c/\e.c<=1099511627776){n s k:Nat}{r:List Int}(h:RowS (fun v c=>FW l s k v c) n r):RB n k r :=
 ⟨h.1,fun v hv hf=>Z7Q hc ((h.2 v hv).1 hf)⟩
theorem Zcr{src dst:Ed->Nat}{old s:List Int}{e:Ed}(hf:old.getD (src e) 0≠far):s.set (dst e) (if old.getD (src e) 0+e.c < s.getD (dst e) 0 then old.getD (src e) 0+e.c else s.getD (dst e) 0)=tlow src dst old s e:=by
 unfold tlow;by_cases h:old.getD (src e) 0+e.c < s.getD (dst e) 0
 ·rw[if_pos h,if_pos ⟨hf,h⟩]
 rw[if_neg h,if_neg (fun q=>h q.2)];exact ZjV
theorem ZaG{src dst:Ed->Nat}{old s:List Int}{e:Ed}(hf:old.getD (src e) 0=far):tlow src dst old s e=s:=by
 unfold tlow;rw[if_neg (fun q=>q.1 hf)]
theorem Z7Z{src dst:Ed->Nat}{old:List Int}:∀ (l:List Z1) (s:List Int),l.foldl (fun s b=>tlow src dst old s (ed b)) s=(eds l).foldl (tlow src dst old) s
 | [],s=>rfl
 | b::l,s=>by rw[List.foldl_cons,Z7Z l];rfl
theorem Zlh{n:Nat}{l:List Z1}(hl:Z0j n l){K:Int}(hK:K<=1000000){old:List Int}(ho:RB n K old):iter (Z15 l old) (0,List.replicate n far)=some (trow (·.i) (·.j) (eds l) old n):=by
 have hn:=hl.n2
 have hlen:=hl.len
 have:=ZF (step:=Z15 l old) l (by omega) (fun i (s:List Int)=>(i,s)) (fun s b=>.inr (tlow (·.i) (·.j) old s (ed b))) id (fun i s=>s.length=n) (s0:=List.replicate n far) (by simp)
  (fun i hi s hs=>.inr ⟨_,rfl,by
   have hb:=hl.bd _ (List.getElem_mem hi)
   unfold Z15
   rw[if_pos (by simpa using hi),Zc hi,wr64 (x:=(i:Int)+1) (by omega)]
   simp only[Option.bind_some]
   generalize l[i]=b at hb
   have hol:=ho.1
   have h1:=ho.2 b.I.toNat (by omega)
   rw[Z0v hb.1 (by omega)]
   simp only[Option.bind_some]
   by_cases q:old.getD b.I.toNat 0=far
   ·rw[if_neg (by rw[bne_iff_ne,<- Z2A];exact fun h=>h q),ZaG (e:=ed b) q]
   ·have h2:=h1 q
    rw[if_pos (by rw[bne_iff_ne,<- Z2A];exact q),Z0v hb.2.2.1 (by omega)]
    simp only[Option.bind_some]
    rw[wr64 (x:=old.getD b.I.toNat 0+b.C) (by omega),Z4U _ hb.2.2.1 (by omega)]
    simp only[Option.bind_some]
    rw[<- Zcr (e:=ed b) (src:=(·.i)) (dst:=(·.j)) q]
    rfl,by rw[Z6I];exact hs⟩)
  (fun s hs=>by unfold Z15;rw[if_neg (by simp)];rfl)
 rw[Z6e] at this
 rw[show((0:Int),List.replicate n far)=(fun i (s:List Int)=>(i,s)) 0 (List.replicate n far) from rfl,this,Z7Z]
 rfl
def row0 (n s:Nat):List Int:=(List.replicate n far).set s 0
theorem Zlf{n:Nat}(hn:n<=512)(m:List (List Int))(hm:m.length=n):iter (Z1J n m) (0,m)=some ((List.range n).map (row0 n)):=by
 obtain⟨e,he,hp⟩:=ZD (step:=Z1J n m) (fun x=>∃ i:Nat,x.1=i/\i<=n/\x.2.length=n/\∀ j,j < i->x.2[j]? = some (row0 n j)) (fun x=>n - x.1.toNat) (fun y=>y.length=n/\∀ j,j < n->y[j]? = some (row0 n j)) (x:=(0,m)) ⟨0,rfl,by omega,hm,fun j h=>by omega⟩ (by dsimp only;omega) (by
  rintro⟨x,y⟩ ⟨i,h1,h2,h3,h4⟩
  dsimp only at h1 h3 h4
  subst h1
  unfold Z1J
  dsimp only
  rw[hm]
  by_cases q:i < n
  ·left
   rw[if_pos (by simpa using q),Z5O 8 n (0:Int) (by omega) (by omega),Zc (show i < y.length by omega),wr64 (x:=(i:Int)+1) (by omega)]
   simp only[Option.bind_some]
   have hfill:=Z8m (step:=Z1K m) n (by omega) (List.replicate n 0) (by simp)
    (fun k z hk hz=>by
     unfold Z1K
     dsimp only
     rw[hm,if_pos (by simpa using hk),Zc (show k < z.length by omega),Z3L _ (show k < z.length by omega),wr64 (x:=(k:Int)+1) (by omega)]
     rfl)
    (fun z hz=>by unfold Z1K;dsimp only;rw[hm,if_neg (by simp)])
   rw[hfill]
   simp only[Option.bind_some]
   rw[Zc (show i < (List.replicate n far).length by simpa using q),Z3L _ (show i < (List.replicate n far).length by simpa using q)]
   simp only[Option.bind_some]
   refine⟨_,rfl,⟨i+1,by simp,by omega,by simpa using h3,fun j hj=>?_⟩,by dsimp only;omega⟩
   dsimp only
   rw[List.getElem?_set]
   by_cases hij:i=j
   ·subst hij
    simp[show i < y.length by omega,row0]
   ·rw[if_neg (by simpa using hij)];exact h4 j (by omega)
  ·obtain rfl:i=n:=by omega
   rw[if_neg (by simp)]
   exact .inr ⟨_,rfl,h3,h4⟩)
 rw[he]
 congr 1
 refine List.ext_getElem? fun j=>?_
 by_cases hj:j < n
 ·rw[hp.2 j hj];simp[hj]
 ·rw[List.getElem?_eq_none (by omega),List.getElem?_eq_none (by simp;omega)]
def Zd1 (l:List Ed)(n k:Nat)(R:List (List Int)):Prop:=R.length=n/\∀ s (h:s < R.length),RowS (fun v c=>FW l s k v c) n R[s]
theorem Zlg{n:Nat}{l:List Z1}(hl:Z0j n l)(m R:List (List Int))(hm:m.length=n){k:Nat}(hk:k+1<=n)(hR:Zd1 (eds l) n k R):∃ e,iter (Z1L n l m ((k:Int)+1,R)) (0,R)=some e/\((e=.inl ()/\Cyc (· ∈ eds l) (k+1))\/∃ R',e=.inr R'/\Zd1 (eds l) n (k+1) R'/\¬ Cyc (· ∈ eds l) (k+1)):=by
 have hn:=hl.n2
 obtain⟨e,he,hp⟩:=ZD (step:=Z1L n l m ((k:Int)+1,R)) (fun x=>∃ i:Nat,x.1=i/\i<=n/\x.2.length=n/\(∀ s (h:s < x.2.length),s < i->RowS (fun v c=>FW (eds l) s (k+1) v c) n x.2[s]/\¬ x.2[s].getD s 0 < 0)/\∀ s (h:s < x.2.length),i<=s->RowS (fun v c=>FW (eds l) s k v c) n x.2[s]) (fun x=>n - x.1.toNat)
  (fun e=>(e=.inl ()/\Cyc (· ∈ eds l) (k+1))\/∃ R',e=.inr R'/\Zd1 (eds l) n (k+1) R'/\∀ s (h:s < R'.length),¬ R'[s].getD s 0 < 0) (x:=(0,R)) ⟨0,rfl,by omega,hR.1,fun s h q=>by omega,fun s h _=>hR.2 s h⟩ (by dsimp only;omega) (by
  rintro⟨x,y⟩ ⟨i,h1,h2,h3,h4,h5⟩
  dsimp only at h1 h3 h4 h5
  subst h1
  unfold Z1L
  dsimp only
  rw[hR.1]
  by_cases q:i < n
  ·have hy:=h5 i (by omega) (by omega)
   rw[if_pos (by simpa using q),Zc (show i < y.length by omega),Z5O 8 n (0:Int) (by omega) (by omega),wr64 (x:=(i:Int)+1) (by omega)]
   simp only[Option.bind_some]
   have hfill:=Z8m (step:=Z1M m) n (by omega) (List.replicate n 0) (by simp)
    (fun k z hk hz=>by
     unfold Z1M
     dsimp only
     rw[hm,if_pos (by simpa using hk),Zc (show k < z.length by omega),Z3L _ (show k < z.length by omega),wr64 (x:=(k:Int)+1) (by omega)]
     rfl)
    (fun z hz=>by unfold Z1M;dsimp only;rw[hm,if_neg (by simp)])
   rw[hfill]
   simp only[Option.bind_some]
   rw[Zlh hl (K:=(k:Int)) (by omega) (Zld hl.cc hy)]
   simp only[Option.bind_some]
   have hrow:=Zle hl.cc hl.inn (by omega) hy
   generalize trow (·.i) (·.j) (eds l) y[i] n=nx at hrow
   rw[Z0v (x:=nx) (by omega) (by rw[hrow.1];omega)]
   simp only[Option.bind_some,Int.toNat_natCast]
   by_cases hneg:nx.getD i 0 < 0
   ·right
    rw[if_pos (by simpa using hneg)]
    refine⟨_,rfl,.inl ⟨rfl,?_⟩⟩
    obtain⟨L,w,hL,hs⟩:=(hrow.2 i q).1 (by rw[Z2A];omega)
    exact⟨i,L,w,hL,by omega⟩
   ·left
    rw[if_neg (by simpa using hneg)]
    refine⟨_,rfl,⟨i+1,by simp,by omega,by simpa using h3,fun s hs hsi=>?_,fun s hs hsi=>?_⟩,by dsimp only;omega⟩
    ·dsimp only at hs ⊢
     by_cases his:i=s
     ·subst his
      simp only[Int.toNat_natCast,List.getElem_set_self]
      exact⟨hrow,hneg⟩
     ·simp only[Int.toNat_natCast,List.getElem_set_ne his]
      exact h4 s (by simpa using hs) (by omega)
    ·dsimp only at hs ⊢
     have his:i≠s:=by omega
     simp only[Int.toNat_natCast,List.getElem_set_ne his]
     exact h5 s (by simpa using hs) (by omega)
  ·obtain rfl:i=n:=by omega
   rw[if_neg (by simp)]
   exact .inr ⟨_,rfl,.inr ⟨y,rfl,⟨h3,fun s hs=>(h4 s hs (by omega)).1⟩,fun s hs=>(h4 s hs (by omega)).2⟩⟩)
 refine⟨e,he,?_⟩
 rcases hp with hp|⟨R',h1,h2,h3⟩
 ·exact .inl hp
 ·refine .inr ⟨R',h1,h2,fun⟨u,L,w,hL,hs⟩=>?_⟩
  have hu:u < n:=by
   cases L with
   | nil=>simp at hL
   | cons e L=>cases w with|cons h1 _=>exact(hl.inn _ h1).1
  have hu':u < R'.length:=by rw[h2.1];exact hu
  have:=((h2.2 u hu').2 u hu).2 (sumE L) ⟨L,w,hL,rfl⟩
  have:=h3 u hu'
  omega
theorem Za9{n:Nat}{l:List Z1}(hl:Z0j n l)(hneg:¬ Z3M (· ∈ eds l)):∃ k:Nat,Z1I n l=some (k:Int)/\0 < k/\k<=n/\Cyc (· ∈ eds l) k/\Z6i (· ∈ eds l) k:=by
 have hn:=hl.n2
 obtain⟨k0,hk0,hk1,hk2,hk3⟩:=Zkg hl.inn hneg
 unfold Z1I
 rw[Z5O 24 n _ (by omega) (by omega)]
 simp only[Option.bind_some]
 rw[Zlf hn _ (by simp)]
 simp only[Option.bind_some]
 obtain⟨e,he,hp⟩:=ZD (step:=Z2J n l (List.replicate n [])) (fun x=>∃ k:Nat,x.1=(k:Int)+1/\k < k0/\Zd1 (eds l) n k x.2/\Z6i (· ∈ eds l) (k+1)) (fun x=>n+1 - x.1.toNat)
  (fun e=>∃ k:Nat,e=.inl (k:Int)/\0 < k/\k<=n/\Cyc (· ∈ eds l) k/\Z6i (· ∈ eds l) k) (x:=(1,(List.range n).map (row0 n))) ⟨0,rfl,hk0,⟨by simp,fun s hs=>by
   have hs':s < n:=by simpa using hs
   have:=Zr (l:=eds l) (n:=n) hs'
   simpa[row0] using this⟩,fun j hj hc=>by
    obtain rfl:j=0:=by omega
    obtain⟨u,L,w,hL,hs⟩:=hc
    obtain rfl:=List.eq_nil_of_length_eq_zero hL
    simp[sumE] at hs⟩ (by dsimp only;omega) (by
  rintro⟨x,y⟩ ⟨k,h1,h2,h3,h4⟩
  dsimp only at h1 h3
  subst h1
  unfold Z2J
  dsimp only
  rw[if_pos (by simp;omega)]
  obtain⟨e,he,hq⟩:=Zlg hl (List.replicate n []) y (by simp) (k:=k) (by omega) h3
  rw[he]
  simp only[Option.bind_some]
  rcases hq with⟨rfl,hc⟩|⟨R',rfl,hR',hnc⟩
  ·exact .inr ⟨_,rfl,k+1,by simp,by omega,by omega,hc,h4⟩
  ·left
   rw[wr64 (x:=(k:Int)+1+1) (by omega)]
   have hlt:k+1 < k0:=by
    rcases Nat.lt_or_ge (k+1) k0 with h|h
    ·exact h
    ·obtain rfl:k0=k+1:=by omega
     exact absurd hk2 hnc
   refine⟨_,rfl,⟨k+1,by simp,hlt,hR',fun j hj hc=>?_⟩,by dsimp only;omega⟩
   rcases Nat.lt_succ_iff_lt_or_eq.1 hj with hj|rfl
   ·exact h4 j hj hc
   ·exact hnc hc)
 rw[he]
 obtain⟨k,rfl,h1,h2,h3,h4⟩:=hp
 exact⟨k,rfl,h1,h2,h3,h4⟩
theorem Z0j.sub{n:Nat}{l t:List Z1}(h:Z0j n l)(hs:∀ b ∈ t,b ∈ l)(ht:t.length<=4000):Z0j n t:=⟨h.n1,h.n2,ht,fun b hb=>h.bd b (hs b hb)⟩
theorem Z0j.drop{n:Nat}{l:List Z1}(h:Z0j n l)(k:Nat):Z0j n (l.drop k):=h.sub (fun b hb=>List.mem_of_mem_drop hb) (by have:=h.len;simp;omega)
theorem Zlc{n:Nat}{l:List Z1}(hl:Z0j n l){K:Int}(hK:K<=1000000){R:List (List Int)}{r:Nat}(hr:0 < r)(hr2:r<=1000){old:List Int}(hR:R[r - 1]? = some old)(ho:RB n K old):iter (Z1H ((r:Int),R) l) (0,List.replicate n far)=some (trow (·.j) (·.i) (eds l) old n):=by
 have hn:=hl.n2
 have hlen:=hl.len
 have hat:atI R (IntKind.i64.wrap ((r:Int) - 1))=some old:=by
  rw[wr64 (by omega),show((r:Int) - 1)=((r - 1:Nat):Int) by omega]
  obtain⟨h1,h2⟩:=List.getElem?_eq_some_iff.1 hR
  rw[Zc h1,h2]
 have:=ZF (step:=Z1H ((r:Int),R) l) l (by omega) (fun i (s:List Int)=>(i,s)) (fun s b=>.inr (tlow (·.j) (·.i) old s (ed b))) id (fun i s=>s.length=n) (s0:=List.replicate n far) (by simp)
  (fun i hi s hs=>.inr ⟨_,rfl,by
   have hb:=hl.bd _ (List.getElem_mem hi)
   unfold Z1H
   rw[if_pos (by simpa using hi),Zc hi,wr64 (x:=(i:Int)+1) (by omega)]
   simp only[Option.bind_some]
   rw[hat]
   simp only[Option.bind_some]
   rw[if_pos (by rw[wr64 (by omega)];omega)]
   generalize l[i]=b at hb
   have hol:=ho.1
   have h1:=ho.2 b.J.toNat (by omega)
   rw[Z0v hb.2.2.1 (by omega)]
   simp only[Option.bind_some]
   by_cases q:old.getD b.J.toNat 0=far
   ·rw[if_neg (by rw[bne_iff_ne,<- Z2A];exact fun h=>h q),ZaG (e:=ed b) q]
   ·have h2:=h1 q
    rw[if_pos (by rw[bne_iff_ne,<- Z2A];exact q),Z0v hb.1 (by omega)]
    simp only[Option.bind_some]
    rw[wr64 (x:=b.C+old.getD b.J.toNat 0) (by omega),Z4U _ hb.1 (by omega)]
    simp only[Option.bind_some]
    rw[Int.add_comm b.C,<- Zcr (e:=ed b) (src:=(·.j)) (dst:=(·.i)) q]
    rfl,by rw[Z6I];exact hs⟩)
  (fun s hs=>by unfold Z1H;rw[if_neg (by simp)];rfl)
 rw[Z6e] at this
 rw[show((0:Int),List.replicate n far)=(fun i (s:List Int)=>(i,s)) 0 (List.replicate n far) from rfl,this,Z7Z]
 rfl
theorem rb_of'{l:List Ed}(hc:∀ e ∈ l,-1099511627776<=e.c/\e.c<=1099511627776){n t k:Nat}{r:List Int}(h:RowS (fun u c=>FW l u k t c) n r):RB n k r :=
 ⟨h.1,fun v hv hf=>Z7Q hc ((h.2 v hv).1 hf)⟩
theorem ZiQ{α:Type}(l:List α){k:Nat}(h:k<=l.length):subL l (k:Int)=some (l.drop k):=by
 unfold subL;rw[if_pos ⟨by omega,by omega⟩,Int.toNat_natCast,List.take_of_length_le (by simp)]
def Z7a (l:List Ed)(n t:Nat)(h:List (List Int)):Prop:=∀ r (hr:r < h.length),RowS (fun u c=>FW l u r t c) n h[r]
theorem Z8A{n:Nat}{l:List Z1}(hl:Z0j n l){first size:Nat}{t:Int}(hf:first < l.length)(hs:size<=1000)(ht0:0<=t)(ht1:t < (n:Int)):∃ h,Z2I n l (first:Int) (size:Int) t=some h/\h.length=size/\Z7a (eds (l.drop (first+1))) n t.toNat h:=by
 have hn:=hl.n2
 have hlen:=hl.len
 have hl':=hl.drop (first+1)
 unfold Z2I
 rw[Z5O 24 size _ (by omega) (by omega)]
 simp only[Option.bind_some]
 obtain⟨e,he,hp⟩:=ZD (step:=Z49 n l (first:Int) t (List.replicate size [])) (fun x=>∃ r:Nat,x.1=r/\r<=size/\x.2.length=size/\∀ j (h:j < x.2.length),j < r->RowS (fun u c=>FW (eds (l.drop (first+1))) u j t.toNat c) n x.2[j]) (fun x=>size - x.1.toNat)
  (fun h=>h.length=size/\Z7a (eds (l.drop (first+1))) n t.toNat h) (x:=(0,List.replicate size [])) ⟨0,rfl,by omega,by simp,fun j h q=>by omega⟩ (by dsimp only;omega) (by
  rintro⟨x,y⟩ ⟨r,h1,h2,h3,h4⟩
  dsimp only at h1 h3 h4
  subst h1
  unfold Z49
  dsimp only
  rw[List.length_replicate]
  by_cases q:r < size
  ·left
   rw[if_pos (by simpa using q),Z5O 8 n (0:Int) (by omega) (by omega),Zc (show r < y.length by omega),wr64 (x:=(r:Int)+1) (by omega)]
   simp only[Option.bind_some]
   have hfill:=Z8m (step:=Z2C (List.replicate n 0)) n (by omega) (List.replicate n 0) (by simp)
    (fun k z hk hz=>by
     unfold Z2C
     dsimp only
     rw[List.length_replicate,if_pos (by simpa using hk),Zc (show k < z.length by omega),Z3L _ (show k < z.length by omega),wr64 (x:=(k:Int)+1) (by omega)]
     rfl)
    (fun z hz=>by unfold Z2C;dsimp only;rw[List.length_replicate,if_neg (by simp)])
   rw[hfill]
   simp only[Option.bind_some]
   have fin:∀ nx:List Int,RowS (fun u c=>FW (eds (l.drop (first+1))) u r t.toNat c) n nx->∃ i:Nat,(r:Int)+1=i/\i<=size/\(y.set (r:Int).toNat nx).length=size/\∀ j (h:j < (y.set (r:Int).toNat nx).length),j < i->RowS (fun u c=>FW (eds (l.drop (first+1))) u j t.toNat c) n (y.set (r:Int).toNat nx)[j]:=by
    intro nx hnx
    refine⟨r+1,by simp,by omega,by simpa using h3,fun j hj hjr=>?_⟩
    by_cases hrj:r=j
    ·subst hrj;simpa using hnx
    ·simp only[Int.toNat_natCast,List.getElem_set_ne hrj]
     exact h4 j (by simpa using hj) (by omega)
   by_cases q0:r=0
   ·subst q0
    rw[if_pos (by simp),show(0:Int)=((0:Nat):Int) from rfl,Zc (show 0 < y.length by omega)]
    simp only[Option.bind_some]
    rw[Z0v (x:=List.replicate n far) ht0 (by simpa using ht1),Z4U _ ht0 (by simpa using ht1)]
    simp only[Option.bind_some]
    exact⟨_,rfl,fin _ (Zh8 (by omega)),by dsimp only;omega⟩
   ·rw[if_neg (by simpa using q0),wr64 (x:=(first:Int)+1) (by omega),show((first:Int)+1)=((first+1:Nat):Int) by omega,ZiQ l (by omega)]
    simp only[Option.bind_some]
    have hold:=h4 (r - 1) (by omega) (by omega)
    rw[Zlc hl' (K:=((r - 1:Nat):Int)) (by omega) (by omega) (by omega) (List.getElem?_eq_some_iff.2 ⟨by omega,rfl⟩) (by
     have:=rb_of' hl'.cc hold
     exact this)]
    simp only[Option.bind_some]
    have:=Zj4 hl'.cc hl'.inn (by omega) hold
    rw[show r - 1+1=r by omega] at this
    exact⟨_,rfl,fin _ this,by dsimp only;omega⟩
  ·obtain rfl:r=size:=by omega
   rw[if_neg (by simp)]
   exact .inr ⟨_,rfl,h3,fun j hj=>h4 j hj (by omega)⟩)
 rw[he]
 exact⟨e,rfl,hp.1,hp.2⟩
def eAt (l:List Z1)(i:Int):Ed:=(eds l).getD i.toNat ⟨0,0,0⟩
theorem Z6D{l:List Z1}{i:Nat}(h:i < l.length):eAt l (i:Int)=ed l[i]:=by
 simp[eAt,eds,List.getD,h]
structure CfOK(l:List Z1)(k:Nat)(out:List Int):Prop where
 len:out.length=k
 idx:∀ i ∈ out,0<=i/\i < (l.length:Int)
 cyc:∃ u,Wlk (· ∈ eds l) u u (out.map (eAt l))
 neg:sumE (out.map (eAt l)) < 0
theorem Zl4{n:Nat}{l:List Z1}(hl:Z0j n l){first:Nat}{h:List (List Int)}{rw_:List Int}{at_ sum r:Int}{out:List Int}{K:Int}(hK:0<=K/\K<=1000000)(hr:atI h r=some rw_)(hrow:RB n K rw_)(hsum:-(K * 1099511627776)<=sum/\sum<=K * 1099511627776)(ho:out.length<=1000)(hf:first+1<=l.length)
  (hex:∃ i,∃ q:i < l.length,first < i/\l[i].I=at_/\rw_.getD l[i].J.toNat 0≠far/\sum+l[i].C+rw_.getD l[i].J.toNat 0 < 0) :
  ∃ i,∃ q:i < l.length,first < i/\l[i].I=at_/\rw_.getD l[i].J.toNat 0≠far/\sum+l[i].C+rw_.getD l[i].J.toNat 0 < 0/\iter (Z0M l h (at_,sum,r,out)) ((first:Int)+1)=some (out++[(i:Int)],l[i].J,sum+l[i].C):=by
 have hlen:=hl.len
 obtain⟨i0,hi0,hc0,hc1,hc2,hc3⟩:=hex
 obtain⟨e,he,hp⟩:=ZD (step:=Z0M l h (at_,sum,r,out)) (fun x=>∃ i:Nat,x=i/\first < i/\i<=i0) (fun x=>l.length - x.toNat)
  (fun e=>∃ i,∃ q:i < l.length,first < i/\l[i].I=at_/\rw_.getD l[i].J.toNat 0≠far/\sum+l[i].C+rw_.getD l[i].J.toNat 0 < 0/\e=(out++[(i:Int)],l[i].J,sum+l[i].C)) (x:=(first:Int)+1) ⟨first+1,by simp,by omega,by omega⟩ (by omega) (by
  rintro x ⟨i,rfl,h1,h2⟩
  have hi:i < l.length:=by omega
  have hb:=hl.bd _ (List.getElem_mem hi)
  unfold Z0M
  dsimp only
  rw[if_pos (by simpa using hi),Zc hi,wr64 (x:=(i:Int)+1) (by omega)]
  simp only[Option.bind_some]
  have nxt:¬ (l[i].I=at_/\rw_.getD l[i].J.toNat 0≠far/\sum+l[i].C+rw_.getD l[i].J.toNat 0 < 0)->∃ x',(some (.go ((i:Int)+1)):Option (Nx Int (List Int × Int × Int)))=some (.go x')/\(∃ j:Nat,x'=j/\first < j/\j<=i0)/\l.length - x'.toNat < l.length - (i:Int).toNat:=by
   intro hno
   have:i≠i0:=fun e=>by subst e;exact hno ⟨hc1,hc2,hc3⟩
   exact⟨_,rfl,⟨i+1,by simp,by omega,by omega⟩,by omega⟩
  by_cases q1:l[i].I=at_
  ·rw[if_pos (by simpa using q1),hr]
   simp only[Option.bind_some]
   have hrl:=hrow.1
   have hrv:=hrow.2 l[i].J.toNat (by omega)
   rw[Z0v hb.2.2.1 (by omega)]
   simp only[Option.bind_some]
   by_cases q2:rw_.getD l[i].J.toNat 0=far
   ·rw[if_neg (by rw[bne_iff_ne,<- Z2A];exact fun h=>h q2)]
    simp only[Option.bind_some,Bool.false_eq_true,if_false]
    exact .inl (nxt fun h=>h.2.1 q2)
   ·have h3:=hrv q2
    rw[if_pos (by rw[bne_iff_ne,<- Z2A];exact q2),wr64 (x:=sum+l[i].C) (by omega),wr64 (x:=sum+l[i].C+rw_.getD l[i].J.toNat 0) (by omega)]
    simp only[Option.bind_some]
    by_cases q3:sum+l[i].C+rw_.getD l[i].J.toNat 0 < 0
    ·rw[if_pos (by simpa using q3),if_pos (by omega)]
     exact .inr ⟨_,rfl,i,hi,h1,q1,q2,q3,rfl⟩
    ·rw[if_neg (by simpa using q3)]
     exact .inl (nxt fun h=>q3 h.2.2)
  ·rw[if_neg (by simpa using q1)]
   simp only[Option.bind_some,Bool.false_eq_true,if_false]
   exact .inl (nxt fun h=>q1 h.1))
 obtain⟨i,q,a1,a2,a3,a4,rfl⟩:=hp
 exact⟨i,q,a1,a2,a3,a4,he⟩
theorem RB.mono{n:Nat}{K K':Int}{r:List Int}(h:RB n K r)(hk:K<=K'):RB n K' r :=
 ⟨h.1,fun v hv hf=>by have:=h.2 v hv hf;omega⟩
theorem Zi8{l:List Z1}{k:Nat}{e:Ed}(h:e ∈ eds (l.drop k)):∃ i,∃ q:i < l.length,k<=i/\ed l[i]=e:=by
 obtain⟨b,hb,rfl⟩:=List.mem_map.1 h;obtain⟨j,hj,rfl⟩:=List.getElem_of_mem hb;simp only[List.length_drop] at hj;exact⟨k+j,by omega,by omega,by simp⟩
structure BkI(n:Nat)(l:List Z1)(first t k:Nat)(r a:Nat)(sum:Int)(out:List Int):Prop where
 an:a < n
 len:out.length+r=k
 idx:∀ i ∈ out,0<=i/\i < (l.length:Int)
 wlk:Wlk (· ∈ eds l) t a (out.map (eAt l))
 tot:sumE (out.map (eAt l))=sum
 rest:∃ L,Wlk (· ∈ eds (l.drop (first+1))) a t L/\L.length=r/\sum+sumE L < 0
theorem Zji{l:List Z1}{i:Int}(h0:0<=i)(h1:i < (l.length:Int)):eAt l i ∈ eds l:=by
 obtain⟨i,rfl⟩:=Int.eq_ofNat_of_zero_le h0;have hi:i < l.length:=by omega
 rw[Z6D hi];exact List.mem_map_of_mem (List.getElem_mem hi)
theorem Zk2{n:Nat}{l:List Z1}(hl:Z0j n l){out:List Int}(h:∀ i ∈ out,0<=i/\i < (l.length:Int))(ho:out.length<=1000):-(1000 * 1099511627776)<=sumE (out.map (eAt l))/\sumE (out.map (eAt l))<=1000 * 1099511627776:=by
 have:=Z8d hl.cc (out.map (eAt l)) (fun e he=>by
  obtain⟨i,hi,rfl⟩:=List.mem_map.1 he
  exact Zji (h i hi).1 (h i hi).2)
 simp only[List.length_map] at this
 omega
theorem ZiV{n:Nat}{l:List Z1}(hl:Z0j n l){first t k:Nat}(hk:k<=1000)(hf:first < l.length)(ht:t < n){h:List (List Int)}(hh:h.length=k)(hR:Z7a (eds (l.drop (first+1))) n t h){a0:Nat}{sum0:Int}{out0:List Int}{r0:Nat}(h0:BkI n l first t k r0 a0 sum0 out0) :
  ∃ out,iter (Z0L l (first:Int) h) ((a0:Int),sum0,(r0:Int) - 1,out0)=some out/\CfOK l k out:=by
 have hlen:=hl.len
 have hl':=hl.drop (first+1)
 refine ZD (step:=Z0L l (first:Int) h) (fun x=>∃ r a:Nat,x.1=a/\x.2.2.1=(r:Int) - 1/\BkI n l first t k r a x.2.1 x.2.2.2) (fun x=>(x.2.2.1+1).toNat) (fun out=>CfOK l k out) (x:=((a0:Int),sum0,(r0:Int) - 1,out0)) ⟨r0,a0,rfl,rfl,h0⟩ (by have:=h0.len;dsimp only;omega) ?_
 rintro⟨xa,sum,xr,out⟩ ⟨r,a,h1,h2,hI⟩
 dsimp only at h1 h2 hI
 subst h1 h2
 have hol:=hI.len
 unfold Z0L
 dsimp only
 by_cases q:r=0
 ·subst q
  rw[if_neg (by simp)]
  right
  obtain⟨L,w,hL,hs⟩:=hI.rest
  obtain rfl:=List.eq_nil_of_length_eq_zero hL
  have:=w.nil_eq
  subst this
  exact⟨_,rfl,⟨by omega,hI.idx,⟨a,hI.wlk⟩,by rw[hI.tot];simpa[sumE] using hs⟩⟩
 ·obtain⟨r,rfl⟩:∃ m,r=m+1:=⟨r - 1,by omega⟩
  left
  rw[if_pos (by rw[decide_eq_true_eq];omega),wr64 (x:=(first:Int)+1) (by omega)]
  have hrk:r < h.length:=by omega
  have hrow:=hR r hrk
  have hsum:=Zk2 hl hI.idx (by omega)
  rw[hI.tot] at hsum
  have hat:atI h ((((r+1:Nat):Int) - 1))=some h[r]:=by
   rw[show(((r+1:Nat):Int) - 1)=((r:Nat):Int) by omega,Zc hrk]
  obtain⟨i,qi,a1,a2,a3,a4,a5⟩:=Zl4 hl (first:=first) (h:=h) (at_:=(a:Int)) (sum:=sum) (r:=((r+1:Nat):Int) - 1) (out:=out) (K:=1000) ⟨by omega,by omega⟩ hat ((rb_of' hl'.cc hrow).mono (by omega)) hsum (by omega) (by omega) (by
   obtain⟨L,w,hL,hs⟩:=hI.rest
   cases L with
   | nil=>simp at hL
   | cons e L =>
    cases w with
    | cons he w2 =>
     obtain⟨i,qi,hki,hei⟩:=Zi8 he
     subst hei
     have hb:=hl.bd _ (List.getElem_mem qi)
     have hj:(ed l[i]).j < n:=by simp only[ed];omega
     have hle:=(hrow.2 (ed l[i]).j hj).2 (sumE L) ⟨L,w2,by simpa using hL,rfl⟩
     have hbd:=Z8d hl'.cc L w2.mem
     have hLr:L.length=r:=by simpa using hL
     have hje:(ed l[i]).j=l[i].J.toNat:=rfl
     have hce:(ed l[i]).c=l[i].C:=rfl
     rw[hje] at hle
     simp only[sumE,hce] at hs
     refine⟨i,qi,by omega,?_,?_,by omega⟩
     ·show l[i].I=(((ed l[i]).i:Nat):Int)
      simp only[ed];omega
     ·rw[Z2A];omega)
  rw[a5]
  simp only[Option.bind_some]
  have hb:=hl.bd _ (List.getElem_mem qi)
  rw[wr64 (x:=(((r+1:Nat):Int) - 1) - 1) (by omega)]
  refine⟨_,rfl,⟨r,l[i].J.toNat,by dsimp only;omega,by dsimp only;omega,?_⟩,by dsimp only;omega⟩
  dsimp only
  obtain⟨L,w,hL,hs⟩:=(hrow.2 l[i].J.toNat (by omega)).1 a3
  refine⟨by omega,by simp;omega,fun j hj=>?_,?_,?_,⟨L,w,hL,by omega⟩⟩
  ·rcases List.mem_append.1 hj with hj|hj
   ·exact hI.idx j hj
   ·simp only[List.mem_singleton] at hj;subst hj;omega
  ·rw[List.map_append,List.map_cons,List.map_nil,Z6D qi]
   exact hI.wlk.snoc (List.mem_map_of_mem (List.getElem_mem qi)) (by simp only[ed];omega)
  ·rw[List.map_append,List.map_cons,List.map_nil,Z6D qi,Z35,hI.tot]
   simp[sumE,ed]
theorem Za6{n:Nat}{l:List Z1}(hl:Z0j n l){k:Nat}(hk0:0 < k)(hk:k<=1000):∃ out,Z05 n l (k:Int)=some out/\(out=[]\/CfOK l k out):=by
 have hlen:=hl.len
 have hn:=hl.n2
 obtain⟨e,he,hp⟩:=ZD (step:=Z07 n l (k:Int)) (fun x=>∃ i:Nat,x=i/\i<=l.length) (fun x=>l.length - x.toNat) (fun e=>e=.inr ()\/∃ out,e=.inl out/\CfOK l k out) (x:=0) ⟨0,rfl,by omega⟩ (by omega) (by
  rintro x ⟨i,rfl,hi⟩
  unfold Z07
  by_cases q:i < l.length
  ·have hb:=hl.bd _ (List.getElem_mem q)
   rw[if_pos (by simpa using q),Zc q,wr64 (x:=(i:Int)+1) (by omega),wr64 (x:=(k:Int) - 1) (by omega),wr64 (x:=(k:Int) - 2) (by omega)]
   simp only[Option.bind_some]
   obtain⟨h,hh,hlh,hR⟩:=Z8A hl (first:=i) (size:=k) (t:=l[i].I) q hk hb.1 hb.2.1
   rw[hh]
   simp only[Option.bind_some]
   have hkh:k - 1 < h.length:=by omega
   rw[show(k:Int) - 1=((k - 1:Nat):Int) by omega,Zc hkh]
   simp only[Option.bind_some]
   have hrow:=hR (k - 1) hkh
   have hrb:=rb_of' (hl.drop (i+1)).cc hrow
   generalize hrw:h[k - 1]=rw_ at hrow hrb
   have hrl:=hrb.1
   have hrv:=hrb.2 l[i].J.toNat (by omega)
   rw[Z0v hb.2.2.1 (by omega)]
   simp only[Option.bind_some]
   have nxt:∃ x',(some (.go ((i:Int)+1)):Option (Nx Int (List Int ⊕ Unit)))=some (.go x')/\(∃ j:Nat,x'=j/\j<=l.length)/\l.length - x'.toNat < l.length - (i:Int).toNat:=⟨_,rfl,⟨i+1,by simp,by omega⟩,by omega⟩
   by_cases q2:rw_.getD l[i].J.toNat 0=far
   ·rw[if_pos (by rw[beq_iff_eq,<- Z2A];exact q2)]
    simp only[Option.bind_some,if_true]
    exact .inl nxt
   ·have h3:=hrv q2
    rw[if_neg (by rw[beq_iff_eq,<- Z2A];exact q2),wr64 (x:=l[i].C+rw_.getD l[i].J.toNat 0) (by omega)]
    simp only[Option.bind_some]
    by_cases q3:0<=l[i].C+rw_.getD l[i].J.toNat 0
    ·rw[if_pos (by simpa using q3)]
     exact .inl nxt
    ·rw[if_neg (by simpa using q3)]
     right
     obtain⟨L,w,hL,hs⟩:=(hrow.2 l[i].J.toNat (by omega)).1 q2
     obtain⟨out,ho,hc⟩:=ZiV hl (first:=i) (t:=l[i].I.toNat) (k:=k) hk q (by omega) hlh hR (a0:=l[i].J.toNat) (sum0:=l[i].C) (out0:=[(i:Int)]) (r0:=k - 1) ⟨by omega,by simp;omega,by intro j hj;simp only[List.mem_singleton] at hj;subst hj;omega,by
       rw[List.map_cons,List.map_nil,Z6D q]
       exact .cons (List.mem_map_of_mem (List.getElem_mem q)) (.nil _),by rw[List.map_cons,List.map_nil,Z6D q];simp[sumE,ed],⟨L,w,hL,by omega⟩⟩
     rw[show((l[i].J.toNat:Nat):Int)=l[i].J by omega,show((k - 1:Nat):Int) - 1=(k:Int) - 2 by omega] at ho
     rw[ho]
     exact⟨_,rfl,.inr ⟨out,rfl,hc⟩⟩
  ·obtain rfl:i=l.length:=by omega
   rw[if_neg (by simp)]
   exact .inr ⟨_,rfl,.inl rfl⟩)
 unfold Z05
 rw[he]
 rcases hp with rfl|⟨out,rfl,hc⟩
 ·exact⟨[],rfl,.inl rfl⟩
 ·exact⟨out,rfl,.inr hc⟩
theorem Zb4{n:Nat}{l:List Z1}(hl:Z0j n l):Z48 n l=some 0:=by
 have hlen:=hl.len
 have hn:=hl.n2
 have hn1:=hl.n1
 unfold Z48
 have a1:¬ (n:Int) < 1:=by omega
 have a2:¬ (512:Int) < (n:Int):=by omega
 simp only[a1,a2,decide_false,Bool.false_eq_true,if_false,Option.bind_some]
 rw[if_neg (by simp;omega)]
 obtain⟨e,he,hp⟩:=Z4q (step:=Z2B n l) l.length (by omega) (fun _=>True) (fun e=>e=.inr ()) trivial (fun i hi _=>by
  have hb:=hl.bd _ (List.getElem_mem hi)
  unfold Z2B
  rw[if_pos (by simpa using hi),Zc hi,wr64 (x:=(i:Int)+1) (by omega)]
  simp only[Option.bind_some]
  have b1:¬ l[i].I < 0:=by omega
  have b2:¬ (n:Int)<=l[i].I:=by omega
  have b3:¬ l[i].J < 0:=by omega
  have b4:¬ (n:Int)<=l[i].J:=by omega
  have b5:¬ l[i].C < -1099511627776:=by omega
  have b6:¬ 1099511627776 < l[i].C:=by omega
  simp only[b1,b2,b3,b4,b5,b6,decide_false,Bool.false_eq_true,if_false,Option.bind_some]
  exact .inl ⟨by first|rfl|trivial,trivial⟩) (fun _=>by
  unfold Z2B
  exact⟨_,by rw[if_neg (by simp)],rfl⟩)
 rw[he,hp]
 rfl
theorem ZaE{n:Nat}{l:List Z1}(hl:Z0j n l):(Z3M (· ∈ eds l)/\Z0m n l=some (sol n l,[],0))\/(¬ Z3M (· ∈ eds l)/\∃ out,Z0m n l=some ([],out,16)/\(out=[]\/∃ k,0 < k/\k<=n/\Z6i (· ∈ eds l) k/\CfOK l k out)):=by
 have hn:=hl.n2
 obtain⟨r,hr,hc⟩:=ZdZ hl
 have hs:Z0m n l=(if r.1 then(some (r.2,[],0)) else((Z1I n l).bind fun r45=>((Z05 n l r45).bind fun r47=>(some ([],r47,16))))):=by
  unfold Z0m
  rw[Zb4 hl,Z5O 8 n _ (by omega) (by omega)]
  simp only[Option.bind_some,bne_self_eq_false,Bool.false_eq_true,if_false]
  rw[show List.replicate n (0:Int)=x0 n from rfl,hr]
  rfl
 rw[hs]
 rcases hc with⟨h1,rfl⟩|⟨h1,h2⟩
 ·exact .inl ⟨h1,rfl⟩
 ·right
  obtain⟨k,hk,k0,kn,_,kl⟩:=Za9 hl h1
  obtain⟨out,ho,hco⟩:=Za6 hl k0 (by omega)
  rw[h2,hk]
  simp only[Bool.false_eq_true,if_false,Option.bind_some]
  rw[ho]
  refine⟨h1,out,rfl,?_⟩
  rcases hco with rfl|hco
  ·exact .inl rfl
  ·exact .inr ⟨k,k0,kn,kl,hco⟩
theorem clU{l:List Zd}(h:l.length<=1048576):ZU l=some l:=by unfold ZU;rw[if_pos (by omega)]
theorem clR{l:List Z6}(h:l.length<=1048576):Z09 l=some l:=by unfold Z09;rw[if_pos (by omega)]
theorem clE{l:List Z0}(h:l.length<=1048576):ZE l=some l:=by unfold ZE;rw[if_pos (by omega)]
theorem clG{l:List Z3}(h:l.length<=1048576):ZB l=some l:=by unfold ZB;rw[if_pos (by omega)]
theorem clC{l:List Z4}(h:l.length<=1048576):Zy l=some l:=by unfold Zy;rw[if_pos (by omega)]
theorem Zcm{α:Type}{step:Int × List α->Option (Nx (Int × List α) (List α))}(l:List α)(hn:l.length<=9223372036854775807)(hgo:∀ (i:Nat) (h:i < l.length),step ((i:Int),l)=some (.go ((i:Int)+1,l)))(hend:step ((l.length:Int),l)=some (.out l)):iter step (0,l)=some l:=by
 have:=ZF (step:=step) l hn (fun i (_:Unit)=>(i,l)) (fun _ _=>.inr ()) (fun _=>l) (fun _ _=>True) (s0:=()) trivial (fun i hi _ _=>.inr ⟨(),rfl,hgo i hi,trivial⟩) (fun _ _=>hend)
 rw[show((0:Int),l)=(fun i (_:Unit)=>(i,l)) 0 () from rfl,this]
 congr 1
 have:∀ t:List α,runF (fun(_:Unit) (_:α)=>(.inr ():List α ⊕ Unit)) (fun _=>l) () t=l:=by
  intro t
  induction t with
  | nil=>rfl
  | cons a t ih=>simp only[runF];exact ih
 exact this l
theorem Zef{α:Type}{l:List α}{i:Nat}(h:i < l.length):setI l (i:Int) l[i]=some l:=by
 rw[Z3L _ h];simp
theorem ZiP(rows:List Z6)(h:rows.length<=1048576)(hr:∀ r ∈ rows,r.Runs.length<=1048576):Z5a rows=some rows:=by
 unfold Z5a
 cases rows with
 | nil =>
  simp only[List.isEmpty_nil,if_true]
  rw[clR (by simp)]
  simp only[Option.bind_some]
  have:iter (Z4R []) ()=some ():=by
   refine Z0T (fun x e=>True) (fun _=>0) ?_ (x:=()) trivial (by decide)
   intro x e _
   right
   unfold Z4R
   rw[if_neg (by simp)]
  rw[this]
  rfl
 | cons a t =>
  simp only[List.isEmpty_cons,Bool.false_eq_true,if_false]
  generalize hl:a::t=l at *
  have hne:l.isEmpty=false:=by rw[<- hl];rfl
  rw[show ZJ l=some l from by unfold ZJ;rw[hne];exact clR h]
  simp only[Option.bind_some]
  rw[Zcm l (by omega) (fun i hi=>by
   unfold Z4S
   dsimp only
   rw[if_pos (by simpa using hi),Zc hi,wr64 (x:=(i:Int)+1) (by omega)]
   simp only[Option.bind_some]
   have hz:=hr _ (List.getElem_mem hi)
   rw[clU hz,show ZA l[i].Runs=if l[i].Runs.isEmpty then none else some l[i].Runs from by unfold ZA;rw[clU hz]]
   have hs:setI l (i:Int) (Z6.mk l[i].Runs)=some l:=Zef hi
   cases hq:l[i].Runs.isEmpty with
   | true=>simp only[if_true,Option.bind_some];rw[hs];rfl
   | false=>simp only[Bool.false_eq_true,if_false,Option.bind_some];rw[hs];rfl) (by unfold Z4S;dsimp only;rw[if_neg (by simp)])]
  rfl
theorem Zf6(e:Z0)(h:EvZ e):Z1u e=some e:=by
 unfold Z1u;rw[ZiP _ h.1 (fun r hr=>(h.2 r hr).2)];rfl
theorem Zdq(l:List Z0)(h:l.length<=1048576)(hz:∀ e ∈ l,EvZ e):iter (Z2l l) (0,l)=some l :=
 Zcm l (by omega) (fun i hi=>by
  unfold Z2l
  dsimp only
  rw[if_pos (by simpa using hi),Zc hi,wr64 (x:=(i:Int)+1) (by omega)]
  simp only[Option.bind_some]
  rw[Zf6 _ (hz _ (List.getElem_mem hi))]
  simp only[Option.bind_some]
  rw[Zef hi]
  rfl) (by unfold Z2l;dsimp only;rw[if_neg (by simp)])
theorem Zjf:iter (Z3P []) ()=some ():=by
 refine Z0T (fun x e=>True) (fun _=>0) ?_ (x:=()) trivial (by decide);intro x e _;right;unfold Z3P;rw[if_neg (by simp)]
theorem Z9k{α:Type}{l:List α}(h:l.isEmpty=true):l=[]:=List.isEmpty_iff.1 h
theorem ZhN(d:Z2)(hd:DocZ d):Z3t d=some d:=by
 have e1:=Zdq d.Events hd.evs hd.ev
 have c3:=clE hd.evs
 unfold Z3t
 rw[clG hd.regs]
 simp only[Option.bind_some]
 rw[clC hd.coms]
 simp only[Option.bind_some]
 cases h3:d.Events.isEmpty with
 | true =>
  simp only[if_true]
  rw[c3]
  simp only[Option.bind_some]
  rw[Z9k h3,Zjf,Option.bind_some,<- Z9k h3]
 | false =>
  simp only[Bool.false_eq_true,if_false]
  have w3:Zl d.Events=some d.Events:=by unfold Zl;rw[h3];exact c3
  rw[w3]
  simp only[Option.bind_some]
  rw[e1]
  rfl
theorem Zex(d:Z2)(hd:DocZ d)(h3:d.Events.isEmpty=false):Z2k d=some d:=by
 have e1:iter (Z4n d.Events) (0,d.Events)=some d.Events:=Zdq d.Events hd.evs hd.ev;have c3:=clE hd.evs;unfold Z2k;rw[clG hd.regs];simp only[Option.bind_some];rw[clC hd.coms];simp only[Option.bind_some,h3,Bool.false_eq_true,if_false];have w3:Zl d.Events=some d.Events:=by unfold Zl;rw[h3];exact c3
 rw[w3];simp only[Option.bind_some];rw[e1];rfl
theorem ZgI{step:Int->Option (Nx Int (Int ⊕ Unit))}(l:List Z0)(hn:l.length<=1048576)(id:Int)(hgo:∀ (i:Nat) (h:i < l.length),step (i:Int)=if(l[i].ID == id)=true then some (.out (.inl (i:Int))) else some (.go ((i:Int)+1)))(hend:step (l.length:Int)=some (.out (.inr ()))) :
  ∃ e,iter step 0=some e/\((∃ i,∃ h:i < l.length,e=.inl (i:Int)/\l[i].ID=id)\/(e=.inr ()/\∀ i (h:i < l.length),l[i].ID≠id)):=by
 refine Z4q l.length (by omega) (fun i=>∀ j (h:j < l.length),j < i->l[j].ID≠id) _ (fun j _ h=>by omega) (fun i hi hI=>?_) (fun hI=>⟨_,hend,.inr ⟨rfl,fun i h=>hI i h h⟩⟩)
 rw[hgo i hi]
 by_cases q:l[i].ID=id
 ·rw[if_pos (by simpa using q)]
  exact .inr ⟨_,rfl,.inl ⟨i,hi,rfl,q⟩⟩
 ·rw[if_neg (by simpa using q)]
  refine .inl ⟨rfl,fun j hj hji=>?_⟩
  rcases Nat.lt_succ_iff_lt_or_eq.1 hji with h|rfl
  ·exact hI j hj h
  ·exact q
theorem Zf8(d:Z2)(hn:d.Events.length<=1048576)(id:Int):∃ r,Z4a d id=some r/\Z1N d id=some r/\((∃ i,∃ h:i < d.Events.length,r=(i:Int)/\d.Events[i].ID=id)\/(r=-1/\∀ i (h:i < d.Events.length),d.Events[i].ID≠id)):=by
 obtain⟨e,he,hp⟩:=ZgI (step:=ZP d.Events id) d.Events hn id (fun i hi=>by
  unfold ZP Z3b
  rw[if_pos (by simpa using hi),Zc hi,wr64 (x:=(i:Int)+1) (by omega)]
  rfl) (by unfold ZP;rw[if_neg (by simp)])
 have he':iter (Z0C d.Events id) 0=some e:=he
 unfold Z4a Z0p Z1N ZO
 rw[he,he']
 rcases hp with⟨i,h,rfl,hid⟩|⟨rfl,hno⟩
 ·exact⟨(i:Int),rfl,rfl,.inl ⟨i,h,rfl,hid⟩⟩
 ·exact⟨-1,rfl,rfl,.inr ⟨rfl,hno⟩⟩
theorem ZiJ(a b:Z0):∃ r,Z3c a b=some r/\decide (r < 0)=ltE a b:=by
 have h:=ZbM a b;unfold Z3c;unfold Z4A at h;rw[Zb1,Zb1] at h ⊢;simp only[Option.bind_some,ZgT] at h ⊢;exact⟨_,rfl,Option.some.inj h⟩
theorem Z9o{a b c:Z0}(h1:ltE b a=false)(h2:ltE c b=false):ltE c a=false:=by
 unfold ltE at *;simp only[Bool.or_eq_false_iff,decide_eq_false_iff_not,Bool.and_eq_false_imp,decide_eq_true_eq] at *;omega
theorem Z8r{a b:Z0}(h1:ltE a b=true):ltE b a=false:=by
 unfold ltE at *;simp only[Bool.or_eq_false_iff,decide_eq_false_iff_not,Bool.and_eq_false_imp,decide_eq_true_eq,Bool.or_eq_true,Bool.and_eq_true] at *;omega
def Z6J (i:Nat)(x:List Z0):Prop:=∀ p q a b,p < q->q < i->x[p]? = some a->x[q]? = some b->ltE b a=false
structure InI(l:List Z0)(i j:Nat)(x:List Z0):Prop where
 ji:j<=i
 perm:x.Perm l
 a:∀ p q a b,p < q->q<=i->p≠j->q≠j->x[p]? = some a->x[q]? = some b->ltE b a=false
 b:∀ q a b,j < q->q<=i->x[j]? = some a->x[q]? = some b->ltE b a=false
theorem ins2(l:List Z0)(hl:l.length<=1000){i:Nat}(hi:i < l.length)(hs:Z6J i l):∃ r,iter (ZK 0) ((i:Int),l)=some r/\r.Perm l/\Z6J (i+1) r:=by
 refine ZD (step:=ZK 0) (fun x=>∃ j:Nat,x.1=j/\InI l i j x.2) (fun x=>x.1.toNat) (fun r=>r.Perm l/\Z6J (i+1) r) (x:=((i:Int),l)) ⟨i,rfl,Nat.le_refl _,.refl _,fun p q a b h1 h2 h3 h4 h5 h6=>hs p q a b h1 (by omega) h5 h6,fun q a b h1 h2=>by omega⟩ (by dsimp only;omega) ?_
 rintro⟨xj,x⟩ ⟨j,h1,hI⟩
 dsimp only at h1 hI
 subst h1
 have hlen:=hI.perm.length_eq
 have hji:=hI.ji
 have hj:j < x.length:=by omega
 unfold ZK
 dsimp only
 have fin:(j=0\/∀ a b,x[j - 1]? = some a->x[j]? = some b->ltE b a=false)->Z6J (i+1) x:=by
  intro hex p q a b hpq hq ha hb
  by_cases hp:p=j
  ·subst hp;exact hI.b q a b hpq (by omega) ha hb
  ·by_cases hqj:q=j
   ·subst hqj
    rcases hex with h0|hex
    ·omega
    ·by_cases hp1:p=q - 1
     ·subst hp1;exact hex a b ha hb
     ·have hm:q - 1 < x.length:=by omega
      have h2:=hI.a p (q - 1) a x[q - 1] (by omega) (by omega) (by omega) (by omega) ha (List.getElem?_eq_getElem hm)
      exact Z9o h2 (hex _ b (List.getElem?_eq_getElem hm) hb)
   ·exact hI.a p q a b hpq (by omega) hp hqj ha hb
 by_cases q0:j=0
 ·right
  subst q0
  simp only[show ¬ (0:Int) < ((0:Nat):Int) by omega,decide_false,Bool.false_eq_true,if_false,Option.bind_some]
  exact⟨_,rfl,hI.perm,fin (.inl rfl)⟩
 ·have hj1:j - 1 < x.length:=by omega
  rw[if_pos (by simp;omega),wr64 (x:=(j:Int) - 1) (by omega),show(j:Int) - 1=((j - 1:Nat):Int) by omega,Zc hj,Zc hj1]
  simp only[Option.bind_some]
  obtain⟨r,hr,hlt⟩:=ZiJ x[j] x[j - 1]
  rw[hr]
  simp only[Option.bind_some,hlt]
  cases hc:ltE x[j] x[j - 1] with
  | false =>
   right
   simp only[Bool.false_eq_true,if_false]
   refine⟨_,rfl,hI.perm,fin (.inr fun a b ha hb=>?_)⟩
   rw[List.getElem?_eq_getElem hj1] at ha
   rw[List.getElem?_eq_getElem hj] at hb
   cases ha;cases hb
   exact hc
  | true =>
   left
   simp only[if_true]
   rw[Z3L _ hj]
   simp only[Option.bind_some]
   rw[Zc (show j - 1 < (x.set j x[j - 1]).length by simpa using hj1)]
   simp only[Option.bind_some]
   rw[Z3L _ (show j - 1 < (x.set j x[j - 1]).length by simpa using hj1)]
   simp only[Option.bind_some]
   refine⟨_,rfl,⟨j - 1,rfl,by omega,(List.set_set_perm hj hj1).trans hI.perm,?_,?_⟩,by dsimp only;omega⟩
   ·intro p q a b hpq hq hp hqj ha hb
    dsimp only at ha hb
    have gp:∀ k c,k≠j - 1->((x.set j x[j - 1]).set (j - 1) x[j])[k]? = some c->(k=j/\c=x[j - 1])\/(k≠j/\x[k]? = some c):=by
     intro k c hk hc'
     rw[List.getElem?_set_ne (by omega),List.getElem?_set] at hc'
     by_cases hkj:j=k
     ·subst hkj
      rw[if_pos rfl,if_pos hj] at hc'
      exact .inl ⟨rfl,(Option.some.inj hc').symm⟩
     ·rw[if_neg hkj] at hc'
      exact .inr ⟨fun e=>hkj e.symm,hc'⟩
    rcases gp p a hp ha with⟨hp1,hp2⟩|⟨hpj,ha'⟩
    ·subst hp2
     rcases gp q b hqj hb with⟨h2,_⟩|⟨hqj2,hb'⟩
     ·omega
     ·exact hI.a (j - 1) q _ b (by omega) hq (by omega) hqj2 (List.getElem?_eq_getElem hj1) hb'
    ·rcases gp q b hqj hb with⟨hq1,hq2⟩|⟨hqj2,hb'⟩
     ·subst hq2
      exact hI.a p (j - 1) a _ (by omega) (by omega) hpj (by omega) ha' (List.getElem?_eq_getElem hj1)
     ·exact hI.a p q a b hpq hq hpj hqj2 ha' hb'
   ·intro q a b hq hqi ha hb
    dsimp only at ha hb
    rw[List.getElem?_set_self (by simpa using hj1)] at ha
    cases ha
    by_cases hqj:q=j
    ·subst hqj
     rw[List.getElem?_set_ne (by omega),List.getElem?_set_self hj] at hb
     cases hb
     exact Z8r hc
    ·rw[List.getElem?_set_ne (by omega),List.getElem?_set_ne (by omega)] at hb
     exact hI.b q _ b (by omega) hqi (List.getElem?_eq_getElem hj) hb
theorem ins1(l:List Z0)(hl:l.length<=1000):∃ r,Zp l 0 (l.length:Int)=some r/\r.Perm l/\Z6J l.length r:=by
 obtain⟨r,hr,h1,h2⟩:=ZD (step:=Z03 0 (l.length:Int)) (fun x=>∃ i:Nat,x.1=i/\(i<=l.length\/i=1)/\x.2.Perm l/\Z6J i x.2) (fun x=>l.length - x.1.toNat) (fun r=>r.Perm l/\Z6J l.length r) (x:=(1,l)) ⟨1,rfl,.inr rfl,.refl _,fun p q a b h1 h2=>by omega⟩ (by dsimp only;omega) (by
  rintro⟨xi,x⟩ ⟨i,h1,h2,h3,h4⟩
  dsimp only at h1 h3 h4
  subst h1
  have hlen:=h3.length_eq
  unfold Z03
  dsimp only
  by_cases q:i < l.length
  ·left
   rw[if_pos (by simpa using q),wr64 (x:=(i:Int)+1) (by omega)]
   obtain⟨r,hr,h5,h6⟩:=ins2 x (by omega) (i:=i) (by omega) h4
   rw[hr]
   exact⟨_,rfl,⟨i+1,by simp,.inl (by omega),h5.trans h3,h6⟩,by dsimp only;omega⟩
  ·right
   rw[if_neg (by simpa using q)]
   exact⟨_,rfl,h3,fun p q' a b hpq hq=>h4 p q' a b hpq (by omega)⟩)
 refine⟨r,?_,h1,h2⟩
 unfold Zp ZQ
 rw[show IntKind.i64.wrap (0+1)=1 from by decide,hr]
 simp only[Option.bind_some]
 rw[if_pos h1.length_eq]
theorem Zfw(l:List Z0)(hl:l.length<=19)(hz:∀ e ∈ l,EvZ e):∃ r,Z2K l=some r/\r.Perm l/\Z6J l.length r:=by
 obtain⟨r,hr,h1,h2⟩:=ins1 l (by omega)
 have hst:ZC l (l.length:Int)=some r:=by
  unfold ZC Z0i
  have s1:iter (Z0t (l.length:Int)) (0,20,l)=some (l,0):=by
   refine Z0T (fun x e=>x=(0,20,l)/\e=(l,0)) (fun _=>0) ?_ (x:=(0,20,l)) ⟨rfl,rfl⟩ (by decide)
   rintro x e ⟨rfl,rfl⟩
   right
   unfold Z0t
   rw[if_neg (by simp;omega)]
  have s2:iter (Z0u (l.length:Int)) (20,r)=some r:=by
   refine Z0T (fun x e=>x=(20,r)/\e=r) (fun _=>0) ?_ (x:=(20,r)) ⟨rfl,rfl⟩ (by decide)
   rintro x e ⟨rfl,rfl⟩
   right
   unfold Z0u
   rw[if_neg (by simp;omega)]
  rw[s1]
  simp only[Option.bind_some]
  rw[hr]
  simp only[Option.bind_some]
  rw[s2]
  simp only[Option.bind_some]
  rw[if_pos h1.length_eq]
 refine⟨r,?_,h1,h2⟩
 have hc:=ZF (step:=Z2D l) l (by omega) (fun i (s:List Z0)=>(s,i)) (fun s e=>.inr (s++[e])) id (fun i s=>s.length=i) (s0:=[]) rfl
  (fun i hi s hs=>.inr ⟨_,rfl,by
   unfold Z2D
   dsimp only
   rw[if_pos (by simpa using hi),Zc hi,wr64 (x:=(i:Int)+1) (by omega)]
   simp only[Option.bind_some]
   rw[Zf6 _ (hz _ (List.getElem_mem hi))]
   simp only[Option.bind_some]
   rw[if_pos (by omega)],by simp[hs]⟩)
  (fun s hs=>by unfold Z2D;dsimp only;rw[if_neg (by simp)];rfl)
 have hid:∀ (t s:List Z0),runF (fun(s:List Z0) e=>(.inr (s++[e]):List Z0 ⊕ List Z0)) id s t=s++t:=by
  intro t
  induction t with
  | nil=>intro s;simp[runF]
  | cons a t ih=>intro s;simp only[runF];rw[ih];simp
 rw[hid,List.nil_append] at hc
 unfold Z2K
 rw[show(([]:List Z0),(0:Int))=(fun i (s:List Z0)=>(s,i)) 0 [] from rfl,hc]
 simp only[Option.bind_some]
 unfold Zt ZH
 rw[hst]
 simp only[Option.bind_some]
 rw[if_pos h1.length_eq]
 rfl
def badS (s:Z8):Bool:=decide (s.In < 0)||decide (s.Out<=s.In)||decide (5184000 < s.Out)
def upE (s:Z8)(e:Z0):Z0:=if e.ID=s.ID then⟨e.ID,⟨s.In,s.Out⟩,e.Region,e.Kind,e.Speaker,e.Rows⟩ else e
theorem ZkX(s:Z8)(e:Z0):(upE s e).ID=e.ID:=by unfold upE;split<;>rfl
theorem Zd5{s:Z8}{e:Z0}(h:EvZ e):EvZ (upE s e):=by unfold upE;split<;>exact h
theorem Z9S(s:Z8)(l:List Z0):(l.map (upE s)).map (·.ID)=l.map (·.ID):=by
 rw[List.map_map];exact List.map_congr_left fun e _=>ZkX s e
def apF (ev:List Z0)(s:Z8):(Int ⊕ List Z0) ⊕ List Z0 :=
 if(ev.map (·.ID)).contains s.ID then(if badS s then .inl (.inl 2) else .inr (ev.map (upE s))) else .inl (.inl 6)
def apR (ev:List Z0)(l:List Z8):Int ⊕ List Z0:=runF apF .inr ev l
theorem Z7y{l:List Z0}(hd:(l.map (·.ID)).Nodup){i j:Nat}(hi:i < l.length)(hj:j < l.length)(h:l[i].ID=l[j].ID):i=j:=by
 have hp:=List.pairwise_iff_getElem.1 hd;rcases Nat.lt_trichotomy i j with q|q|q
 ·exact absurd (by rw[List.getElem_map,List.getElem_map];exact h) (hp i j (by simpa using hi) (by simpa using hj) q)
 ·exact q
 exact absurd (by rw[List.getElem_map,List.getElem_map];exact h.symm) (hp j i (by simpa using hj) (by simpa using hi) q)
theorem Zfs{l:List Z0}(hd:(l.map (·.ID)).Nodup){i:Nat}(hi:i < l.length)(s:Z8)(h:l[i].ID=s.ID):l.set i ⟨l[i].ID,⟨s.In,s.Out⟩,l[i].Region,l[i].Kind,l[i].Speaker,l[i].Rows⟩=l.map (upE s):=by
 refine List.ext_getElem (by simp) fun j hj1 hj2=>?_;have hj:j < l.length:=by simpa using hj1
 rw[List.getElem_map];by_cases q:i=j
 ·subst q;rw[List.getElem_set_self];unfold upE;rw[if_pos h]
 rw[List.getElem_set_ne q];unfold upE;rw[if_neg (fun e=>q (Z7y hd hi hj (h.trans e.symm)))]
theorem Zgu(s:Z8):(if(decide (s.In < 0)) then(some true) else(if(decide (s.Out<=s.In)) then(some true) else(some (decide (5184000 < s.Out)))):Option Bool)=some (badS s):=by
 unfold badS;by_cases h1:s.In < 0<;>by_cases h2:s.Out<=s.In<;>simp[h1,h2]
structure ApI(n:Nat)(ids:List Int)(ev:List Z0):Prop where
 len:ev.length=n
 ids:ev.map (·.ID)=ids
 z:∀ e ∈ ev,EvZ e
theorem Zj9(d:Z2)(l:List Z8)(hl:l.length<=1000)(hz:∀ e ∈ d.Events,EvZ e)(hn:d.Events.length<=1048576)(hd:(d.Events.map (·.ID)).Nodup):iter (Z1m l d) (0,d.Events)=some (apR d.Events l):=by
 refine ZF (step:=Z1m l d) l (by omega) (fun i (s:List Z0)=>(i,s)) apF .inr (fun _ ev=>ApI d.Events.length (d.Events.map (·.ID)) ev) (s0:=d.Events) ⟨rfl,rfl,hz⟩ (fun i hi ev hI=>?_) (fun ev hI=>by unfold Z1m;dsimp only;rw[if_neg (by simp)])
 have hst:Z1m l d ((i:Int),ev)=(apF ev l[i]).elim (fun e=>some (.out e)) (fun ev'=>some (.go ((i:Int)+1,ev'))):=by
  unfold Z1m
  dsimp only
  rw[if_pos (by simpa using hi),Zc hi,wr64 (x:=(i:Int)+1) (by omega)]
  simp only[Option.bind_some]
  generalize l[i]=s
  obtain⟨r,_,hr,hp⟩:=Zf8 (Z2.mk d.Title d.Lang d.Rate d.Drop d.Last d.Regions ev d.Comments) (by show ev.length<=_;rw[hI.len];exact hn) s.ID
  rw[hr]
  simp only[Option.bind_some,Zgu]
  rcases hp with⟨k,hk,rfl,hid⟩|⟨rfl,hno⟩
  ·have hc:(ev.map (·.ID)).contains s.ID=true:=List.contains_iff_mem.2 (List.mem_map.2 ⟨ev[k],List.getElem_mem hk,hid⟩)
   unfold apF
   rw[hc]
   simp only[show ¬ ((k:Int) < 0) by omega,decide_false,Bool.false_eq_true,if_false,if_true]
   cases badS s with
   | true=>rfl
   | false =>
    simp only[Bool.false_eq_true,if_false]
    have hk':k < ev.length:=hk
    rw[Zc hk']
    simp only[Option.bind_some]
    rw[Z3L _ hk',Zfs (by rw[hI.ids];exact hd) hk' s hid]
    rfl
  ·have hc:(ev.map (·.ID)).contains s.ID=false:=by
    cases hq:(ev.map (·.ID)).contains s.ID with
    | false=>rfl
    | true =>
     obtain⟨e,he,heq⟩:=List.mem_map.1 (List.contains_iff_mem.1 hq)
     obtain⟨j,hj,rfl⟩:=List.getElem_of_mem he
     exact absurd heq (hno j hj)
   unfold apF
   rw[hc]
   rfl
 rw[hst]
 cases hf:apF ev l[i] with
 | inl e=>exact .inl ⟨e,rfl,rfl⟩
 | inr ev' =>
  refine .inr ⟨ev',rfl,rfl,?_⟩
  unfold apF at hf
  split at hf
  ·split at hf
   ·cases hf
   ·cases hf
    refine⟨by simp[hI.len],by rw[Z9S];exact hI.ids,fun e he=>?_⟩
    obtain⟨e0,he0,rfl⟩:=List.mem_map.1 he
    exact Zd5 (hI.z _ he0)
  ·cases hf
theorem Z9E:∀ (l:List Z8) (ev ev':List Z0),apR ev l=.inr ev'->ev'.length=ev.length/\ev'.map (·.ID)=ev.map (·.ID)/\((∀ e ∈ ev,EvZ e)->∀ e ∈ ev',EvZ e)
 | [],ev,ev',h=>by cases h;exact⟨rfl,rfl,fun h=>h⟩
 | s::l,ev,ev',h=>by
  unfold apR at h
  simp only[runF] at h
  cases hf:apF ev s with
  | inl e =>
   rw[hf] at h
   simp only at h
   unfold apF at hf
   split at hf
   ·split at hf<;>cases hf
    cases h
   ·cases hf;cases h
  | inr e1 =>
   rw[hf] at h
   simp only at h
   obtain⟨a,b,c⟩:=Z9E l e1 ev' h
   unfold apF at hf
   split at hf
   ·split at hf
    ·cases hf
    ·cases hf
     refine⟨by rw[a];simp,by rw[b,Z9S],fun hz=>c fun e he=>?_⟩
     obtain⟨e0,he0,rfl⟩:=List.mem_map.1 he
     exact Zd5 (hz _ he0)
   ·cases hf
def docN:Z2:=⟨[],[],0,false,0,[],[],[]⟩
def Z3k (d:Z2)(ev:List Z0):Z2:=⟨d.Title,d.Lang,d.Rate,d.Drop,d.Last,d.Regions,ev,d.Comments⟩
theorem Zao(d:Z2)(hd:DocZ d)(hc:Zq d=some 0)(hD:Z8f d)(hn:d.Events.length<=19)(l:List Z8)(hl:l.length<=1000) :
  (∃ e,apR d.Events l=.inl e/\Z0Z d l=some (docN,e))\/(∃ ev r,apR d.Events l=.inr ev/\Z0Z d l=some (Z3k d r,0)/\r.Perm ev/\Z6J ev.length r):=by
 unfold Z0Z
 rw[hc]
 simp only[Option.bind_some,bne_self_eq_false,Bool.false_eq_true,if_false]
 cases h:d.Events.isEmpty with
 | true =>
  have he:=Z9k h
  simp only[if_true]
  rw[ZhN d hd]
  simp only[Option.bind_some]
  cases l with
  | nil =>
   right
   have:iter (Z23 [] d) ()=some (.inr ()):=by
    refine Z0T (fun x e=>e=.inr ()) (fun _=>0) ?_ (x:=()) rfl (by decide)
    rintro x e rfl
    right
    unfold Z23
    rw[if_neg (by simp)]
   rw[this]
   simp only[Option.bind_some]
   obtain⟨r,hr,h1,h2⟩:=Zfw d.Events hn hd.ev
   rw[hr]
   exact⟨d.Events,r,by rw[he];rfl,rfl,h1,h2⟩
  | cons s t =>
   left
   have:iter (Z23 (s::t) d) ()=some (.inl 6):=by
    refine Z0T (fun x e=>e=.inl 6) (fun _=>0) ?_ (x:=()) rfl (by decide)
    rintro x e rfl
    right
    unfold Z23
    rw[if_pos (by simp),show atI (s::t) 0=some s from rfl]
    simp only[Option.bind_some]
    obtain⟨r,hr,_,hp⟩:=Zf8 d hd.evs s.ID
    rw[hr]
    simp only[Option.bind_some]
    rcases hp with⟨k,hk,_⟩|⟨rfl,_⟩
    ·rw[he] at hk;simp at hk
    ·rfl
   rw[this]
   refine⟨6,?_,rfl⟩
   rw[he]
   rfl
 | false =>
  simp only[Bool.false_eq_true,if_false]
  rw[Zex d hd h]
  simp only[Option.bind_some]
  rw[Zj9 d l hl hd.ev hd.evs hD.ids]
  simp only[Option.bind_some]
  cases hr:apR d.Events l with
  | inl e=>exact .inl ⟨e,rfl,rfl⟩
  | inr ev =>
   right
   obtain⟨a,b,c⟩:=Z9E l d.Events ev hr
   obtain⟨r,hs,h1,h2⟩:=Zfw ev (by omega) (c hd.ev)
   simp only[hs,Option.bind_some]
   exact⟨ev,r,rfl,rfl,h1,h2⟩
theorem Zl3{d:Z2}{p:Z7}{l:List Int}{i:Nat}{x:Z0}(t t':Int){bs:List Z1}(h:bsE d p l t i x=.inr bs):∃ bs',bsE d p l t' i x=.inr bs':=by
 unfold bsE at h ⊢;split at h
 ·cases h
 rename_i q1
 rw[if_neg q1];split at h
 ·cases h
 rename_i q2
 rw[if_neg q2];exact⟨_,rfl⟩
theorem ZiU{d:Z2}{p:Z7}{l:List Int}(t t':Int):∀ (L:List (Z0 × Nat)) (s s' bs:List Z1),runF (bnF d p l t) .inr s L=.inr bs->∃ bs',runF (bnF d p l t') (Sum.inr:_->Int ⊕ List Z1) s' L=.inr bs'
 | [],s,s',bs,h=>⟨s',rfl⟩
 | a::L,s,s',bs,h=>by
  simp only[runF] at h ⊢
  cases hf:bnF d p l t s a with
  | inl e =>
   rw[hf] at h
   obtain⟨v,rfl⟩:=Z87 hf
   cases h
  | inr s1 =>
   rw[hf] at h
   obtain⟨b1,hb1,rfl⟩:=Z88 hf
   obtain⟨b2,hb2⟩:=Zl3 t t' hb1
   have:bnF d p l t' s' a=.inr (s'++b2):=by unfold bnF;rw[hb2]
   rw[this]
   exact ZiU t t' L _ _ bs h
def bnT (d:Z2)(p:Z7)(l:List Int)(t:Int):List Z1:=(bnR d p l t).elim (fun _=>[]) id
structure Good(d:Z2)(p:Z7)(l:List Int):Prop where
 z:Z7b d p l
 dc:dcS d=0
 pc:ckS p=0
 sc:shC l=0
 num:d.Events.length<=255
 bn:∀ t,∃ bs,bnR d p l t=.inr bs
theorem Zjq{d:Z2}{p:Z7}{l:List Int}(h:Z7b d p l){tol:Int}(h0:(bnS d p l tol).2=0):Good d p l/\0<=tol/\tol<=5184000:=by
 have hc:ckB d p l tol=0:=by
  by_cases q:ckB d p l tol=0
  ·exact q
  ·unfold bnS at h0;rw[if_pos q] at h0;exact h0
 obtain⟨a,b,c,e,f⟩:=ZfL hc
 refine⟨⟨h,a,b,c,f,fun t=>?_⟩,e⟩
 have:∃ bs,bnR d p l tol=.inr bs:=by
  cases hb:bnR d p l tol with
  | inr bs=>exact⟨bs,rfl⟩
  | inl e0 =>
   unfold bnS at h0
   rw[if_neg (fun q=>q hc),hb] at h0
   have h1:e0=0:=h0
   exfalso
   have key:∀ (L:List (Z0 × Nat)) (s:List Z1) (v:Int),runF (bnF d p l tol) .inr s L=.inl v->v≠0:=by
    intro L
    induction L with
    | nil=>intro s v hv;cases hv
    | cons a L ih =>
     intro s v hv
     simp only[runF] at hv
     cases hf:bnF d p l tol s a with
     | inl e =>
      rw[hf] at hv
      simp only at hv
      subst hv
      unfold bnF bsE at hf
      split at hf
      ·rename_i e2 hs
       split at hs
       ·rename_i q;cases hs;cases hf;exact q
       ·split at hs
        ·rename_i q;cases hs;cases hf;exact q
        ·cases hs
      ·cases hf
     | inr s1=>rw[hf] at hv;exact ih _ _ hv
   exact key _ _ _ hb h1
 obtain⟨bs,hb⟩:=this
 exact ZiU tol t _ _ _ bs hb
theorem Good.ck{d:Z2}{p:Z7}{l:List Int}(g:Good d p l){t:Int}(ht:0<=t/\t<=5184000):ckB d p l t=0:=by
 unfold ckB;rw[if_neg (fun q=>q g.dc),if_neg (fun q=>q g.pc),if_neg (fun q=>q g.sc),if_neg (by omega),if_neg (by have:=g.num;omega)]
theorem Good.bs{d:Z2}{p:Z7}{l:List Int}(g:Good d p l){t:Int}(ht:0<=t/\t<=5184000):bnS d p l t=(bnT d p l t,0)/\Z0j (2 * d.Events.length+1) (bnT d p l t):=by
 obtain⟨bs,hb⟩:=g.bn t;have hT:bnT d p l t=bs:=by unfold bnT;rw[hb];rfl
 refine⟨?_,by rw[hT];exact Zkc g.z (g.ck ht) hb⟩;unfold bnS;rw[if_neg (fun q=>q (g.ck ht)),hb,hT];rfl
def okT (d:Z2)(p:Z7)(l:List Int)(t:Int):Prop:=Z3M (· ∈ eds (bnT d p l t))
theorem numN(d:Z2)(h:d.Events.length<=255):IntKind.i64.wrap (IntKind.i64.wrap (2 * (d.Events.length:Int))+1)=((2 * d.Events.length+1:Nat):Int):=by
 rw[wr64 (x:=2 * (d.Events.length:Int)) (by omega),wr64 (by omega)];omega
theorem ZdP{d:Z2}{p:Z7}{l:List Int}(g:Good d p l){t:Int}(ht:0<=t/\t<=5184000) :
  (okT d p l t/\Z1Z t d p l ((2 * d.Events.length+1:Nat):Int)=some (sol (2 * d.Events.length+1) (bnT d p l t),true))\/(¬ okT d p l t/\Z1Z t d p l ((2 * d.Events.length+1:Nat):Int)=some ([],false)):=by
 obtain⟨h1,h2⟩:=g.bs ht
 unfold Z1Z
 rw[Z9h g.z,h1]
 simp only[Option.bind_some]
 rcases ZaE h2 with⟨a,b⟩|⟨a,out,b,_⟩
 ·rw[b];exact .inl ⟨a,rfl⟩
 ·rw[b];exact .inr ⟨a,rfl⟩
theorem Zkv{i j:Nat}(h:i+j<=10368000):IntKind.i64.wrap (Int.fdiv (IntKind.u64.wrap (IntKind.i64.wrap ((i:Int)+(j:Int)))) 2)=(((i+j) / 2:Nat):Int):=by
 rw[wr64 (x:=(i:Int)+j) (by omega)]
 have hu:IntKind.u64.wrap ((i:Int)+(j:Int))=(i:Int)+(j:Int):=by
  show((i:Int)+(j:Int)) % 18446744073709551616=_
  omega
 rw[hu,Int.fdiv_eq_ediv_of_nonneg _ (by omega),wr64 (by omega)]
 omega
theorem Zhm{d:Z2}{p:Z7}{l:List Int}(g:Good d p l){tol:Int}(ht:0<=tol/\tol<=5184000)(hok:okT d p l tol) :
  ∃ r:Int,Z59 tol d p l ((2 * d.Events.length+1:Nat):Int)=some r/\0<=r/\r<=tol/\okT d p l r/\(r=0\/¬ okT d p l (r - 1)):=by
 obtain⟨T,rfl⟩:=Int.eq_ofNat_of_zero_le ht.1
 obtain⟨r,hr,hp⟩:=ZD (step:=Z4Q d p l ((2 * d.Events.length+1:Nat):Int)) (fun x=>∃ i j:Nat,x=((i:Int),(j:Int))/\i<=j/\j<=T/\okT d p l (j:Int)/\((i:Int)=0\/¬ okT d p l ((i:Int) - 1))) (fun x=>(x.2 - x.1).toNat) (fun r=>0<=r/\r<=(T:Int)/\okT d p l r/\(r=0\/¬ okT d p l (r - 1))) (x:=(0,(T:Int))) ⟨0,T,rfl,by omega,by omega,hok,.inl rfl⟩ (by dsimp only;omega) (by
  rintro x ⟨i,j,rfl,h1,h2,h3,h4⟩
  unfold Z4Q
  dsimp only
  by_cases q:i < j
  ·left
   rw[if_pos (by simpa using q),Zkv (by omega)]
   have hm1:i<=(i+j) / 2:=by omega
   have hm2:(i+j) / 2 < j:=by omega
   generalize (i+j) / 2=m at hm1 hm2
   unfold Z5v
   rcases ZdP g (t:=(m:Int)) ⟨by omega,by omega⟩ with⟨a,b⟩|⟨a,b⟩
   ·rw[b]
    simp only[Option.bind_some,if_true]
    exact⟨_,rfl,⟨i,m,rfl,hm1,by omega,a,h4⟩,by dsimp only;omega⟩
   ·rw[b]
    simp only[Option.bind_some,Bool.false_eq_true,if_false]
    rw[wr64 (x:=(m:Int)+1) (by omega)]
    exact⟨_,rfl,⟨m+1,j,by simp,by omega,h2,h3,.inr (by rw[show((m+1:Nat):Int) - 1=(m:Int) by omega];exact a)⟩,by dsimp only;omega⟩
  ·right
   rw[if_neg (by simpa using q)]
   obtain rfl:i=j:=by omega
   exact⟨_,rfl,by omega,by omega,h3,h4⟩)
 unfold Z59
 rw[hr]
 exact⟨r,rfl,hp⟩
def bAt (bs:List Z1)(i:Int):Z1:=bs.getD i.toNat ⟨0,0,0,0,0,0⟩
theorem ZgW(r7:List Z1 × Int)(x:List Int)(out:List Int)(e:Int)(ho:out.length<=1000)(hi:∀ i ∈ out,0<=i/\i < (r7.1.length:Int)):iter (Z2t r7 (x,out,e)) (0,[])=some (out.map (bAt r7.1)):=by
 have:=ZF (step:=Z2t r7 (x,out,e)) out (by omega) (fun i (s:List Z1)=>(i,s)) (fun s i=>.inr (s++[bAt r7.1 i])) id (fun i s=>s.length=i) (s0:=[]) rfl
  (fun i hi' s hs=>.inr ⟨_,rfl,by
   have hq:=hi _ (List.getElem_mem hi')
   unfold Z2t
   dsimp only
   rw[if_pos (by simpa using hi'),Zc hi',wr64 (x:=(i:Int)+1) (by omega)]
   simp only[Option.bind_some]
   generalize out[i]=k at hq
   obtain⟨k,rfl⟩:=Int.eq_ofNat_of_zero_le hq.1
   have hk:k < r7.1.length:=by omega
   rw[Zc hk]
   simp only[Option.bind_some]
   rw[if_pos (by omega),show bAt r7.1 (k:Int)=r7.1[k] from by simp[bAt,List.getD,hk]],by simp[hs]⟩)
  (fun s hs=>by unfold Z2t;dsimp only;rw[if_neg (by simp)];rfl)
 have hid:∀ (t:List Int) (s:List Z1),runF (fun(s:List Z1) (i:Int)=>(.inr (s++[bAt r7.1 i]):List Z1 ⊕ List Z1)) id s t=s++t.map (bAt r7.1):=by
  intro t
  induction t with
  | nil=>intro s;simp[runF]
  | cons a t ih=>intro s;simp only[runF];rw[ih];simp
 rw[hid,List.nil_append] at this
 exact this
def spS (x:List Int)(i:Nat):Ze:=⟨x.getD (2 * i+1) 0 - x.getD 0 0,x.getD (2 * i+2) 0 - x.getD 0 0⟩
def shF (x:List Int)(s:List Z8)(a:Z0 × Nat):List Z8:=if(spS x a.2).In≠a.1.Span.In\/(spS x a.2).Out≠a.1.Span.Out then s++[⟨a.1.ID,(spS x a.2).In,(spS x a.2).Out⟩] else s
def shS (d:Z2)(x:List Int):List Z8:=runF (fun s a=>.inr (shF x s a)) id [] d.Events.zipIdx
theorem ZbV(x:List Int)(s:List Z8)(a:Z0 × Nat):(shF x s a).length<=s.length+1:=by unfold shF;split<;>simp
theorem Zfu(d:Z2)(x:List Int):(shS d x).length<=d.Events.length:=by
 have:∀ (t:List (Z0 × Nat)) (s:List Z8),(runF (fun(s:List Z8) a=>(.inr (shF x s a):List Z8 ⊕ List Z8)) id s t).length<=s.length+t.length:=by
  intro t
  induction t with
  | nil=>intro s;simp[runF]
  | cons a t ih =>
   intro s
   simp only[runF]
   have h1:=ih (shF x s a)
   have h2:=ZbV x s a
   simp only[List.length_cons]
   omega
 have h:=this d.Events.zipIdx []
 simp only[List.length_nil,List.length_zipIdx,Nat.zero_add] at h
 exact h
theorem Zkx{d:Z2}(hn:d.Events.length<=255){x:List Int}{b:Bool}{K:Int}(hK:K<=2100000)(hx:Bd (2 * d.Events.length+1) K x):iter (Z2u d (x,b)) (0,[])=some (shS d x):=by
 have hlz:d.Events.zipIdx.length=d.Events.length:=List.length_zipIdx
 refine ZF (step:=Z2u d (x,b)) d.Events.zipIdx (by omega) (fun i (s:List Z8)=>(i,s)) (fun s a=>.inr (shF x s a)) id (fun i s=>s.length<=i) (s0:=[]) (by simp)
  (fun i hi s hs=>.inr ⟨_,rfl,?_,by have:=ZbV x s d.Events.zipIdx[i];omega⟩)
  (fun s hs=>by unfold Z2u;dsimp only;rw[if_neg (by rw[hlz];simp)];rfl)
 have hi':i < d.Events.length:=by omega
 rw[show d.Events.zipIdx[i]=(d.Events[i],i) from by simp[List.getElem_zipIdx]]
 have hl:=hx.1
 have h1:=hx.2 (2 * i+1) (by omega)
 have h2:=hx.2 (2 * i+2) (by omega)
 have h0:=hx.2 0 (by omega)
 unfold Z2u shF spS
 dsimp only
 rw[if_pos (by simpa using hi'),Zc hi',wr64 (x:=(i:Int)+1) (by omega),wr64 (x:=2 * (i:Int)) (by omega),wr64 (x:=2 * (i:Int)+1) (by omega),wr64 (x:=2 * (i:Int)+2) (by omega),Z0v (k:=2 * (i:Int)+1) (by omega) (by omega),Z0v (k:=0) (by omega) (by omega),Z0v (k:=2 * (i:Int)+2) (by omega) (by omega)]
 simp only[Option.bind_some]
 rw[show(2 * (i:Int)+1).toNat=2 * i+1 by omega,show(2 * (i:Int)+2).toNat=2 * i+2 by omega,show(0:Int).toNat=0 from rfl]
 generalize x.getD (2 * i+1) 0=a1 at *
 generalize x.getD (2 * i+2) 0=a2 at *
 generalize x.getD 0 0=a0 at *
 rw[wr64 (x:=a1 - a0) (by omega),wr64 (x:=a2 - a0) (by omega)]
 have hc:(s.length+1) * 24<=140737488355328:=by omega
 by_cases q1:a1 - a0=d.Events[i].Span.In
 ·by_cases q2:a2 - a0=d.Events[i].Span.Out
  ·simp[q1,q2]
  ·simp[q1,q2,hc]
 ·simp[q1,hc]
theorem Zhn{n:Nat}{l:List Z1}(hl:Z0j n l):Bd n (((n - 1:Nat):Int) * 4000) (sol n l):=Z9R hl (n - 1)
theorem ZjB{d:Z2}{p:Z7}{l:List Int}(h:Z7b d p l)(hn:d.Events.length<=19)(tol:Int) :
  ((bnS d p l tol).2≠0/\Z0I d p l tol=some (⟨docN,[],0,[]⟩,(bnS d p l tol).2)) \/
  (Good d p l/\(0<=tol/\tol<=5184000)/\¬ okT d p l tol/\∃ out,Z0I d p l tol=some (⟨docN,[],0,out.map (bAt (bnT d p l tol))⟩,16)/\(out=[]\/∃ k,0 < k/\k<=2 * d.Events.length+1/\Z6i (· ∈ eds (bnT d p l tol)) k/\CfOK (bnT d p l tol) k out)) \/
  (Good d p l/\(0<=tol/\tol<=5184000)/\okT d p l tol/\∃ r:Int,0<=r/\r<=tol/\okT d p l r/\(r=0\/¬ okT d p l (r - 1))/\∃ A:Z2 × Int,Z0Z d (shS d (sol (2 * d.Events.length+1) (bnT d p l r)))=some A/\Z0I d p l tol=some (⟨A.1,shS d (sol (2 * d.Events.length+1) (bnT d p l r)),r,[]⟩,A.2)):=by
 unfold Z0I
 rw[Z9h h]
 simp only[Option.bind_some]
 by_cases h0:(bnS d p l tol).2=0
 ·obtain⟨g,ht⟩:=Zjq h h0
  obtain⟨h1,h2⟩:=g.bs ht
  have hcd:Zq d=some 0:=by rw[(Z5W d h.doc).1,g.dc]
  have hD:=(Z5W d h.doc).2 g.dc
  rw[h1]
  simp only[bne_self_eq_false,Bool.false_eq_true,if_false]
  rw[numN d g.num]
  rcases ZaE h2 with⟨a,b⟩|⟨a,out,b,hout⟩
  ·right;right
   rw[b]
   simp only[Option.bind_some,bne_self_eq_false,Bool.false_eq_true,if_false]
   obtain⟨r,hr,r0,r1,r2,r3⟩:=Zhm g ht a
   rw[hr]
   simp only[Option.bind_some]
   have hrr:0<=r/\r<=5184000:=by omega
   rcases ZdP g hrr with⟨c1,c2⟩|⟨c1,c2⟩
   ·rw[c2]
    simp only[Option.bind_some]
    obtain⟨k1,k2⟩:=g.bs hrr
    have hsb:=Zhn k2
    rw[Zkx g.num (by omega) hsb]
    simp only[Option.bind_some]
    have hsl:=Zfu d (sol (2 * d.Events.length+1) (bnT d p l r))
    obtain⟨A,hA⟩:∃ A,Z0Z d (shS d (sol (2 * d.Events.length+1) (bnT d p l r)))=some A:=by
     rcases Zao d h.doc hcd hD hn (shS d (sol (2 * d.Events.length+1) (bnT d p l r))) (by omega) with⟨e,_,q⟩|⟨ev,r,_,q,_⟩<;>exact⟨_,q⟩
    rw[hA]
    exact⟨g,ht,a,r,r0,r1,r2,r3,A,hA,rfl⟩
   ·exact absurd r2 c1
  ·right;left
   rw[b]
   simp only[Option.bind_some]
   rw[if_pos (by decide)]
   have hidx:out.length<=1000/\∀ i ∈ out,0<=i/\i < ((bnT d p l tol).length:Int):=by
    rcases hout with rfl|⟨k,k0,k1,_,hc⟩
    ·simp
    ·exact⟨by rw[hc.len];have:=g.num;omega,hc.idx⟩
   rw[ZgW (bnT d p l tol,0) [] out 16 hidx.1 hidx.2]
   exact⟨g,ht,a,out,rfl,hout⟩
 ·left
  rw[if_pos (by rw[bne_iff_ne];exact h0)]
  exact⟨h0,rfl⟩
theorem Z9A{α:Type}(l:List α)(k:Nat):subH l (if(k:Int) < (l.length:Int) then(k:Int) else(l.length:Int))=some (l.take k):=by
 unfold subH;split
 ·rename_i h
  rw[if_pos (by omega),Int.toNat_natCast,Nat.sub_zero,List.drop_zero]
 rename_i h
 rw[if_pos (by omega),Int.toNat_natCast,Nat.sub_zero,List.drop_zero,List.take_length,List.take_of_length_le (by omega)]
theorem Zja:Z64=some true:=by decide +kernel
structure TskZ(t:Zf):Prop where
 doc:DocZ t.Doc
 name:t.House.Name.length<=1048576
 forb:t.House.Forbidden.length<=1048576
def fewT (t:Zf):Zf:=⟨⟨t.Doc.Title,t.Doc.Lang,t.Doc.Rate,t.Doc.Drop,t.Doc.Last,t.Doc.Regions,t.Doc.Events.take 4,t.Doc.Comments.take 4⟩,t.House,t.Shots.take 6,t.Tol⟩
theorem Zkn(t:Zf):Z5Y t=some (fewT t):=by
 unfold Z5Y;have a:=Z9A t.Doc.Events 4;have b:=Z9A t.Doc.Comments 4;have c:=Z9A t.Shots 6;rw[show(if 4 < (t.Doc.Events.length:Int) then 4 else(t.Doc.Events.length:Int))=(if((4:Nat):Int) < (t.Doc.Events.length:Int) then((4:Nat):Int) else(t.Doc.Events.length:Int)) from rfl,a];simp only[Option.bind_some];rw[show(if 4 < (t.Doc.Comments.length:Int) then 4 else(t.Doc.Comments.length:Int))=(if((4:Nat):Int) < (t.Doc.Comments.length:Int) then((4:Nat):Int) else(t.Doc.Comments.length:Int)) from rfl,b];simp only[Option.bind_some];rw[show(if 6 < (t.Shots.length:Int) then 6 else(t.Shots.length:Int))=(if((6:Nat):Int) < (t.Shots.length:Int) then((6:Nat):Int) else(t.Shots.length:Int)) from rfl,c];rfl
theorem Zkm{t:Zf}(h:TskZ t):Z7b (fewT t).Doc (fewT t).House (fewT t).Shots/\(fewT t).Doc.Events.length<=4:=by
 have hd:=h.doc;refine⟨⟨⟨hd.title,hd.rate,hd.regs,?_,fun e he=>hd.ev e (List.mem_of_mem_take he),?_,fun c hc=>hd.com c (List.mem_of_mem_take hc)⟩,h.name,h.forb,?_⟩,?_⟩
 ·show(t.Doc.Events.take 4).length<=_;simp;omega
 ·show(t.Doc.Comments.take 4).length<=_;simp;omega
 ·show(t.Shots.take 6).length<=_;simp;omega
 show(t.Doc.Events.take 4).length<=_;simp;omega
open Go.ChangeShapes Go.WideShapes Go.ChangeAt Go.RowKit
theorem own:ownKnob Tryz.prog.godebug=none:=by kernel_rfl
theorem Zjs:laidOutB Tryz.prog=true:=by kernel_rfl
theorem ZeU(ts:List TypeId)(h:ts.all (fun t=>!(Tryz.prog.wantsStandIn t))=true)(t:TypeId)(ht:t ∈ ts):Tryz.pinned.checked.prog.wantsStandIn t=false:=by
 have:=List.all_eq_true.1 h t ht;exact(show Tryz.prog.wantsStandIn t=false by simpa using this)
def ZdU (cs:Array Value):Obj->Obj
 | .cells _ t frozen=>.cells cs t frozen
 | o=>o
theorem Zk4{W:World}(h:laidMetH Tryz.prog [("unicode/utf8.acceptRanges", Rows.laid_unicode_utf8_acceptRanges),("unicode/utf8.first", Rows.laid_unicode_utf8_first)] W):U8T W :=
 utf8Tabs_of_readsT (U8Types.of196 Tryz.laysValid) ⟨by kernel_rfl,by kernel_rfl,by kernel_rfl,by kernel_rfl,by kernel_rfl,by kernel_rfl,by kernel_rfl⟩ (Lib.laidMet.reads h (.tail _ (.head _))) (Lib.laidMet.reads h (.head _))
theorem Z9j{w w':World}{g c:Nat}{v:Value}(h:w.cell? ⟨g,c,none⟩=some v)(hb:Below w.heap.size w w'):w'.cell? ⟨g,c,none⟩=some v:=by
 have hlt:g < w.heap.size:=by
  rcases Nat.lt_or_ge g w.heap.size with h1|h1
  ·exact h1
  ·simp[World.cell?,Array.getElem?_eq_none h1] at h
 rw[World.cell?_of_block (hb.block g hlt)]
 exact h
theorem ZjZ:Stab U8T:=fun w w' h hb=>⟨fun c hc=>Z9j (h.1 c hc) hb,fun i hi=>⟨Z9j (h.2 i hi).1 hb,Z9j (h.2 i hi).2 hb⟩⟩
theorem ZkT{W:World}(h:W.ShapedOpen Tryz.prog):Shp W :=
 cell_of_shapedOpen_int (k:=.i64) (t:=3) (zero:=#[.int .i64 0]) h (of_decide_eq_true (by kernel_rfl)) (by kernel_rfl) rfl (by kernel_rfl) (by kernel_rfl) Tryz.underlying3
def Env9 (w:World):Prop:=U8T w/\Shp w
theorem ZiO:Stab Env9:=fun w w' ⟨a,b⟩ hb=>⟨ZjZ w w' a hb,ZjY w w' b hb⟩
theorem Zjk{W:World}(h:laidMetH Tryz.prog [("unicode/utf8.acceptRanges", Rows.laid_unicode_utf8_acceptRanges),("unicode/utf8.first", Rows.laid_unicode_utf8_first)] W)(hs:W.ShapedOpen Tryz.prog):Env9 W:=⟨Zk4 h,ZkT hs⟩
noncomputable def Z8q(os:Os):World :=
 { (World.holding Tryz.prog os ⟨#[],#[],[]⟩) with heap:=(((World.holding Tryz.prog os ⟨#[],#[],[]⟩).heap.modify 1 (ZdU #[.int .u8 128,.int .u8 191,.int .u8 160,.int .u8 191,.int .u8 128,.int .u8 159,.int .u8 144,.int .u8 191,.int .u8 128,.int .u8 143,.int .u8 0,.int .u8 0,.int .u8 0,.int .u8 0,.int .u8 0,.int .u8 0,.int .u8 0,.int .u8 0,.int .u8 0,.int .u8 0,.int .u8 0,.int .u8 0,.int .u8 0,.int .u8 0,.int .u8 0,.int .u8 0,.int .u8 0,.int .u8 0,.int .u8 0,.int .u8 0,.int .u8 0,.int .u8 0])).modify 0 (ZdU (Pinned.utf8FirstZ.map fun(z:Nat)=>Value.int .u8 (z:Int)).toArray)) }
def Z3.sz(x:Z3):Prop:=(x.Name.length<=1048576)/\(True)/\(True)/\(True)/\(True)/\(True)/\(True)/\True
def Ze.sz(x:Ze):Prop:=(True)/\(True)/\True
def Zw.sz(x:Zw):Prop:=(True)/\(True)/\(True)/\True
def Zd.sz(x:Zd):Prop:=(x.Text.length<=1048576)/\(Zw.sz x.Style)/\(x.Ruby.length<=1048576)/\True
def Z6.sz(x:Z6):Prop:=(x.Runs.length<=1048576/\∀ a ∈ x.Runs,Zd.sz a)/\True
def Z0.sz(x:Z0):Prop:=(True)/\(Ze.sz x.Span)/\(x.Region.length<=1048576)/\(True)/\(x.Speaker.length<=1048576)/\(x.Rows.length<=1048576/\∀ a ∈ x.Rows,Z6.sz a)/\True
def Z4.sz(x:Z4):Prop:=(True)/\(True)/\(True)/\(True)/\(x.Author.length<=1048576)/\(x.Text.length<=1048576)/\(True)/\(True)/\True
def Z2.sz(x:Z2):Prop:=(x.Title.length<=1048576)/\(x.Lang.length<=1048576)/\(True)/\(True)/\(True)/\(x.Regions.length<=1048576/\∀ a ∈ x.Regions,Z3.sz a)/\(x.Events.length<=1048576/\∀ a ∈ x.Events,Z0.sz a)/\(x.Comments.length<=1048576/\∀ a ∈ x.Comments,Z4.sz a)/\True
def Z7.sz(x:Z7):Prop:=(x.Name.length<=1048576)/\(True)/\(True)/\(True)/\(True)/\(True)/\(True)/\(True)/\(True)/\(x.Forbidden.length<=1048576)/\(True)/\(True)/\(True)/\(True)/\True
def Zf.sz(x:Zf):Prop:=(Z2.sz x.Doc)/\(Z7.sz x.House)/\(x.Shots.length<=1048576/\∀ a ∈ x.Shots,True)/\(True)/\True
theorem Zl7{d:Z2}(h:Z2.sz d)(hr:0<=d.Rate/\d.Rate<=255):DocZ d :=
 ⟨h.1,hr,h.2.2.2.2.2.1.1,h.2.2.2.2.2.2.1.1,fun e he=>by
  have:=(h.2.2.2.2.2.2.1.2 e he).2.2.2.2.2.1
  exact⟨this.1,fun r hr=>⟨fun u hu=>⟨((this.2 r hr).1.2 u hu).1,((this.2 r hr).1.2 u hu).2.2.1⟩,(this.2 r hr).1.1⟩⟩,h.2.2.2.2.2.2.2.1.1,fun c hc=>(h.2.2.2.2.2.2.2.1.2 c hc).2.2.2.2.2.1⟩
theorem ZkW{t:Zf}(h:Zf.sz t)(hr:0<=t.Doc.Rate/\t.Doc.Rate<=255):TskZ t :=
 ⟨Zl7 h.1 hr,h.2.1.1,h.2.1.2.2.2.2.2.2.2.2.2.1⟩
theorem Zhr{ds:List D}{t:Zf}(h:∀ d ∈ ds,Sz d)(hm:t.d ∈ ds):0<=t.Doc.Rate/\t.Doc.Rate<=255 :=
 Zl1.1 (Zk7.1 (h _ hm) (.int .u8 t.Doc.Rate) (by simp))
open Go.RowKit
theorem Wk.pubV{S:AS}{t j n:Nat}{e2:TypeId}{k2:Nat}{ys:List D}{p:Bool}(h1:S.env t=.own j n)(h2:S.heap j=some (.vec e2 k2 ys p))(hn:ys.length=n) :
  Wk S ⟨upd S.env t (.sl ys),upd S.heap j (some (.vec e2 k2 ys true)),S.next,S.nt⟩:=by
 subst hn
 refine⟨rfl,fun I G C a w hR=>?_⟩
 have hH:=hR.ok.heap
 obtain⟨C',P1,hsl⟩:=Z7l hH hR.ok.fb h2
 refine⟨C',⟨⟨fun t'=>?_,P1.ok,P1.fb,hR.ok.base⟩,hR.inv,hR.below,fun b o hF=>(P1.new b o hF).elim (hR.new b o) .inr,hR.ext.trans P1.ext,hR.defers,hR.size,fun id hl=>hR.live id (by rw[<- P1.live];exact hl)⟩⟩
 by_cases ht:t'=t
 ·subst ht
  have:=hR.ok.env t'
  rw[h1] at this
  simp only[upd,if_true]
  exact(hsl _ this).ext Z7v
 ·simp only[upd,ht,if_false]
  exact(hR.ok.env t').ext P1.ext
set_option maxHeartbeats 10000000
theorem Z5n:(∀ x,Z3.d x=.agg [.str x.Name,.int .i64 x.Top,.int .i64 x.Height,.int .i64 x.Left,.int .i64 x.Width,.int .u8 x.Align,.bool x.Bottom])/\(∀ x,Z4.d x=.agg [.int .i64 x.ID,.int .i64 x.Event,.int .i64 x.From,.int .i64 x.To,.str x.Author,.str x.Text,.bool x.Done,.bool x.Lost])/\(∀ x,Ze.d x=.agg [.int .i64 x.In,.int .i64 x.Out])/\(∀ x,Zw.d x=.agg [.int .u8 x.Color,.bool x.Italic,.bool x.Underline])/\(∀ x,Zd.d x=.agg [.str x.Text,.int .u8 x.Style.Color,.bool x.Style.Italic,.bool x.Style.Underline,.str x.Ruby])/\(∀ x,Z6.d x=.agg [.sl (x.Runs.map Zd.d)])/\(∀ x,Z0.d x=.agg [.int .i64 x.ID,.int .i64 x.Span.In,.int .i64 x.Span.Out,.str x.Region,.int .u8 x.Kind,.str x.Speaker,.sl (x.Rows.map Z6.d)])/\(∀ x,Z1.d x=.agg [.int .i64 x.I,.int .i64 x.J,.int .i64 x.C,.int .u8 x.Rule,.int .i64 x.ID,.int .i64 x.Other])/\(∀ x,Z2.d x=.agg [.str x.Title,.str x.Lang,.int .u8 x.Rate,.bool x.Drop,.int .i64 x.Last,.sl (x.Regions.map Z3.d),.sl (x.Events.map Z0.d),.sl (x.Comments.map Z4.d)])/\(∀ x,Z7.d x=.agg [.str x.Name,.int .i64 x.Reading,.int .i64 x.MinFrames,.int .i64 x.MaxFrames,.int .i64 x.MinGap,.int .i64 x.ShotBefore,.int .i64 x.ShotAfter,.int .i64 x.Rows,.int .i64 x.Cols,.str x.Forbidden,.int .i64 x.SafeTop,.int .i64 x.SafeBottom,.int .i64 x.SafeLeft,.int .i64 x.SafeRight])/\(∀ x,Z8.d x=.agg [.int .i64 x.ID,.int .i64 x.In,.int .i64 x.Out])/\(∀ x,Zu.d x=.agg [.str x.Doc.Title,.str x.Doc.Lang,.int .u8 x.Doc.Rate,.bool x.Doc.Drop,.int .i64 x.Doc.Last,.sl (x.Doc.Regions.map Z3.d),.sl (x.Doc.Events.map Z0.d),.sl (x.Doc.Comments.map Z4.d),.sl (x.Shifts.map Z8.d),.int .i64 x.Needed,.sl (x.Conflict.map Z1.d)])/\(∀ x:List Int,Za x=.sl (x.map (D.int .i64))):=⟨fun _=>rfl,fun _=>rfl,fun _=>rfl,fun _=>rfl,fun _=>rfl,fun _=>rfl,fun _=>rfl,fun _=>rfl,fun _=>rfl,fun _=>rfl,fun _=>rfl,fun _=>rfl,fun _=>rfl⟩
def Z3B (n_0:Int)(l_1:List Z1)(x0:Int):Option (Nx (Int) (Int ⊕ Unit)) :=
 (if(decide (x0 < (l_1.length:Int))) then((atI l_1 x0).bind fun y0=>(((if(decide (y0.I < 0)) then(some true) else(if(decide (n_0<=y0.I)) then(some true) else(if(decide (y0.J < 0)) then(some true) else(some (decide (n_0<=y0.J)))))):Option (Bool)).bind fun v0=>(if v0 then(some (.out (.inl 1))) else(if(decide (y0.C < (-1099511627776))) then(some (.out (.inl 2))) else(if(decide (1099511627776 < y0.C)) then(some (.out (.inl 2))) else(some (.go (IntKind.i64.wrap (x0+1))))))))) else(some (.out (.inr ()))))
def Z58 (n_0:Int)(l_1:List Z1):Option (Int) :=
 (((if(decide (n_0 < 1)) then(some true) else(some (decide (512 < n_0)))):Option (Bool)).bind fun v0=>(if v0 then(some 2) else(if(decide (4000 < (l_1.length:Int))) then(some 9) else((iter (Z3B n_0 l_1) 0).bind fun e0=>(match e0 with|Sum.inl e0=>(some e0)|Sum.inr (e0)=>(some 0))))))
theorem ZcK{I:World->Prop}(hI:Stab I){n_0:Int}{l_1:List Z1}{r:Int}(h:Z58 n_0 l_1=some r):AFun Tryz.prog I 140 [.int .i64 n_0,.sl (l_1.map Z1.d)] (.int .i64 r):=by
 have dd:=Z5n;have k:=True.intro;have q:=k;have rs:=Tryz.results140;unfold Z58 at h;refine .en hI Tryz.func140 Tryz.ntmps140 ?_;refine xs<|rz ?_;refine es<|xs<|xb ?_;obtain⟨v0,h0,h⟩:=bs h;refine Zk (fun v0=>⟨envL [(0,.int .i64 n_0),(1,.sl (l_1.map Z1.d)),(7,.bool v0)],Z5 [],0,55⟩) h0 ?_ ?_
 ·clear h;intro v0 h;refine rK fun K _ E J=>zz ?_;obtain⟨k,h⟩|⟨k,h⟩:=iK k h
  ·exact Ld
  exact Ld
 obtain⟨k,h⟩|⟨k,h⟩:=iK k h
 ·exact Lf
 refine xf<|xs<|rz ?_;refine es ?_;obtain⟨k,h⟩|⟨k,h⟩:=iK k h
 ·exact Lf
 refine xf<|xk<|bn<|es<|xs<|xs<|rz ?_;refine es<|xb ?_;obtain⟨e0,h1,h⟩:=bs h;refine Zb (fun x0=>⟨envL [(0,.int .i64 n_0),(18,.sl (l_1.map Z1.d)),(19,.int .i64 (l_1.length:Int)),(20,.int .i64 x0)],Z5 [],0,55⟩) (fun w=>match w with|Sum.inl _=>.ret|Sum.inr (_)=>.exit 1) (fun w=>match w with|Sum.inl e0=>⟨envL [(4,.int .i64 e0)],Z5 [],0,55⟩|Sum.inr (e0)=>⟨envL [],Z5 [],0,55⟩) h1 (wk []) (by intro w;rcases w with w|w<;>simp) ?_ ?_
 ·clear h;intro x0 y h;unfold Z3B at h;refine xs<|rz ?_;refine es<|xs ?_;obtain⟨k,h⟩|⟨k,h⟩:=iK k h
  ·refine xt<|xk<|es<|xs<|xb<|xs<|rK fun K _ E J=>zz ?_;obtain⟨y0,q,h⟩:=bK q h;refine zz ?_;subst E J;refine es<|xb ?_;obtain⟨v1,h2,h⟩:=bs h;refine Zk (fun v1=>⟨envL [(0,.int .i64 n_0),(6,.ptr 0 0),(18,.sl (l_1.map Z1.d)),(19,.int .i64 (l_1.length:Int)),(20,.int .i64 x0),(24,.bool v1)],Z5 [(0,.box none [.int .i64 y0.I,.int .i64 y0.J,.int .i64 y0.C,.int .u8 y0.Rule,.int .i64 y0.ID,.int .i64 y0.Other])],1,55⟩) h2 ?_ ?_
   ·clear h;intro v1 h;refine rK fun K _ E J=>zz ?_;obtain⟨k,h⟩|⟨k,h⟩:=iK k h
    ·exact Lr
    refine zz ?_;obtain⟨k,h⟩|⟨k,h⟩:=iK k h
    ·exact Lr
    refine zz ?_;obtain⟨k,h⟩|⟨k,h⟩:=iK k h
    ·exact Lr
    exact Lr
   obtain⟨k,h⟩|⟨k,h⟩:=iK k h
   ·exact Lm
   refine xf<|xs<|rK fun K _ E J=>zz ?_;obtain⟨k,h⟩|⟨k,h⟩:=iK k h
   ·refine zz ?_;subst E J;refine es<|xt<|xs<|rz ?_;refine es<|xr<|br<|br<|er ?_;exact La
   refine zz ?_;subst E J;refine es ?_;obtain⟨k,h⟩|⟨k,h⟩:=iK k h
   ·exact Lm
   exact LN
  exact Le
 rcases e0 with e0|e0
 ·try dsimp only at h ⊢
  exact Li
 try dsimp only at h ⊢
 exact Lg
def Z2F (l_0:List Z1)(x7:Bool × Int × (List Int)):Option (Nx (Bool × Int × (List Int)) ((List Int) × Bool)) :=
 (if(decide (x7.2.1 < (l_0.length:Int))) then((atI l_0 x7.2.1).bind fun y0=>((((atI x7.2.2 y0.I).bind fun y1=>(if(decide (y1 < 1152921504606846976)) then((atI x7.2.2 y0.J).bind fun y2=>(some (decide ((IntKind.i64.wrap (y1+y0.C)) < y2)))) else(some false))):Option (Bool)).bind fun v0=>(if v0 then((atI x7.2.2 y0.I).bind fun y3=>((atI x7.2.2 y0.J).bind fun y4=>((setI x7.2.2 y0.J (IntKind.i64.wrap (y3+y0.C))).bind fun m0=>(some (.go (true,(IntKind.i64.wrap (x7.2.1+1)),m0)))))) else(some (.go (x7.1,(IntKind.i64.wrap (x7.2.1+1)),x7.2.2)))))) else(some (.out (x7.2.2,x7.1))))
def Z4l (l_0:List Z1)(x_1:List Int):Option (Bool × (List Int)) :=
 ((iter (Z2F l_0) (false,0,x_1)).bind fun e8=>(some (e8.2,e8.1)))
theorem ZaV{I:World->Prop}(hI:Stab I){H:Nat->Option Blk}{nid i0:Nat}{pn:Option Value}{l_0:List Z1}{x_1:List Int}{r:Bool × (List Int)}(h:Z4l l_0 x_1=some r)(b0:H i0=some (rowB pn 2 1 (x_1.map (D.int .i64)))):Zi Tryz.prog I 141 [.sl (l_0.map Z1.d),.own i0 x_1.length] H nid (.bool r.1) [(i0,some (rowB pn 2 1 (r.2.map (D.int .i64))))]:=by
 refine Zi.inrow (i0:=i0) (ds0:=[.sl (l_0.map Z1.d),.own 0 x_1.length]) hI Tryz.func141 rfl (by decide) (by simp[Tryz.f141]) (by kernel_rfl) rfl rfl b0 fun uv=>?_;have dd:=Z5n;have k:=True.intro;have q:=k;have rs:=Tryz.results141;unfold Z4l at h;simp only[List.length_cons,List.length_nil,Nat.zero_add,Nat.reduceAdd,Tryz.ntmps141,dd];refine xs<|rz ?_;refine es<|xs<|rz ?_;refine es<|xs<|xs<|rz ?_;refine es<|xb ?_;obtain⟨e8,h0,h⟩:=bs h;refine Zb (fun x7=>⟨envL [(1,.own 0 x7.2.2.length),(5,.bool x7.1),(8,.sl (l_0.map Z1.d)),(9,.int .i64 (l_0.length:Int)),(10,.int .i64 x7.2.1)],Z5 [(0,.lrow uv 2 1 (x7.2.2.map (D.int .i64)))],1,50⟩) (fun _=>.exit 0) (fun e8=>⟨envL [(1,.own 0 e8.1.length),(5,.bool e8.2)],Z5 [(0,.lrow uv 2 1 (e8.1.map (D.int .i64)))],1,50⟩) h0 (wk []) (by intro w;simp) ?_ ?_
 ·clear h;intro x7 y h;unfold Z2F at h;refine xs<|rz ?_;refine es<|xs ?_;obtain⟨k,h⟩|⟨k,h⟩:=iK k h
  ·refine xt<|xk<|es<|xs<|xb<|xs<|rK fun K _ E J=>zz ?_;obtain⟨y0,q,h⟩:=bK q h;refine zz ?_;subst E J;refine es ?_;obtain⟨v0,h1,h⟩:=bs h;refine Zk (fun v0=>⟨envL [(1,.own 0 x7.2.2.length),(5,.bool x7.1),(7,.ptr 1 0),(8,.sl (l_0.map Z1.d)),(9,.int .i64 (l_0.length:Int)),(10,.int .i64 x7.2.1),(35,.bool v0)],Z5 [(0,.lrow uv 2 1 (x7.2.2.map (D.int .i64))),(1,.box none [.int .i64 y0.I,.int .i64 y0.J,.int .i64 y0.C,.int .u8 y0.Rule,.int .i64 y0.ID,.int .i64 y0.Other])],2,50⟩) h1 ?_ ?_
   ·clear h;intro v0 h;refine rD hI fun K _ E J=>zz ?_;obtain⟨y1,q,h⟩:=oN q h;refine zz ?_;obtain⟨k,h⟩|⟨k,h⟩:=iK k h
    ·refine zz ?_;obtain⟨y2,q,h⟩:=oN q h;exact LD
    exact LD
   obtain⟨k,h⟩|⟨k,h⟩:=iK k h
   ·refine xt<|xs<|rD hI fun K _ E J=>zz ?_;obtain⟨y3,q,h⟩:=oN q h;refine zz ?_;obtain⟨y4,q,h⟩:=oN q h;refine zz ?_;obtain⟨m0,h2,h⟩:=bind_some h;obtain⟨h3,h4,h5,h6⟩:=Z0l h2;have h6:=h6 (D.int .i64);try simp only[sevalprocAttr,List.map_nil,dd] at h6
    have q:=And.intro @h3<|And.intro @h4<|And.intro @h5<|And.intro @h6<|q;refine zz ?_;refine hd<|zz ?_;subst E J;refine es<|rz ?_;exact Ln
   exact Ll
  exact Le
 exact LE
def Z2a (l_0:List Z1)(x_1:List Int):Option (Bool × (List Int)):=(Z4l l_0 x_1).bind fun r=>if r.2.length=x_1.length then some r else none
theorem Z9Z{l_0:List Z1}{x_1:List Int}{r:Bool × (List Int)}(h:Z2a l_0 x_1=some r):x_1.length=r.2.length:=by
 unfold Z2a at h;obtain⟨x,_,h⟩:=bs h;obtain⟨h1,h⟩:=Zo h;cases h;exact h1.symm
theorem Zai{l_0:List Z1}{x_1:List Int}{r:Bool × (List Int)}(h:Z2a l_0 x_1=some r):Z4l l_0 x_1=some r:=by
 unfold Z2a at h;obtain⟨x,h0,h⟩:=bs h;obtain⟨h1,h⟩:=Zo h;cases h;exact h0
theorem ZcM{I:World->Prop}(hI:Stab I){H:Nat->Option Blk}{nid i0:Nat}{l_0:List Z1}{x_1:List Int}{r:Bool × (List Int)}(h:Z2a l_0 x_1=some r)(b0:H i0=some (.vec 2 1 (x_1.map (D.int .i64)) false)):Zi Tryz.prog I 141 [.sl (l_0.map Z1.d),.own i0 x_1.length] H nid (.bool r.1) [(i0,some (.vec 2 1 (r.2.map (D.int .i64)) false))] :=
 ZaV hI (pn:=none) (Zai h) b0
def Z4m (m0:List Int)(x0:Int × (List Int)):Option (Nx (Int × (List Int)) ((List Int))) :=
 (if(decide (x0.1 < ((m0.length:Nat):Int))) then((atI x0.2 x0.1).bind fun y0=>((setI x0.2 x0.1 1152921504606846976).bind fun m1=>(some (.go ((IntKind.i64.wrap (x0.1+1)),m1))))) else(some (.out x0.2)))
def Z5t (l_1:List Z1)(x7:Int × (List (List Int)))(x0:Int × (List Int)):Option (Nx (Int × (List Int)) ((List Int))) :=
 (((if(decide (0 < x7.1)) then(some (decide (x0.1 < (l_1.length:Int)))) else(some false)):Option (Bool)).bind fun v0=>(if v0 then((atI x7.2 (IntKind.i64.wrap (x7.1 - 1))).bind fun y0=>((atI l_1 x0.1).bind fun y1=>((atI y0 y1.J).bind fun y2=>(((if(decide (y2 < 1152921504606846976)) then((atI x0.2 y1.I).bind fun y3=>(some (decide ((IntKind.i64.wrap (y1.C+y2)) < y3)))) else(some false)):Option (Bool)).bind fun v1=>(if v1 then((atI x0.2 y1.I).bind fun y4=>((setI x0.2 y1.I (IntKind.i64.wrap (y1.C+y2))).bind fun m0=>(some (.go ((IntKind.i64.wrap (x0.1+1)),m0))))) else(some (.go ((IntKind.i64.wrap (x0.1+1)),x0.2)))))))) else(some (.out x0.2))))
def Z2N (l_1:List Z1)(x7:Int × (List (List Int)))(x0:Int × (List Int)):Option (Nx (Int × (List Int)) ((List Int))) :=
 (((if(decide (0 < x7.1)) then(some (decide (x0.1 < (l_1.length:Int)))) else(some false)):Option (Bool)).bind fun v0=>(if v0 then((atI x7.2 (IntKind.i64.wrap (x7.1 - 1))).bind fun y0=>((atI l_1 x0.1).bind fun y1=>((atI y0 y1.J).bind fun y2=>(((if(decide (y2 < 1152921504606846976)) then((atI x0.2 y1.I).bind fun y3=>(some (decide ((IntKind.i64.wrap (y1.C+y2)) < y3)))) else(some false)):Option (Bool)).bind fun v1=>(if v1 then((atI x0.2 y1.I).bind fun y4=>((setI x0.2 y1.I (IntKind.i64.wrap (y1.C+y2))).bind fun m0=>(some (.go ((IntKind.i64.wrap (x0.1+1)),m0))))) else(some (.go ((IntKind.i64.wrap (x0.1+1)),x0.2)))))))) else(some (.out x0.2))))
def Z5s (n_0:Int)(l_1:List Z1)(i_2:Int)(v_3:Int)(most_4:Int)(x7:Int × (List (List Int))):Option (Nx (Int × (List (List Int))) ((List (List Int)))) :=
 (if(decide (x7.1<=most_4)) then((mkI 8 n_0 (0:Int)).bind fun m0=>((iter (Z4m m0) (0,m0)).bind fun e0=>(if(x7.1 == 0) then((atI e0 v_3).bind fun y0=>((setI e0 v_3 0).bind fun m1=>((iter (Z5t l_1 x7) ((IntKind.i64.wrap (i_2+1)),m1)).bind fun e1=>(if(x7.2.length+1) * 24<=140737488355328 then(some (.go ((IntKind.i64.wrap (x7.1+1)),(x7.2++[e1])))) else none)))) else((iter (Z2N l_1 x7) ((IntKind.i64.wrap (i_2+1)),e0)).bind fun e2=>(if(x7.2.length+1) * 24<=140737488355328 then(some (.go ((IntKind.i64.wrap (x7.1+1)),(x7.2++[e2])))) else none))))) else(some (.out x7.2)))
def Z5E (n_0:Int)(l_1:List Z1)(i_2:Int)(v_3:Int)(most_4:Int):Option ((List (List Int))) :=
 ((iter (Z5s n_0 l_1 i_2 v_3 most_4) (0,[])).bind fun e8=>(some e8))
theorem Zdg{I:World->Prop}(hI:Stab I){n_0:Int}{l_1:List Z1}{i_2:Int}{v_3:Int}{most_4:Int}{r:(List (List Int))}(h:Z5E n_0 l_1 i_2 v_3 most_4=some r):AFun Tryz.prog I 167 [.int .i64 n_0,.sl (l_1.map Z1.d),.int .i64 i_2,.int .i64 v_3,.int .i64 most_4] (.sl (r.map Za)):=by
 have dd:=Z5n;have k:=True.intro;have q:=k;have rs:=Tryz.results167;unfold Z5E at h;refine .en hI Tryz.func167 Tryz.ntmps167 ?_;refine xs<|rz ?_;refine es<|xs<|rz ?_;refine es<|xs<|xs<|rz ?_;refine es<|xb ?_;obtain⟨e8,h0,h⟩:=bs h;refine Zb (fun x7=>⟨envL [(0,.int .i64 n_0),(1,.sl (l_1.map Z1.d)),(2,.int .i64 i_2),(3,.int .i64 v_3),(4,.int .i64 most_4),(11,.own 0 x7.2.length),(12,.int .i64 x7.1)],Z5 [(0,.vec 22 1 (x7.2.map Za) false)],1,102⟩) (fun _=>.exit 0) (fun e8=>⟨envL [(11,.own 0 e8.length)],Z5 [(0,.vec 22 1 (e8.map Za) false)],1,102⟩) h0 (wk [(0,some 1)]) (by intro w;simp) ?_ ?_
 ·clear h;intro x7 y h;unfold Z5s at h;refine xs<|xs<|rz ?_;refine es ?_;obtain⟨k,h⟩|⟨k,h⟩:=iK k h
  ·refine xt<|xk<|es<|xs<|xb<|xs<|rK fun K _ E J=>zz ?_;obtain⟨m0,h1,h⟩:=bind_some h;obtain⟨h2,h3,h4,h5,h6⟩:=Z5I h1;have h6:=h6 (D.int .i64);try simp only[sevalprocAttr,List.map_nil,Int.toNat_natCast,dd] at h5 h6
   have q:=And.intro @h2<|And.intro @h3<|And.intro @h4<|And.intro @h5<|And.intro @h6<|q;refine zz ?_;subst E J;refine es<|xs<|xs<|rz ?_;refine es<|xb ?_;obtain⟨e0,h7,h⟩:=bs h;refine Zb (fun x0=>⟨envL [(0,.int .i64 n_0),(1,.sl (l_1.map Z1.d)),(2,.int .i64 i_2),(3,.int .i64 v_3),(4,.int .i64 most_4),(11,.own 0 x7.2.length),(12,.int .i64 x7.1),(13,.own 1 x0.2.length),(26,.int .i64 ((m0.length:Nat):Int)),(27,.int .i64 x0.1)],Z5 [(0,.vec 22 1 (x7.2.map Za) false),(1,.vec 2 1 (x0.2.map (D.int .i64)) false)],2,102⟩) (fun _=>.exit 2) (fun e0=>⟨envL [(0,.int .i64 n_0),(1,.sl (l_1.map Z1.d)),(2,.int .i64 i_2),(3,.int .i64 v_3),(4,.int .i64 most_4),(11,.own 0 x7.2.length),(12,.int .i64 x7.1),(13,.own 1 e0.length)],Z5 [(0,.vec 22 1 (x7.2.map Za) false),(1,.vec 2 1 (e0.map (D.int .i64)) false)],2,102⟩) h7 (wk [(1,some 5)]) (by intro w;simp) ?_ ?_
   ·clear h;intro x0 y h;unfold Z4m at h;refine xs<|rz ?_;refine es<|xs ?_;obtain⟨k,h⟩|⟨k,h⟩:=iK k h
    ·refine xt<|xk<|es<|xs<|xb<|xs<|rz ?_;refine es<|rK fun K _ E J=>zz ?_;obtain⟨y0,q,h⟩:=oN q h;refine zz ?_;obtain⟨m1,h8,h⟩:=bind_some h;obtain⟨h9,h10,h11,h12⟩:=Z0l h8;have h12:=h12 (D.int .i64);try simp only[sevalprocAttr,List.map_nil,dd] at h12
     have q:=And.intro @h9<|And.intro @h10<|And.intro @h11<|And.intro @h12<|q;exact LI
    exact Le
   refine bh<|es<|xs<|xs<|rz ?_;refine es ?_;obtain⟨k,h⟩|⟨k,h⟩:=iK k h
   ·refine xt<|rK fun K _ E J=>zz ?_;obtain⟨y1,q,h⟩:=oN q h;refine zz ?_;obtain⟨m2,h13,h⟩:=bind_some h;obtain⟨h14,h15,h16,h17⟩:=Z0l h13;have h17:=h17 (D.int .i64);try simp only[sevalprocAttr,List.map_nil,dd] at h17
    have q:=And.intro @h14<|And.intro @h15<|And.intro @h16<|And.intro @h17<|q;refine zz ?_;subst E J;refine es<|xs<|xs<|rz ?_;refine es<|xb ?_;obtain⟨e1,h18,h⟩:=bs h;refine Zb (fun x1=>⟨envL [(0,.int .i64 n_0),(1,.sl (l_1.map Z1.d)),(2,.int .i64 i_2),(3,.int .i64 v_3),(4,.int .i64 most_4),(11,.own 0 x7.2.length),(12,.int .i64 x7.1),(13,.own 1 x1.2.length),(15,.int .i64 x1.1)],Z5 [(0,.vec 22 1 (x7.2.map Za) false),(1,.vec 2 1 (x1.2.map (D.int .i64)) false)],2,102⟩) (fun _=>.exit 4) (fun e1=>⟨envL [(0,.int .i64 n_0),(1,.sl (l_1.map Z1.d)),(2,.int .i64 i_2),(3,.int .i64 v_3),(4,.int .i64 most_4),(11,.own 0 x7.2.length),(12,.int .i64 x7.1),(13,.own 1 e1.length)],Z5 [(0,.vec 22 1 (x7.2.map Za) false),(1,.vec 2 1 (e1.map (D.int .i64)) false)],2,102⟩) h18 (wk []) (by intro w;simp) ?_ ?_
    ·clear h;intro x1 y h;unfold Z5t at h;refine xs ?_;obtain⟨v0,h19,h⟩:=bs h;refine Zk (fun v0=>⟨envL [(0,.int .i64 n_0),(1,.sl (l_1.map Z1.d)),(2,.int .i64 i_2),(3,.int .i64 v_3),(4,.int .i64 most_4),(11,.own 0 x7.2.length),(12,.int .i64 x7.1),(13,.own 1 x1.2.length),(15,.int .i64 x1.1),(48,.bool v0)],Z5 [(0,.vec 22 1 (x7.2.map Za) false),(1,.vec 2 1 (x1.2.map (D.int .i64)) false)],2,102⟩) h19 ?_ ?_
     ·clear h;intro v0 h;refine rK fun K _ E J=>zz ?_;obtain⟨k,h⟩|⟨k,h⟩:=iK k h
      ·exact Ld
      exact Ld
     obtain⟨k,h⟩|⟨k,h⟩:=iK k h
     ·refine xt<|xk<|es<|xs<|xb<|xs<|rD hI fun K _ E J=>zz ?_;obtain⟨y2,q,h⟩:=oN q h;refine zz ?_;obtain⟨y3,q,h⟩:=bK q h;refine zz ?_;obtain⟨y4,q,h⟩:=bK q h;refine zz ?_;subst E J;refine es ?_;obtain⟨v1,h20,h⟩:=bs h;refine Zk (fun v1=>⟨envL [(0,.int .i64 n_0),(1,.sl (l_1.map Z1.d)),(2,.int .i64 i_2),(3,.int .i64 v_3),(4,.int .i64 most_4),(11,.own 0 x7.2.length),(12,.int .i64 x7.1),(13,.own 1 x1.2.length),(15,.int .i64 x1.1),(16,.int .i64 y4),(82,.bool v1)],Z5 [(0,.vec 22 1 (x7.2.map Za) false),(1,.vec 2 1 (x1.2.map (D.int .i64)) false)],2,102⟩) h20 ?_ ?_
      ·clear h;intro v1 h;refine rD hI fun K _ E J=>zz ?_;obtain⟨k,h⟩|⟨k,h⟩:=iK k h
       ·refine zz ?_;obtain⟨y5,q,h⟩:=oN q h;exact Ld
       exact Ld
      obtain⟨k,h⟩|⟨k,h⟩:=iK k h
      ·refine xt<|rD hI fun K _ E J=>zz ?_;obtain⟨y6,q,h⟩:=oN q h;refine zz ?_;obtain⟨m3,h21,h⟩:=bind_some h;obtain⟨h22,h23,h24,h25⟩:=Z0l h21;have h25:=h25 (D.int .i64);try simp only[sevalprocAttr,List.map_nil,dd] at h25
       have q:=And.intro @h22<|And.intro @h23<|And.intro @h24<|And.intro @h25<|q;exact Lw
      exact Ll
     exact Le
    refine bh<|es<|rK fun K _ E J=>zz ?_;obtain⟨h26,h⟩:=Zo h;have h27:x7.2.length+1<=9223372036854775807:=by omega
    try simp only[Nat.reduceLeDiff] at h27
    have q:=And.intro @h27<|And.intro @h26<|q;refine zz ?_;subst E J;refine bn<|es<|rz ?_;cases h;exact en ⟨rfl,wk [(0,some 5)]⟩
   refine xf<|xk<|es<|xs<|xs<|rz ?_;refine es<|xb ?_;obtain⟨e2,h28,h⟩:=bs h;refine Zb (fun x2=>⟨envL [(0,.int .i64 n_0),(1,.sl (l_1.map Z1.d)),(2,.int .i64 i_2),(3,.int .i64 v_3),(4,.int .i64 most_4),(11,.own 0 x7.2.length),(12,.int .i64 x7.1),(13,.own 1 x2.2.length),(15,.int .i64 x2.1)],Z5 [(0,.vec 22 1 (x7.2.map Za) false),(1,.vec 2 1 (x2.2.map (D.int .i64)) false)],2,102⟩) (fun _=>.exit 4) (fun e2=>⟨envL [(0,.int .i64 n_0),(1,.sl (l_1.map Z1.d)),(2,.int .i64 i_2),(3,.int .i64 v_3),(4,.int .i64 most_4),(11,.own 0 x7.2.length),(12,.int .i64 x7.1),(13,.own 1 e2.length)],Z5 [(0,.vec 22 1 (x7.2.map Za) false),(1,.vec 2 1 (e2.map (D.int .i64)) false)],2,102⟩) h28 (wk []) (by intro w;simp) ?_ ?_
   ·clear h;intro x2 y h;unfold Z2N at h;refine xs ?_;obtain⟨v2,h29,h⟩:=bs h;refine Zk (fun v2=>⟨envL [(0,.int .i64 n_0),(1,.sl (l_1.map Z1.d)),(2,.int .i64 i_2),(3,.int .i64 v_3),(4,.int .i64 most_4),(11,.own 0 x7.2.length),(12,.int .i64 x7.1),(13,.own 1 x2.2.length),(15,.int .i64 x2.1),(48,.bool v2)],Z5 [(0,.vec 22 1 (x7.2.map Za) false),(1,.vec 2 1 (x2.2.map (D.int .i64)) false)],2,102⟩) h29 ?_ ?_
    ·clear h;intro v2 h;refine rK fun K _ E J=>zz ?_;obtain⟨k,h⟩|⟨k,h⟩:=iK k h
     ·exact Ld
     exact Ld
    obtain⟨k,h⟩|⟨k,h⟩:=iK k h
    ·refine xt<|xk<|es<|xs<|xb<|xs<|rD hI fun K _ E J=>zz ?_;obtain⟨y7,q,h⟩:=oN q h;refine zz ?_;obtain⟨y8,q,h⟩:=bK q h;refine zz ?_;obtain⟨y9,q,h⟩:=bK q h;refine zz ?_;subst E J;refine es ?_;obtain⟨v3,h30,h⟩:=bs h;refine Zk (fun v3=>⟨envL [(0,.int .i64 n_0),(1,.sl (l_1.map Z1.d)),(2,.int .i64 i_2),(3,.int .i64 v_3),(4,.int .i64 most_4),(11,.own 0 x7.2.length),(12,.int .i64 x7.1),(13,.own 1 x2.2.length),(15,.int .i64 x2.1),(16,.int .i64 y9),(82,.bool v3)],Z5 [(0,.vec 22 1 (x7.2.map Za) false),(1,.vec 2 1 (x2.2.map (D.int .i64)) false)],2,102⟩) h30 ?_ ?_
     ·clear h;intro v3 h;refine rD hI fun K _ E J=>zz ?_;obtain⟨k,h⟩|⟨k,h⟩:=iK k h
      ·refine zz ?_;obtain⟨y10,q,h⟩:=oN q h;exact Ld
      exact Ld
     obtain⟨k,h⟩|⟨k,h⟩:=iK k h
     ·refine xt<|rD hI fun K _ E J=>zz ?_;obtain⟨y11,q,h⟩:=oN q h;refine zz ?_;obtain⟨m4,h31,h⟩:=bind_some h;obtain⟨h32,h33,h34,h35⟩:=Z0l h31;have h35:=h35 (D.int .i64);try simp only[sevalprocAttr,List.map_nil,dd] at h35
      have q:=And.intro @h32<|And.intro @h33<|And.intro @h34<|And.intro @h35<|q;exact Lw
     exact Ll
    exact Le
   refine bh<|es<|rK fun K _ E J=>zz ?_;obtain⟨h36,h⟩:=Zo h;have h37:x7.2.length+1<=9223372036854775807:=by omega
   try simp only[Nat.reduceLeDiff] at h37
   have q:=And.intro @h37<|And.intro @h36<|q;refine zz ?_;subst E J;refine bn<|es<|rz ?_;cases h;exact en ⟨rfl,wk [(0,some 5)]⟩
  exact Le
 exact Lg
def Z3T (l_1:List Z1)(r0:(List (List Int)))(x0:Int × Int × Int × (List Int))(x1:Int):Option (Nx (Int) ((List Int) × Int × Int)) :=
 (if(decide (x1 < (l_1.length:Int))) then((((atI l_1 x1).bind fun y0=>(if(y0.I == x0.1) then((atI r0 x0.2.2.1).bind fun y1=>((atI y1 y0.J).bind fun y2=>(if(decide (y2 < 1152921504606846976)) then(some (decide ((IntKind.i64.wrap ((IntKind.i64.wrap (x0.2.1+y0.C))+y2)) < 0))) else(some false)))) else(some false))):Option (Bool)).bind fun v0=>(if v0 then(if(x0.2.2.2.length+1) * 8<=140737488355328 then((atI l_1 x1).bind fun y3=>(some (.out ((x0.2.2.2++[x1]),y3.J,(IntKind.i64.wrap (x0.2.1+y3.C)))))) else none) else(some (.go (IntKind.i64.wrap (x1+1)))))) else(some (.out (x0.2.2.2,x0.1,x0.2.1))))
def Z3S (l_1:List Z1)(x5:Int)(r0:(List (List Int)))(x0:Int × Int × Int × (List Int)):Option (Nx (Int × Int × Int × (List Int)) ((List Int))) :=
 (if(decide (0<=x0.2.2.1)) then((iter (Z3T l_1 r0 x0) (IntKind.i64.wrap (x5+1))).bind fun e0=>(some (.go (e0.2.1,e0.2.2,(IntKind.i64.wrap (x0.2.2.1 - 1)),e0.1)))) else(some (.out x0.2.2.2)))
def Z3R (n_0:Int)(l_1:List Z1)(count_2:Int)(x5:Int):Option (Nx (Int) (((List Int)) ⊕ Unit)) :=
 (if(decide (x5 < (l_1.length:Int))) then((atI l_1 x5).bind fun y0=>((Z5E n_0 l_1 x5 y0.I (IntKind.i64.wrap (count_2 - 1))).bind fun r0=>((((atI r0 (IntKind.i64.wrap (count_2 - 1))).bind fun y1=>((atI y1 y0.J).bind fun y2=>(if(decide (1152921504606846976<=y2)) then(some true) else(some (decide (0<=(IntKind.i64.wrap (y0.C+y2)))))))):Option (Bool)).bind fun v0=>(if v0 then(some (.go (IntKind.i64.wrap (x5+1)))) else((iter (Z3S l_1 x5 r0) (y0.J,y0.C,(IntKind.i64.wrap (count_2 - 2)),[x5])).bind fun e0=>(some (.out (.inl e0)))))))) else(some (.out (.inr ()))))
def Z3D (n_0:Int)(l_1:List Z1)(count_2:Int):Option ((List Int)) :=
 ((iter (Z3R n_0 l_1 count_2) 0).bind fun e6=>(match e6 with|Sum.inl e6=>(some e6)|Sum.inr (e6)=>(some [])))
theorem Zah{I:World->Prop}(hI:Stab I){n_0:Int}{l_1:List Z1}{count_2:Int}{r:(List Int)}(h:Z3D n_0 l_1 count_2=some r):AFun Tryz.prog I 142 [.int .i64 n_0,.sl (l_1.map Z1.d),.int .i64 count_2] (.sl (r.map (D.int .i64))):=by
 have dd:=Z5n;have k:=True.intro;have q:=k;have rs:=Tryz.results142;unfold Z3D at h;refine .en hI Tryz.func142 Tryz.ntmps142 ?_;refine xs<|rz ?_;refine es<|xs<|xs<|rz ?_;refine es<|xb ?_;obtain⟨e6,h0,h⟩:=bs h;refine Zb (fun x5=>⟨envL [(0,.int .i64 n_0),(1,.sl (l_1.map Z1.d)),(2,.int .i64 count_2),(15,.sl (l_1.map Z1.d)),(16,.int .i64 (l_1.length:Int)),(17,.int .i64 x5)],Z5 [],0,136⟩) (fun w=>match w with|Sum.inl _=>.ret|Sum.inr (_)=>.exit 0) (fun w=>match w with|Sum.inl e6=>⟨envL [(6,.own 0 e6.length)],Z5 [(0,.vec 3 1 (e6.map (D.int .i64)) false)],1,136⟩|Sum.inr (e6)=>⟨envL [],Z5 [],0,136⟩) h0 (wk []) (by intro w;rcases w with w|w<;>simp) ?_ ?_
 ·clear h;intro x5 y h;unfold Z3R at h;refine xs<|rz ?_;refine es<|xs ?_;obtain⟨k,h⟩|⟨k,h⟩:=iK k h
  ·refine xt<|xk<|es<|xs<|xb<|xs<|rK fun K _ E J=>zz ?_;obtain⟨y0,q,h⟩:=bK q h;refine zz ?_;subst E J;refine es<|xs<|rK fun K _ E J=>zz ?_;obtain⟨r0,h1,h⟩:=bs h;refine cw (Zdg hI h1)<|zz ?_;subst E J;refine es<|xs ?_;obtain⟨v0,h2,h⟩:=bs h;refine Zk (fun v0=>⟨envL [(0,.int .i64 n_0),(1,.sl (l_1.map Z1.d)),(2,.int .i64 count_2),(7,.int .i64 x5),(8,.ptr 0 0),(9,.sl (r0.map Za)),(15,.sl (l_1.map Z1.d)),(16,.int .i64 (l_1.length:Int)),(17,.int .i64 x5),(54,.bool v0)],Z5 [(0,.box none [.int .i64 y0.I,.int .i64 y0.J,.int .i64 y0.C,.int .u8 y0.Rule,.int .i64 y0.ID,.int .i64 y0.Other])],1,136⟩) h2 ?_ ?_
   ·clear h;intro v0 h;refine rD hI fun K _ E J=>zz ?_;obtain⟨y1,q,h⟩:=bK q h;refine zz ?_;obtain⟨y2,q,h⟩:=bK q h;refine zz ?_;obtain⟨k,h⟩|⟨k,h⟩:=iK k h
    ·exact Lq
    exact Lq
   obtain⟨k,h⟩|⟨k,h⟩:=iK k h
   ·exact LG
   refine xf<|xk<|es<|xs<|rP hI fun K0 E=>Zg<|zq ?_;refine sP.light rfl fd<|Zg<|zq ?_;refine sP.foot (.ids []) (fun hN=>ZG.idsB [] (by rfl) rfl hN) fd (by first|exact .inl (by first|rfl|decide)|exact .inr (by kernel_rfl))<|Zg<|zq ?_;refine sP.light rfl fd<|Zg<|zq ?_;refine sP.foot (.cell 0 1 1) (fun _=>ZG.ld rfl rfl rfl (by kernel_rfl) (by decide)) fd (by first|exact .inl (by first|rfl|decide)|exact .inr (by kernel_rfl))<|Zg<|zq ?_;refine sP.light rfl fd<|Zg<|zq ?_;refine sP.foot (.cell 0 2 1) (fun _=>ZG.ld rfl rfl rfl (by kernel_rfl) (by decide)) fd (by first|exact .inl (by first|rfl|decide)|exact .inr (by kernel_rfl))<|Zg<|zq ?_;refine sP.light rfl fd<|Zg<|zq ?_;refine sP.light rfl fd<|Zg<|zq ?_;refine sP.light rfl fd<|zq ?_;refine Z9Q fk ?_;subst E;refine es<|xs<|xs<|rz ?_;refine es<|xb ?_;obtain⟨e0,h3,h⟩:=bs h;refine Zb (fun x0=>⟨envL [(1,.sl (l_1.map Z1.d)),(7,.int .i64 x5),(9,.sl (r0.map Za)),(10,.own 0 x0.2.2.2.length),(11,.int .i64 x0.1),(12,.int .i64 x0.2.1),(13,.int .i64 x0.2.2.1)],Z5 [(0,.vec 3 1 (x0.2.2.2.map (D.int .i64)) false)],1,136⟩) (fun _=>.exit 2) (fun e0=>⟨envL [(10,.own 0 e0.length)],Z5 [(0,.vec 3 1 (e0.map (D.int .i64)) false)],1,136⟩) h3 (wk [(0,some 2)]) (by intro w;simp) ?_ ?_
   ·clear h;intro x0 y h;unfold Z3S at h;refine xs<|xs<|rz ?_;refine es ?_;obtain⟨k,h⟩|⟨k,h⟩:=iK k h
    ·refine xt<|xk<|es<|xs<|xb<|xs<|rz ?_;refine es<|xb ?_;obtain⟨e1,h4,h⟩:=bs h;refine Zb (fun x1=>⟨envL [(1,.sl (l_1.map Z1.d)),(7,.int .i64 x5),(9,.sl (r0.map Za)),(10,.own 0 x0.2.2.2.length),(11,.int .i64 x0.1),(12,.int .i64 x0.2.1),(13,.int .i64 x0.2.2.1),(14,.int .i64 x1)],Z5 [(0,.vec 3 1 (x0.2.2.2.map (D.int .i64)) false)],1,136⟩) (fun _=>.exit 4) (fun e1=>⟨envL [(1,.sl (l_1.map Z1.d)),(7,.int .i64 x5),(9,.sl (r0.map Za)),(10,.own 0 e1.1.length),(11,.int .i64 e1.2.1),(12,.int .i64 e1.2.2),(13,.int .i64 x0.2.2.1)],Z5 [(0,.vec 3 1 (e1.1.map (D.int .i64)) false)],1,136⟩) h4 (wk []) (by intro w;simp) ?_ ?_
     ·clear h;intro x1 y h;unfold Z3T at h;refine xs<|xs<|rz ?_;refine es ?_;obtain⟨k,h⟩|⟨k,h⟩:=iK k h
      ·refine xt<|xk<|es<|xs<|xb ?_;obtain⟨v1,h5,h⟩:=bs h;refine Zk (fun v1=>⟨envL [(1,.sl (l_1.map Z1.d)),(7,.int .i64 x5),(9,.sl (r0.map Za)),(10,.own 0 x0.2.2.2.length),(11,.int .i64 x0.1),(12,.int .i64 x0.2.1),(13,.int .i64 x0.2.2.1),(14,.int .i64 x1),(117,.bool v1)],Z5 [(0,.vec 3 1 (x0.2.2.2.map (D.int .i64)) false)],1,136⟩) h5 ?_ ?_
       ·clear h;intro v1 h;refine rD hI fun K _ E J=>zz ?_;obtain⟨y3,q,h⟩:=bK q h;refine zz ?_;obtain⟨k,h⟩|⟨k,h⟩:=iK k h
        ·refine zz ?_;obtain⟨y4,q,h⟩:=bK q h;refine zz ?_;obtain⟨y5,q,h⟩:=bK q h;refine zz ?_;obtain⟨k,h⟩|⟨k,h⟩:=iK k h
         ·exact Ld
         exact Ld
        exact Ld
       obtain⟨k,h⟩|⟨k,h⟩:=iK k h
       ·refine xt<|xs<|rP hI fun K1 E=>Zg<|zq ?_;refine sP.light rfl fd<|Zg<|zq ?_;refine sP.light rfl fd<|Zg<|zq ?_;refine sP.foot (.ids []) (fun hN=>ZG.idsB [] (by rfl) rfl hN) fd (by first|exact .inl (by first|rfl|decide)|exact .inr (by kernel_rfl))<|Zg<|zq ?_;obtain⟨h6,h⟩:=Zo h;have h7:x0.2.2.2.length+1<=9223372036854775807:=by omega
        try simp only[Nat.reduceLeDiff] at h7
        have q:=And.intro @h7<|And.intro @h6<|q;refine zq ?_;refine sP.foot (.ids [0,3]) (fun hN=>ZG.idsB [0,3] (by rfl) rfl hN) fd (by first|exact .inl (by first|rfl|decide)|exact .inr (by kernel_rfl))<|Zg<|zq ?_;refine sP.light rfl fd<|Zg<|zq ?_;refine sP.light rfl fd<|Zg<|zq ?_;obtain⟨y6,q,h⟩:=bK q h;refine zq ?_;refine sP.foot (.ids []) (fun hN=>ZG.idsB [] (by rfl) rfl hN) fd (by first|exact .inl (by first|rfl|decide)|exact .inr (by kernel_rfl))<|Zg<|zq ?_;refine sP.light rfl fd<|Zg<|zq ?_;refine sP.foot (.ids []) (fun hN=>ZG.idsB [] (by rfl) rfl hN) fd (by first|exact .inl (by first|rfl|decide)|exact .inr (by kernel_rfl))<|Zg<|zq ?_;refine sP.light rfl fd<|Zg<|zq ?_;refine sP.light rfl fd<|Zg<|zq ?_;refine sP.light rfl fd<|Zg<|zq ?_;refine sP.foot (.ids []) (fun hN=>ZG.idsB [] (by rfl) rfl hN) fd (by first|exact .inl (by first|rfl|decide)|exact .inr (by kernel_rfl))<|Zg<|zq ?_;refine sP.light rfl fd<|Zg<|zq ?_;refine sP.foot (.ids []) (fun hN=>ZG.idsB [] (by rfl) rfl hN) fd (by first|exact .inl (by first|rfl|decide)|exact .inr (by kernel_rfl))<|Zg<|zq ?_;refine sP.light rfl fd<|Zg<|zq ?_;refine sP.light rfl fd<|Zg<|zq ?_;refine sP.light rfl fd<|Zg<|zq ?_;refine sP.light rfl fd<|zq ?_;refine Z9Q fk ?_;subst E;refine es<|xx<|bm<|ee ?_;cases h;exact en ⟨rfl,wk [(0,some 4)]⟩
       exact Ll
      exact Le
     exact LK
    exact Le
   refine bh<|es<|xs<|rz ?_;refine es<|xr<|br<|er ?_;exact La
  exact Le
 rcases e6 with e6|e6
 ·try dsimp only at h ⊢
  exact Li
 try dsimp only at h ⊢
 exact Lg
def Z4P (n_0:Int)(l_1:List Z1)(x0:Int × (List Int)):Option (Nx (Int × (List Int)) (((List Int)) ⊕ Unit)) :=
 (if(decide (x0.1 < n_0)) then((Z2a l_1 x0.2).bind fun r0=>(if r0.1 then(some (.go ((IntKind.i64.wrap (x0.1+1)),r0.2))) else(some (.out (.inl r0.2))))) else(some (.out (.inr ()))))
def Z3C (n_0:Int)(l_1:List Z1)(x0:Int):Option (Nx (Int) ((List Int))) :=
 ((Z3D n_0 l_1 x0).bind fun r0=>(if(decide (0 < (r0.length:Int))) then(some (.out r0)) else(some (.go (IntKind.i64.wrap (x0+1))))))
def Z32 (n_0:Int)(l_1:List Z1):Option ((List Int) × (List Int) × Int) :=
 ((Z58 n_0 l_1).bind fun r7=>(if(r7 != 0) then(some ([],[],r7)) else((mkI 8 n_0 (0:Int)).bind fun m0=>((iter (Z4P n_0 l_1) (0,m0)).bind fun e0=>(match e0 with|Sum.inl e0=>(some (e0,[],0))|Sum.inr (e0)=>((iter (Z3C n_0 l_1) 1).bind fun e1=>(some ([],e1,16))))))))
theorem ZcL{I:World->Prop}(hI:Stab I){n_0:Int}{l_1:List Z1}{r:(List Int) × (List Int) × Int}(h:Z32 n_0 l_1=some r):AFun Tryz.prog I 101 [.int .i64 n_0,.sl (l_1.map Z1.d)] (.tup [.sl (r.1.map (D.int .i64)),.sl (r.2.1.map (D.int .i64)),.int .i64 r.2.2]):=by
 have dd:=Z5n;have k:=True.intro;have q:=k;have rs:=Tryz.results101;unfold Z32 at h;refine .en hI Tryz.func101 Tryz.ntmps101 ?_;refine xs<|rz ?_;refine es<|xs<|xs<|rK fun K _ E J=>zz ?_;obtain⟨r7,h8,h⟩:=bs h;refine cw (ZcK hI h8)<|zz ?_;subst E J;refine es<|xs<|rz ?_;refine es ?_;obtain⟨k,h⟩|⟨k,h⟩:=iK k h
 ·exact Lc
 refine xf<|xk<|es<|xs<|rK fun K _ E J=>zz ?_;obtain⟨m0,h0,h⟩:=bind_some h;obtain⟨h1,h2,h3,h4,h5⟩:=Z5I h0;have h5:=h5 (D.int .i64);try simp only[sevalprocAttr,List.map_nil,Int.toNat_natCast,dd] at h4 h5
 have q:=And.intro @h1<|And.intro @h2<|And.intro @h3<|And.intro @h4<|And.intro @h5<|q;refine zz ?_;subst E J;refine es<|xs<|xs<|rz ?_;refine es<|xb ?_;obtain⟨e0,h6,h⟩:=bs h;refine Zb (fun x0=>⟨envL [(0,.int .i64 n_0),(1,.sl (l_1.map Z1.d)),(8,.own 0 x0.2.length),(19,.int .i64 n_0),(20,.int .i64 x0.1)],Z5 [(0,.vec 2 1 (x0.2.map (D.int .i64)) false)],1,38⟩) (fun w=>match w with|Sum.inl _=>.ret|Sum.inr (_)=>.exit 0) (fun w=>match w with|Sum.inl e0=>⟨envL [(4,.own 0 e0.length),(5,.nils),(6,.int .i64 0)],Z5 [(0,.vec 2 1 (e0.map (D.int .i64)) false)],1,38⟩|Sum.inr (e0)=>⟨envL [(0,.int .i64 n_0),(1,.sl (l_1.map Z1.d))],Z5 [],0,38⟩) h6 (wk [(0,some 10)]) (by intro w;rcases w with w|w<;>simp) ?_ ?_
 ·clear h;intro x0 y h;unfold Z4P at h;refine xs<|rz ?_;refine es<|xs ?_;obtain⟨k,h⟩|⟨k,h⟩:=iK k h
  ·refine xt<|xk<|es<|xs<|xb<|xs<|rK fun K _ E J=>zz ?_;obtain⟨r0,h7,h⟩:=bs h;have q:=And.intro (Z9Z h7) q;refine cW.introR (ZcM hI (nid:=4) (i0:=0) h7 fz) fs rfl<|zz ?_;subst E J;refine es ?_;obtain⟨k,h⟩|⟨k,h⟩:=iK k h
   ·exact Ll
   exact Lk
  exact Le
 rcases e0 with e0|e0
 ·try dsimp only at h ⊢
  exact Li
 try dsimp only at h ⊢
 refine bh<|es<|xs<|rz ?_;refine es<|xb ?_;obtain⟨e1,h9,h⟩:=bs h;refine Zb (fun x1=>⟨envL [(0,.int .i64 n_0),(1,.sl (l_1.map Z1.d)),(9,.int .i64 x1)],Z5 [],0,38⟩) (fun _=>.ret) (fun e1=>⟨envL [(4,.nils),(5,.sl (e1.map (D.int .i64))),(6,.int .i64 16)],Z5 [],0,38⟩) h9 (wk []) (by intro w;simp) ?_ ?_
 ·clear h;intro x1 y h;unfold Z3C at h;refine xs<|xb<|xs<|rK fun K _ E J=>zz ?_;obtain⟨r1,h10,h⟩:=bs h;refine cw (Zah hI h10)<|zz ?_;subst E J;refine es<|xs<|rz ?_;refine es ?_;obtain⟨k,h⟩|⟨k,h⟩:=iK k h
  ·exact Lk
  exact Ll
 refine br ?_;cases h;exact en fr
def Z2b (d_0:Z2)(p_1:Z7)(shots_2:List Int)(tol_3:Int):Option ((List Z1) × (List Int) × (List Int) × Int) :=
 ((Z4E d_0 p_1 shots_2 tol_3).bind fun r7=>(if(r7.2 != 0) then(some ([],[],[],r7.2)) else((Z32 (IntKind.i64.wrap ((IntKind.i64.wrap (2 * (d_0.Events.length:Int)))+1)) r7.1).bind fun r0=>(some (r7.1,r0.1,r0.2.1,r0.2.2)))))
theorem Z8R{I:World->Prop}(hI:Stab I){d_0:Z2}{p_1:Z7}{shots_2:List Int}{tol_3:Int}{r:(List Z1) × (List Int) × (List Int) × Int}(h:Z2b d_0 p_1 shots_2 tol_3=some r):AFun Tryz.prog I 47 [Z2.d d_0,Z7.d p_1,.sl (shots_2.map (D.int .i64)),.int .i64 tol_3] (.tup [.sl (r.1.map Z1.d),.sl (r.2.1.map (D.int .i64)),.sl (r.2.2.1.map (D.int .i64)),.int .i64 r.2.2.2]):=by
 have dd:=Z5n;have k:=True.intro;have q:=k;have rs:=Tryz.results47;unfold Z2b at h;refine .en hI Tryz.func47 Tryz.ntmps47 ?_;refine xs<|rz ?_;refine es<|xs<|rK fun K _ E J=>zz ?_;obtain⟨r7,h8,h⟩:=bs h;refine cw (ZbA hI h8)<|zz ?_;subst E J;refine es<|xs<|xs<|rz ?_;refine es ?_;obtain⟨k,h⟩|⟨k,h⟩:=iK k h
 ·exact Lc
 refine xf<|xk<|es<|xs<|rK fun K _ E J=>zz ?_;obtain⟨r0,h0,h⟩:=bs h;refine cw (ZcL hI h0)<|zz ?_;exact LQ
def Z3w (rows_0:List Z6)(x7:(List Z6) × Int):Option (Nx ((List Z6) × Int) ((List Z6))) :=
 (if(decide (x7.2 < (rows_0.length:Int))) then((atI rows_0 x7.2).bind fun y0=>(if y0.Runs.length * 40<=140737488355328 then(if(x7.1.length+1) * 24<=140737488355328 then(some (.go ((x7.1++[y0]),(IntKind.i64.wrap (x7.2+1))))) else none) else none)) else(some (.out x7.1)))
def Z53 (rows_0:List Z6):Option ((List Z6)) :=
 ((iter (Z3w rows_0) ([],0)).bind fun e8=>(some e8))
theorem ZcE{I:World->Prop}(hI:Stab I){rows_0:List Z6}{r:(List Z6)}(h:Z53 rows_0=some r):AFun Tryz.prog I 145 [.sl (rows_0.map Z6.d)] (.sl (r.map Z6.d)):=by
 have dd:=Z5n;have k:=True.intro;have q:=k;have rs:=Tryz.results145;unfold Z53 at h;refine .en hI Tryz.func145 Tryz.ntmps145 ?_;refine xs<|rz ?_;refine es<|xs<|rz ?_;refine es<|xs<|xs<|rz ?_;refine es<|xb ?_;obtain⟨e8,h0,h⟩:=bs h;refine Zb (fun x7=>⟨envL [(3,.own 0 x7.1.length),(6,.sl (rows_0.map Z6.d)),(7,.int .i64 (rows_0.length:Int)),(8,.int .i64 x7.2)],Z5 [(0,.vec 129 1 (x7.1.map Z6.d) false)],1,22⟩) (fun _=>.exit 0) (fun e8=>⟨envL [(3,.own 0 e8.length)],Z5 [(0,.vec 129 1 (e8.map Z6.d) false)],1,22⟩) h0 (wk [(0,none)]) (by intro w;simp) ?_ ?_
 ·clear h;intro x7 y h;unfold Z3w at h;refine xs<|rz ?_;refine es<|xs ?_;obtain⟨k,h⟩|⟨k,h⟩:=iK k h
  ·refine xt<|xk<|es<|xs<|xb<|xs<|rK fun K _ E J=>zz ?_;obtain⟨y0,q,h⟩:=bK q h;refine zz ?_;subst E J;refine es<|rK fun K _ E J=>zz ?_;obtain⟨h1,h⟩:=Zo h;have h2:y0.Runs.length<=9223372036854775807:=by omega
   try simp only[Nat.reduceLeDiff] at h2
   have q:=And.intro @h2<|And.intro @h1<|q;refine zz ?_;obtain⟨h3,h⟩:=Zo h;have h4:x7.1.length+1<=9223372036854775807:=by omega
   try simp only[Nat.reduceLeDiff] at h4
   have q:=And.intro @h4<|And.intro @h3<|q;refine zz ?_;subst E J;refine bn<|es<|rz ?_;cases h;exact en ⟨rfl,wk [(0,some 13)]⟩
  exact Le
 exact Lg
def Z3Z (e_0:Z0):Option (Z0) :=
 ((Z53 e_0.Rows).bind fun r7=>(some (Z0.mk e_0.ID e_0.Span e_0.Region e_0.Kind e_0.Speaker r7)))
theorem Z8O{I:World->Prop}(hI:Stab I){e_0:Z0}{r:Z0}(h:Z3Z e_0=some r):AFun Tryz.prog I 106 [Z0.d e_0] (Z0.d r):=by
 have dd:=Z5n;have k:=True.intro;have q:=k;have rs:=Tryz.results106;unfold Z3Z at h;refine .en hI Tryz.func106 Tryz.ntmps106 ?_;refine xs<|rz ?_;refine es<|xs<|rK fun K _ E J=>zz ?_;obtain⟨r7,h8,h⟩:=bs h;refine cw (ZcE hI h8)<|zz ?_;exact LQ
def Z2m (d_0:Z2)(x0:(List Z0) × Int):Option (Nx ((List Z0) × Int) ((List Z0))) :=
 (if(decide (x0.2 < (d_0.Events.length:Int))) then((atI d_0.Events x0.2).bind fun y0=>((Z3Z y0).bind fun r0=>(if(x0.1.length+1) * 88<=140737488355328 then(some (.go ((x0.1++[r0]),(IntKind.i64.wrap (x0.2+1))))) else none))) else(some (.out x0.1)))
def Z3z (d_0:Z2):Option (Z2) :=
 (if d_0.Regions.length * 56<=140737488355328 then(if d_0.Comments.length * 72<=140737488355328 then((iter (Z2m d_0) ([],0)).bind fun e0=>(some (Z2.mk d_0.Title d_0.Lang d_0.Rate d_0.Drop d_0.Last d_0.Regions e0 d_0.Comments))) else none) else none)
theorem Zaf{I:World->Prop}(hI:Stab I){H:Nat->Option Blk}{nid:Nat}{d_0:Z2}{r:Z2}(h:Z3z d_0=some r):Zi Tryz.prog I 50 [Z2.d d_0] H nid (.agg [.str r.Title,.str r.Lang,.int .u8 r.Rate,.bool r.Drop,.int .i64 r.Last,.sl (r.Regions.map Z3.d),.own nid r.Events.length,.sl (r.Comments.map Z4.d)]) [(nid,some (.vec 64 7 (r.Events.map Z0.d) false))]:=by
 refine Zi.own hI Tryz.func50 rfl (by decide) (by simp[Tryz.f50]) (by kernel_rfl) rfl rfl ?_;have dd:=Z5n;have k:=True.intro;have q:=k;have rs:=Tryz.results50;unfold Z3z at h;simp only[List.length_cons,List.length_nil,Nat.zero_add,Nat.reduceAdd,Tryz.ntmps50,dd];refine xs<|rz ?_;refine es<|xs<|rK fun K _ E J=>zz ?_;obtain⟨h7,h⟩:=Zo h;have h8:d_0.Regions.length<=9223372036854775807:=by omega
 try simp only[Nat.reduceLeDiff] at h8
 have q:=And.intro @h8<|And.intro @h7<|q;refine zz ?_;subst E J;refine es<|xs<|rK fun K _ E J=>zz ?_;obtain⟨h0,h⟩:=Zo h;have h1:d_0.Comments.length<=9223372036854775807:=by omega
 try simp only[Nat.reduceLeDiff] at h1
 have q:=And.intro @h1<|And.intro @h0<|q;refine zz ?_;subst E J;refine es<|xs<|rz ?_;refine es<|xs<|xs<|rz ?_;refine es<|xb ?_;obtain⟨e0,h2,h⟩:=bs h;refine Zb (fun x0=>⟨envL [(1,.ptr 0 0),(2,.ptr 3 0),(3,.own 4 x0.1.length),(17,.sl (d_0.Events.map Z0.d)),(18,.int .i64 (d_0.Events.length:Int)),(19,.int .i64 x0.2)],Z5 [(0,.box none [.str d_0.Title,.str d_0.Lang,.int .u8 d_0.Rate,.bool d_0.Drop,.int .i64 d_0.Last,.own 1 d_0.Regions.length,.sl (d_0.Events.map Z0.d),.own 2 d_0.Comments.length]),(1,.vec 102 7 (d_0.Regions.map Z3.d) false),(2,.vec 107 8 (d_0.Comments.map Z4.d) false),(3,.box none [.str [],.str [],.int .u8 0,.bool false,.int .i64 0,.nils,.nils,.nils]),(4,.vec 64 7 (x0.1.map Z0.d) false)],5,32⟩) (fun _=>.exit 0) (fun e0=>⟨envL [(1,.ptr 0 0),(2,.ptr 3 0),(3,.own 4 e0.length)],Z5 [(0,.box none [.str d_0.Title,.str d_0.Lang,.int .u8 d_0.Rate,.bool d_0.Drop,.int .i64 d_0.Last,.own 1 d_0.Regions.length,.sl (d_0.Events.map Z0.d),.own 2 d_0.Comments.length]),(1,.vec 102 7 (d_0.Regions.map Z3.d) false),(2,.vec 107 8 (d_0.Comments.map Z4.d) false),(3,.box none [.str [],.str [],.int .u8 0,.bool false,.int .i64 0,.nils,.nils,.nils]),(4,.vec 64 7 (e0.map Z0.d) false)],5,32⟩) h2 (wk [(1,some 5),(2,some 11),(3,some 1),(4,none)]) (by intro w;simp) ?_ ?_
 ·clear h;intro x0 y h;unfold Z2m at h;refine xs<|rz ?_;refine es<|xs ?_;obtain⟨k,h⟩|⟨k,h⟩:=iK k h
  ·refine xt<|xk<|es<|xs<|xb<|xs<|rK fun K _ E J=>zz ?_;obtain⟨y0,q,h⟩:=bK q h;refine zz ?_;subst E J;refine es<|rK fun K _ E J=>zz ?_;obtain⟨r0,h3,h⟩:=bs h;refine cw (Z8O hI h3)<|zz ?_;obtain⟨h4,h⟩:=Zo h;have h5:x0.1.length+1<=9223372036854775807:=by omega
   try simp only[Nat.reduceLeDiff] at h5
   have q:=And.intro @h5<|And.intro @h4<|q;refine zz ?_;subst E J;refine bn<|es<|rz ?_;cases h;exact en ⟨rfl,wk [(4,some 14)]⟩
  exact Le
 refine bh<|es<|xs<|rz ?_;refine es<|xs<|rz ?_;refine es<|xr ?_;cases h;exact en (fO 4)
def Z2E (x7:(List Z0) × Int)(y0:Z0)(x0:Int):Option (Nx (Int) (Int)) :=
 (if(decide (0 < x0)) then((atI x7.1 (IntKind.i64.wrap (x0 - 1))).bind fun y1=>((Z4C y0 y1).bind fun r0=>(if r0 then(some (.go (IntKind.i64.wrap (x0 - 1)))) else(some (.out x0))))) else(some (.out x0)))
def Z4j (l_0:List Z0)(x7:(List Z0) × Int):Option (Nx ((List Z0) × Int) ((List Z0))) :=
 (if(decide (x7.2 < (l_0.length:Int))) then((atI l_0 x7.2).bind fun y0=>((iter (Z2E x7 y0) (x7.1.length:Int)).bind fun e0=>((subH x7.1 e0).bind fun z0=>(if z0.length * 88<=140737488355328 then((Z3Z y0).bind fun r0=>(if(z0.length+1) * 88<=140737488355328 then((subL x7.1 e0).bind fun z1=>(if((z0.length+1)+z1.length) * 88<=140737488355328 then(some (.go (((z0++[r0])++z1),(IntKind.i64.wrap (x7.2+1))))) else none)) else none)) else none)))) else(some (.out x7.1)))
def Z4i (l_0:List Z0):Option ((List Z0)) :=
 ((iter (Z4j l_0) ([],0)).bind fun e8=>(some e8))
theorem ZaU{I:World->Prop}(hI:Stab I){H:Nat->Option Blk}{nid:Nat}{l_0:List Z0}{r:(List Z0)}(h:Z4i l_0=some r):Zi Tryz.prog I 52 [.sl (l_0.map Z0.d)] H nid (.own nid r.length) [(nid,some (.vec 64 7 (r.map Z0.d) false))]:=by
 refine Zi.own hI Tryz.func52 rfl (by decide) (by simp[Tryz.f52]) (by kernel_rfl) rfl rfl ?_;have dd:=Z5n;have k:=True.intro;have q:=k;have rs:=Tryz.results52;unfold Z4i at h;simp only[List.length_cons,List.length_nil,Nat.zero_add,Nat.reduceAdd,Tryz.ntmps52,dd];refine xs<|rz ?_;refine es<|xs<|rz ?_;refine es<|xs<|xs<|rz ?_;refine es<|xb ?_;obtain⟨e8,h0,h⟩:=bs h;refine Zb (fun x7=>⟨envL [(3,.own 0 x7.1.length),(8,.sl (l_0.map Z0.d)),(9,.int .i64 (l_0.length:Int)),(10,.int .i64 x7.2)],Z5 [(0,.vec 64 7 (x7.1.map Z0.d) false)],1,45⟩) (fun _=>.exit 0) (fun e8=>⟨envL [(3,.own 0 e8.length)],Z5 [(0,.vec 64 7 (e8.map Z0.d) false)],1,45⟩) h0 (wk [(0,none)]) (by intro w;simp) ?_ ?_
 ·clear h;intro x7 y h;unfold Z4j at h;refine xs<|rz ?_;refine es<|xs ?_;obtain⟨k,h⟩|⟨k,h⟩:=iK k h
  ·refine xt<|xk<|es<|xs<|xb<|xs<|rK fun K _ E J=>zz ?_;obtain⟨y0,q,h⟩:=bK q h;refine zz ?_;subst E J;refine eWk _ ((Wk.pubV (t:=3) (j:=0) (e2:=64) (k2:=7) (ys:=x7.1.map Z0.d) fz fz fs).trans (wkF (l:=[(3,.sl (x7.1.map Z0.d)),(5,.ptr 4 0),(8,.sl (l_0.map Z0.d)),(9,.int .i64 (l_0.length:Int)),(10,.int .i64 x7.2)]) (h:=[(4,.box none [.int .i64 y0.ID,.int .i64 y0.Span.In,.int .i64 y0.Span.Out,.str y0.Region,.int .u8 y0.Kind,.str y0.Speaker,.sl (y0.Rows.map Z6.d)])]) (n:=6) [(4,some 4)]))<|xs<|rz ?_;refine es<|xs<|xb ?_;obtain⟨e0,h1,h⟩:=bs h;refine Zb (fun x0=>⟨envL [(3,.sl (x7.1.map Z0.d)),(5,.ptr 0 0),(6,.int .i64 x0),(8,.sl (l_0.map Z0.d)),(9,.int .i64 (l_0.length:Int)),(10,.int .i64 x7.2)],Z5 [(0,.box none [.int .i64 y0.ID,.int .i64 y0.Span.In,.int .i64 y0.Span.Out,.str y0.Region,.int .u8 y0.Kind,.str y0.Speaker,.sl (y0.Rows.map Z6.d)])],1,45⟩) (fun _=>.exit 2) (fun e0=>⟨envL [(3,.sl (x7.1.map Z0.d)),(5,.ptr 0 0),(6,.int .i64 e0),(8,.sl (l_0.map Z0.d)),(9,.int .i64 (l_0.length:Int)),(10,.int .i64 x7.2)],Z5 [(0,.box none [.int .i64 y0.ID,.int .i64 y0.Span.In,.int .i64 y0.Span.Out,.str y0.Region,.int .u8 y0.Kind,.str y0.Speaker,.sl (y0.Rows.map Z6.d)])],1,45⟩) h1 (wk [(0,some 4)]) (by intro w;simp) ?_ ?_
   ·clear h;intro x0 y h;unfold Z2E at h;refine xs<|xs<|rD hI fun K _ E J=>zz ?_;obtain⟨k,h⟩|⟨k,h⟩:=iK k h
    ·refine zz ?_;obtain⟨y1,q,h⟩:=bK q h;refine zz ?_;obtain⟨r0,h2,h⟩:=bs h;refine cd (Z98 hI h2)<|zz ?_;subst E J;refine es ?_;obtain⟨k,h⟩|⟨k,h⟩:=iK k h
     ·refine xt<|xk<|es<|xb<|rz ?_;exact LC
     exact Le
    refine zz ?_;subst E J;refine es<|xf<|xx<|ee ?_;exact La
   refine bh<|es<|xs<|rz ?_;refine es<|xs<|rP hI fun K0 E=>Zg<|zq ?_;refine sP.light rfl fd<|Zg<|zq ?_;refine sP.light rfl fd<|Zg<|zq ?_;refine sP.light rfl fd<|Zg<|zq ?_;obtain⟨z0,h3,h⟩:=bind_some h;obtain⟨⟨h4,h5⟩,h6⟩:=Z7Y h3;have q:=And.intro @h4<|And.intro @h5<|q;try simp -implicitDefEqProofs only[vt,vm,sevalprocAttr,dd,k,q] at h6
   have q:=And.intro @h6<|q;refine zq ?_;refine sP.foot (.ids []) (fun hN=>ZG.idsB [] (by rfl) rfl hN) fd (by first|exact .inl (by first|rfl|decide)|exact .inr (by kernel_rfl))<|Zg<|zq ?_;obtain⟨h7,h⟩:=Zo h;have h8:z0.length<=9223372036854775807:=by omega
   try simp only[Nat.reduceLeDiff] at h8
   have q:=And.intro @h8<|And.intro @h7<|q;refine zq ?_;refine sP.foot (.ids []) (fun hN=>ZG.idsB [] (by rfl) rfl hN) fd (by first|exact .inl (by first|rfl|decide)|exact .inr (by kernel_rfl))<|Zg<|zq ?_;refine sP.foot (.cell 0 0 7) (fun _=>ZG.ld rfl rfl rfl (by kernel_rfl) (by decide)) fd (by first|exact .inl (by first|rfl|decide)|exact .inr (by kernel_rfl))<|Zg<|zq ?_;obtain⟨r1,h9,h⟩:=bs h;refine cP.intro (Z8O hI h9) fi (.ids []) (fun hN=>ZG.idsB [] (by rfl) rfl hN) fd (by first|exact .inl (by first|rfl|decide)|exact .inr (by kernel_rfl))<|Zg<|zq ?_;refine sP.foot (.ids []) (fun hN=>ZG.idsB [] (by rfl) rfl hN) fd (by first|exact .inl (by first|rfl|decide)|exact .inr (by kernel_rfl))<|Zg<|zq ?_;obtain⟨h10,h⟩:=Zo h;have h11:z0.length+1<=9223372036854775807:=by omega
   try simp only[Nat.reduceLeDiff] at h11
   have q:=And.intro @h11<|And.intro @h10<|q;refine zq ?_;refine sP.foot (.ids [6,9]) (fun hN=>ZG.idsB [6,9] (by rfl) rfl hN) fd (by first|exact .inl (by first|rfl|decide)|exact .inr (by kernel_rfl))<|Zg<|zq ?_;refine sP.light rfl fd<|Zg<|zq ?_;refine sP.light rfl fd<|Zg<|zq ?_;obtain⟨z1,h12,h⟩:=bind_some h;obtain⟨⟨h13,h14⟩,h15⟩:=Zcp h12;have q:=And.intro @h13<|And.intro @h14<|q;try simp -implicitDefEqProofs only[vt,vm,sevalprocAttr,dd,k,q] at h15
   have q:=And.intro @h15<|q;refine zq ?_;refine sP.foot (.ids []) (fun hN=>ZG.idsB [] (by rfl) rfl hN) fd (by first|exact .inl (by first|rfl|decide)|exact .inr (by kernel_rfl))<|Zg<|zq ?_;obtain⟨h16,h⟩:=Zo h;have h17:(z0.length+1)+z1.length<=9223372036854775807:=by omega
   try simp only[Nat.reduceLeDiff] at h17
   have q:=And.intro @h17<|And.intro @h16<|q;refine zq ?_;refine sP.foot (.ids [10]) (fun hN=>ZG.idsB [10] (by rfl) rfl hN) fd (by first|exact .inl (by first|rfl|decide)|exact .inr (by kernel_rfl))<|Zg<|zq ?_;refine sP.light rfl fd<|zq ?_;refine Z9Q fk ?_;subst E;refine es<|rz ?_;refine bn<|es<|rz ?_;cases h;exact en ⟨rfl,wk [(0,some 14)]⟩
  exact Le
 refine bh<|es<|xs<|rz ?_;refine es<|xr ?_;cases h;exact en (fO 0)
def Z1B (l_1:List Z8)(r0:Z2)(x0:Int × (List Z0)):Option (Nx (Int × (List Z0)) (Int ⊕ ((List Z0)))) :=
 (if(decide (x0.1 < (l_1.length:Int))) then((atI l_1 x0.1).bind fun y0=>((Z4h (Z2.mk r0.Title r0.Lang r0.Rate r0.Drop r0.Last r0.Regions x0.2 r0.Comments) y0.ID).bind fun r1=>(if(decide (r1 < 0)) then(some (.out (.inl 6))) else(((if(decide (y0.In < 0)) then(some true) else(if(decide (y0.Out<=y0.In)) then(some true) else(some (decide (5184000 < y0.Out))))):Option (Bool)).bind fun v0=>(if v0 then(some (.out (.inl 2))) else((atI x0.2 r1).bind fun y1=>((setI x0.2 r1 (Z0.mk y1.ID (Ze.mk y0.In y0.Out) y1.Region y1.Kind y1.Speaker y1.Rows)).bind fun m0=>((Z4i m0).bind fun r2=>(some (.go ((IntKind.i64.wrap (x0.1+1)),r2))))))))))) else(some (.out (.inr x0.2))))
def Z33 (d_0:Z2)(l_1:List Z8):Option (Z2 × Int) :=
 ((Z40 d_0).bind fun r7=>(if(r7 != 0) then(some ((Z2.mk [] [] 0 false 0 [] [] []),r7)) else((Z3z d_0).bind fun r0=>((iter (Z1B l_1 r0) (0,r0.Events)).bind fun e0=>(match e0 with|Sum.inl e0=>(some ((Z2.mk [] [] 0 false 0 [] [] []),e0))|Sum.inr (e0)=>(some ((Z2.mk r0.Title r0.Lang r0.Rate r0.Drop r0.Last r0.Regions e0 r0.Comments),0)))))))
theorem ZcN{I:World->Prop}(hI:Stab I){d_0:Z2}{l_1:List Z8}{r:Z2 × Int}(h:Z33 d_0 l_1=some r):AFun Tryz.prog I 21 [Z2.d d_0,.sl (l_1.map Z8.d)] (.tup [Z2.d r.1,.int .i64 r.2]):=by
 have dd:=Z5n;have k:=True.intro;have q:=k;have rs:=Tryz.results21;unfold Z33 at h;refine .en hI Tryz.func21 Tryz.ntmps21 ?_;refine xs<|rz ?_;refine es<|xs<|xs<|rK fun K _ E J=>zz ?_;obtain⟨r7,h8,h⟩:=bs h;refine cw (Z8P hI h8)<|zz ?_;subst E J;refine es<|xs<|rz ?_;refine es ?_;obtain⟨k,h⟩|⟨k,h⟩:=iK k h
 ·exact Lc
 refine xf<|xk<|es<|xs<|rK fun K _ E J=>zz ?_;obtain⟨r0,h0,h⟩:=bs h;refine cW.introE (Zaf hI (nid:=9) h0) fz rfl<|zz ?_;subst E J;refine es<|xs<|xs<|rz ?_;refine es<|xb ?_;obtain⟨e0,h1,h⟩:=bs h;refine Zb (fun x0=>⟨envL [(4,.ptr 0 0),(7,.ptr 1 0),(19,.sl (l_1.map Z8.d)),(20,.int .i64 (l_1.length:Int)),(21,.int .i64 x0.1)],Z5 [(0,.box none [.str [],.str [],.int .u8 0,.bool false,.int .i64 0,.nils,.nils,.nils]),(1,.box none [.str r0.Title,.str r0.Lang,.int .u8 r0.Rate,.bool r0.Drop,.int .i64 r0.Last,.sl (r0.Regions.map Z3.d),.own 2 x0.2.length,.sl (r0.Comments.map Z4.d)]),(2,.vec 64 7 (x0.2.map Z0.d) false)],3,64⟩) (fun w=>match w with|Sum.inl _=>.ret|Sum.inr (_)=>.exit 0) (fun w=>match w with|Sum.inl e0=>⟨envL [(4,.ptr 0 0),(5,.int .i64 e0)],Z5 [(0,.box none [.str [],.str [],.int .u8 0,.bool false,.int .i64 0,.nils,.nils,.nils])],1,64⟩|Sum.inr (e0)=>⟨envL [(4,.ptr 0 0),(7,.ptr 1 0)],Z5 [(0,.box none [.str [],.str [],.int .u8 0,.bool false,.int .i64 0,.nils,.nils,.nils]),(1,.box none [.str r0.Title,.str r0.Lang,.int .u8 r0.Rate,.bool r0.Drop,.int .i64 r0.Last,.sl (r0.Regions.map Z3.d),.own 2 e0.length,.sl (r0.Comments.map Z4.d)]),(2,.vec 64 7 (e0.map Z0.d) false)],3,64⟩) h1 (wk [(0,some 1),(1,some 10),(2,some 9)]) (by intro w;rcases w with w|w<;>simp) ?_ ?_
 ·clear h;intro x0 y h;unfold Z1B at h;refine xs<|rz ?_;refine es<|xs ?_;obtain⟨k,h⟩|⟨k,h⟩:=iK k h
  ·refine xt<|xk<|es<|xs<|xb<|xs<|rK fun K _ E J=>zz ?_;obtain⟨y0,q,h⟩:=bK q h;refine zz ?_;subst E J;refine es<|xs<|rK fun K _ E J=>zz ?_;obtain⟨r1,h2,h⟩:=bs h;refine cW.introR (ZaT hI (nid:=11) (i0:=2) h2 fz) fs rfl<|zz ?_;subst E J;refine es<|xs<|xs<|rz ?_;refine es ?_;obtain⟨k,h⟩|⟨k,h⟩:=iK k h
   ·exact Lh
   refine xf<|xk<|es<|xs ?_;obtain⟨v0,h3,h⟩:=bs h;refine Zk (fun v0=>⟨envL [(4,.ptr 0 0),(7,.ptr 1 0),(9,.ptr 3 0),(10,.int .i64 r1),(19,.sl (l_1.map Z8.d)),(20,.int .i64 (l_1.length:Int)),(21,.int .i64 x0.1),(46,.bool v0)],Z5 [(0,.box none [.str [],.str [],.int .u8 0,.bool false,.int .i64 0,.nils,.nils,.nils]),(1,.box none [.str r0.Title,.str r0.Lang,.int .u8 r0.Rate,.bool r0.Drop,.int .i64 r0.Last,.sl (r0.Regions.map Z3.d),.own 2 x0.2.length,.sl (r0.Comments.map Z4.d)]),(2,.vec 64 7 (x0.2.map Z0.d) false),(3,.box none [.int .i64 y0.ID,.int .i64 y0.In,.int .i64 y0.Out])],4,64⟩) h3 ?_ ?_
   ·clear h;intro v0 h;refine rK fun K _ E J=>zz ?_;obtain⟨k,h⟩|⟨k,h⟩:=iK k h
    ·exact Lu
    refine zz ?_;obtain⟨k,h⟩|⟨k,h⟩:=iK k h
    ·exact Lu
    exact Lu
   obtain⟨k,h⟩|⟨k,h⟩:=iK k h
   ·exact Lh
   refine xf<|xk<|es<|xs<|rK fun K _ E J=>zz ?_;obtain⟨y1,q,h⟩:=oN q h;refine zz ?_;obtain⟨m0,h4,h⟩:=bind_some h;obtain⟨h5,h6,h7,h9⟩:=Z0l h4;have h9:=h9 Z0.d;try simp only[sevalprocAttr,List.map_nil,dd] at h9
   have q:=And.intro @h5<|And.intro @h6<|And.intro @h7<|And.intro @h9<|q;refine zz ?_;subst E J;refine es<|rK fun K _ E J=>zz ?_;obtain⟨r2,h10,h⟩:=bs h;refine cW.introE (ZaU hI (nid:=17) h10) fz rfl<|zz ?_;subst E J;refine bn<|es<|rz ?_;cases h;exact en ⟨rfl,wk [(2,some 17)]⟩
  exact Le
 rcases e0 with e0|e0
 ·try dsimp only at h ⊢
  exact Li
 try dsimp only at h ⊢
 exact Lg
def Z2O (r7:(List Z1) × (List Int) × (List Int) × Int)(x0:Int × (List Z1)):Option (Nx (Int × (List Z1)) ((List Z1))) :=
 (if(decide (x0.1 < (r7.2.2.1.length:Int))) then((atI r7.2.2.1 x0.1).bind fun y0=>((atI r7.1 y0).bind fun y1=>(if(x0.2.length+1) * 48<=140737488355328 then(some (.go ((IntKind.i64.wrap (x0.1+1)),(x0.2++[y1])))) else none))) else(some (.out x0.2)))
def Z5u (d_0:Z2)(p_1:Z7)(shots_2:List Int)(x0:(List Int) × Int × Int):Option (Nx ((List Int) × Int × Int) ((List Int) × Int)) :=
 (if(decide (x0.2.1 < x0.2.2)) then((Z2b d_0 p_1 shots_2 (IntKind.i64.wrap (Int.tdiv (IntKind.i64.wrap (x0.2.1+x0.2.2)) 2))).bind fun r0=>(if(r0.2.2.2 == 0) then(some (.go (r0.2.1,x0.2.1,(IntKind.i64.wrap (Int.tdiv (IntKind.i64.wrap (x0.2.1+x0.2.2)) 2))))) else(some (.go (x0.1,(IntKind.i64.wrap ((IntKind.i64.wrap (Int.tdiv (IntKind.i64.wrap (x0.2.1+x0.2.2)) 2))+1)),x0.2.2))))) else(some (.out (x0.1,x0.2.2))))
def Z2P (d_0:Z2)(e0:(List Int) × Int)(x0:Int × (List Z8)):Option (Nx (Int × (List Z8)) ((List Z8))) :=
 (if(decide (x0.1 < (d_0.Events.length:Int))) then((atI d_0.Events x0.1).bind fun y0=>((atI e0.1 (IntKind.i64.wrap ((IntKind.i64.wrap (2 * x0.1))+1))).bind fun y1=>((atI e0.1 0).bind fun y2=>((atI e0.1 (IntKind.i64.wrap ((IntKind.i64.wrap (2 * x0.1))+2))).bind fun y3=>(((if((IntKind.i64.wrap (y1 - y2)) != y0.Span.In) then(some true) else(some ((IntKind.i64.wrap (y3 - y2)) != y0.Span.Out))):Option (Bool)).bind fun v0=>(if v0 then(if(x0.2.length+1) * 24<=140737488355328 then(some (.go ((IntKind.i64.wrap (x0.1+1)),(x0.2++[(Z8.mk y0.ID (IntKind.i64.wrap (y1 - y2)) (IntKind.i64.wrap (y3 - y2)))])))) else none) else(some (.go ((IntKind.i64.wrap (x0.1+1)),x0.2))))))))) else(some (.out x0.2)))
def Z3E (d_0:Z2)(p_1:Z7)(shots_2:List Int)(tol_3:Int):Option (Zu × Int) :=
 ((Z2b d_0 p_1 shots_2 tol_3).bind fun r7=>(((if(r7.2.2.2 == 16) then(some (decide (0 < (r7.2.2.1.length:Int)))) else(some false)):Option (Bool)).bind fun v0=>(if v0 then((iter (Z2O r7) (0,[])).bind fun e0=>(some ((Zu.mk (Z2.mk [] [] 0 false 0 [] [] []) [] 0 e0),r7.2.2.2))) else(if(r7.2.2.2 != 0) then(some ((Zu.mk (Z2.mk [] [] 0 false 0 [] [] []) [] 0 []),r7.2.2.2)) else((iter (Z5u d_0 p_1 shots_2) (r7.2.1,0,tol_3)).bind fun e1=>((iter (Z2P d_0 e1) (0,[])).bind fun e2=>((Z33 d_0 e2).bind fun r0=>(if(r0.2 != 0) then(some ((Zu.mk (Z2.mk [] [] 0 false 0 [] [] []) [] 0 []),r0.2)) else(some ((Zu.mk r0.1 e2 e1.2 []),0))))))))))
theorem Zdh{I:World->Prop}(hI:Stab I){d_0:Z2}{p_1:Z7}{shots_2:List Int}{tol_3:Int}{r:Zu × Int}(h:Z3E d_0 p_1 shots_2 tol_3=some r):AFun Tryz.prog I 18 [Z2.d d_0,Z7.d p_1,.sl (shots_2.map (D.int .i64)),.int .i64 tol_3] (.tup [Zu.d r.1,.int .i64 r.2]):=by
 have dd:=Z5n;have k:=True.intro;have q:=k;have rs:=Tryz.results18;unfold Z3E at h;refine .en hI Tryz.func18 Tryz.ntmps18 ?_;refine xs<|rz ?_;refine es<|xs<|rK fun K _ E J=>zz ?_;obtain⟨r7,h8,h⟩:=bs h;refine cw (Z8R hI h8)<|zz ?_;subst E J;refine es<|xs ?_;obtain⟨v0,h0,h⟩:=bs h;refine Zk (fun v0=>⟨envL [(2,.sl (shots_2.map (D.int .i64))),(3,.int .i64 tol_3),(4,.ptr 0 0),(5,.ptr 1 0),(8,.ptr 2 0),(10,.sl (r7.1.map Z1.d)),(11,.sl (r7.2.1.map (D.int .i64))),(12,.sl (r7.2.2.1.map (D.int .i64))),(13,.int .i64 r7.2.2.2),(44,.bool v0)],Z5 [(0,.box none [.str d_0.Title,.str d_0.Lang,.int .u8 d_0.Rate,.bool d_0.Drop,.int .i64 d_0.Last,.sl (d_0.Regions.map Z3.d),.sl (d_0.Events.map Z0.d),.sl (d_0.Comments.map Z4.d)]),(1,.box none [.str p_1.Name,.int .i64 p_1.Reading,.int .i64 p_1.MinFrames,.int .i64 p_1.MaxFrames,.int .i64 p_1.MinGap,.int .i64 p_1.ShotBefore,.int .i64 p_1.ShotAfter,.int .i64 p_1.Rows,.int .i64 p_1.Cols,.str p_1.Forbidden,.int .i64 p_1.SafeTop,.int .i64 p_1.SafeBottom,.int .i64 p_1.SafeLeft,.int .i64 p_1.SafeRight]),(2,.box none [.str [],.str [],.int .u8 0,.bool false,.int .i64 0,.nils,.nils,.nils,.nils,.int .i64 0,.nils])],3,162⟩) h0 ?_ ?_
 ·clear h;intro v0 h;refine rK fun K _ E J=>zz ?_;obtain⟨k,h⟩|⟨k,h⟩:=iK k h
  ·exact Ld
  exact Ld
 obtain⟨k,h⟩|⟨k,h⟩:=iK k h
 ·refine xt<|xs<|rz ?_;refine es<|xs<|xs<|rz ?_;refine es<|xb ?_;obtain⟨e0,h1,h⟩:=bs h;refine Zb (fun x0=>⟨envL [(8,.ptr 0 0),(10,.sl (r7.1.map Z1.d)),(13,.int .i64 r7.2.2.2),(14,.ptr 1 0),(45,.sl (r7.2.2.1.map (D.int .i64))),(46,.int .i64 (r7.2.2.1.length:Int)),(47,.int .i64 x0.1)],Z5 [(0,.box none [.str [],.str [],.int .u8 0,.bool false,.int .i64 0,.nils,.nils,.nils,.nils,.int .i64 0,.nils]),(1,.box none [.str [],.str [],.int .u8 0,.bool false,.int .i64 0,.nils,.nils,.nils,.nils,.int .i64 0,.own 2 x0.2.length]),(2,.vec 47 6 (x0.2.map Z1.d) false)],3,162⟩) (fun _=>.exit 0) (fun e0=>⟨envL [(8,.ptr 0 0),(13,.int .i64 r7.2.2.2),(14,.ptr 1 0)],Z5 [(0,.box none [.str [],.str [],.int .u8 0,.bool false,.int .i64 0,.nils,.nils,.nils,.nils,.int .i64 0,.nils]),(1,.box none [.str [],.str [],.int .u8 0,.bool false,.int .i64 0,.nils,.nils,.nils,.nils,.int .i64 0,.own 2 e0.length]),(2,.vec 47 6 (e0.map Z1.d) false)],3,162⟩) h1 (wk [(0,some 2),(1,some 3),(2,none)]) (by intro w;simp) ?_ ?_
  ·clear h;intro x0 y h;unfold Z2O at h;refine xs<|rz ?_;refine es<|xs ?_;obtain⟨k,h⟩|⟨k,h⟩:=iK k h
   ·refine xt<|xk<|es<|xs<|xb<|xs<|rK fun K _ E J=>zz ?_;obtain⟨y0,q,h⟩:=bK q h;refine zz ?_;subst E J;refine es<|rD hI fun K _ E J=>zz ?_;obtain⟨y1,q,h⟩:=bK q h;refine zz ?_;obtain⟨h2,h⟩:=Zo h;have h3:x0.2.length+1<=9223372036854775807:=by omega
    try simp only[Nat.reduceLeDiff] at h3
    have q:=And.intro @h3<|And.intro @h2<|q;refine zz ?_;refine hd<|zz ?_;refine hd<|zz ?_;subst E J;refine bn<|es<|rz ?_;cases h;exact en ⟨rfl,wk [(2,some 14)]⟩
   exact Le
  refine bh<|es<|xs<|rz ?_;exact LJ
 refine xf<|xk<|es<|xs<|xs<|rz ?_;refine es ?_;obtain⟨k,h⟩|⟨k,h⟩:=iK k h
 ·exact Lc
 refine xf<|xk<|es<|xs<|rz ?_;refine es<|xs<|xb ?_;obtain⟨e1,h4,h⟩:=bs h;refine Zb (fun x1=>⟨envL [(2,.sl (shots_2.map (D.int .i64))),(4,.ptr 0 0),(5,.ptr 1 0),(8,.ptr 2 0),(11,.sl (x1.1.map (D.int .i64))),(17,.int .i64 x1.2.1),(18,.int .i64 x1.2.2)],Z5 [(0,.box none [.str d_0.Title,.str d_0.Lang,.int .u8 d_0.Rate,.bool d_0.Drop,.int .i64 d_0.Last,.sl (d_0.Regions.map Z3.d),.sl (d_0.Events.map Z0.d),.sl (d_0.Comments.map Z4.d)]),(1,.box none [.str p_1.Name,.int .i64 p_1.Reading,.int .i64 p_1.MinFrames,.int .i64 p_1.MaxFrames,.int .i64 p_1.MinGap,.int .i64 p_1.ShotBefore,.int .i64 p_1.ShotAfter,.int .i64 p_1.Rows,.int .i64 p_1.Cols,.str p_1.Forbidden,.int .i64 p_1.SafeTop,.int .i64 p_1.SafeBottom,.int .i64 p_1.SafeLeft,.int .i64 p_1.SafeRight]),(2,.box none [.str [],.str [],.int .u8 0,.bool false,.int .i64 0,.nils,.nils,.nils,.nils,.int .i64 0,.nils])],3,162⟩) (fun _=>.exit 2) (fun e1=>⟨envL [(4,.ptr 0 0),(8,.ptr 1 0),(11,.sl (e1.1.map (D.int .i64))),(18,.int .i64 e1.2)],Z5 [(0,.box none [.str d_0.Title,.str d_0.Lang,.int .u8 d_0.Rate,.bool d_0.Drop,.int .i64 d_0.Last,.sl (d_0.Regions.map Z3.d),.sl (d_0.Events.map Z0.d),.sl (d_0.Comments.map Z4.d)]),(1,.box none [.str [],.str [],.int .u8 0,.bool false,.int .i64 0,.nils,.nils,.nils,.nils,.int .i64 0,.nils])],2,162⟩) h4 (wk []) (by intro w;simp) ?_ ?_
 ·clear h;intro x1 y h;unfold Z5u at h;refine xs<|xs<|rz ?_;refine es ?_;obtain⟨k,h⟩|⟨k,h⟩:=iK k h
  ·refine xt<|xk<|es<|xb<|xs<|rz ?_;refine es<|xs<|rK fun K _ E J=>zz ?_;obtain⟨r0,h5,h⟩:=bs h;refine cw (Z8R hI h5)<|zz ?_;subst E J;refine es<|xs<|rz ?_;refine es ?_;obtain⟨k,h⟩|⟨k,h⟩:=iK k h
   ·refine xt<|rz ?_;exact LC
   refine xf<|rz ?_;exact LC
  refine xf<|xx<|ee ?_;cases h;exact en ⟨rfl,wk [(1,some 2)]⟩
 refine bh<|es<|xs<|rz ?_;refine es<|xs<|xs<|rz ?_;refine es<|xb ?_;obtain⟨e2,h6,h⟩:=bs h;refine Zb (fun x2=>⟨envL [(4,.ptr 0 0),(8,.ptr 1 0),(11,.sl (e1.1.map (D.int .i64))),(24,.ptr 2 0),(94,.sl (d_0.Events.map Z0.d)),(95,.int .i64 (d_0.Events.length:Int)),(96,.int .i64 x2.1)],Z5 [(0,.box none [.str d_0.Title,.str d_0.Lang,.int .u8 d_0.Rate,.bool d_0.Drop,.int .i64 d_0.Last,.sl (d_0.Regions.map Z3.d),.sl (d_0.Events.map Z0.d),.sl (d_0.Comments.map Z4.d)]),(1,.box none [.str [],.str [],.int .u8 0,.bool false,.int .i64 0,.nils,.nils,.nils,.nils,.int .i64 0,.nils]),(2,.box none [.str [],.str [],.int .u8 0,.bool false,.int .i64 0,.nils,.nils,.nils,.own 3 x2.2.length,.int .i64 e1.2,.nils]),(3,.vec 91 3 (x2.2.map Z8.d) false)],4,162⟩) (fun _=>.exit 4) (fun e2=>⟨envL [(4,.ptr 0 0),(8,.ptr 1 0),(24,.ptr 2 0)],Z5 [(0,.box none [.str d_0.Title,.str d_0.Lang,.int .u8 d_0.Rate,.bool d_0.Drop,.int .i64 d_0.Last,.sl (d_0.Regions.map Z3.d),.sl (d_0.Events.map Z0.d),.sl (d_0.Comments.map Z4.d)]),(1,.box none [.str [],.str [],.int .u8 0,.bool false,.int .i64 0,.nils,.nils,.nils,.nils,.int .i64 0,.nils]),(2,.box none [.str [],.str [],.int .u8 0,.bool false,.int .i64 0,.nils,.nils,.nils,.own 3 e2.length,.int .i64 e1.2,.nils]),(3,.vec 91 3 (e2.map Z8.d) false)],4,162⟩) h6 (wk [(2,some 4),(3,none)]) (by intro w;simp) ?_ ?_
 ·clear h;intro x2 y h;unfold Z2P at h;refine xs<|rz ?_;refine es<|xs ?_;obtain⟨k,h⟩|⟨k,h⟩:=iK k h
  ·refine xt<|xk<|es<|xs<|xb<|xs<|rK fun K _ E J=>zz ?_;obtain⟨y2,q,h⟩:=bK q h;refine zz ?_;subst E J;refine es<|xs<|rD hI fun K _ E J=>zz ?_;obtain⟨y3,q,h⟩:=bK q h;refine zz ?_;obtain⟨y4,q,h⟩:=bK q h;refine zz ?_;obtain⟨y5,q,h⟩:=bK q h;refine zz ?_;refine hd<|zz ?_;subst E J;refine es ?_;obtain⟨v1,h7,h⟩:=bs h;refine Zk (fun v1=>⟨envL [(4,.ptr 0 0),(8,.ptr 1 0),(11,.sl (e1.1.map (D.int .i64))),(24,.ptr 2 0),(26,.ptr 4 0),(27,.ptr 5 0),(94,.sl (d_0.Events.map Z0.d)),(95,.int .i64 (d_0.Events.length:Int)),(96,.int .i64 x2.1),(135,.bool v1)],Z5 [(0,.box none [.str d_0.Title,.str d_0.Lang,.int .u8 d_0.Rate,.bool d_0.Drop,.int .i64 d_0.Last,.sl (d_0.Regions.map Z3.d),.sl (d_0.Events.map Z0.d),.sl (d_0.Comments.map Z4.d)]),(1,.box none [.str [],.str [],.int .u8 0,.bool false,.int .i64 0,.nils,.nils,.nils,.nils,.int .i64 0,.nils]),(2,.box none [.str [],.str [],.int .u8 0,.bool false,.int .i64 0,.nils,.nils,.nils,.own 3 x2.2.length,.int .i64 e1.2,.nils]),(3,.vec 91 3 (x2.2.map Z8.d) false),(4,.box none [.int .i64 y2.ID,.int .i64 y2.Span.In,.int .i64 y2.Span.Out,.str y2.Region,.int .u8 y2.Kind,.str y2.Speaker,.sl (y2.Rows.map Z6.d)]),(5,.box none [.int .i64 (IntKind.i64.wrap (y3 - y4)),.int .i64 (IntKind.i64.wrap (y5 - y4))])],6,162⟩) h7 ?_ ?_
   ·clear h;intro v1 h;refine rK fun K _ E J=>zz ?_;obtain⟨k,h⟩|⟨k,h⟩:=iK k h
    ·refine zz ?_;subst E J;cases h;exact en ⟨rfl,wk [(4,some 8),(5,some 32)]⟩
    refine zz ?_;subst E J;cases h;exact en ⟨rfl,wk [(4,some 8),(5,some 32)]⟩
   obtain⟨k,h⟩|⟨k,h⟩:=iK k h
   ·refine xt<|rK fun K _ E J=>zz ?_;obtain⟨h9,h⟩:=Zo h;have h10:x2.2.length+1<=9223372036854775807:=by omega
    try simp only[Nat.reduceLeDiff] at h10
    have q:=And.intro @h10<|And.intro @h9<|q;refine zz ?_;subst E J;refine bn<|es<|rz ?_;cases h;exact en ⟨rfl,wk [(3,some 16)]⟩
   exact Ll
  exact Le
 refine bh<|es<|xs<|rK fun K _ E J=>zz ?_;obtain⟨r1,h11,h⟩:=bs h;refine cw (ZcN hI h11)<|zz ?_;subst E J;refine es<|xs<|xs<|rz ?_;refine es ?_;obtain⟨k,h⟩|⟨k,h⟩:=iK k h
 ·exact Lc
 exact LL
def Z02 (s1_0:List Z8)(s2_1:List Z8)(x0:Int):Option (Nx (Int) (Unit ⊕ Unit)) :=
 (if(decide (x0 < (s1_0.length:Int))) then((atI s1_0 x0).bind fun y0=>((atI s2_1 x0).bind fun y1=>(if((y0.ID == y1.ID)&&((y0.In == y1.In)&&(y0.Out == y1.Out))) then(some (.go (IntKind.i64.wrap (x0+1)))) else(some (.out (.inl ())))))) else(some (.out (.inr ()))))
def Z0h (s1_0:List Z8)(s2_1:List Z8):Option (Bool) :=
 (if((s1_0.length:Int) != (s2_1.length:Int)) then(some false) else((iter (Z02 s1_0 s2_1) 0).bind fun e0=>(match e0 with|Sum.inl e0=>(some false)|Sum.inr (e0)=>(some true))))
theorem Z5S{I:World->Prop}(hI:Stab I){s1_0:List Z8}{s2_1:List Z8}{r:Bool}(h:Z0h s1_0 s2_1=some r):AFun Tryz.prog I 48 [.sl (s1_0.map Z8.d),.sl (s2_1.map Z8.d)] (.bool r):=by
 have dd:=Z5n;have k:=True.intro;have q:=k;have rs:=Tryz.results48;unfold Z0h at h;refine .en hI Tryz.func48 Tryz.ntmps48 ?_;refine xs<|rz ?_;refine es<|xs<|xs<|rz ?_;refine es ?_;obtain⟨k,h⟩|⟨k,h⟩:=iK k h
 ·exact Lc
 refine xf<|xk<|es<|xs<|xs<|rz ?_;refine es<|xb ?_;obtain⟨e0,h0,h⟩:=bs h;refine Zb (fun x0=>⟨envL [(0,.sl (s1_0.map Z8.d)),(1,.sl (s2_1.map Z8.d)),(12,.int .i64 (s1_0.length:Int)),(13,.int .i64 x0)],Z5 [],0,26⟩) (fun w=>match w with|Sum.inl _=>.ret|Sum.inr (_)=>.exit 0) (fun w=>match w with|Sum.inl e0=>⟨envL [(4,.bool false)],Z5 [],0,26⟩|Sum.inr (e0)=>⟨envL [],Z5 [],0,26⟩) h0 (wk []) (by intro w;rcases w with w|w<;>simp) ?_ ?_
 ·clear h;intro x0 y h;unfold Z02 at h;refine xs<|rz ?_;refine es<|xs ?_;obtain⟨k,h⟩|⟨k,h⟩:=iK k h
  ·refine xt<|xk<|es<|xs<|xb<|xs<|rz ?_;refine es<|xs<|rD hI fun K _ E J=>zz ?_;obtain⟨y0,q,h⟩:=bK q h;refine zz ?_;obtain⟨y1,q,h⟩:=bK q h;refine zz ?_;subst E J;refine es ?_;obtain⟨k,h⟩|⟨k,h⟩:=iK k h
   ·exact Ll
   exact Lk
  exact Le
 rcases e0 with e0|e0
 ·try dsimp only at h ⊢
  exact Li
 try dsimp only at h ⊢
 exact Lg
def Z65 (a_0:Zu)(b_1:Zu):Option (Bool) :=
 (if(a_0.Needed == b_1.Needed) then((Z4c a_0.Doc b_1.Doc).bind fun r0=>(if r0 then((Z0h a_0.Shifts b_1.Shifts).bind fun r1=>(if r1 then((ZW a_0.Conflict b_1.Conflict).bind fun r2=>(some r2)) else(some false))) else(some false))) else(some false))
theorem Zcz{I:World->Prop}(hI:Stab I){a_0:Zu}{b_1:Zu}{r:Bool}(h:Z65 a_0 b_1=some r):AFun Tryz.prog I 19 [Zu.d a_0,Zu.d b_1] (.bool r):=by
 have dd:=Z5n;have k:=True.intro;have q:=k;have rs:=Tryz.results19;unfold Z65 at h;refine .en hI Tryz.func19 Tryz.ntmps19 ?_;refine xs<|rz ?_;refine es<|xs<|rK fun K _ E J=>zz ?_;obtain⟨k,h⟩|⟨k,h⟩:=iK k h
 ·refine zz ?_;obtain⟨r0,h0,h⟩:=bs h;refine cw (ZaO hI h0)<|zz ?_;obtain⟨k,h⟩|⟨k,h⟩:=iK k h
  ·refine zz ?_;obtain⟨r1,h1,h⟩:=bs h;refine cw (Z5S hI h1)<|zz ?_;obtain⟨k,h⟩|⟨k,h⟩:=iK k h
   ·refine zz ?_;obtain⟨r2,h2,h⟩:=bs h;refine cw (Z37 hI h2)<|zz ?_;exact Lz
   exact Lj
  exact Lj
 exact Lj
theorem ZbZ{α:Type}{l:List α}{n:Int}{y:α}(h:atI l n=some y):∃ i:Nat,n=(i:Int)/\∃ q:i < l.length,l[i]=y:=by
 unfold atI at h;split at h
 ·rename_i h0
  obtain⟨i,rfl⟩:=Int.eq_ofNat_of_zero_le h0;rw[Int.toNat_natCast] at h;obtain⟨q,e⟩:=List.getElem?_eq_some_iff.1 h;exact⟨i,rfl,q,e⟩
 cases h
theorem Zfi{α:Type}{l:List α}{n:Int}{y:α}(h:atI l n=some y):y ∈ l:=by
 obtain⟨i,_,q,rfl⟩:=ZbZ h;exact List.getElem_mem q
theorem Zh7{R:Nat->Int->Prop}{n:Nat}{r r':List Int}(hb:∀ v c,R v c->c < far)(h:RowS R n r)(h':RowS R n r'):r=r':=by
 have key:∀ {r r':List Int},RowS R n r->RowS R n r'->∀ v,v < n->r.getD v 0<=r'.getD v 0:=by
  intro r r' h h' v hv
  by_cases q:r'.getD v 0=far
  ·rw[q]
   by_cases q2:r.getD v 0=far
   ·omega
   ·have:=hb _ _ ((h.2 v hv).1 q2);omega
  ·exact(h.2 v hv).2 _ ((h'.2 v hv).1 q)
 refine List.ext_getElem (by rw[h.1,h'.1]) fun v h1 h2=>?_
 have hv:v < n:=by rw[<- h.1];exact h1
 have a:=key h h' v hv
 have b:=key h' h v hv
 simp only[List.getD,List.getElem?_eq_getElem h1,List.getElem?_eq_getElem h2,Option.getD_some] at a b
 omega
theorem Zg6{l:List Ed}(hc:∀ e ∈ l,-1099511627776<=e.c/\e.c<=1099511627776){n t:Nat}{h h':List (List Int)}(hl:h.length=h'.length)(hs:h.length<=1000)(a:Z7a l n t h)(b:Z7a l n t h'):h=h':=by
 refine List.ext_getElem hl fun r h1 h2=>?_
 exact Zh7 (fun v c q=>by
  have:=Z7Q hc q
  have h3:((r:Nat):Int) * 1099511627776<=1000 * 1099511627776:=Int.mul_le_mul_of_nonneg_right (by omega) (by decide)
  rw[Z2A];omega) (a r h1) (b r h2)
theorem Zlb{n:Nat}{l:List Z1}(hl:Z0j n l){i:Nat}(hi:i+1<=l.length){K:Int}(hK:K<=1000000){R:List (List Int)}{r:Nat}(hr:0 < r)(hr2:r<=1000){old:List Int}(hR:R[r - 1]? = some old)(ho:RB n K old):iter (Z2N l ((r:Int),R)) ((i:Int)+1,List.replicate n far)=some (trow (·.j) (·.i) (eds (l.drop (i+1))) old n):=by
 have hn:=hl.n2
 have hlen:=hl.len
 have hat:atI R (IntKind.i64.wrap ((r:Int) - 1))=some old:=by
  rw[wr64 (by omega),show((r:Int) - 1)=((r - 1:Nat):Int) by omega]
  obtain⟨h1,h2⟩:=List.getElem?_eq_some_iff.1 hR
  rw[Zc h1,h2]
 have hdl:(l.drop (i+1)).length=l.length - (i+1):=List.length_drop ..
 have:=ZF (step:=Z2N l ((r:Int),R)) (l.drop (i+1)) (by omega) (fun j (s:List Int)=>(j+((i:Int)+1),s)) (fun s b=>.inr (tlow (·.j) (·.i) old s (ed b))) id (fun j s=>s.length=n) (s0:=List.replicate n far) (by simp)
  (fun j hj s hs=>.inr ⟨_,rfl,by
   have hq:i+1+j < l.length:=by omega
   have hb:=hl.bd _ (List.getElem_mem hq)
   unfold Z2N
   dsimp only
   rw[if_pos (by simp;omega)]
   simp only[Option.bind_some]
   rw[if_pos (by rw[decide_eq_true_eq];omega),hat,show((j:Int)+((i:Int)+1))=((i+1+j:Nat):Int) by omega,Zc hq,wr64 (x:=((i+1+j:Nat):Int)+1) (by omega)]
   simp only[Option.bind_some]
   rw[show(l.drop (i+1))[j]=l[i+1+j] from by simp]
   generalize l[i+1+j]=b at hb
   have hol:=ho.1
   have h1:=ho.2 b.J.toNat (by omega)
   rw[Z0v hb.2.2.1 (by omega)]
   simp only[Option.bind_some]
   have hgo:(((i+1+j:Nat):Int)+1,s)=((j:Int)+1+((i:Int)+1),s):=by congr 1;omega
   by_cases q:old.getD b.J.toNat 0=far
   ·rw[if_neg (by rw[decide_eq_true_eq,q,Z2A];omega),ZaG (e:=ed b) q]
    simp only[Option.bind_some,Bool.false_eq_true,if_false]
    rw[hgo]
   ·have h2:=h1 q
    rw[if_pos (by rw[decide_eq_true_eq];omega),Z0v hb.1 (by omega)]
    simp only[Option.bind_some]
    rw[wr64 (x:=b.C+old.getD b.J.toNat 0) (by omega)]
    by_cases q2:b.C+old.getD b.J.toNat 0 < s.getD b.I.toNat 0
    ·rw[if_pos (by simpa using q2),Z4U _ hb.1 (by omega)]
     simp only[Option.bind_some]
     have:tlow (·.j) (·.i) old s (ed b)=s.set b.I.toNat (b.C+old.getD b.J.toNat 0):=by
      unfold tlow ed
      dsimp only
      rw[if_pos ⟨q,by omega⟩,Int.add_comm]
     rw[this]
     show some (Nx.go (((i+1+j:Nat):Int)+1,_))=_
     congr 2
     congr 1
     omega
    ·rw[if_neg (by simpa using q2)]
     have:tlow (·.j) (·.i) old s (ed b)=s:=by
      unfold tlow ed
      dsimp only
      rw[if_neg (fun h=>by have:=h.2;omega)]
     rw[this,hgo],by rw[Z6I];exact hs⟩)
  (fun s hs=>by
   unfold Z2N
   dsimp only
   rw[if_pos (by simp;omega)]
   simp only[Option.bind_some]
   rw[if_neg (by rw[decide_eq_true_eq];omega)]
   rfl)
 rw[Z6e] at this
 simp only[Int.zero_add] at this
 rw[this,Z7Z]
 rfl
theorem ZjJ{n:Nat}{l:List Z1}(hl:Z0j n l){i size:Nat}{t:Int}(hi:i < l.length)(h0:0 < size)(hs:size<=1000)(ht0:0<=t)(ht1:t < (n:Int)):Z5E n l (i:Int) t (((size:Nat):Int) - 1)=Z2I n l (i:Int) (size:Int) t:=by
 have hn:=hl.n2
 have hlen:=hl.len
 have hl':=hl.drop (i+1)
 obtain⟨h,hh,hhl,hhR⟩:=Z8A hl hi hs ht0 ht1
 rw[hh]
 unfold Z5E
 obtain⟨e,he,hp⟩:=ZD (step:=Z5s n l (i:Int) t (((size:Nat):Int) - 1)) (fun x=>∃ r:Nat,x.1=r/\r<=size/\x.2.length=r/\Z7a (eds (l.drop (i+1))) n t.toNat x.2) (fun x=>size - x.1.toNat)
  (fun h=>h.length=size/\Z7a (eds (l.drop (i+1))) n t.toNat h) (x:=(0,[])) ⟨0,rfl,by omega,rfl,fun j h=>by simp at h⟩ (by dsimp only;omega) (by
  rintro⟨x,y⟩ ⟨r,h1,h2,h3,h4⟩
  dsimp only at h1 h3 h4
  subst h1
  unfold Z5s
  dsimp only
  by_cases q:r < size
  ·left
   rw[if_pos (by rw[decide_eq_true_eq];omega),Z5O 8 n (0:Int) (by omega) (by omega),wr64 (x:=(r:Int)+1) (by omega),wr64 (x:=(i:Int)+1) (by omega)]
   simp only[Option.bind_some]
   have hfill:=Z8m (step:=Z4m (List.replicate n 0)) n (by omega) (List.replicate n 0) (by simp)
    (fun k z hk hz=>by
     unfold Z4m
     dsimp only
     rw[List.length_replicate,if_pos (by simpa using hk),Zc (show k < z.length by omega),Z3L _ (show k < z.length by omega),wr64 (x:=(k:Int)+1) (by omega)]
     rfl)
    (fun z hz=>by unfold Z4m;dsimp only;rw[List.length_replicate,if_neg (by simp)])
   rw[hfill]
   simp only[Option.bind_some]
   have fin:∀ nx:List Int,RowS (fun u c=>FW (eds (l.drop (i+1))) u r t.toNat c) n nx->∃ m:Nat,(r:Int)+1=m/\m<=size/\(y++[nx]).length=m/\Z7a (eds (l.drop (i+1))) n t.toNat (y++[nx]):=by
    intro nx hnx
    refine⟨r+1,by simp,by omega,by simp[h3],fun j hj=>?_⟩
    by_cases hjr:j < y.length
    ·rw[List.getElem_append_left hjr];exact h4 j hjr
    ·have:j=r:=by simp at hj;omega
     subst this
     rw[List.getElem_append_right (by omega)]
     simpa using hnx
   have hcap:(y.length+1) * 24<=140737488355328:=by omega
   by_cases q0:r=0
   ·subst q0
    rw[if_pos (by simp)]
    rw[Z0v (x:=List.replicate n far) ht0 (by simpa using ht1),Z4U _ ht0 (by simpa using ht1)]
    simp only[Option.bind_some]
    have hs3:iter (Z5t l (((0:Nat):Int),y)) ((i:Int)+1,(List.replicate n far).set t.toNat 0)=some ((List.replicate n far).set t.toNat 0):=by
     refine Z0T (fun x e=>x=((i:Int)+1,(List.replicate n far).set t.toNat 0)/\e=(List.replicate n far).set t.toNat 0) (fun _=>0) ?_ (x:=((i:Int)+1,(List.replicate n far).set t.toNat 0)) ⟨rfl,rfl⟩ (by decide)
     rintro x e ⟨rfl,rfl⟩
     right
     unfold Z5t
     rw[if_neg (by simp)]
     rfl
    rw[hs3]
    simp only[Option.bind_some]
    rw[if_pos hcap]
    exact⟨_,rfl,fin _ (Zh8 (by omega)),by dsimp only;omega⟩
   ·rw[if_neg (by simpa using q0)]
    have hold:=h4 (r - 1) (by omega)
    rw[Zlb hl (by omega) (K:=((r - 1:Nat):Int)) (by omega) (by omega) (by omega) (List.getElem?_eq_some_iff.2 ⟨by omega,rfl⟩) (rb_of' hl'.cc hold)]
    simp only[Option.bind_some]
    rw[if_pos hcap]
    have:=Zj4 hl'.cc hl'.inn (by omega) hold
    rw[show r - 1+1=r by omega] at this
    exact⟨_,rfl,fin _ this,by dsimp only;omega⟩
  ·obtain rfl:r=size:=by omega
   rw[if_neg (by rw[decide_eq_true_eq];omega)]
   exact .inr ⟨_,rfl,h3,h4⟩)
 rw[he]
 have:=Zg6 hl'.cc (by rw[hp.1,hhl]) (by omega) hp.2 hhR
 subst this
 rfl
def ZaH (h:List (List Int)):Prop:=∀ row ∈ h,∀ v ∈ row,v≠far->v < far
theorem ZhV{l:List Ed}(hc:∀ e ∈ l,-1099511627776<=e.c/\e.c<=1099511627776){n t:Nat}{h:List (List Int)}(hs:h.length<=1000)(a:Z7a l n t h):ZaH h:=by
 intro row hrow v hv hne;obtain⟨r,hr,rfl⟩:=List.getElem_of_mem hrow;obtain⟨q,hq,rfl⟩:=List.getElem_of_mem hv;have ha:=a r hr;have hqn:q < n:=by rw[<- ha.1];exact hq
 have hg:h[r].getD q 0=h[r][q]:=by simp[List.getD,hq]
 have:=Z7Q hc ((ha.2 q hqn).1 (by rw[hg];exact hne));rw[hg] at this;have h3:((r:Nat):Int) * 1099511627776<=1000 * 1099511627776:=Int.mul_le_mul_of_nonneg_right (by omega) (by decide);rw[Z2A];omega
theorem ZgH{h:List (List Int)}(hf:ZaH h){a b:Int}{row:List Int}{v:Int}(h1:atI h a=some row)(h2:atI row b=some v):decide (v < 1152921504606846976)=(v != 1152921504606846976)/\decide ((1152921504606846976:Int)<=v)=(v == 1152921504606846976):=by
 have:=hf row (Zfi h1) v (Zfi h2);rw[Z2A] at this;by_cases q:v=1152921504606846976
 ·subst q;exact⟨rfl,rfl⟩
 have h3:=this q;have h4:¬ (1152921504606846976:Int)<=v:=by omega
 simp[q,h3,h4]
theorem ZhK(l:List Z1){h:List (List Int)}(hf:ZaH h)(st:Int × Int × Int × List Int):Z3T l h st=Z0M l h st:=by
 funext x
 unfold Z3T Z0M
 by_cases hx:x < (l.length:Int)
 ·simp only[decide_eq_true hx,if_true]
  cases hy:atI l x with
  | none=>rfl
  | some y =>
   simp only[Option.bind_some]
   by_cases q:y.I=st.1
   ·have hq:(y.I == st.1)=true:=by simpa using q
    simp only[hq,if_true]
    cases hr:atI h st.2.2.1 with
    | none=>rfl
    | some row =>
     simp only[Option.bind_some]
     cases hv:atI row y.J with
     | none=>rfl
     | some v =>
      simp only[Option.bind_some,(ZgH hf hr hv).1]
   ·have hq:(y.I == st.1)=false:=by simpa using q
    simp only[hq,Bool.false_eq_true,if_false,Option.bind_some]
 ·simp only[decide_eq_false hx,Bool.false_eq_true,if_false]
theorem ZhJ(l:List Z1)(x5:Int){h:List (List Int)}(hf:ZaH h):Z3S l x5 h=Z0L l x5 h:=by
 funext st;unfold Z3S Z0L;rw[ZhK l hf st]
theorem Zje(l:List Z1)(k:Int){h:List (List Int)}(hf:ZaH h)(b:Z1):(((atI h k).bind fun y2604=>((atI y2604 b.J).bind fun y2606=>(if(decide (1152921504606846976<=y2606)) then(some true) else(some (decide (0<=(IntKind.i64.wrap (b.C+y2606))))))) ):Option Bool)=((atI h k).bind fun y2610=>((atI y2610 b.J).bind fun y2612=>(if(y2612 == 1152921504606846976) then(some true) else(some (decide (0<=(IntKind.i64.wrap (b.C+y2612)))))))):=by
 cases hr:atI h k with
 | none=>rfl
 | some row =>
  simp only[Option.bind_some]
  cases hv:atI row b.J with
  | none=>rfl
  | some v =>
   simp only[Option.bind_some]
   rw[(ZgH hf hr hv).2]
theorem ZhI{n:Nat}{l:List Z1}(hl:Z0j n l){k:Nat}(hk0:0 < k)(hk:k<=1000):Z3R n l (k:Int)=Z07 n l (k:Int):=by
 funext x
 unfold Z3R Z07
 by_cases hx:x < (l.length:Int)
 ·simp only[decide_eq_true hx,if_true]
  cases hy:atI l x with
  | none=>simp only[Option.bind_none]
  | some y =>
   simp only[Option.bind_some]
   obtain⟨i,rfl,hi,rfl⟩:=ZbZ hy
   have hb:=hl.bd _ (List.getElem_mem hi)
   obtain⟨h,hh,hhl,hhR⟩:=Z8A hl hi hk hb.1 hb.2.1
   have hf:=ZhV (hl.drop (i+1)).cc (by omega) hhR
   have e1:=ZjJ hl hi hk0 hk hb.1 hb.2.1
   rw[hh] at e1 ⊢
   rw[wr64 (x:=(k:Int) - 1) (by omega),e1]
   simp only[Option.bind_some]
   rw[ZhJ l _ hf,Zje l _ hf]
 ·simp only[decide_eq_false hx,Bool.false_eq_true,if_false]
theorem ZdX{n:Nat}{l:List Z1}(hl:Z0j n l){k:Nat}(hk0:0 < k)(hk:k<=1000):Z3D n l (k:Int)=Z05 n l (k:Int):=by
 unfold Z3D Z05
 rw[ZhI hl hk0 hk]
 generalize iter (Z07 n l (k:Int)) 0=o
 cases o with
 | none=>rfl
 | some e=>cases e<;>rfl
def Z9D (l:List Z1)(k j:Nat)(h:j < l.length):Prop:=¬ ∃ L,Wlk (· ∈ eds (l.drop (j+1))) l[j].J.toNat l[j].I.toNat L/\L.length=k - 1/\l[j].C+sumE L < 0
theorem Zdo{n:Nat}{l:List Z1}(hl:Z0j n l){k:Nat}(hk0:0 < k)(hk:k<=1000):∃ out,Z05 n l (k:Int)=some out/\((out=[]/\∀ j (h:j < l.length),Z9D l k j h)\/CfOK l k out):=by
 have hlen:=hl.len
 have hn:=hl.n2
 obtain⟨e,he,hp⟩:=ZD (step:=Z07 n l (k:Int)) (fun x=>∃ i:Nat,x=i/\i<=l.length/\∀ j (h:j < l.length),j < i->Z9D l k j h) (fun x=>l.length - x.toNat) (fun e=>(e=.inr ()/\∀ j (h:j < l.length),Z9D l k j h)\/∃ out,e=.inl out/\CfOK l k out) (x:=0) ⟨0,rfl,by omega,fun j h h'=>by omega⟩ (by omega) (by
  rintro x ⟨i,rfl,hi,hF⟩
  unfold Z07
  by_cases q:i < l.length
  ·have hb:=hl.bd _ (List.getElem_mem q)
   rw[if_pos (by simpa using q),Zc q,wr64 (x:=(i:Int)+1) (by omega),wr64 (x:=(k:Int) - 1) (by omega),wr64 (x:=(k:Int) - 2) (by omega)]
   simp only[Option.bind_some]
   obtain⟨h,hh,hlh,hR⟩:=Z8A hl (first:=i) (size:=k) (t:=l[i].I) q hk hb.1 hb.2.1
   rw[hh]
   simp only[Option.bind_some]
   have hkh:k - 1 < h.length:=by omega
   rw[show(k:Int) - 1=((k - 1:Nat):Int) by omega,Zc hkh]
   simp only[Option.bind_some]
   have hrow:=hR (k - 1) hkh
   have hrb:=rb_of' (hl.drop (i+1)).cc hrow
   have hcc:=(hl.drop (i+1)).cc
   generalize hrw:h[k - 1]=rw_ at hrow hrb
   have hrl:=hrb.1
   have hrv:=hrb.2 l[i].J.toNat (by omega)
   have hmin:=(hrow.2 l[i].J.toNat (by omega)).2
   rw[Z0v hb.2.2.1 (by omega)]
   simp only[Option.bind_some]
   have nxt:Z9D l k i q->∃ x',(some (.go ((i:Int)+1)):Option (Nx Int (List Int ⊕ Unit)))=some (.go x')/\(∃ j:Nat,x'=j/\j<=l.length/\∀ m (h:m < l.length),m < j->Z9D l k m h)/\l.length - x'.toNat < l.length - (i:Int).toNat:=fun hf=>⟨_,rfl,⟨i+1,by simp,by omega,fun m hm hmi=>by
    rcases Nat.lt_succ_iff_lt_or_eq.1 hmi with h|rfl
    ·exact hF m hm h
    ·exact hf⟩,by omega⟩
   by_cases q2:rw_.getD l[i].J.toNat 0=far
   ·rw[if_pos (by rw[beq_iff_eq,<- Z2A];exact q2)]
    simp only[Option.bind_some,if_true]
    refine .inl (nxt ?_)
    rintro⟨L,w,hL,hs⟩
    have h1:=hmin _ ⟨L,w,hL,rfl⟩
    have h2:=Z8d hcc L w.mem
    have h3:((L.length:Nat):Int) * 1099511627776<=1000 * 1099511627776:=Int.mul_le_mul_of_nonneg_right (by omega) (by decide)
    rw[q2,Z2A] at h1
    omega
   ·have h3:=hrv q2
    rw[if_neg (by rw[beq_iff_eq,<- Z2A];exact q2),wr64 (x:=l[i].C+rw_.getD l[i].J.toNat 0) (by omega)]
    simp only[Option.bind_some]
    by_cases q3:0<=l[i].C+rw_.getD l[i].J.toNat 0
    ·rw[if_pos (by simpa using q3)]
     refine .inl (nxt ?_)
     rintro⟨L,w,hL,hs⟩
     have h1:=hmin _ ⟨L,w,hL,rfl⟩
     omega
    ·rw[if_neg (by simpa using q3)]
     right
     obtain⟨L,w,hL,hs⟩:=(hrow.2 l[i].J.toNat (by omega)).1 q2
     obtain⟨out,ho,hc⟩:=ZiV hl (first:=i) (t:=l[i].I.toNat) (k:=k) hk q (by omega) hlh hR (a0:=l[i].J.toNat) (sum0:=l[i].C) (out0:=[(i:Int)]) (r0:=k - 1) ⟨by omega,by simp;omega,by intro j hj;simp only[List.mem_singleton] at hj;subst hj;omega,by
       rw[List.map_cons,List.map_nil,Z6D q]
       exact .cons (List.mem_map_of_mem (List.getElem_mem q)) (.nil _),by rw[List.map_cons,List.map_nil,Z6D q];simp[sumE,ed],⟨L,w,hL,by omega⟩⟩
     rw[show((l[i].J.toNat:Nat):Int)=l[i].J by omega,show((k - 1:Nat):Int) - 1=(k:Int) - 2 by omega] at ho
     rw[ho]
     exact⟨_,rfl,.inr ⟨out,rfl,hc⟩⟩
  ·obtain rfl:i=l.length:=by omega
   rw[if_neg (by simp)]
   exact .inr ⟨_,rfl,.inl ⟨rfl,fun j h=>hF j h h⟩⟩)
 unfold Z05
 rw[he]
 rcases hp with⟨rfl,hf⟩|⟨out,rfl,hc⟩
 ·exact⟨[],rfl,.inl ⟨rfl,hf⟩⟩
 ·exact⟨out,rfl,.inr hc⟩
theorem Zdt{l:List Z1}{f:Nat}(h:f < l.length):eds (l.drop f)=ed l[f]::eds (l.drop (f+1)):=by
 rw[List.drop_eq_getElem_cons h];rfl
theorem Zbq{l:List Z1}{k:Nat}(hk:0 < k)(hle:Z6i (· ∈ eds l) k):∀ (m f:Nat) {u:Nat} {L:List Ed},l.length - f=m->Wlk (· ∈ eds (l.drop f)) u u L->L.length=k->sumE L < 0->∃ j,∃ h:j < l.length,¬ Z9D l k j h
 | m,f,u,L,hm,w,hL,hs=>by
  by_cases hf:f < l.length
  ·by_cases hall:∀ e ∈ L,e ∈ eds (l.drop (f+1))
   ·exact Zbq hk hle (m - 1) (f+1) (by omega) (w.mono fun e h _=>hall e h) hL hs
   ·obtain⟨e,he⟩:=Classical.not_forall.1 hall
    obtain⟨heL,hen⟩:=Classical.not_imp.1 he
    have hef:e=ed l[f]:=by
     have:=w.mem e heL
     rw[Zdt hf] at this
     rcases List.mem_cons.1 this with h|h
     ·exact h
     ·exact absurd h hen
    obtain⟨x,y,rfl⟩:=List.append_of_mem heL
    have hsub:∀ g ∈ eds (l.drop f),g ∈ eds l:=fun g hg=>by
     obtain⟨b,hb,rfl⟩:=List.mem_map.1 hg
     exact List.mem_map_of_mem (List.mem_of_mem_drop hb)
    have hnd:=Zb3 (p:=(· ∈ eds l)) (by rw[hL];exact hle) (w.mono fun g hg _=>hsub g (w.mem g hg)) hs
    obtain⟨v,w1,w2⟩:=Wlk.split w
    have hv:v=e.i:=by cases w2 with|cons _ _=>rfl
    cases w2 with
    | cons _ w3 =>
    have w4:=w3.app w1
    rw[hv] at w4
    have hnot:∀ g ∈ y++x,g ∈ eds (l.drop (f+1)):=by
     intro g hg
     have hg1:=w4.mem g hg
     rw[Zdt hf,<- hef] at hg1
     rcases List.mem_cons.1 hg1 with h|h
     ·exfalso
      subst h
      rw[List.map_append,List.map_cons,List.nodup_append] at hnd
      obtain⟨n1,n2,n3⟩:=hnd
      rw[List.nodup_cons] at n2
      rcases List.mem_append.1 hg with hg|hg
      ·exact n2.1 (List.mem_map_of_mem hg)
      ·exact n3 _ (List.mem_map_of_mem hg) _ (List.mem_cons_self) rfl
     ·exact h
    refine⟨f,hf,fun hF=>hF ⟨y++x,?_,?_,?_⟩⟩
    ·have:=w4.mono fun g hg _=>hnot g hg
     rw[hef] at this
     exact this
    ·simp only[List.length_append,List.length_cons] at hL ⊢;omega
    ·rw[Z35] at hs ⊢
     simp only[sumE] at hs
     have:e.c=l[f].C:=by rw[hef];rfl
     omega
  ·exfalso
   rw[List.drop_eq_nil_of_le (by omega)] at w
   cases L with
   | nil=>simp at hL;omega
   | cons e L=>have:=w.mem e (by simp);simp[eds] at this
theorem Zew{n:Nat}{l:List Z1}(hl:Z0j n l){k:Nat}(hk0:0 < k)(hk:k<=1000)(hc:Cyc (· ∈ eds l) k)(hle:Z6i (· ∈ eds l) k):∃ out,Z05 n l (k:Int)=some out/\CfOK l k out:=by
 obtain⟨out,ho,h⟩:=Zdo hl hk0 hk;rcases h with⟨_,hf⟩|h
 ·obtain⟨u,L,w,hL,hs⟩:=hc;obtain⟨j,hj,hno⟩:=Zbq hk0 hle l.length 0 (u:=u) (L:=L) (by omega) (by simpa using w) hL hs;exact absurd (hf j hj) hno
 exact⟨out,ho,h⟩
theorem Zh9{n:Nat}{l:List Z1}(hl:Z0j n l){K:Int}(hK:K<=3000000){x:List Int}(hx:Bd n K x):Z2a l x=some (l.foldl chF (false,x)):=by
 have hn:=hl.n2
 have hlen:=hl.len
 have:=ZF (step:=Z2F l) l (by omega) (fun i (s:Bool × List Int)=>(s.1,i,s.2)) (fun s b=>.inr (chF s b)) (fun s=>(s.2,s.1)) (fun i s=>Bd n (K+i) s.2) (s0:=(false,x)) (by simpa using hx)
  (fun i hi s hs=>.inr ⟨_,rfl,by
   have hb:=hl.bd _ (List.getElem_mem hi)
   unfold Z2F
   dsimp only
   rw[if_pos (by simpa using hi),Zc hi,wr64 (x:=(i:Int)+1) (by omega)]
   simp only[Option.bind_some]
   generalize l[i]=b at hb
   have hs1:=hs.1
   have h1:=hs.2 b.I.toNat (by omega)
   have h2:=hs.2 b.J.toNat (by omega)
   rw[Z0v hb.1 (by omega),Z0v hb.2.2.1 (by omega)]
   simp only[Option.bind_some]
   rw[if_pos (by rw[decide_eq_true_eq];omega),wr64 (x:=s.2.getD b.I.toNat 0+b.C) (by omega)]
   by_cases q:s.2.getD b.I.toNat 0+b.C < s.2.getD b.J.toNat 0
   ·have e1:chF s b=(true,s.2.set b.J.toNat (s.2.getD b.I.toNat 0+b.C)):=by unfold chF ed;rw[if_pos q]
    simp only[q,decide_true,Option.bind_some,if_true]
    rw[Z4U _ hb.2.2.1 (by omega),e1]
    rfl
   ·have e1:chF s b=s:=by unfold chF ed;rw[if_neg q]
    simp only[q,decide_false,Option.bind_some,Bool.false_eq_true,if_false]
    rw[e1],by
   rw[ZbI]
   have:=ZdL hl (List.getElem_mem hi) hs
   rw[show K+((i+1:Nat):Int)=K+(i:Int)+1 by omega]
   exact this⟩)
  (fun s hs=>by unfold Z2F;rw[if_neg (by simp)])
 rw[Z6e] at this
 unfold Z2a Z4l
 rw[this]
 simp only[Option.bind_some,id]
 rw[if_pos (by rw[Z6B,ZbP])]
theorem Zh0{n:Nat}{l:List Z1}(hl:Z0j n l):Z58 n l=some 0:=by
 have hlen:=hl.len
 have hn:=hl.n2
 have hn1:=hl.n1
 unfold Z58
 have a1:¬ (n:Int) < 1:=by omega
 have a2:¬ (512:Int) < (n:Int):=by omega
 simp only[a1,a2,decide_false,Bool.false_eq_true,if_false,Option.bind_some]
 rw[if_neg (by simp;omega)]
 obtain⟨e,he,hp⟩:=Z4q (step:=Z3B n l) l.length (by omega) (fun _=>True) (fun e=>e=.inr ()) trivial (fun i hi _=>by
  have hb:=hl.bd _ (List.getElem_mem hi)
  unfold Z3B
  rw[if_pos (by simpa using hi),Zc hi,wr64 (x:=(i:Int)+1) (by omega)]
  simp only[Option.bind_some]
  have b1:¬ l[i].I < 0:=by omega
  have b2:¬ (n:Int)<=l[i].I:=by omega
  have b3:¬ l[i].J < 0:=by omega
  have b4:¬ (n:Int)<=l[i].J:=by omega
  have b5:¬ l[i].C < -1099511627776:=by omega
  have b6:¬ 1099511627776 < l[i].C:=by omega
  simp only[b1,b2,b3,b4,b5,b6,decide_false,Bool.false_eq_true,if_false,Option.bind_some]
  exact .inl ⟨by first|rfl|trivial,trivial⟩) (fun _=>by
  unfold Z3B
  exact⟨_,by rw[if_neg (by simp)],rfl⟩)
 rw[he,hp]
 rfl
theorem Zha{n:Nat}{l:List Z1}(hl:Z0j n l):(Z3M (· ∈ eds l)/\Z32 n l=some (sol n l,[],0)/\Z0m n l=some (sol n l,[],0))\/(¬ Z3M (· ∈ eds l)/\∃ k out,Z32 n l=some ([],out,16)/\Z0m n l=some ([],out,16)/\0 < k/\k<=n/\CfOK l k out):=by
 have hn:=hl.n2
 have hn1:=hl.n1
 obtain⟨e,he,hp1,hp2⟩:=ZD (step:=Z4P n l) (fun x=>∃ i:Nat,x.1=i/\i<=n/\x.2=rnds (eds l) (x0 n) i/\(Z3M (· ∈ eds l)->i<=n - 1)) (fun x=>n - x.1.toNat) (fun e=>(Z3M (· ∈ eds l)->e=.inl (sol n l))/\(¬ Z3M (· ∈ eds l)->e=.inr ())) (x:=(0,x0 n)) ⟨0,rfl,by omega,rfl,fun _=>by omega⟩ (by dsimp only;omega) (by
  rintro⟨x,y⟩ ⟨i,h1,h2,h3,h4⟩
  dsimp only at h1 h3
  subst h1 h3
  unfold Z4P
  dsimp only
  by_cases q:i < n
  ·rw[if_pos (by simpa using q),Zh9 hl (by omega) (Z9R hl i),wr64 (x:=(i:Int)+1) (by omega)]
   simp only[Option.bind_some]
   cases hc:(l.foldl chF (false,rnds (eds l) (x0 n) i)).1 with
   | true =>
    left
    simp only[if_true]
    refine⟨_,rfl,⟨i+1,by simp,by omega,by dsimp only;rw[Z6B];rfl,fun hno=>?_⟩,by dsimp only;omega⟩
    have h5:=h4 hno
    by_cases hin:i=n - 1
    ·exfalso
     subst hin
     have:=(Z6T l _).2 (Z8F hl hno)
     unfold sol at this
     rw[this] at hc
     cases hc
    ·omega
   | false =>
    right
    simp only[Bool.false_eq_true,if_false]
    have hh:=(Z6T l _).1 hc
    have hno:Z3M (· ∈ eds l):=Zat (fun v=>(rnds (eds l) (x0 n) i).getD v 0) fun e he=>hh e he
    refine⟨_,rfl,fun _=>?_,fun h=>absurd hno h⟩
    rw[Z6B,Z8D _ _ hh]
    unfold sol
    have:=Z9w hh (n - 1 - i)
    rw[show i+(n - 1 - i)=n - 1 by have:=h4 hno;omega] at this
    rw[this]
  ·right
   obtain rfl:i=n:=by omega
   rw[if_neg (by simp)]
   exact⟨_,rfl,fun hno=>by have:=h4 hno;omega,fun _=>rfl⟩)
 have hs:Z32 n l=e.elim (fun x=>some (x,[],0)) (fun _=>(iter (Z3C n l) 1).bind fun e84=>some ([],e84,16)):=by
  unfold Z32
  rw[Zh0 hl,Z5O 8 n _ (by omega) (by omega)]
  simp only[Option.bind_some,bne_self_eq_false,Bool.false_eq_true,if_false]
  rw[show List.replicate n (0:Int)=x0 n from rfl,he]
  simp only[Option.bind_some]
  cases e<;>rfl
 rcases ZaE hl with⟨hno,hd⟩|⟨hneg,_⟩
 ·left
  refine⟨hno,?_,hd⟩
  rw[hs,hp1 hno]
  rfl
 ·right
  refine⟨hneg,?_⟩
  obtain⟨k,hk,k0,kn,kc,kl⟩:=Za9 hl hneg
  obtain⟨out,ho,hco⟩:=Zew hl k0 (by omega) kc kl
  refine⟨k,out,?_,?_,k0,kn,hco⟩
  ·rw[hs,hp2 hneg]
   have hloop:iter (Z3C n l) 1=some out:=by
    refine Z0T (fun x e=>∃ c:Nat,x=(c:Int)/\1<=c/\c<=k/\e=out) (fun x=>k - x.toNat) ?_ (x:=1) ⟨1,rfl,by omega,by omega,rfl⟩ (by omega)
    rintro x e ⟨c,rfl,h1,h2,rfl⟩
    unfold Z3C
    rw[ZdX hl h1 (by omega)]
    by_cases q:c=k
    ·subst q
     right
     rw[ho]
     simp only[Option.bind_some]
     rw[if_pos (by rw[decide_eq_true_eq,hco.len];omega)]
    ·left
     obtain⟨o2,ho2,h3⟩:=Za6 hl h1 (by omega)
     rcases h3 with rfl|h3
     ·rw[ho2]
      simp only[Option.bind_some]
      rw[if_neg (by simp),wr64 (x:=(c:Int)+1) (by omega)]
      exact⟨_,rfl,⟨c+1,by simp,by omega,by omega,by first|rfl|trivial⟩,by omega⟩
     ·exfalso
      obtain⟨u,hw⟩:=h3.cyc
      exact kl c (by omega) ⟨u,_,hw,by rw[List.length_map,h3.len],h3.neg⟩
   simp only[Sum.elim_inr]
   rw[hloop]
   rfl
  ·obtain⟨r,hr,hc⟩:=ZdZ hl
   rcases hc with⟨h1,_⟩|⟨_,h2⟩
   ·exact absurd h1 hneg
   ·unfold Z0m
    rw[Zb4 hl,Z5O 8 n _ (by omega) (by omega)]
    simp only[Option.bind_some,bne_self_eq_false,Bool.false_eq_true,if_false]
    rw[show List.replicate n (0:Int)=x0 n from rfl,hr]
    simp only[Option.bind_some]
    rw[h2,hk]
    simp only[Bool.false_eq_true,if_false,Option.bind_some]
    rw[ho]
    rfl
def rdR (r:Int)(d:Bool):Option Bool:=((Z25 r).bind fun r92=>(if r92 then(if d then((Z5p r).bind fun r96=>(some (!r96))) else(some false)) else(some true)))
theorem ZkD:∀ r:Fin 256,(Z13 ((r.val:Nat):Int) true=(rdR ((r.val:Nat):Int) true).map fun b=>if b then 13 else 0)/\(Z13 ((r.val:Nat):Int) false=(rdR ((r.val:Nat):Int) false).map fun b=>if b then 13 else 0):=by decide +kernel
theorem Zj2(r:Int)(h0:0<=r)(h1:r<=255)(d:Bool):Z13 r d=(rdR r d).map fun b=>if b then 13 else 0:=by
 have:=ZkD ⟨r.toNat,by omega⟩;simp only[Int.toNat_of_nonneg h0] at this;cases d
 ·exact this.2
 exact this.1
theorem Zbm(r:Z3):Z3Y r=Z1Q r:=by
 unfold Z3Y Z1Q
 rw[Z5e,Z1w]
 simp only[Option.bind_some,Zfa]
 cases isNm r.Name with
 | false=>rfl
 | true =>
  simp only[if_true]
  generalize IntKind.i64.wrap (15 - r.Top)=a
  generalize IntKind.i64.wrap (32 - r.Left)=b
  have hal:(if(r.Align != 1) then(if(r.Align != 2) then(if(r.Align != 3) then(some 3) else(some 0)) else(some 0)) else(some 0):Option Int)=(if(decide (r.Align < 1)) then(some 3) else(if(decide (3 < r.Align)) then(some 3) else(some 0))):=by
   by_cases q1:r.Align < 1
   ·have:r.Align≠1/\r.Align≠2/\r.Align≠3:=by omega
    simp[q1,this]
   ·by_cases q2:3 < r.Align
    ·have:r.Align≠1/\r.Align≠2/\r.Align≠3:=by omega
     simp[q1,q2,this]
    ·have:r.Align=1\/r.Align=2\/r.Align=3:=by omega
     rcases this with h|h|h<;>simp[h]
  rw[hal]
  by_cases h1:r.Top < 0
  ·have:¬ 0<=r.Top:=by omega
   simp[h1,this]
  ·have e1:0<=r.Top:=by omega
   by_cases h2:14 < r.Top
   ·have:¬ r.Top<=14:=by omega
    simp[h1,h2,this]
   ·have e2:r.Top<=14:=by omega
    by_cases h3:r.Height < 1
    ·have:¬ 1<=r.Height:=by omega
     simp[h1,h2,h3,e1,e2,this]
    ·have e3:1<=r.Height:=by omega
     by_cases h4:a < r.Height
     ·have:¬ r.Height<=a:=by omega
      simp[h1,h2,h3,h4,e1,e2,e3,this]
     ·have e4:r.Height<=a:=by omega
      by_cases h5:r.Left < 0
      ·have:¬ 0<=r.Left:=by omega
       simp[h1,h2,h3,h4,h5,e1,e2,e3,e4,this]
      ·have e5:0<=r.Left:=by omega
       by_cases h6:31 < r.Left
       ·have:¬ r.Left<=31:=by omega
        simp[h1,h2,h3,h4,h5,h6,e1,e2,e3,e4,e5,this]
       ·have e6:r.Left<=31:=by omega
        by_cases h7:r.Width < 1
        ·have:¬ 1<=r.Width:=by omega
         simp[h1,h2,h3,h4,h5,h6,h7,e1,e2,e3,e4,e5,e6,this]
        ·have e7:1<=r.Width:=by omega
         by_cases h8:b < r.Width
         ·have:¬ r.Width<=b:=by omega
          simp[h1,h2,h3,h4,h5,h6,h7,h8,e1,e2,e3,e4,e5,e6,e7,this]
         ·have e8:r.Width<=b:=by omega
          simp[h1,h2,h3,h4,h5,h6,h7,h8,e1,e2,e3,e4,e5,e6,e7,e8]
theorem Zh4:Z3d=Z0S:=by
 have:Z3i=Z0P:=by
  funext l x
  unfold Z3i Z0P
  simp only[Zbm]
 funext l
 unfold Z3d Z0S
 rw[this]
 rfl
theorem Zh3:Z6t=Z2c:=rfl
theorem ZdK(a b:Z0):Z4C a b=some (ltE a b):=by
 unfold Z4C ltE;by_cases h1:a.Span.In < b.Span.In<;>by_cases h2:a.Span.In=b.Span.In<;>simp[h1,h2]
theorem Z9F{α:Type}{l:List α}{n:Int}{y:α}(h:atI l n=some y):y ∈ l:=by
 unfold atI at h;split at h
 ·exact List.mem_of_getElem? h
 cases h
theorem Zbu(s:List UInt8)(h:s.length<=1048576):Z0d s=ZT s:=by
 rw[Z3K s (by omega),Z0K s (by omega)]
theorem Zd0(r:Z6)(h:RowZ r):Z52 r=Z0J r:=by
 have:Z4M r=Z0D r:=by
  funext x
  unfold Z4M Z0D
  by_cases hx:x < (r.Runs.length:Int)
  ·rw[if_pos (by simpa using hx),if_pos (by simpa using hx)]
   cases hy:atI r.Runs x with
   | none=>rfl
   | some y =>
    have hz:=h y (Z9F hy)
    simp only[Option.bind_some]
    rw[Zbu _ hz.1,Zbu _ hz.2]
    cases ZT y.Text with
    | none=>rfl
    | some b =>
     simp only[Option.bind_some,Z66,Z42]
     cases b with
     | false=>rfl
     | true =>
      simp only[if_true]
      split
      ·rfl
      ·split
       ·cases ZT y.Ruby with
        | none=>rfl
        | some b2 =>
         simp only[Option.bind_some]
         cases b2 with
         | false=>rfl
         | true =>
          simp only[if_true]
          by_cases q:0 < x
          ·rw[if_pos (by simpa using q),if_pos (by simpa using q)]
           cases atI r.Runs (IntKind.i64.wrap (x - 1)) with
           | none=>rfl
           | some w=>rfl
          ·rw[if_neg (by simpa using q),if_neg (by simpa using q)]
           rfl
       ·rfl
  ·rw[if_neg (by simpa using hx),if_neg (by simpa using hx)]
 unfold Z52 Z0J
 rw[this]
 rfl
theorem rcF:∀ (fuel pos:Nat) (s:List UInt8),s.length<=pos+fuel->Lib.runeCountFrom ⟨s.toArray⟩ fuel pos=(rnL (s.drop pos)).length
 | 0,pos,s,h=>by rw[Z7m (by omega)];rfl
 | fuel+1,pos,s,h=>by
  have hsz:(⟨s.toArray⟩:ByteArray).size=s.length:=Z5m s
  unfold Lib.runeCountFrom
  rw[hsz]
  by_cases hp:pos < s.length
  ·rw[if_pos hp,ZbK s pos hp,Z9u hp]
   have hw:=Z6Y hp
   have:=rcF fuel (pos+Z0q s pos) s (by omega)
   unfold Z0q at this
   rw[this,List.length_cons]
   unfold Z0q
   omega
  ·rw[if_neg hp,Z7m (by omega)];rfl
theorem rcL(s:List UInt8):Lib.runeCountL s=(rnL s).length:=by
 unfold Lib.runeCountL Lib.runeCount;rw[rcF _ 0 s (by rw[Z5m];omega),List.drop_zero]
theorem ZfJ(s:List UInt8)(h:s.length<=1048576):Z5Z s=Z2Z s:=by
 unfold Z5Z Z2Z
 rw[Z3K s (by omega),Z0K s (by omega)]
 simp only[Option.bind_some]
 cases gv s with
 | false=>rfl
 | true =>
  simp only[if_true,Z0U]
  rw[if_pos (by omega),Zea s h,rcL]
  rfl
theorem Zaa(r:Z6)(h:RowZ r):Z4o r=Z1U r:=by
 have:Z5N r=Z3s r:=by
  funext x
  unfold Z5N Z3s
  by_cases hx:x.2 < (r.Runs.length:Int)
  ·rw[if_pos (by simpa using hx),if_pos (by simpa using hx)]
   cases hy:atI r.Runs x.2 with
   | none=>rfl
   | some y =>
    have hz:=h y (Z9F hy)
    simp only[Option.bind_some]
    rw[ZfJ _ hz.1]
  ·rw[if_neg (by simpa using hx),if_neg (by simpa using hx)]
 unfold Z4o Z1U
 rw[this]
 rfl
def plS (r:Z6):List UInt8:=(r.Runs.map (·.Text)).flatten
theorem ZaA{α β:Type}(f:α->List β):∀ (L:List α) (s:List β),runF (fun s y=>(.inr (s++f y):List β ⊕ List β)) id s L=s++(L.map f).flatten
 | [],s=>by simp[runF]
 | y::t,s=>by simp only[runF];rw[ZaA f t];simp
theorem Zgw(s:List UInt8):ZR (toI s)=s:=by
 unfold ZR toI;rw[List.map_map];conv=>rhs;rw[<- List.map_id s]
 refine List.map_congr_left fun b _=>?_;simp
theorem Zek:∀ (l:List (List UInt8)),ZR (l.map toI).flatten=l.flatten
 | []=>rfl
 | s::t=>by
  have:=Zek t
  unfold ZR at this ⊢
  simp only[List.map_cons,List.flatten_cons,List.map_append,this]
  congr 1
  exact Zgw s
theorem Z8u(r:Z6)(h:RowZ r)(h16:r.Runs.length<=16):Z2e r=some (plS r):=by
 have:=ZF (step:=Z1E r) r.Runs (by omega) (fun i (s:List Int)=>(i,s)) (fun s y=>.inr (s++toI y.Text)) id (fun i s=>s.length<=i * 1048576) (s0:=[]) (by simp)
  (fun i hi s hs=>.inr ⟨_,rfl,by
   have hz:=h _ (List.getElem_mem hi)
   unfold Z1E
   dsimp only
   rw[if_pos (by simpa using hi),Zc hi,wr64 (x:=(i:Int)+1) (by omega)]
   simp only[Option.bind_some]
   rw[if_pos (by omega)],by
   have hz:=h _ (List.getElem_mem hi)
   simp only[List.length_append,toI,List.length_map]
   omega⟩)
  (fun s hs=>by unfold Z1E;dsimp only;rw[if_neg (by simp)];rfl)
 rw[ZaA (fun y:Zd=>toI y.Text),List.nil_append] at this
 unfold Z2e
 rw[this]
 simp only[Option.bind_some,plS]
 rw[<- Zek,List.map_map]
 rfl
theorem Zcc(r:Z6)(h:RowZ r)(h16:r.Runs.length<=16):Z3X r=some (plS r):=by
 have:=ZF (step:=Z3x r) r.Runs (by omega) (fun i (s:List UInt8)=>(s,i)) (fun s y=>.inr (s++y.Text)) id (fun i s=>s.length<=i * 1048576) (s0:=[]) (by simp)
  (fun i hi s hs=>.inr ⟨_,rfl,by
   have hz:=h _ (List.getElem_mem hi)
   unfold Z3x
   dsimp only
   rw[if_pos (by simpa using hi),Zc hi,wr64 (x:=(i:Int)+1) (by omega)]
   simp only[Option.bind_some]
   rw[if_pos (by omega)],by
   have hz:=h _ (List.getElem_mem hi)
   simp only[List.length_append]
   omega⟩)
  (fun s hs=>by unfold Z3x;dsimp only;rw[if_neg (by simp)];rfl)
 rw[ZaA (fun y:Zd=>y.Text),List.nil_append] at this
 unfold Z3X
 rw[this]
 rfl
theorem Z9M(r:Z6)(h:RowZ r)(h16:r.Runs.length<=16):(plS r).length<=16777216:=by
 obtain⟨s,hs,hl⟩:=Z9q r h h16;rw[Z8u r h h16] at hs;injection hs with hs;subst hs;exact hl
theorem ZiW(s:List UInt8):Lib.contains s [32,32]=true ↔ ∃ j,∃ h:j+1 < s.length,s[j]=32/\s[j+1]=32:=by
 have occ:∀ j,Lib.occAt s [32,32] j=true ↔ ∃ h:j+1 < s.length,s[j]=32/\s[j+1]=32:=by
  intro j
  unfold Lib.occAt
  rw[List.isPrefixOf_iff_prefix]
  constructor
  ·rintro⟨t,ht⟩
   have hl:=congrArg List.length ht
   simp at hl
   have h0:=congrArg (fun l=>l[0]?) ht
   have h1:=congrArg (fun l=>l[1]?) ht
   simp only[List.getElem?_drop,List.cons_append,List.nil_append,List.getElem?_cons_zero,List.getElem?_cons_succ,Nat.add_zero] at h0 h1
   rw[List.getElem?_eq_getElem (by omega)] at h0 h1
   injection h0 with h0
   injection h1 with h1
   exact⟨by omega,h0.symm,h1.symm⟩
  ·rintro⟨h,h0,h1⟩
   refine⟨s.drop (j+2),?_⟩
   rw[List.drop_eq_getElem_cons (show j < s.length by omega),List.drop_eq_getElem_cons (show j+1 < s.length by omega),h0,h1]
   rfl
 unfold Lib.contains
 rcases Lib.index_spec s [32,32] with⟨h1,h2⟩|⟨i,h1,_,h3,_⟩
 ·rw[h1]
  constructor
  ·intro h;simp at h
  ·rintro⟨j,h,h0,h4⟩
   have:=h2 j (by omega)
   rw[(occ j).2 ⟨h,h0,h4⟩] at this
   cases this
 ·rw[h1]
  constructor
  ·intro _;exact⟨i,(occ i).1 h3⟩
  ·intro _;simp
def unT (s:List UInt8):Bool:=match s with
 | []=>true
 | b::t=>b == 32||(b::t).getLastD 0 == 32||Lib.contains (b::t) [32,32]
theorem bn32(b:UInt8):((b.toNat:Int) == 32)=(b == 32):=by
 rw[Bool.eq_iff_iff,beq_iff_eq,beq_iff_eq];constructor
 ·intro h;exact UInt8.toNat_inj.1 (by simpa using(show b.toNat=32 by omega))
 rintro rfl;rfl
theorem ZgO(b:UInt8)(t:List UInt8)(h:(b::t).length<=16777216):atI (b::t) (IntKind.i64.wrap (((b::t).length:Int) - 1))=some ((b::t).getLastD 0):=by
 rw[wr64 (by omega),show(((b::t).length:Int) - 1)=((t.length:Nat):Int) by simp,Zc (show t.length < (b::t).length by simp)];congr 1;rw[List.getLastD_eq_getLast?,List.getLast?_eq_getElem?];simp
theorem Zjy(s:List UInt8)(hl:s.length<=16777216):Z5C s=some (!unT s):=by
 unfold Z5C
 cases s with
 | nil=>rfl
 | cons b t =>
  rw[if_neg (by simp),show atI (b::t) 0=some b from rfl,ZgO b t hl]
  simp only[Option.bind_some,bn32,unT]
  cases h1:(b == 32) with
  | true=>simp
  | false =>
   simp only[Bool.false_eq_true,if_false,Option.bind_some,Bool.false_or]
   cases h2:((b::t).getLastD 0 == 32) with
   | true=>simp
   | false =>
    simp only[Bool.false_eq_true,if_false,Bool.false_or]
    generalize hs:b::t=s at *
    obtain⟨e,he,hp⟩:=ZD (step:=Z5q s) (fun x=>1<=x/\x<=(s.length:Int)/\∀ j:Nat,((j+1:Nat):Int) < x->∀ (h:j+1 < s.length),¬ (s[j]=32/\s[j+1]=32)) (fun x=>s.length - x.toNat) (fun e=>(match e with|.inl _=>Lib.contains s [32,32]=true|.inr _=>Lib.contains s [32,32]=false)) (x:=1) ⟨by omega,by rw[<- hs];simp only[List.length_cons];omega,fun j h=>by omega⟩ (by omega) (by
     rintro x ⟨q1,q2,q3⟩
     obtain⟨i,rfl⟩:=Int.eq_ofNat_of_zero_le (show 0<=x by omega)
     unfold Z5q
     by_cases hi:i < s.length
     ·rw[if_pos (by simpa using hi),Zc hi,wr64 (x:=(i:Int)+1) (by omega),wr64 (x:=(i:Int) - 1) (by omega),show((i:Int) - 1)=((i - 1:Nat):Int) by omega,Zc (show i - 1 < s.length by omega)]
      simp only[Option.bind_some,bn32]
      have step:¬ (s[i - 1]=32/\s[i]=32)->(1<=(i:Int)+1/\(i:Int)+1<=(s.length:Int)/\∀ j:Nat,((j+1:Nat):Int) < (i:Int)+1->∀ (h:j+1 < s.length),¬ (s[j]=32/\s[j+1]=32)):=by
       intro hn
       refine⟨by omega,by omega,fun j hj h=>?_⟩
       rcases Nat.lt_or_ge (j+1) i with h4|h4
       ·exact q3 j (by omega) h
       ·obtain rfl:i=j+1:=by omega
        exact hn
      by_cases h5:s[i]=32
      ·by_cases h6:s[i - 1]=32
       ·right
        refine⟨.inl (),by simp[h5,h6],?_⟩
        exact(ZiW s).2 ⟨i - 1,by omega,h6,by rw[<- h5];congr 1;omega⟩
       ·left
        exact⟨_,by simp[h5,h6],step (fun h=>h6 h.1),by omega⟩
      ·left
       exact⟨_,by simp[h5],step (fun h=>h5 h.2),by omega⟩
     ·right
      refine⟨.inr (),by rw[if_neg (by simpa using hi)],?_⟩
      rw[Bool.eq_false_iff]
      intro hc
      obtain⟨j,h,hj⟩:=(ZiW s).1 hc
      exact q3 j (by omega) h hj)
    rw[he]
    cases e with
    | inl _=>simp only at hp;simp[hp]
    | inr _=>simp only at hp;simp[hp]
theorem Zk5(s:List UInt8)(hl:s.length<=16777216):(if(s == ([]:List UInt8)) then(some true) else((atI s 0).bind fun b33=>(if((b33.toNat:Int) == 32) then(some true) else((atI s (IntKind.i64.wrap ((s.length:Int) - 1))).bind fun b36=>(if((b36.toNat:Int) == 32) then(some true) else((Z1R s [32,32]).bind fun r39=>(some r39)))))))=some (unT s):=by
 cases s with
 | nil=>rfl
 | cons b t =>
  rw[if_neg (by simp),show atI (b::t) 0=some b from rfl,ZgO b t hl]
  simp only[Option.bind_some,bn32,unT,Z1R]
  rw[if_pos (show(b::t).length < 4294967281 by omega)]
  simp only[Option.bind_some]
  cases h1:(b == 32)<;>cases h2:((b::t).getLastD 0 == 32)<;>simp
def erR (r:Z6):Int:=(Z3n r).getD 0
def lnR (r:Z6):Int:=(Z1U r).getD 0
theorem Zkk(r:Z6)(h:RowZ r):Z3n r=some (erR r)/\(erR r=0->r.Runs.length<=16):=by
 obtain⟨v,hv,h2⟩:=Zfq r h;unfold erR;rw[hv];exact⟨rfl,h2⟩
theorem Zbc(r:Z6)(h:RowZ r)(hr:r.Runs.length<=1048576):Z1U r=some (lnR r):=by
 obtain⟨v,hv⟩:=Z8H r h hr;unfold lnR;rw[hv];rfl
theorem wadd(a b:Int):IntKind.i64.wrap (IntKind.i64.wrap a+b)=IntKind.i64.wrap (a+b):=by
 simp only[IntKind.wrap,IntKind.bits,IntKind.signed];simp only[Bool.true_and,decide_eq_true_eq];(repeat' split)<;>first|omega|(simp at *;omega)
theorem Zj6(a b:Int):IntKind.i64.wrap (a+IntKind.i64.wrap b)=IntKind.i64.wrap (a+b):=by
 rw[Int.add_comm,wadd,Int.add_comm]
theorem ZdQ(r:Z3)(l:List Int):Z54 r l=Z2s r l:=by
 have hu:Z4B r=Z1n r:=by
  unfold Z4B Z1n
  obtain⟨v,hv⟩:=Z7A r
  rw[Zbm,hv,show Z4g=Z1C from rfl]
  unfold Z1C
  simp only[Option.bind_some]
  generalize (r.Name == ([]:List UInt8)&&_)=b1
  generalize (v == 0)=b2
  cases b1<;>cases b2<;>rfl
 have h1:r.Bottom=true->Z2q r l=Z1k r l:=by
  intro hb
  funext x
  unfold Z2q Z1k
  simp only[hb,if_true]
  by_cases hx:x.2 < (l.length:Int)
  ·rw[if_pos (by simpa using hx),if_pos (by simpa using hx)]
   cases atI l x.2 with
   | none=>rfl
   | some y =>
    simp only[Option.bind_some]
    have e1:IntKind.i64.wrap (IntKind.i64.wrap (r.Top+x.2)+IntKind.i64.wrap (r.Height - (l.length:Int)))=IntKind.i64.wrap (IntKind.i64.wrap (r.Top+IntKind.i64.wrap (r.Height - (l.length:Int)))+x.2):=by
     generalize r.Height - (l.length:Int)=z
     have a1:=wadd (r.Top+x.2) (IntKind.i64.wrap z)
     have a2:=Zj6 (r.Top+x.2) z
     have a3:=wadd (r.Top+IntKind.i64.wrap z) x.2
     have a4:=Zj6 (r.Top+x.2) z
     rw[a1,a3,show r.Top+IntKind.i64.wrap z+x.2=r.Top+x.2+IntKind.i64.wrap z by omega]
    simp only[e1]
    by_cases hc:(x.1.length+1) * 24<=140737488355328<;>simp only[hc,if_true,if_false]<;>generalize decide (y < 0)=b1<;>generalize decide (r.Width < y)=b2<;>generalize (r.Align == 3)=b3<;>generalize (r.Align == 2)=b4<;>cases b1<;>cases b2<;>cases b3<;>cases b4<;>rfl
  ·rw[if_neg (by simpa using hx),if_neg (by simpa using hx)]
 have h2:r.Bottom=false->Z2q r l=Z1l r l:=by
  intro hb
  funext x
  unfold Z2q Z1l
  simp only[hb,Bool.false_eq_true,if_false]
  by_cases hx:x.2 < (l.length:Int)
  ·rw[if_pos (by simpa using hx),if_pos (by simpa using hx)]
   cases atI l x.2 with
   | none=>rfl
   | some y =>
    simp only[Option.bind_some]
    by_cases hc:(x.1.length+1) * 24<=140737488355328<;>simp only[hc,if_true,if_false]<;>generalize decide (y < 0)=b1<;>generalize decide (r.Width < y)=b2<;>generalize (r.Align == 3)=b3<;>generalize (r.Align == 2)=b4<;>cases b1<;>cases b2<;>cases b3<;>cases b4<;>rfl
  ·rw[if_neg (by simpa using hx),if_neg (by simpa using hx)]
 unfold Z54 Z2s
 rw[hu]
 cases Z1n r with
 | none=>rfl
 | some u =>
  simp only[Option.bind_some]
  cases u with
  | false=>rfl
  | true =>
   simp only[if_true]
   split
   ·rfl
   ·cases hb:r.Bottom with
    | true=>rw[h1 hb];rfl
    | false=>rw[h2 hb];rfl
theorem ZgN(k:Int):∃ v,Z18 k=some v/\(v == ([]:List UInt8))=(decide (k < 1)||decide (4 < k)):=by
 unfold Z18;by_cases h1:k < 1
 ·exact⟨[],by simp[h1],by simp[h1]⟩
 by_cases h2:4 < k
 ·exact⟨[],by simp[h1,h2],by simp[h2]⟩
 simp only[h1,h2,decide_false,Bool.false_eq_true,if_false,Option.bind_some];have:k=1\/k=2\/k=3\/k=4:=by omega
 rcases this with rfl|rfl|rfl|rfl<;>exact⟨_,rfl,rfl⟩
theorem Zdw(y:Z6)(h:RowZ y)(hr:y.Runs.length<=1048576):∃ v,Z0J y=some v/\erR y=(if v≠0 then v else if unT (plS y) then 4 else if 32 < lnR y then 11 else 0)/\(v=0->y.Runs.length<=16):=by
 obtain⟨v,hv,h16⟩:=Z9z y h;refine⟨v,hv,?_,h16⟩;unfold erR Z3n;rw[hv];simp only[Option.bind_some];by_cases h0:v=0
 ·have hl:=h16 h0;rw[if_neg (by simpa using h0),if_neg (by simpa using h0),Z8u y h hl,Zbc y h hr];simp only[Option.bind_some];rw[Zk5 _ (Z9M y h hl)];simp only[Option.bind_some];cases unT (plS y)
  ·by_cases q:32 < lnR y<;>simp[q]
  rfl
 rw[if_pos (by simpa using h0),if_pos (by simpa using h0)];rfl
theorem Zck(e:Z0)(h:EvZ e):iter (Z00 e) 0=some (runF (fun(_:Unit) y=>if erR y≠0 then .inl (.inl (erR y)) else .inr ()) (fun _=>(.inr ():Int ⊕ Unit)) () e.Rows) :=
 ZF (step:=Z00 e) e.Rows (by have:=h.1;omega) (fun i (_:Unit)=>i) (fun _ y=>if erR y≠0 then .inl (.inl (erR y)) else .inr ()) (fun _=>(.inr ():Int ⊕ Unit)) (fun _ _=>True) (s0:=()) trivial
  (fun i hi s _=>by
   have hz:=h.2 _ (List.getElem_mem hi)
   have hn:=h.1
   have hst:Z00 e (i:Int)=if(erR e.Rows[i] != 0)=true then some (.out (.inl (erR e.Rows[i]))) else some (.go ((i:Int)+1)):=by
    unfold Z00
    rw[if_pos (by simpa using hi),Zc hi,wr64 (x:=(i:Int)+1) (by omega)]
    simp only[Option.bind_some]
    rw[(Zkk _ hz.1).1]
    rfl
   rw[hst]
   by_cases q:erR e.Rows[i]=0
   ·exact .inr ⟨(),by simp[q],by simp[q],trivial⟩
   ·exact .inl ⟨_,by rw[if_pos q],by rw[if_pos (by simpa using q)]⟩)
  (fun s _=>by unfold Z00;rw[if_neg (by simp)])
theorem ZaB{α β:Type}(f:α->β):∀ (L:List α) (s:List β),runF (fun s y=>(.inr (s++[f y]):List β ⊕ List β)) id s L=s++L.map f
 | [],s=>by simp[runF]
 | y::t,s=>by simp only[runF];rw[ZaB f t];simp
theorem Zc7(e:Z0)(h:EvZ e):Z1r e=some (e.Rows.map lnR):=by
 have hn:=h.1
 have:=ZF (step:=Z08 e) e.Rows (by omega) (fun i (s:List Int)=>(s,i)) (fun s y=>.inr (s++[lnR y])) id (fun i s=>s.length=i) (s0:=[]) rfl
  (fun i hi s hs=>.inr ⟨_,rfl,by
   have hz:=h.2 _ (List.getElem_mem hi)
   unfold Z08
   dsimp only
   rw[if_pos (by simpa using hi),Zc hi,wr64 (x:=(i:Int)+1) (by omega)]
   simp only[Option.bind_some]
   rw[Zbc _ hz.1 hz.2]
   simp only[Option.bind_some]
   rw[if_pos (by omega)],by simp[hs]⟩)
  (fun s hs=>by unfold Z08;dsimp only;rw[if_neg (by simp)];rfl)
 rw[ZaB] at this
 unfold Z1r
 rw[this]
 rfl
theorem Ziw(e:Z0)(h:EvZ e):iter (Z1z e) ([],0)=some (runF (fun s y=>if erR y≠0 then .inl (.inl (erR y)) else .inr (s++[lnR y])) (fun s=>(.inr s:Int ⊕ List Int)) [] e.Rows):=by
 have hn:=h.1
 refine ZF (step:=Z1z e) e.Rows (by omega) (fun i (s:List Int)=>(s,i)) (fun s y=>if erR y≠0 then .inl (.inl (erR y)) else .inr (s++[lnR y])) (fun s=>(.inr s:Int ⊕ List Int)) (fun i s=>s.length=i) (s0:=[]) rfl
  (fun i hi s hs=>?_) (fun s hs=>by unfold Z1z;dsimp only;rw[if_neg (by simp)])
 have hz:=h.2 _ (List.getElem_mem hi)
 have hst:Z1z e (s,(i:Int))=if erR e.Rows[i]≠0 then some (.out (.inl (erR e.Rows[i]))) else some (.go (s++[lnR e.Rows[i]],(i:Int)+1)):=by
  unfold Z1z
  dsimp only
  rw[if_pos (by simpa using hi),Zc hi,wr64 (x:=(i:Int)+1) (by omega)]
  simp only[Option.bind_some]
  generalize e.Rows[i]=y at hz
  obtain⟨v,h1,h2,h3⟩:=Zdw y hz.1 hz.2
  rw[Zd0 y hz.1,h1,Zaa y hz.1,Zbc y hz.1 hz.2]
  simp only[Option.bind_some]
  by_cases q:v=0
  ·rw[if_neg (by simpa using q),Zcc y hz.1 (h3 q)]
   simp only[Option.bind_some]
   rw[Zjy _ (Z9M y hz.1 (h3 q))]
   rw[if_neg (by simpa using q)] at h2
   simp only[Option.bind_some]
   have hc:(s.length+1) * 8<=140737488355328:=by omega
   cases hu:unT (plS y) with
   | true =>
    rw[hu,if_pos rfl] at h2
    rw[h2]
    rfl
   | false =>
    rw[hu,if_neg (by simp)] at h2
    by_cases q2:32 < lnR y
    ·rw[if_pos q2] at h2
     rw[h2]
     simp[q2]
    ·rw[if_neg q2] at h2
     rw[h2]
     simp[q2,hc]
  ·rw[if_pos (by simpa using q)]
   rw[if_pos q] at h2
   rw[if_pos (by rw[h2];exact q),h2]
 rw[hst]
 by_cases q:erR e.Rows[i]=0
 ·exact .inr ⟨s++[lnR e.Rows[i]],by simp[q],by simp[q],by simp[hs]⟩
 ·exact .inl ⟨.inl (erR e.Rows[i]),by simp[q],by simp[q]⟩
theorem Ze7:∀ (L:List Z6) (s:List Int),runF (fun s y=>if erR y≠0 then .inl (.inl (erR y)) else .inr (s++[lnR y])) (fun s=>(.inr s:Int ⊕ List Int)) s L=match runF (fun(_:Unit) y=>if erR y≠0 then .inl (.inl (erR y)) else .inr ()) (fun _=>(.inr ():Int ⊕ Unit)) () L with
  | .inl v=>.inl v
  | .inr _=>.inr (s++L.map lnR)
 | [],s=>by simp[runF]
 | y::t,s=>by
  by_cases q:erR y=0
  ·simp only[runF,q,ne_eq,not_true,if_false]
   rw[Ze7 t]
   simp
  ·simp only[runF,ne_eq,q,not_false_eq_true,if_true]
theorem Zjm(e:Z0)(h:EvZ e)(l:List Z3)(hl:l.length<=1048576):Z55 e l=Z0c e l:=by
 unfold Z55 Z0c
 obtain⟨f,hf⟩:=Za8 l (by omega) e.Region
 obtain⟨kn,hk,hk2⟩:=ZgN e.Kind
 rw[Zh3,hf,show Z5r=Z30 from rfl,ZaF,hk,Z1w,Z5e,Ziw e h,Zck e h,Zc7 e h,Ze7]
 simp only[Option.bind_some,hk2,List.nil_append,ZdQ]
 generalize (if decide (e.ID < 1)=true then some true else if decide (1099511627776 < e.ID)=true then some true else some !spB e.Span:Option Bool)=o1
 cases o1 with
 | none=>rfl
 | some b1 =>
  simp only[Option.bind_some]
  cases b1 with
  | true=>rfl
  | false =>
   simp only[Bool.false_eq_true,if_false]
   cases f.2 with
   | false=>rfl
   | true =>
    simp only[if_true]
    by_cases k1:e.Kind < 1
    ·simp[k1]
    ·by_cases k2:4 < e.Kind
     ·simp[k1,k2]
     ·simp only[k1,k2,decide_false,Bool.false_eq_true,if_false,Option.bind_some,Bool.or_false]
      generalize (if(e.Speaker == ([]:List UInt8))=true then some false else some !isNm e.Speaker:Option Bool)=o2
      cases o2 with
      | none=>rfl
      | some b2 =>
       simp only[Option.bind_some]
       cases b2 with
       | true=>rfl
       | false =>
        simp only[Bool.false_eq_true,if_false]
        generalize (if((e.Rows.length:Int) == 0)=true then some true else some (decide (4 < (e.Rows.length:Int))):Option Bool)=o3
        cases o3 with
        | none=>rfl
        | some b3 =>
         simp only[Option.bind_some]
         cases b3 with
         | true=>rfl
         | false =>
          simp only[Bool.false_eq_true,if_false]
          cases runF (fun(_:Unit) y=>if erR y≠0 then .inl (.inl (erR y)) else .inr ()) (fun _=>(.inr ():Int ⊕ Unit)) () e.Rows with
          | inl v=>rfl
          | inr _=>simp only[ZdQ]
def mx (n:Int):Int:=if n - 1 < 0 then 0 else n - 1
theorem ZdM{n:Int}(h:1<=n):mx n=n - 1:=by unfold mx;rw[if_neg (by omega)]
theorem mx_0{n:Int}(h:n<=0):mx n=0:=by
 unfold mx;by_cases q:n - 1 < 0
 ·rw[if_pos q]
 omega
theorem ZfN(e:Z0)(h:EvZ e):iter (Z1f (e.Rows.map lnR)) ((if 0 > (IntKind.i64.wrap ((e.Rows.length:Int) - 1)) then 0 else(IntKind.i64.wrap ((e.Rows.length:Int) - 1))),0)=some (runF (fun(s:Int) y=>if lnR y < 0 then .inl (.inl ()) else .inr (s+lnR y)) (fun s=>(.inr (IntKind.i64.wrap (mx e.Rows.length+s)):Unit ⊕ Int)) 0 e.Rows):=by
 have hn:=h.1
 have hl:(e.Rows.map lnR).length=e.Rows.length:=List.length_map ..
 have c0:(if 0 > (IntKind.i64.wrap ((e.Rows.length:Int) - 1)) then 0 else(IntKind.i64.wrap ((e.Rows.length:Int) - 1)))=IntKind.i64.wrap (mx e.Rows.length+0):=by
  rw[wr64 (x:=(e.Rows.length:Int) - 1) (by omega)]
  by_cases q:1<=(e.Rows.length:Int)
  ·rw[ZdM q,Int.add_zero,if_neg (by omega),wr64 (by omega)]
  ·rw[mx_0 (by omega),if_pos (by omega)];rfl
 rw[c0]
 refine ZF (step:=Z1f (e.Rows.map lnR)) e.Rows (by omega) (fun i (s:Int)=>(IntKind.i64.wrap (mx e.Rows.length+s),i)) (fun(s:Int) y=>if lnR y < 0 then .inl (.inl ()) else .inr (s+lnR y)) (fun s=>(.inr (IntKind.i64.wrap (mx e.Rows.length+s)):Unit ⊕ Int)) (fun _ _=>True) (s0:=0) trivial (fun i hi s _=>?_) (fun s _=>by unfold Z1f;dsimp only;rw[if_neg (by rw[hl];simp)])
 generalize mx e.Rows.length=c at *
 have hst:Z1f (e.Rows.map lnR) (IntKind.i64.wrap (c+s),(i:Int))=if decide (lnR e.Rows[i] < 0)=true then some (.out (.inl ())) else some (.go (IntKind.i64.wrap (c+s+lnR e.Rows[i]),(i:Int)+1)):=by
  unfold Z1f
  dsimp only
  rw[if_pos (by rw[hl];simpa using hi),Zc (show i < (e.Rows.map lnR).length by omega),wr64 (x:=(i:Int)+1) (by omega)]
  simp only[Option.bind_some,List.getElem_map]
  rw[wadd]
 rw[hst]
 by_cases q:lnR e.Rows[i] < 0
 ·exact .inl ⟨.inl (),by simp[q],by simp[q]⟩
 ·exact .inr ⟨s+lnR e.Rows[i],by simp[q],by simp[q,Int.add_assoc],trivial⟩
theorem ZbL(e:Z0)(h:EvZ e):iter (Z2r e) (0,0)=some (runF (fun(s:Int) y=>if lnR y < 0 then .inl (.inl ()) else .inr (s+lnR y)) (fun s=>(.inr (IntKind.i64.wrap (mx e.Rows.length+s)):Unit ⊕ Int)) 0 e.Rows):=by
 have hn:=h.1
 refine ZF (step:=Z2r e) e.Rows (by omega) (fun i (s:Int)=>(IntKind.i64.wrap (mx i+s),i)) (fun(s:Int) y=>if lnR y < 0 then .inl (.inl ()) else .inr (s+lnR y)) (fun s=>(.inr (IntKind.i64.wrap (mx e.Rows.length+s)):Unit ⊕ Int)) (fun _ _=>True) (s0:=0) trivial (fun i hi s _=>?_) (fun s _=>by unfold Z2r;dsimp only;rw[if_neg (by simp)])
 have hz:=h.2 _ (List.getElem_mem hi)
 have hst:Z2r e (IntKind.i64.wrap (mx i+s),(i:Int))=if decide (lnR e.Rows[i] < 0)=true then some (.out (.inl ())) else some (.go (IntKind.i64.wrap (mx ((i:Int)+1)+(s+lnR e.Rows[i])),(i:Int)+1)):=by
  unfold Z2r
  dsimp only
  rw[if_pos (by simpa using hi),Zc hi,wr64 (x:=(i:Int)+1) (by omega)]
  simp only[Option.bind_some]
  rw[Zaa _ hz.1,Zbc _ hz.1 hz.2]
  simp only[Option.bind_some]
  generalize lnR e.Rows[i]=v
  by_cases q:v < 0
  ·simp[q]
  ·simp only[q,decide_false,Bool.false_eq_true,if_false]
   rw[ZdM (n:=(i:Int)+1) (by omega),Int.add_sub_cancel]
   by_cases q2:0 < (i:Int)
   ·rw[if_pos (by simpa using q2),ZdM (by omega),wadd,Int.add_assoc,wadd,show(i:Int) - 1+s+(1+v)=(i:Int)+(s+v) by omega]
   ·rw[if_neg (by simpa using q2),mx_0 (by omega),wadd,show(0:Int)+s+v=(i:Int)+(s+v) by omega]
 rw[hst]
 by_cases q:lnR e.Rows[i] < 0
 ·exact .inl ⟨.inl (),by simp[q],by simp[q]⟩
 ·exact .inr ⟨s+lnR e.Rows[i],by simp[q],by simp[q],trivial⟩
theorem ZfP(e:Z0)(h:EvZ e):Z5f e=Z1T e:=by
 unfold Z5f Z1T;rw[Zc7 e h,ZbL e h];simp only[Option.bind_some];rw[ZfN e h];rfl
def ixE:List Z0->Int->Nat->Int
 | [],_,_=>-1
 | e::t,id,k=>if e.ID=id then(k:Int) else ixE t id (k+1)
theorem Z7x:∀ (l:List Z0) (id:Int) (k:Nat),((l.map (·.ID)).contains id=true->Z2g (l.map (·.ID)) ((List.range' k l.length).map Int.ofNat) id 0=ixE l id k/\0<=ixE l id k)/\((l.map (·.ID)).contains id=false->ixE l id k=-1)
 | [],id,k=>by simp[ixE]
 | e::t,id,k=>by
  have ih:=Z7x t id (k+1)
  simp only[List.map_cons,List.contains_cons,List.length_cons,List.range'_succ]
  unfold Z2g ixE
  by_cases q:e.ID=id
  ·subst q;simp
  ·rw[if_neg q,if_neg q]
   have:(id == e.ID)=false:=by simp;exact fun h=>q h.symm
   rw[this,Bool.false_or]
   exact ih
theorem Z8z(d:Z2)(hn:d.Events.length<=1048576)(id:Int):Z1s d id=some (ixE d.Events id 0):=by
 have key:=ZF (step:=Z2M d id) d.Events.zipIdx (by simp;omega) (fun i (_:Unit)=>i) (fun _ a=>if a.1.ID=id then .inl (.inl (a.2:Int)) else .inr ()) (fun _=>(.inr ():Int ⊕ Unit)) (fun _ _=>True) (s0:=()) trivial
  (fun i hi s _=>by
   have hi':i < d.Events.length:=by simpa using hi
   rw[show d.Events.zipIdx[i]=(d.Events[i],i) from by simp[List.getElem_zipIdx]]
   have hst:Z2M d id (i:Int)=if(d.Events[i].ID == id)=true then some (.out (.inl (i:Int))) else some (.go ((i:Int)+1)):=by
    unfold Z2M
    rw[if_pos (by simpa using hi'),Zc hi',wr64 (x:=(i:Int)+1) (by omega)]
    rfl
   rw[hst]
   by_cases q:d.Events[i].ID=id
   ·exact .inl ⟨.inl (i:Int),by simp[q],by simp[q]⟩
   ·exact .inr ⟨(),by simp[q],by simp[q],trivial⟩)
  (fun s _=>by unfold Z2M;rw[if_neg (by simp)])
 have hr:∀ (l:List Z0) (k:Nat),(match runF (fun(_:Unit) (a:Z0 × Nat)=>if a.1.ID=id then .inl (.inl (a.2:Int)) else .inr ()) (fun _=>(.inr ():Int ⊕ Unit)) () (l.zipIdx k) with|.inl v=>v|.inr _=>-1)=ixE l id k:=by
  intro l
  induction l with
  | nil=>intro k;rfl
  | cons e t ih =>
   intro k
   simp only[List.zipIdx_cons,runF]
   unfold ixE
   by_cases q:e.ID=id
   ·simp[q]
   ·simp only[q,if_false];exact ih (k+1)
 unfold Z1s
 rw[key,<- hr d.Events 0]
 simp only[Option.bind_some]
 generalize runF (fun(_:Unit) (a:Z0 × Nat)=>if a.1.ID=id then .inl (.inl (a.2:Int)) else .inr ()) (fun _=>(.inr ():Int ⊕ Unit)) () (d.Events.zipIdx 0)=e
 cases e<;>rfl
def mpE (l:List Z0):MI Int:=MI.mk (l.map (·.ID)) ((List.range' 0 l.length).map Int.ofNat)
theorem ZhG(d:Z2)(hd:DocZ d):ZS d (mpE d.Events)=Z3y d:=by
 funext x
 unfold ZS Z3y
 by_cases hx:x < (d.Comments.length:Int)
 ·rw[if_pos (by simpa using hx),if_pos (by simpa using hx)]
  unfold Z3j
  cases hc:atI d.Comments x with
  | none=>rfl
  | some c =>
   have hct:=hd.com c (Z9F hc)
   simp only[Option.bind_some]
   by_cases h1:c.ID < 1
   ·simp[h1]
   by_cases h2:d.Last < c.ID
   ·simp[h1,h2]
   simp only[h1,h2,decide_false,Bool.false_eq_true,if_false,Option.bind_some]
   -- what stands Z9g the order
   have rest:(if(mpE d.Events).ks.contains c.ID=true then some (.out (.inl 7)) else((ZY d c (mpE d.Events)).bind fun r=>if(r != 0)=true then some (.out (.inl r)) else((Z0N c.Author).bind fun r=>if r=true then((ZT c.Text).bind fun r=>if r=true then(if(c.Text == ([]:List UInt8))=true then some (.out (.inl 4)) else if decide (400 < (c.Text.length:Int))=true then some (.out (.inl 9)) else some (.go (IntKind.i64.wrap (x+1)))) else some (.out (.inl 10))) else some (.out (.inl 5)))):Option (Nx Int (Int ⊕ Unit))) =
     (((Z1s d c.ID).bind fun r35=>(if(decide (0<=r35)) then(some 7) else(((if(decide (c.Event < 1)) then(some true) else(some (decide (d.Last < c.Event)))):Option (Bool)).bind fun v42=>(if v42 then(some 2) else(if c.Lost then(((if(c.From != 0) then(some true) else(some (c.To != 0))):Option (Bool)).bind fun v54=>(if v54 then(some 2) else((Z0O c.Author).bind fun r93=>(if r93 then((Z0d c.Text).bind fun r100=>(if r100 then(if(c.Text == ([]:List UInt8)) then(some 4) else(if(decide (400 < (c.Text.length:Int))) then(some 9) else(some 0))) else(some 10))) else(some 5))))) else((Z1s d c.Event).bind fun r123=>(if(decide (r123 < 0)) then(some 6) else(((if(decide (c.From < 0)) then(some true) else(if(decide (c.To<=c.From)) then(some true) else((atI d.Events r123).bind fun y141=>((Z5f y141).bind fun r143=>(some (decide (r143 < c.To))))))):Option (Bool)).bind fun v137=>(if v137 then(some 2) else((Z0O c.Author).bind fun r181=>(if r181 then((Z0d c.Text).bind fun r188=>(if r188 then(if(c.Text == ([]:List UInt8)) then(some 4) else(if(decide (400 < (c.Text.length:Int))) then(some 9) else(some 0))) else(some 10))) else(some 5))))))))))):Option Int).bind fun r=>if(r != 0)=true then some (.out (.inl r)) else some (.go (IntKind.i64.wrap (x+1)))):=by
    rw[Z8z d hd.evs,Z8z d hd.evs,Z5e,Z1w,Z3K _ (by omega),Z0K _ (by omega)]
    simp only[Option.bind_some]
    have hk:=Z7x d.Events c.ID 0
    have hk2:=Z7x d.Events c.Event 0
    have hks:(mpE d.Events).ks=d.Events.map (·.ID):=rfl
    have hvs:(mpE d.Events).vs=(List.range' 0 d.Events.length).map Int.ofNat:=rfl
    rw[hks]
    cases hb:(d.Events.map (·.ID)).contains c.ID with
    | true=>simp only[decide_eq_true (hk.1 hb).2,if_true];rfl
    | false =>
     simp only[hk.2 hb,show decide ((0:Int)<=-1)=false from rfl,Bool.false_eq_true,if_false]
     unfold ZY
     rw[hks,hvs]
     have tail:∀ (r:Int),(if(r != 0)=true then some (.out (.inl r)) else(if isNm c.Author=true then(if gv c.Text=true then(if(c.Text == ([]:List UInt8))=true then some (.out (.inl 4)) else if decide (400 < (c.Text.length:Int))=true then some (.out (.inl 9)) else some (.go (IntKind.i64.wrap (x+1)))) else some (.out (.inl 10))) else some (.out (.inl 5))):Option (Nx Int (Int ⊕ Unit)))=(((if(r != 0)=true then some r else(if isNm c.Author=true then(if gv c.Text=true then(if(c.Text == ([]:List UInt8))=true then(some 4) else(if decide (400 < (c.Text.length:Int))=true then(some 9) else(some 0))) else(some 10)) else(some 5))):Option Int).bind fun r=>if(r != 0)=true then some (.out (.inl r)) else some (.go (IntKind.i64.wrap (x+1)))):=by
      intro r
      by_cases q:r=0
      ·subst q
       generalize isNm c.Author=b1
       generalize gv c.Text=b2
       generalize (c.Text == ([]:List UInt8))=b3
       generalize decide (400 < (c.Text.length:Int))=b4
       cases b1<;>cases b2<;>cases b3<;>cases b4<;>rfl
      ·rw[if_pos (by simpa using q),if_pos (by simpa using q)]
       simp only[Option.bind_some]
       rw[if_pos (by simpa using q)]
     by_cases a1:c.Event < 1
     ·simp[a1]
     by_cases a2:d.Last < c.Event
     ·simp[a1,a2]
     simp only[a1,a2,decide_false,Bool.false_eq_true,if_false,Option.bind_some]
     cases hL:c.Lost with
     | true =>
      simp only[if_true]
      by_cases a3:c.From=0
      ·by_cases a4:c.To=0
       ·simp only[a3,a4,bne_self_eq_false,Bool.false_eq_true,if_false,Option.bind_some]
        have:=tail 0
        simpa using this
       ·simp[a3,a4]
      ·simp[a3]
     | false =>
      simp only[Bool.false_eq_true,if_false]
      cases hb2:(d.Events.map (·.ID)).contains c.Event with
      | false=>simp only[hk2.2 hb2,show decide ((-1:Int) < 0)=true from rfl,Bool.false_eq_true,if_false,if_true];rfl
      | true =>
       obtain⟨k1,k2⟩:=hk2.1 hb2
       simp only[k1,decide_eq_false (Int.not_lt.2 k2),Bool.false_eq_true,if_false,if_true]
       by_cases a3:c.From < 0
       ·simp[a3]
       by_cases a4:c.To<=c.From
       ·simp[a3,a4]
       simp only[a3,a4,decide_false,Bool.false_eq_true,if_false]
       cases he:atI d.Events (ixE d.Events c.Event 0) with
       | none=>rfl
       | some y =>
        have hy:=hd.ev y (Z9F he)
        simp only[Option.bind_some]
        rw[ZfP y hy]
        obtain⟨v,hv⟩:=Zc5 y hy
        rw[hv]
        simp only[Option.bind_some]
        by_cases a5:v < c.To
        ·simp[a5]
        ·simp only[a5,decide_false,Bool.false_eq_true,if_false,Option.bind_some]
         have:=tail 0
         simpa using this
   by_cases h3:0 < x
   ·simp only[decide_eq_true h3,if_true]
    cases hp:atI d.Comments (IntKind.i64.wrap (x - 1)) with
    | none=>rfl
    | some c' =>
     simp only[Option.bind_some]
     by_cases h4:c.ID<=c'.ID
     ·simp only[decide_eq_true h4,if_true];rfl
     ·simp only[decide_eq_false h4,Bool.false_eq_true,if_false]
      exact rest
   ·simp only[decide_eq_false h3,Bool.false_eq_true,if_false,Option.bind_some]
    exact rest
 ·rw[if_neg (by simpa using hx),if_neg (by simpa using hx)]
def evE (d:Z2)(a:Z0 × Nat):Int :=
 if(Z0c a.1 d.Regions).getD 0≠0 then(Z0c a.1 d.Regions).getD 0 else if d.Last < a.1.ID then 2 else if(∃ h:0 < a.2/\a.2 - 1 < d.Events.length,ltE (d.Events[a.2 - 1]'h.2) a.1=false) then 8 else if((d.Events.take a.2).map (·.ID)).contains a.1.ID=true then 7 else 0
def evF {E:Type}(d:Z2)(_:Unit)(a:Z0 × Nat):(Int ⊕ E) ⊕ Unit:=if evE d a≠0 then .inl (.inl (evE d a)) else .inr ()
theorem Zjx(l:List Z0){i:Nat}(hi:i < l.length)(hc:((l.take i).map (·.ID)).contains l[i].ID=false):putK ((l.take i).map (·.ID)) l[i].ID=(l.take (i+1)).map (·.ID)/\putV ((l.take i).map (·.ID)) ((List.range' 0 i).map Int.ofNat) l[i].ID (i:Int)=(List.range' 0 (i+1)).map Int.ofNat:=by
 rw[Zau _ _ hc,Zaw _ _ _ _ hc (by simp;omega)];constructor
 ·rw[List.take_succ_eq_append_getElem hi,List.map_append];rfl
 rw[List.range'_concat,List.map_append];simp
theorem Z8v(d:Z2)(hd:DocZ d):iter (Z0a d) (0,[],[])=some (runF (evF d) (fun _=>(.inr ((mpE d.Events).ks,(mpE d.Events).vs):Int ⊕ (List Int × List Int))) () d.Events.zipIdx):=by
 have hn:=hd.evs
 have hlz:d.Events.zipIdx.length=d.Events.length:=List.length_zipIdx
 refine ZF (step:=Z0a d) d.Events.zipIdx (by omega) (fun i (_:Unit)=>(i,(d.Events.take i.toNat).map (·.ID),(List.range' 0 i.toNat).map Int.ofNat)) (evF d) (fun _=>(.inr ((mpE d.Events).ks,(mpE d.Events).vs):Int ⊕ (List Int × List Int))) (fun _ _=>True) (s0:=()) trivial (fun i hi s _=>?_)
  (fun s _=>by unfold Z0a;dsimp only;rw[if_neg (by rw[hlz];simp),hlz,Int.toNat_natCast,List.take_length];rfl)
 have hi':i < d.Events.length:=by omega
 have hst:Z0a d ((i:Int),(d.Events.take i).map (·.ID),(List.range' 0 i).map Int.ofNat)=if evE d (d.Events[i],i)≠0 then some (.out (.inl (evE d (d.Events[i],i)))) else some (.go ((i:Int)+1,(d.Events.take (i+1)).map (·.ID),(List.range' 0 (i+1)).map Int.ofNat)):=by
  unfold Z0a evE
  dsimp only
  rw[if_pos (by simpa using hi'),Zc hi',wr64 (x:=(i:Int)+1) (by omega)]
  simp only[Option.bind_some]
  obtain⟨v,hv,_⟩:=Z6Q _ (hd.ev _ (List.getElem_mem hi')) d.Regions hd.regs
  rw[hv]
  simp only[Option.bind_some,Option.getD_some]
  by_cases q:v=0
  ·subst q
   simp only[bne_self_eq_false,Bool.false_eq_true,if_false,ne_eq,not_true_eq_false]
   by_cases q1:d.Last < d.Events[i].ID
   ·simp[q1]
   ·simp only[q1,decide_false,Bool.false_eq_true,if_false]
    have tail:((if(((d.Events.take i).map (·.ID)).contains d.Events[i].ID)=true then some (.out 7) else some (.go ()):Option (Nx Unit Int)).bind fun w=>match w with|.go v=>(some (.go ((i:Int)+1,putK ((d.Events.take i).map (·.ID)) d.Events[i].ID,putV ((d.Events.take i).map (·.ID)) ((List.range' 0 i).map Int.ofNat) d.Events[i].ID (i:Int))):Option (Nx (Int × List Int × List Int) (Int ⊕ (List Int × List Int))))|.out e=>some (.out (.inl e)))=if((if((d.Events.take i).map (·.ID)).contains d.Events[i].ID=true then 7 else 0:Int)=0) then some (.go ((i:Int)+1,(d.Events.take (i+1)).map (·.ID),(List.range' 0 (i+1)).map Int.ofNat)) else some (.out (.inl (if((d.Events.take i).map (·.ID)).contains d.Events[i].ID=true then 7 else 0))):=by
     cases hc:((d.Events.take i).map (·.ID)).contains d.Events[i].ID with
     | true=>rfl
     | false =>
      obtain⟨m1,m2⟩:=Zjx d.Events hi' hc
      simp only[Bool.false_eq_true,if_false,Option.bind_some,if_true]
      rw[m1,m2]
    by_cases q2:0 < i
    ·rw[if_pos (by simpa using q2),wr64 (by omega),show((i:Int) - 1)=((i - 1:Nat):Int) by omega,Zc (show i - 1 < d.Events.length by omega)]
     simp only[Option.bind_some,ZbM]
     have hex:(∃ h:0 < i/\i - 1 < d.Events.length,ltE (d.Events[i - 1]'h.2) d.Events[i]=false) ↔ ltE (d.Events[i - 1]'(by omega)) d.Events[i]=false:=⟨fun⟨_,h⟩=>h,fun h=>⟨⟨q2,by omega⟩,h⟩⟩
     simp only[hex]
     cases q3:ltE (d.Events[i - 1]'(by omega)) d.Events[i] with
     | false=>simp
     | true =>
      simp only[if_true,Bool.true_eq_false,if_false]
      refine tail.trans ?_
      split<;>simp_all
    ·rw[if_neg (by simpa using q2)]
     have hex:¬ (∃ h:0 < i/\i - 1 < d.Events.length,ltE (d.Events[i - 1]'h.2) d.Events[i]=false):=fun⟨h,_⟩=>q2 h.1
     simp only[hex,if_false]
     refine tail.trans ?_
     split<;>simp_all
  ·have:(v != 0)=true:=by simpa using q
   simp[q,this]
 rw[show d.Events.zipIdx[i]=(d.Events[i],i) from by simp[List.getElem_zipIdx]]
 simp only[Int.toNat_natCast,show((i:Int)+1).toNat=i+1 by omega]
 rw[hst]
 unfold evF
 by_cases q:evE d (d.Events[i],i)=0
 ·exact .inr ⟨(),by simp[q],by simp[q],trivial⟩
 ·exact .inl ⟨.inl (evE d (d.Events[i],i)),by simp[q],by simp[q]⟩
theorem ZgM:∀ (l:List Z0) (i k:Nat) (h:i < l.length),(ixE l l[i].ID k=((k+i:Nat):Int)) ↔ ((l.take i).map (·.ID)).contains l[i].ID=false
 | [],i,k,h=>by simp at h
 | e::t,0,k,h=>by simp[ixE]
 | e::t,i+1,k,h=>by
  have hi:i < t.length:=by simpa using h
  have ih:=ZgM t i (k+1) hi
  simp only[List.getElem_cons_succ,List.take_succ_cons,List.map_cons,List.contains_cons,Bool.or_eq_false_iff]
  unfold ixE
  by_cases q:e.ID=t[i].ID
  ·rw[if_pos q]
   constructor
   ·intro h;omega
   ·rintro⟨h,_⟩;rw[q] at h;simp at h
  ·rw[if_neg q,show k+(i+1)=k+1+i by omega,ih]
   constructor
   ·intro h;exact⟨by simp;exact fun x=>q x.symm,h⟩
   ·exact fun h=>h.2
theorem ZjG(d:Z2)(hd:DocZ d):iter (Z1A d) 0=some (runF (evF d) (fun _=>(.inr ():Int ⊕ Unit)) () d.Events.zipIdx):=by
 have hn:=hd.evs
 have hlz:d.Events.zipIdx.length=d.Events.length:=List.length_zipIdx
 refine ZF (step:=Z1A d) d.Events.zipIdx (by omega) (fun i (_:Unit)=>i) (evF d) (fun _=>(.inr ():Int ⊕ Unit)) (fun _ _=>True) (s0:=()) trivial (fun i hi s _=>?_)
  (fun s _=>by unfold Z1A;rw[if_neg (by rw[hlz];simp)])
 have hi':i < d.Events.length:=by omega
 have hst:Z1A d (i:Int)=if evE d (d.Events[i],i)≠0 then some (.out (.inl (evE d (d.Events[i],i)))) else some (.go ((i:Int)+1)):=by
  unfold Z1A evE
  dsimp only
  rw[if_pos (by simpa using hi'),Zc hi',wr64 (x:=(i:Int)+1) (by omega)]
  simp only[Option.bind_some]
  have hz:=hd.ev _ (List.getElem_mem hi')
  rw[Zjm _ hz _ hd.regs]
  obtain⟨v,hv,_⟩:=Z6Q _ hz d.Regions hd.regs
  rw[hv,Z8z d hn]
  simp only[Option.bind_some,Option.getD_some]
  by_cases q:v=0
  ·subst q
   simp only[bne_self_eq_false,Bool.false_eq_true,if_false,ne_eq,not_true_eq_false]
   by_cases q1:d.Last < d.Events[i].ID
   ·simp[q1]
   ·simp only[q1,decide_false,Bool.false_eq_true,if_false]
    have hix:=ZgM d.Events i 0 hi'
    simp only[Nat.zero_add] at hix
    have tail:(if(ixE d.Events d.Events[i].ID 0 != (i:Int))=true then some (.out (.inl 7)) else some (.go ((i:Int)+1)):Option (Nx Int (Int ⊕ Unit)))=if((if((d.Events.take i).map (·.ID)).contains d.Events[i].ID=true then 7 else 0:Int)=0) then some (.go ((i:Int)+1)) else some (.out (.inl (if((d.Events.take i).map (·.ID)).contains d.Events[i].ID=true then 7 else 0))):=by
     cases hc:((d.Events.take i).map (·.ID)).contains d.Events[i].ID with
     | true =>
      have:ixE d.Events d.Events[i].ID 0≠(i:Int):=fun e=>by rw[hix.1 e] at hc;cases hc
      simp[this]
     | false=>simp[hix.2 hc]
    by_cases q2:0 < i
    ·rw[if_pos (by simpa using q2),wr64 (by omega),show((i:Int) - 1)=((i - 1:Nat):Int) by omega,Zc (show i - 1 < d.Events.length by omega)]
     simp only[Option.bind_some,ZdK]
     have hex:(∃ h:0 < i/\i - 1 < d.Events.length,ltE (d.Events[i - 1]'h.2) d.Events[i]=false) ↔ ltE (d.Events[i - 1]'(by omega)) d.Events[i]=false:=⟨fun⟨_,h⟩=>h,fun h=>⟨⟨q2,by omega⟩,h⟩⟩
     simp only[hex]
     cases q3:ltE (d.Events[i - 1]'(by omega)) d.Events[i] with
     | false=>simp
     | true =>
      simp only[Bool.not_true,Bool.false_eq_true,Bool.true_eq_false,if_false]
      rw[tail]
      split<;>simp_all
    ·rw[if_neg (by simpa using q2)]
     have hex:¬ (∃ h:0 < i/\i - 1 < d.Events.length,ltE (d.Events[i - 1]'h.2) d.Events[i]=false):=fun⟨h,_⟩=>q2 h.1
     simp only[hex,Option.bind_some,Bool.false_eq_true,if_false]
     rw[tail]
     split<;>simp_all
  ·have:(v != 0)=true:=by simpa using q
   simp[q,this]
 rw[show d.Events.zipIdx[i]=(d.Events[i],i) from by simp[List.getElem_zipIdx],hst]
 unfold evF
 by_cases q:evE d (d.Events[i],i)=0
 ·exact .inr ⟨(),by simp[q],by simp[q],trivial⟩
 ·exact .inl ⟨.inl (evE d (d.Events[i],i)),by simp[q],by simp[q]⟩
theorem Z9H{E:Type}(d:Z2)(y:E):∀ (L:List (Z0 × Nat)),runF (evF d) (fun _=>(.inr y:Int ⊕ E)) () L=match runF (evF d) (fun _=>(.inr ():Int ⊕ Unit)) () L with
  | .inl v=>.inl v
  | .inr _=>.inr y
 | []=>rfl
 | a::t=>by
  simp only[runF,evF]
  by_cases q:evE d a=0
  ·simp only[q,ne_eq,not_true,if_false];exact Z9H d y t
  ·simp only[q,ne_eq,not_false_eq_true,if_true]
theorem ZgK(d:Z2)(hd:DocZ d):Z3e d=Z0r d:=by
 unfold Z3e Z0r
 have ht:=hd.title
 rw[Z3K _ (by omega),Z0K _ (by omega),Z5e,Z1w,Zj2 _ hd.rate.1 hd.rate.2]
 simp only[Option.bind_some]
 unfold rdR
 obtain⟨b,hb⟩:∃ b,rdR d.Rate d.Drop=some b:=by
  obtain⟨v,hv⟩:=ZdW d.Rate hd.rate.1 hd.rate.2 d.Drop
  rw[Zj2 _ hd.rate.1 hd.rate.2] at hv
  cases hr:rdR d.Rate d.Drop with
  | none=>rw[hr] at hv;cases hv
  | some b=>exact⟨b,rfl⟩
 unfold rdR at hb
 rw[hb]
 simp only[Option.bind_some,Option.map_some]
 generalize gv d.Title=b1
 generalize decide (400 < (d.Title.length:Int))=b2
 generalize (d.Lang == ([]:List UInt8))=b3
 generalize isNm d.Lang=b4
 cases b1<;>cases b2<;>cases b3<;>cases b4<;>cases b<;>rfl
theorem Zaq(d:Z2)(hd:DocZ d):Z40 d=Zq d:=by
 unfold Z40 Zq
 rw[ZgK d hd,Zh4,Z8v d hd,ZjG d hd,Z9H d ((mpE d.Events).ks,(mpE d.Events).vs)]
 obtain⟨v1,h1⟩:=Z7d d hd.title hd.rate.1 hd.rate.2
 obtain⟨v2,h2⟩:=Z6R d.Regions
 rw[h1,h2]
 simp only[Option.bind_some]
 split
 ·rfl
 ·split
  ·rfl
  ·split
   ·rfl
   ·cases runF (evF d) (fun _=>(.inr ():Int ⊕ Unit)) () d.Events.zipIdx with
    | inl v=>rfl
    | inr _ =>
     dsimp only
     unfold Z0b
     have:=ZhG d hd
     unfold mpE at this
     simp only[mpE]
     rw[this]
     split
     ·rfl
     ·cases iter (Z3y d) 0 with
      | none=>rfl
      | some e=>cases e<;>rfl
theorem ZgD(d:Z2)(hd:DocZ d)(h:Zq d=some 0):∀ e ∈ d.Events,Z0c e d.Regions=some 0:=by
 have hall:∀ (L:List (Z0 × Nat)),(∃ u,runF (evF d) (fun _=>(.inr ():Int ⊕ Unit)) () L=.inr u)->∀ a ∈ L,evE d a=0:=by
  intro L
  induction L with
  | nil=>intro _ a ha;cases ha
  | cons b t ih =>
   rintro⟨u,hu⟩ a ha
   simp only[runF,evF] at hu
   by_cases q:evE d b=0
   ·simp only[q,ne_eq,not_true,if_false] at hu
    rcases List.mem_cons.1 ha with rfl|ha
    ·exact q
    ·exact ih ⟨u,hu⟩ a ha
   ·simp only[q,ne_eq,not_false_eq_true,if_true] at hu
    cases hu
 unfold Zq at h
 rw[Z8v d hd,Z9H d ((mpE d.Events).ks,(mpE d.Events).vs)] at h
 obtain⟨v1,h1⟩:=Z7d d hd.title hd.rate.1 hd.rate.2
 obtain⟨v2,h2⟩:=Z6R d.Regions
 rw[h1,h2] at h
 simp only[Option.bind_some] at h
 split at h
 ·rename_i q;cases h;simp at q
 ·split at h
  ·rename_i q;cases h;simp at q
  ·split at h
   ·cases h
   ·cases hr:runF (evF d) (fun _=>(.inr ():Int ⊕ Unit)) () d.Events.zipIdx with
    | inl v =>
     rw[hr] at h
     simp only[Option.some.injEq] at h
     subst h
     exfalso
     have hne:∀ (L:List (Z0 × Nat)),runF (evF d) (fun _=>(.inr ():Int ⊕ Unit)) () L≠.inl 0:=by
      intro L
      induction L with
      | nil=>intro h;cases h
      | cons b t ih =>
       intro h
       simp only[runF,evF] at h
       by_cases q:evE d b=0
       ·simp only[q,ne_eq,not_true,if_false] at h;exact ih h
       ·simp only[q,ne_eq,not_false_eq_true,if_true] at h
        injection h with h
        exact q h
     exact hne _ hr
    | inr u =>
     intro e he
     obtain⟨i,hi,rfl⟩:=List.getElem_of_mem he
     have:=hall _ ⟨u,hr⟩ (d.Events[i],i) (List.mem_zipIdx_iff_getElem?.2 (List.getElem?_eq_getElem hi))
     obtain⟨v,hv,_⟩:=Z6Q _ (hd.ev _ (List.getElem_mem hi)) d.Regions hd.regs
     unfold evE at this
     rw[hv] at this ⊢
     simp only[Option.getD_some] at this
     by_cases q:v=0
     ·rw[q]
     ·rw[if_pos q] at this;exact absurd this q
def up (e:Z0)(s:Z8):Z0:=upE s e
theorem ZeZ:∀ (l:List Z8) (ev ev':List Z0),apR ev l=.inr ev'->ev'=ev.map (fun e=>l.foldl up e)
 | [],ev,ev',h=>by cases h;simp
 | s::l,ev,ev',h=>by
  unfold apR at h
  simp only[runF] at h
  cases hf:apF ev s with
  | inl e =>
   rw[hf] at h
   simp only at h
   unfold apF at hf
   split at hf
   ·split at hf<;>cases hf
    cases h
   ·cases hf;cases h
  | inr e1 =>
   rw[hf] at h
   have h1:=ZeZ l e1 ev' h
   unfold apF at hf
   split at hf
   ·split at hf
    ·cases hf
    ·cases hf
     rw[h1,List.map_map]
     rfl
   ·cases hf
def sh1 (x:List Int)(a:Z0 × Nat):List Z8:=if(spS x a.2).In≠a.1.Span.In\/(spS x a.2).Out≠a.1.Span.Out then[⟨a.1.ID,(spS x a.2).In,(spS x a.2).Out⟩] else[]
theorem Zft(x:List Int):∀ (L:List (Z0 × Nat)) (s:List Z8),L.foldl (shF x) s=s++L.flatMap (sh1 x)
 | [],s=>by simp
 | a::L,s=>by
  rw[List.foldl_cons,Zft x L]
  unfold shF
  simp only[List.flatMap_cons]
  by_cases h:(spS x a.2).In≠a.1.Span.In\/(spS x a.2).Out≠a.1.Span.Out
  ·rw[if_pos h,show sh1 x a=[⟨a.1.ID,(spS x a.2).In,(spS x a.2).Out⟩] from if_pos h,List.append_assoc]
  ·rw[if_neg h,show sh1 x a=[] from if_neg h,List.nil_append]
theorem ZkQ(d:Z2)(x:List Int):shS d x=d.Events.zipIdx.flatMap (sh1 x):=by
 show runF (fun s a=>.inr (shF x s a)) id [] d.Events.zipIdx=_;rw[Z6e,Zft];rfl
theorem Ze9{d:Z2}{p:Z7}{l:List Int}{t:Int}:∀ (L:List (Z0 × Nat)) (s bs:List Z1),runF (bnF d p l t) .inr s L=.inr bs->(∀ b ∈ s,b ∈ bs)/\∀ a ∈ L,∃ b1,bsE d p l t a.2 a.1=.inr b1/\∀ b ∈ b1,b ∈ bs
 | [],s,bs,h=>by cases h;exact⟨fun _ h=>h,by simp⟩
 | a::L,s,bs,h=>by
  simp only[runF] at h
  cases hf:bnF d p l t s a with
  | inl e =>
   rw[hf] at h
   obtain⟨v,rfl⟩:=Z87 hf
   cases h
  | inr s1 =>
   rw[hf] at h
   obtain⟨b1,hb1,rfl⟩:=Z88 hf
   obtain⟨h1,h2⟩:=Ze9 L _ _ h
   refine⟨fun b hb=>h1 b (by simp[hb]),fun c hc=>?_⟩
   rcases List.mem_cons.1 hc with rfl|hc
   ·exact⟨b1,hb1,fun b hb=>h1 b (by simp[hb])⟩
   ·exact h2 c hc
theorem ZbQ{α:Type}:∀ (t s:List α),runF (fun(s:List α) e=>(.inr (s++[e]):List α ⊕ List α)) id s t=s++t
 | [],s=>by simp[runF]
 | a::t,s=>by simp only[runF];rw[ZbQ t];simp
theorem Zg3(rows:List Z6)(h:rows.length<=1048576)(hr:∀ r ∈ rows,r.Runs.length<=1048576):Z53 rows=some rows:=by
 have:=ZF (step:=Z3w rows) rows (by omega) (fun i (s:List Z6)=>(s,i)) (fun s y=>.inr (s++[y])) id (fun i s=>s.length=i) (s0:=[]) rfl
  (fun i hi s hs=>.inr ⟨_,rfl,by
   have hz:=hr _ (List.getElem_mem hi)
   unfold Z3w
   dsimp only
   rw[if_pos (by simpa using hi),Zc hi,wr64 (x:=(i:Int)+1) (by omega)]
   simp only[Option.bind_some]
   rw[if_pos (by omega),if_pos (by omega)],by simp[hs]⟩)
  (fun s hs=>by unfold Z3w;dsimp only;rw[if_neg (by simp)];rfl)
 rw[ZbQ,List.nil_append] at this
 unfold Z53
 rw[this]
 rfl
theorem Zbi(e:Z0)(h:EvZ e):Z3Z e=some e:=by
 unfold Z3Z;rw[Zg3 _ h.1 fun r hr=>(h.2 r hr).2];rfl
theorem Zg4(d:Z2)(hd:DocZ d):Z3z d=some d:=by
 have hn:=hd.evs
 have hg:=hd.regs
 have hc:=hd.coms
 have:=ZF (step:=Z2m d) d.Events (by omega) (fun i (s:List Z0)=>(s,i)) (fun s y=>.inr (s++[y])) id (fun i s=>s.length=i) (s0:=[]) rfl
  (fun i hi s hs=>.inr ⟨_,rfl,by
   unfold Z2m
   dsimp only
   rw[if_pos (by simpa using hi),Zc hi,wr64 (x:=(i:Int)+1) (by omega)]
   simp only[Option.bind_some]
   rw[Zbi _ (hd.ev _ (List.getElem_mem hi))]
   simp only[Option.bind_some]
   rw[if_pos (by omega)],by simp[hs]⟩)
  (fun s hs=>by unfold Z2m;dsimp only;rw[if_neg (by simp)];rfl)
 rw[ZbQ,List.nil_append] at this
 unfold Z3z
 rw[if_pos (by omega),if_pos (by omega),this]
 rfl
def Srt (l:List Z0):Prop:=l.Pairwise fun a b=>ltE b a=false
theorem Srt.of{l:List Z0}(h:Z6J l.length l):Srt l:=by
 refine List.pairwise_iff_getElem.2 fun i j hi hj hij=>?_;exact h i j _ _ hij hj (List.getElem?_eq_getElem hi) (List.getElem?_eq_getElem hj)
theorem Srt.at{l:List Z0}(h:Srt l){i j:Nat}(hij:i < j)(hj:j < l.length):ltE l[j] (l[i]'(by omega))=false :=
 List.pairwise_iff_getElem.1 h i j (by omega) hj hij
theorem Srt.chain{l:List Z0}(h:∀ i (h:i+1 < l.length),ltE l[i] l[i+1]=true):Srt l:=by
 have key:∀ (k i:Nat) (h1:i+(k+1) < l.length),ltE l[i+(k+1)] (l[i]'(by omega))=false:=by
  intro k
  induction k with
  | zero=>intro i h1;exact Z8r (h i h1)
  | succ k ih =>
   intro i h1
   have:=Z9o (ih i (by omega)) (Z8r (h (i+(k+1)) (by omega)))
   exact this
 refine List.pairwise_iff_getElem.2 fun i j hi hj hij=>?_
 have:=key (j - i - 1) i (by omega)
 simp only[show i+(j - i - 1+1)=j by omega] at this
 exact this
theorem ZiL{a b:List Z0}(hd:(a.map (·.ID)).Nodup)(ha:Srt a)(hb:Srt b)(hp:a.Perm b):a=b:=by
 refine List.Perm.eq_of_pairwise (le:=fun a b=>ltE b a=false) (fun x y hx hy h1 h2=>?_) ha hb hp
 have hy':=hp.symm.subset hy
 obtain⟨i,hi,rfl⟩:=List.getElem_of_mem hx
 obtain⟨j,hj,rfl⟩:=List.getElem_of_mem hy'
 have:a[i].ID=a[j].ID:=by
  unfold ltE at h1 h2
  simp only[Bool.or_eq_false_iff,decide_eq_false_iff_not,Bool.and_eq_false_imp,decide_eq_true_eq] at h1 h2
  omega
 have:=Z7y hd hi hj this
 subst this
 rfl
theorem Zk0{α:Type}{s:List α}{i:Nat}(h:i<=s.length):subH s (i:Int)=some (s.take i):=by
 unfold subH;rw[if_pos (by omega)];simp
theorem Zk1{α:Type}{s:List α}{i:Nat}(h:i<=s.length):subL s (i:Int)=some (s.drop i):=by
 unfold subL;rw[if_pos (by omega),Int.toNat_natCast,List.take_of_length_le (by simp)]
theorem Zkr(out:List Z0)(hl:out.length<=1000)(q:Int)(y:Z0):∃ k:Nat,iter (Z2E (out,q) y) (out.length:Int)=some (k:Int)/\k<=out.length/\(∀ j (h:j < out.length),k<=j->ltE y out[j]=true)/\(∀ h:0 < k/\k<=out.length,ltE y (out[k - 1]'(by omega))=false):=by
 obtain⟨e,he,k,rfl,h1,h2,h3⟩:=ZD (step:=Z2E (out,q) y) (fun x=>0<=x/\x<=(out.length:Int)/\∀ j (h:j < out.length),x<=(j:Int)->ltE y out[j]=true) (fun x=>x.toNat) (fun e=>∃ k:Nat,e=(k:Int)/\k<=out.length/\(∀ j (h:j < out.length),k<=j->ltE y out[j]=true)/\(∀ h:0 < k/\k<=out.length,ltE y (out[k - 1]'(by omega))=false)) (x:=(out.length:Int)) ⟨by omega,by omega,fun j h h'=>by omega⟩ (by omega) (by
  rintro x ⟨q1,q2,q3⟩
  obtain⟨i,rfl⟩:=Int.eq_ofNat_of_zero_le q1
  unfold Z2E
  dsimp only
  by_cases h:0 < i
  ·rw[if_pos (by simpa using h),wr64 (by omega),show((i:Int) - 1)=((i - 1:Nat):Int) by omega,Zc (show i - 1 < out.length by omega)]
   simp only[Option.bind_some,ZdK]
   cases hc:ltE y (out[i - 1]'(by omega)) with
   | true =>
    left
    rw[if_pos rfl]
    refine⟨_,rfl,⟨by omega,by omega,fun j hj hij=>?_⟩,by omega⟩
    by_cases hji:j=i - 1
    ·subst hji;exact hc
    ·exact q3 j hj (by omega)
   | false =>
    right
    rw[if_neg (by simp)]
    exact⟨_,rfl,i,rfl,by omega,fun j hj hij=>q3 j hj (by omega),fun _=>hc⟩
  ·right
   rw[if_neg (by simpa using h)]
   exact⟨_,rfl,i,rfl,by omega,fun j hj hij=>q3 j hj (by omega),fun h'=>absurd h'.1 h⟩)
 exact⟨k,he,h1,h2,h3⟩
theorem Ziy(l:List Z0)(hl:l.length<=1000)(hz:∀ e ∈ l,EvZ e):∃ r,Z4i l=some r/\r.Perm l/\Srt r:=by
 obtain⟨e,he,h1,h2⟩:=ZD (step:=Z4j l) (fun x=>∃ i:Nat,x.2=(i:Int)/\i<=l.length/\x.1.Perm (l.take i)/\Srt x.1) (fun x=>l.length - x.2.toNat) (fun e=>e.Perm l/\Srt e) (x:=([],0)) ⟨0,rfl,by omega,by simp,List.Pairwise.nil⟩ (by dsimp only;omega) (by
  rintro⟨out,x⟩ ⟨i,h1,hi,h2,h3⟩
  dsimp only at h1 h2 h3
  subst h1
  have hol:out.length=i:=by rw[h2.length_eq,List.length_take];omega
  unfold Z4j
  dsimp only
  by_cases h:i < l.length
  ·left
   rw[if_pos (by simpa using h),Zc h,wr64 (x:=(i:Int)+1) (by omega)]
   simp only[Option.bind_some]
   obtain⟨k,hk,k1,k2,k3⟩:=Zkr out (by omega) (i:Int) l[i]
   rw[hk]
   simp only[Option.bind_some]
   rw[Zk0 k1,Zk1 k1,Zbi _ (hz _ (List.getElem_mem h))]
   simp only[Option.bind_some]
   have c1:(out.take k).length * 88<=140737488355328:=by rw[List.length_take];omega
   have c2:((out.take k).length+1) * 88<=140737488355328:=by rw[List.length_take];omega
   have c3:(((out.take k).length+1)+(out.drop k).length) * 88<=140737488355328:=by rw[List.length_take,List.length_drop];omega
   rw[if_pos c1,if_pos c2,if_pos c3]
   refine⟨_,rfl,⟨i+1,by simp,by omega,?_,?_⟩,by dsimp only;omega⟩
   ·dsimp only
    rw[List.take_succ_eq_append_getElem h,List.append_assoc,List.singleton_append]
    refine(List.perm_middle).trans ?_
    rw[List.take_append_drop]
    exact(List.Perm.cons _ h2).trans (List.perm_append_singleton _ _).symm
   ·dsimp only
    unfold Srt
    rw[List.append_assoc,List.singleton_append,List.pairwise_append]
    refine⟨h3.sublist (List.take_sublist ..),?_,fun a ha b hb=>?_⟩
    ·rw[List.pairwise_cons]
     refine⟨fun b hb=>?_,h3.sublist (List.drop_sublist ..)⟩
     obtain⟨j,hj,rfl⟩:=List.getElem_of_mem hb
     rw[List.getElem_drop]
     rw[List.length_drop] at hj
     exact Z8r (k2 (k+j) (by omega) (by omega))
    ·obtain⟨j,hj,rfl⟩:=List.getElem_of_mem ha
     rw[List.length_take] at hj
     rw[List.getElem_take]
     have hlast:ltE l[i] (out[j]'(by omega))=false:=by
      have h0:=k3 ⟨by omega,k1⟩
      by_cases hjk:j=k - 1
      ·subst hjk;exact h0
      ·exact Z9o (Srt.at h3 (i:=j) (j:=k - 1) (by omega) (by omega)) h0
     rcases List.mem_cons.1 hb with rfl|hb
     ·exact hlast
     ·obtain⟨m,hm,rfl⟩:=List.getElem_of_mem hb
      rw[List.length_drop] at hm
      rw[List.getElem_drop]
      exact Srt.at h3 (i:=j) (j:=k+m) (by omega) (by omega)
  ·right
   obtain rfl:i=l.length:=by omega
   rw[if_neg (by simp)]
   rw[List.take_length] at h2
   exact⟨_,rfl,h2,h3⟩)
 unfold Z4i
 rw[he]
 exact⟨e,rfl,h1,h2⟩
theorem Z8p:∀ (l:List Z0) (id:Int) (k:Nat),((l.map (·.ID)).contains id=false/\ixE l id k=-1)\/((l.map (·.ID)).contains id=true/\∃ i,∃ h:i < l.length,ixE l id k=((k+i:Nat):Int)/\l[i].ID=id)
 | [],id,k=>.inl ⟨rfl,rfl⟩
 | e::t,id,k=>by
  simp only[List.map_cons,List.contains_cons]
  unfold ixE
  by_cases q:e.ID=id
  ·right
   rw[if_pos q]
   exact⟨by simp[q],0,by simp,rfl,q⟩
  ·rw[if_neg q]
   have hq:(id == e.ID)=false:=by simp;exact fun x=>q x.symm
   rw[hq,Bool.false_or]
   rcases Z8p t id (k+1) with⟨h1,h2⟩|⟨h1,i,hi,h2,h3⟩
   ·exact .inl ⟨h1,h2⟩
   ·exact .inr ⟨h1,i+1,by simpa using hi,by rw[h2];congr 1;omega,by simpa using h3⟩
theorem ZeI(d:Z2)(hd:DocZ d)(hD:Z8f d)(hn:d.Events.length<=19)(l:List Z8)(hl:l.length<=1000):∃ e,iter (Z1B l d) (0,d.Events)=some e/\((∃ v,e=.inl v/\apR d.Events l=.inl v)\/∃ r ev,e=.inr r/\apR d.Events l=.inr ev/\r.Perm ev/\Srt r):=by
 refine ZD (step:=Z1B l d) (fun x=>∃ (i:Nat) (ev:List Z0),x.1=(i:Int)/\i<=l.length/\x.2.Perm ev/\Srt x.2/\ApI d.Events.length (d.Events.map (·.ID)) ev/\runF apF .inr ev (l.drop i)=apR d.Events l) (fun x=>l.length - x.1.toNat) _ (x:=(0,d.Events)) ⟨0,d.Events,rfl,by omega,List.Perm.refl _,Srt.chain hD.ord,⟨rfl,rfl,hd.ev⟩,by rw[List.drop_zero];rfl⟩ (by dsimp only;omega) ?_
 rintro⟨x,er⟩ ⟨i,ev,h1,hi,hp,hs,hI,hr⟩
 dsimp only at h1 hp hs
 subst h1
 have hel:er.length=d.Events.length:=by rw[hp.length_eq,hI.len]
 have hez:∀ e ∈ er,EvZ e:=fun e he=>hI.z e (hp.subset he)
 have hids:(er.map (·.ID)).Perm (d.Events.map (·.ID)):=by rw[<- hI.ids];exact hp.map _
 have hnd:(er.map (·.ID)).Nodup:=hids.nodup_iff.2 hD.ids
 unfold Z1B
 dsimp only
 by_cases h:i < l.length
 ·rw[if_pos (by simpa using h),Zc h,wr64 (x:=(i:Int)+1) (by omega)]
  simp only[Option.bind_some]
  rw[List.drop_eq_getElem_cons h] at hr
  simp only[runF] at hr
  generalize l[i]=s at hr
  rw[show Z4h (Z2.mk d.Title d.Lang d.Rate d.Drop d.Last d.Regions er d.Comments) s.ID=Z1s (Z2.mk d.Title d.Lang d.Rate d.Drop d.Last d.Regions er d.Comments) s.ID from rfl,Z8z _ (by show er.length<=_;omega)]
  simp only[Option.bind_some,Zgu]
  have hcc:(ev.map (·.ID)).contains s.ID=(er.map (·.ID)).contains s.ID:=by
   rw[Bool.eq_iff_iff,List.contains_iff_mem,List.contains_iff_mem]
   exact(hp.map (·.ID)).mem_iff.symm
  unfold apF at hr
  rw[hcc] at hr
  rcases Z8p er s.ID 0 with⟨c1,c2⟩|⟨c1,k,hk,c2,c3⟩
  ·right
   rw[c1] at hr
   simp only[c2,show decide ((-1:Int) < 0)=true from rfl,if_true,Bool.false_eq_true,if_false] at hr ⊢
   exact⟨_,rfl,.inl ⟨6,rfl,hr.symm⟩⟩
  ·rw[c1] at hr
   simp only[c2,Nat.zero_add,show decide ((k:Int) < 0)=false from decide_eq_false (by omega),Bool.false_eq_true,if_false,if_true] at hr ⊢
   cases hb:badS s with
   | true =>
    right
    rw[hb] at hr
    simp only[if_true] at hr ⊢
    exact⟨_,rfl,.inl ⟨2,rfl,hr.symm⟩⟩
   | false =>
    left
    rw[hb] at hr
    simp only[Bool.false_eq_true,if_false] at hr ⊢
    rw[Zc hk]
    simp only[Option.bind_some]
    rw[Z3L _ hk]
    simp only[Option.bind_some]
    rw[Zfs hnd hk s c3]
    obtain⟨r,g1,g2,g3⟩:=Ziy (er.map (upE s)) (by simp;omega) (fun e he=>by
     obtain⟨e0,he0,rfl⟩:=List.mem_map.1 he
     exact Zd5 (hez _ he0))
    rw[g1]
    simp only[Option.bind_some]
    refine⟨_,rfl,⟨i+1,ev.map (upE s),by simp,by omega,g2.trans (hp.map _),g3,⟨by simp[hI.len],by rw[Z9S,hI.ids],fun e he=>?_⟩,hr⟩,by dsimp only;omega⟩
    obtain⟨e0,he0,rfl⟩:=List.mem_map.1 he
    exact Zd5 (hI.z _ he0)
 ·right
  obtain rfl:i=l.length:=by omega
  rw[if_neg (by simp)]
  rw[List.drop_length] at hr
  exact⟨_,rfl,.inr ⟨er,ev,rfl,hr.symm,hp,hs⟩⟩
theorem ZgY(d:Z2)(hd:DocZ d)(hn:d.Events.length<=19)(l:List Z8)(hl:l.length<=1000):Z33 d l=Z0Z d l:=by
 obtain⟨c,hc,hD⟩:=Zds d hd
 by_cases h0:c=0
 ·subst h0
  have hD:=hD rfl
  have hr:Z33 d l=((iter (Z1B l d) (0,d.Events)).bind fun e=>(match e with|Sum.inl e=>(some (docN,e))|Sum.inr e=>(some (Z3k d e,0)))):=by
   unfold Z33
   rw[Zaq d hd,hc]
   simp only[Option.bind_some,bne_self_eq_false,Bool.false_eq_true,if_false]
   rw[Zg4 d hd]
   simp only[Option.bind_some]
   cases iter (Z1B l d) (0,d.Events) with
   | none=>rfl
   | some e=>cases e<;>rfl
  rw[hr]
  obtain⟨e,he,h⟩:=ZeI d hd hD hn l hl
  rw[he]
  simp only[Option.bind_some]
  rcases Zao d hd hc hD hn l hl with⟨v,a1,a2⟩|⟨ev,r,a1,a2,a3,a4⟩
  ·rcases h with⟨v',rfl,b1⟩|⟨r',ev',rfl,b1,_⟩
   ·rw[a1] at b1;cases b1;rw[a2]
   ·rw[a1] at b1;cases b1
  ·rcases h with⟨v',rfl,b1⟩|⟨r',ev',rfl,b1,b2,b3⟩
   ·rw[a1] at b1;cases b1
   ·rw[a1] at b1
    cases b1
    rw[a2]
    have hids:=(Z9E l d.Events ev a1).2.1
    have hrs:Srt r:=Srt.of (by rw[a3.length_eq];exact a4)
    have hnd:(r'.map (·.ID)).Nodup:=(b2.map (·.ID)).nodup_iff.2 (by rw[hids];exact hD.ids)
    rw[ZiL hnd b3 hrs (b2.trans a3.symm)]
 ·unfold Z33 Z0Z
  rw[Zaq d hd,hc]
  simp only[Option.bind_some]
  rw[if_pos (by rw[bne_iff_ne];exact h0),if_pos (by rw[bne_iff_ne];exact h0)]
theorem Z6X{step:Int->Option (Nx Int (Unit ⊕ Unit))}(n:Nat)(hn:n<=1048576)(hgo:∀ i:Nat,i < n->step (i:Int)=some (.go ((i:Int)+1)))(hend:step (n:Int)=some (.out (.inr ()))):iter step 0=some (.inr ()):=by
 obtain⟨e,he,rfl⟩:=Z4q n (by omega) (fun _=>True) (fun e=>e=Sum.inr ()) trivial (fun i hi _=>.inl ⟨hgo i hi,trivial⟩) (fun _=>⟨_,hend,rfl⟩);exact he
theorem ZjI(l:List Z3)(hn:l.length<=1048576):Z06 l l=some true:=by
 unfold Z06
 rw[if_neg (by simp),Z6X l.length hn (fun i hi=>by
  unfold Z0o
  rw[if_pos (by simpa using hi),Zc hi,wr64 (x:=(i:Int)+1) (by omega)]
  simp) (by unfold Z0o;rw[if_neg (by simp)])]
 rfl
theorem ZjN(l:List Zd)(hn:l.length<=1048576):Z0z l l=some true:=by
 unfold Z0z
 rw[if_neg (by simp),Z6X l.length hn (fun i hi=>by
  unfold Z0R
  rw[if_pos (by simpa using hi),Zc hi,wr64 (x:=(i:Int)+1) (by omega)]
  simp) (by unfold Z0R;rw[if_neg (by simp)])]
 rfl
theorem Zjc(l:List Z4)(hn:l.length<=1048576):ZZ l l=some true:=by
 unfold ZZ
 rw[if_neg (by simp),Z6X l.length hn (fun i hi=>by
  unfold Z0f
  rw[if_pos (by simpa using hi),Zc hi,wr64 (x:=(i:Int)+1) (by omega)]
  simp) (by unfold Z0f;rw[if_neg (by simp)])]
 rfl
theorem Ziv(l:List Z6)(hn:l.length<=1048576)(hr:∀ r ∈ l,r.Runs.length<=1048576):Z3I l l=some true:=by
 unfold Z3I ZN
 rw[if_neg (by simp),Z6X l.length hn (fun i hi=>by
  unfold ZI Z6v
  rw[if_pos (by simpa using hi),Zc hi,wr64 (x:=(i:Int)+1) (by omega)]
  simp only[Option.bind_some]
  rw[ZjN _ (hr _ (List.getElem_mem hi))]
  rfl) (by unfold ZI;rw[if_neg (by simp)])]
 rfl
theorem Zkl(e:Z0)(h:EvZ e):Z5B e e=some true:=by
 unfold Z5B;simp only[beq_self_eq_true,Bool.and_self,if_true];rw[Ziv _ h.1 (fun r hr=>(h.2 r hr).2)];rfl
theorem Zjh(d:Z2)(h:DocZ d):Z4c d d=some true:=by
 unfold Z4c Z4b
 simp only[Option.bind_some,beq_self_eq_true,Bool.and_self,if_true]
 rw[ZjI _ h.regs]
 simp only[Option.bind_some,if_true]
 have he:Zs d.Events d.Events=some true:=by
  unfold Zs
  rw[if_neg (by simp),Z6X d.Events.length h.evs (fun i hi=>by
   unfold Zx
   have hn:=h.evs
   rw[if_pos (by simpa using hi),Zc hi,wr64 (x:=(i:Int)+1) (by omega)]
   simp only[Option.bind_some]
   rw[Zkl _ (h.ev _ (List.getElem_mem hi))]
   rfl) (by unfold Zx;rw[if_neg (by simp)])]
  rfl
 rw[he]
 simp only[Option.bind_some,if_true]
 rw[Zjc _ h.coms]
 rfl
end Go.Proofs.YtobglplholhkcaaGreatDoor

namespace Go.Proofs.YtobglplholhkcaaGreatDoor
set_option maxRecDepth 100000
structure Rl(e e':Z0):Prop where
 id:e'.ID=e.ID
 reg:e'.Region=e.Region
 kind:e'.Kind=e.Kind
 spk:e'.Speaker=e.Speaker
 rows:e'.Rows=e.Rows
 span:spB e'.Span=true
theorem Zgq:∀ (l:List Z8) (ev ev':List Z0),apR ev l=.inr ev'->∀ s ∈ l,badS s=false
 | [],ev,ev',h=>by simp
 | s::l,ev,ev',h=>by
  unfold apR at h
  simp only[runF] at h
  unfold apF at h
  intro s' hs'
  by_cases hc:(ev.map (·.ID)).contains s.ID=true
  ·rw[if_pos hc] at h
   cases hb:badS s with
   | true=>rw[hb] at h;simp only[if_true] at h;cases h
   | false =>
    rw[hb] at h
    simp only[Bool.false_eq_true,if_false] at h
    rcases List.mem_cons.1 hs' with rfl|hs'
    ·exact hb
    ·exact Zgq l _ ev' h s' hs'
  ·rw[if_neg hc] at h;cases h
theorem Zf9:∀ (l:List Z8) (e0 e:Z0),(∀ s ∈ l,badS s=false)->Rl e0 e->Rl e0 (l.foldl up e)
 | [],e0,e,_,h=>h
 | s::l,e0,e,hb,h=>by
  simp only[List.foldl_cons]
  refine Zf9 l e0 _ (fun s' hs'=>hb s' (by simp[hs'])) ?_
  unfold up upE
  by_cases q:e.ID=s.ID
  ·rw[if_pos q]
   refine⟨h.id,h.reg,h.kind,h.spk,h.rows,?_⟩
   have:=hb s (by simp)
   unfold badS at this
   unfold spB
   simp only[Bool.or_eq_false_iff,decide_eq_false_iff_not] at this
   simp only[Bool.and_eq_true,decide_eq_true_eq]
   omega
  ·rw[if_neg q];exact h
theorem ZhU{e e':Z0}(h:Rl e e')(regs:List Z3)(hc:Z0c e regs=some 0):Z0c e' regs=some 0:=by
 have hs1:Z00 e'=Z00 e:=by
  funext x
  unfold Z00
  rw[h.rows]
 have hs2:Z08 e'=Z08 e:=by
  funext x
  unfold Z08
  rw[h.rows]
 unfold Z0c Z1r at hc ⊢
 rw[hs1,hs2,h.reg,h.id,h.kind,h.spk,h.rows]
 rw[ZaF] at hc ⊢
 rw[h.span]
 cases hf:Z2c regs e.Region with
 | none=>rw[hf] at hc;cases hc
 | some f =>
  rw[hf] at hc
  simp only[Option.bind_some] at hc ⊢
  by_cases k1:e.ID < 1
  ·simp[k1] at hc
  ·by_cases k2:1099511627776 < e.ID
   ·simp[k1,k2] at hc
   ·simp only[k1,k2,decide_false,Bool.false_eq_true,if_false,Option.bind_some,Bool.not_true] at hc ⊢
    cases hsp:spB e.Span with
    | false=>rw[hsp] at hc;simp at hc
    | true =>
     rw[hsp] at hc
     simp only[Bool.not_true,Bool.false_eq_true,if_false] at hc
     exact hc
theorem ZfO{e e':Z0}(h:e'.Rows=e.Rows):Z1T e'=Z1T e:=by
 have hs2:Z08 e'=Z08 e:=by
  funext x
  unfold Z08
  rw[h]
 unfold Z1T Z1r
 rw[hs2,h]
theorem Zjd(d:Z2)(r:List Z0)(hids:(r.map (·.ID)).Perm (d.Events.map (·.ID)))(hrows:∀ e' ∈ r,∀ e ∈ d.Events,e'.ID=e.ID->e'.Rows=e.Rows):Z0b (Z3k d r) (mpE r)=Z0b d (mpE d.Events):=by
 have hcon:∀ id,(r.map (·.ID)).contains id=(d.Events.map (·.ID)).contains id:=fun id=>by
  rw[Bool.eq_iff_iff,List.contains_iff_mem,List.contains_iff_mem]
  exact hids.mem_iff
 have hanc:∀ c,ZY (Z3k d r) c (mpE r)=ZY d c (mpE d.Events):=by
  intro c
  unfold ZY
  have hk1:=Z7x r c.Event 0
  have hk2:=Z7x d.Events c.Event 0
  have e1:(mpE r).ks=r.map (·.ID):=rfl
  have e2:(mpE r).vs=(List.range' 0 r.length).map Int.ofNat:=rfl
  have e3:(mpE d.Events).ks=d.Events.map (·.ID):=rfl
  have e4:(mpE d.Events).vs=(List.range' 0 d.Events.length).map Int.ofNat:=rfl
  have e5:(Z3k d r).Last=d.Last:=rfl
  have e6:(Z3k d r).Events=r:=rfl
  rw[e1,e2,e3,e4,e5,e6,hcon]
  cases hb:(d.Events.map (·.ID)).contains c.Event with
  | false=>rfl
  | true =>
   obtain⟨k1,_⟩:=hk1.1 (by rw[hcon];exact hb)
   obtain⟨k2,_⟩:=hk2.1 hb
   rw[k1,k2]
   rcases Z8p r c.Event 0 with⟨q,_⟩|⟨_,i,hi,q2,q3⟩
   ·rw[hcon,hb] at q;cases q
   ·rcases Z8p d.Events c.Event 0 with⟨q,_⟩|⟨_,j,hj,p2,p3⟩
    ·rw[hb] at q;cases q
    ·rw[q2,p2,Nat.zero_add,Nat.zero_add,Zc hi,Zc hj]
     simp only[Option.bind_some]
     rw[ZfO (hrows _ (List.getElem_mem hi) _ (List.getElem_mem hj) (by rw[q3,p3]))]
 have hst:ZS (Z3k d r) (mpE r)=ZS d (mpE d.Events):=by
  funext x
  unfold ZS
  have e1:(mpE r).ks=r.map (·.ID):=rfl
  have e3:(mpE d.Events).ks=d.Events.map (·.ID):=rfl
  have e5:(Z3k d r).Last=d.Last:=rfl
  have e6:(Z3k d r).Comments=d.Comments:=rfl
  simp only[e1,e3,e5,e6,hcon,hanc]
 unfold Z0b
 rw[hst]
 rfl
theorem ZeX{E:Type}(d:Z2)(y:E):∀ (L:List (Z0 × Nat)),(∀ a ∈ L,evE d a=0)->runF (evF d) (fun _=>(.inr y:Int ⊕ E)) () L=.inr y
 | [],_=>rfl
 | a::t,h=>by
  simp only[runF,evF]
  simp only[h a (by simp),ne_eq,not_true,if_false]
  exact ZeX d y t fun b hb=>h b (by simp[hb])
theorem Zgz(d:Z2)(hd:DocZ d)(h:Zq d=some 0):Z0r d=some 0/\Z0S d.Regions=some 0/\¬ 400 < (d.Events.length:Int)/\(∀ a ∈ d.Events.zipIdx,evE d a=0)/\Z0b d (mpE d.Events)=some 0:=by
 have hall:∀ (L:List (Z0 × Nat)),(∃ u,runF (evF d) (fun _=>(.inr ():Int ⊕ Unit)) () L=.inr u)->∀ a ∈ L,evE d a=0:=by
  intro L
  induction L with
  | nil=>intro _ a ha;cases ha
  | cons b t ih =>
   rintro⟨u,hu⟩ a ha
   simp only[runF,evF] at hu
   by_cases q:evE d b=0
   ·simp only[q,ne_eq,not_true,if_false] at hu
    rcases List.mem_cons.1 ha with rfl|ha
    ·exact q
    ·exact ih ⟨u,hu⟩ a ha
   ·simp only[q,ne_eq,not_false_eq_true,if_true] at hu
    cases hu
 have hne:∀ (L:List (Z0 × Nat)),runF (evF d) (fun _=>(.inr ():Int ⊕ Unit)) () L≠.inl 0:=by
  intro L
  induction L with
  | nil=>intro h;cases h
  | cons b t ih =>
   intro h
   simp only[runF,evF] at h
   by_cases q:evE d b=0
   ·simp only[q,ne_eq,not_true,if_false] at h;exact ih h
   ·simp only[q,ne_eq,not_false_eq_true,if_true] at h
    injection h with h
    exact q h
 unfold Zq at h
 rw[Z8v d hd,Z9H d ((mpE d.Events).ks,(mpE d.Events).vs)] at h
 obtain⟨v1,h1⟩:=Z7d d hd.title hd.rate.1 hd.rate.2
 obtain⟨v2,h2⟩:=Z6R d.Regions
 rw[h1,h2] at h ⊢
 simp only[Option.bind_some] at h
 by_cases q1:v1=0
 ·subst q1
  simp only[bne_self_eq_false,Bool.false_eq_true,if_false] at h
  by_cases q2:v2=0
  ·subst q2
   simp only[bne_self_eq_false,Bool.false_eq_true,if_false] at h
   by_cases q3:400 < (d.Events.length:Int)
   ·simp[q3] at h
   ·simp only[q3,decide_false,Bool.false_eq_true,if_false] at h
    cases hr:runF (evF d) (fun _=>(.inr ():Int ⊕ Unit)) () d.Events.zipIdx with
    | inl v =>
     rw[hr] at h
     simp only[Option.some.injEq] at h
     subst h
     exact absurd hr (hne _)
    | inr u =>
     rw[hr] at h
     simp only[Option.bind_fun_some] at h
     exact⟨rfl,rfl,q3,hall _ ⟨u,hr⟩,h⟩
  ·rw[if_pos (by simpa using q2)] at h
   cases h
   exact absurd rfl q2
 ·rw[if_pos (by simpa using q1)] at h
  cases h
  exact absurd rfl q1
theorem Zes(d:Z2)(hd:DocZ d)(hc:Zq d=some 0)(hD:Z8f d){l:List Z8}{ev r:List Z0}(ha:apR d.Events l=.inr ev)(hp:r.Perm ev)(hs:Srt r):DocZ (Z3k d r)/\Zq (Z3k d r)=some 0:=by
 obtain⟨b1,b2,b3⟩:=Z9E l d.Events ev ha
 have hmap:=ZeZ l d.Events ev ha
 have hbad:=Zgq l d.Events ev ha
 have hids:(r.map (·.ID)).Perm (d.Events.map (·.ID)):=by rw[<- b2];exact hp.map _
 have hnd:(r.map (·.ID)).Nodup:=hids.nodup_iff.2 hD.ids
 have hrl:∀ e' ∈ r,∃ e ∈ d.Events,Rl e e':=by
  intro e' he'
  have:=hp.subset he'
  rw[hmap] at this
  obtain⟨e,he,rfl⟩:=List.mem_map.1 this
  have hok:=hD.ev e he
  exact⟨e,he,Zf9 l e e hbad ⟨rfl,rfl,rfl,rfl,rfl,by unfold spB;simp[hok.span]⟩⟩
 have hlen:r.length=d.Events.length:=by rw[hp.length_eq,b1]
 have hz:DocZ (Z3k d r):=⟨hd.title,hd.rate,hd.regs,by show r.length<=_;rw[hlen];exact hd.evs,fun e he=>b3 hd.ev e (hp.subset he),hd.coms,hd.com⟩
 refine⟨hz,?_⟩
 obtain⟨p1,p2,p3,p4,p5⟩:=Zgz d hd hc
 have hrows:∀ e' ∈ r,∀ e ∈ d.Events,e'.ID=e.ID->e'.Rows=e.Rows:=by
  intro e' he' e he hid
  obtain⟨e0,he0,hR⟩:=hrl e' he'
  obtain⟨i,hi,rfl⟩:=List.getElem_of_mem he
  obtain⟨j,hj,rfl⟩:=List.getElem_of_mem he0
  have:=Z7y hD.ids hj hi (by rw[<- hR.id,hid])
  subst this
  exact hR.rows
 have hev:∀ a ∈ r.zipIdx,evE (Z3k d r) a=0:=by
  rintro⟨e',i⟩ ha'
  rw[List.mem_zipIdx_iff_getElem?] at ha'
  simp only at ha'
  obtain⟨hi,rfl⟩:=List.getElem?_eq_some_iff.1 ha'
  obtain⟨e,he,hR⟩:=hrl _ (List.getElem_mem hi)
  obtain⟨j,hj,rfl⟩:=List.getElem_of_mem he
  have h0:=p4 (d.Events[j],j) (List.mem_zipIdx_iff_getElem?.2 (List.getElem?_eq_getElem hj))
  have hchk:=ZgD d hd hc _ (List.getElem_mem hj)
  unfold evE at h0 ⊢
  have e1:(Z3k d r).Regions=d.Regions:=rfl
  have e2:(Z3k d r).Events=r:=rfl
  have e3:(Z3k d r).Last=d.Last:=rfl
  rw[hchk] at h0
  rw[e1,ZhU hR _ hchk]
  simp only[Option.getD_some,ne_eq,not_true_eq_false,if_false,e2,e3] at h0 ⊢
  have q1:¬ d.Last < d.Events[j].ID:=by
   intro q
   rw[if_pos q] at h0
   cases h0
  rw[hR.id,if_neg q1]
  have q2:¬ (∃ h:0 < i/\i - 1 < r.length,ltE (r[i - 1]'h.2) r[i]=false):=by
   rintro⟨h,hl⟩
   have:=Srt.at hs (i:=i - 1) (j:=i) (by omega) hi
   have hne:r[i].ID≠(r[i - 1]'h.2).ID:=fun e=>by
    have:=Z7y hnd hi h.2 e
    omega
   unfold ltE at this hl
   simp only[Bool.or_eq_false_iff,decide_eq_false_iff_not,Bool.and_eq_false_imp,decide_eq_true_eq] at this hl
   omega
  rw[if_neg q2]
  have q3:((r.take i).map (·.ID)).contains d.Events[j].ID=false:=by
   rw[<- hR.id,Bool.eq_false_iff]
   intro q
   rw[List.contains_iff_mem] at q
   obtain⟨x,hx,hxe⟩:=List.mem_map.1 q
   obtain⟨m,hm,rfl⟩:=List.getElem_of_mem hx
   rw[List.length_take] at hm
   rw[List.getElem_take] at hxe
   have:=Z7y hnd (show m < r.length by omega) hi hxe
   omega
  rw[q3]
  simp
 unfold Zq
 rw[Z8v _ hz,show(Z3k d r).Events=r from rfl,ZeX _ _ _ hev]
 rw[show Z0r (Z3k d r)=Z0r d from rfl,p1,show(Z3k d r).Regions=d.Regions from rfl,p2]
 simp only[Option.bind_some,bne_self_eq_false,Bool.false_eq_true,if_false]
 rw[if_neg (by rw[hlen];simpa using p3)]
 have:=Zjd d r hids hrows
 rw[p5] at this
 simp only[Option.bind_fun_some]
 exact this
theorem ZgA:DocZ docN:=⟨by simp[docN],by simp[docN],by simp[docN],by simp[docN],fun e he=>by simp[docN] at he,by simp[docN],fun c hc=>by simp[docN] at hc⟩
end Go.Proofs.YtobglplholhkcaaGreatDoor
