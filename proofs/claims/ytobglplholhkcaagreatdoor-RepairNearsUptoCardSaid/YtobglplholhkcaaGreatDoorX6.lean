/- Texts of one proof, put together (D1, D2, V6, V14, V15, V7, V8, V9, V10, V11, V12, V13, V16, V17, V3, V18, Laid9, LT, LL, V19, V20, V21, LW, Opn, OpnB). No condition but those that each theorem states. -/
import Derived.Test.YtobglplholhkcaaGreatDoorX5
import Derived.Test.YtobglplholhkcaaGreatDoorCards
import Derived.Test.YtobglplholhkcaaGreatDoorTie
import Derived.ProofKit
import Derived.OpenShut
import Derived.Deep.DeepHandedRow
import Derived.Lib.LaidIn
import Derived.Lib.LaidU8T
import Derived.Shelf.Vars
import Derived.Lib.SmallJoins
import Derived.Deep.Slices
import Derived.Deep.Fields
import Derived.Test.YtobglplholhkcaaGreatDoorRows
set_option linter.unusedSimpArgs false
set_option linter.unusedVariables false
namespace Go.Proofs.YtobglplholhkcaaGreatDoor
structure Ed where
 i:Nat
 j:Nat
 c:Int
inductive Wlk (p:Ed→Prop):Nat→Nat→List Ed→Prop
 | nil (u:Nat):Wlk p u u []
 | cons {e:Ed} {v:Nat} {L:List Ed}:p e→Wlk p e.j v L→Wlk p e.i v (e::L)
theorem Wlk.nil_eq {p:Ed→Prop} {u v:Nat} (h:Wlk p u v []):u=v:=by
 cases h
 rfl
def sumE:List Ed→Int
 | []=>0
 | e::L=>e.c+sumE L
theorem sumE_app:∀ (x y:List Ed),sumE (x++y)=sumE x+sumE y
 | [],y=>by simp[sumE]
 | e::x,y=>by simp only[List.cons_append,sumE,sumE_app x y];omega
theorem Wlk.app {p:Ed→Prop} {u v w:Nat} {x y:List Ed} (h:Wlk p u v x) (k:Wlk p v w y):Wlk p u w (x++y):=by
 induction h with
 | nil=>exact k
 | cons h1 _ ih=>exact .cons h1 (ih k)
theorem Wlk.split {p:Ed→Prop} {u w:Nat}:∀ {x y:List Ed},Wlk p u w (x++y)→∃ v,Wlk p u v x∧Wlk p v w y
 | [],y,h=>⟨u,.nil u,h⟩
 | e::x,y,h=>by
  cases h with
  | cons h1 h2 =>
   obtain⟨v,a,b⟩:=Wlk.split (x:=x) h2
   exact⟨v,.cons h1 a,b⟩
theorem Wlk.mono {p q:Ed→Prop} {u v:Nat} {L:List Ed} (h:Wlk p u v L) (hpq:∀ e ∈ L,p e→q e):Wlk q u v L:=by
 induction h with
 | nil=>exact .nil _
 | cons h1 _ ih=>exact .cons (hpq _ (by simp) h1) (ih fun e he=>hpq e (by simp[he]))
theorem Wlk.mem {p:Ed→Prop} {u v:Nat} {L:List Ed} (h:Wlk p u v L):∀ e ∈ L,p e:=by
 induction h with
 | nil=>simp
 | cons h1 _ ih =>
  intro e he
  rcases List.mem_cons.1 he with rfl|he
  ·exact h1
  ·exact ih e he
def NoNeg (p:Ed→Prop):Prop:=∀ u L,Wlk p u u L→0≤sumE L
def In (p:Ed→Prop) (n:Nat):Prop:=∀ e,p e→e.i < n∧e.j < n
theorem nodup_le:∀ (n:Nat) (l:List Nat),l.Nodup→(∀ x ∈ l,x < n)→l.length≤n
 | 0,l,_,h=>by
  cases l with
  | nil=>simp
  | cons a l=>exact absurd (h a (by simp)) (by omega)
 | n+1,l,hd,h=>by
  by_cases hn:n ∈ l
  ·have h1:(l.erase n).length≤n:=nodup_le n (l.erase n) (hd.erase n) (fun x hx=>by
    have h2:=(hd.mem_erase_iff).1 hx
    have:=h x h2.2
    have:=h2.1
    omega)
   rw[List.length_erase_of_mem hn] at h1
   omega
  ·have:=nodup_le n l hd (fun x hx=>by
    have:=h x hx
    have:x≠n:=fun e=>hn (e ▸ hx)
    omega)
   omega
theorem dup_split:∀ (l:List Nat),¬ l.Nodup→∃ (a b c:List Nat) (x:Nat),l=a++x::(b++x::c)
 | [],h=>absurd List.nodup_nil h
 | y::l,h=>by
  by_cases hy:y ∈ l
  ·obtain⟨b,c,rfl⟩:=List.append_of_mem hy
   exact⟨[],b,c,y,rfl⟩
  ·have:¬ l.Nodup:=fun hn=>h (List.nodup_cons.2 ⟨hy,hn⟩)
   obtain⟨a,b,c,x,rfl⟩:=dup_split l this
   exact⟨y::a,b,c,x,rfl⟩
theorem cut_walk {p:Ed→Prop} {u v:Nat} {L:List Ed} (h:Wlk p u v L) (hd:¬ (L.map (·.i)).Nodup):∃ (x y z:List Ed) (m:Nat),L=x++y++z∧y≠[]∧Wlk p u m x∧Wlk p m m y∧Wlk p m v z∧z≠[]:=by
 obtain⟨a,b,c,m,e⟩:=dup_split _ hd
 obtain⟨x,r,rfl,hx,hr⟩:=List.map_eq_append_iff.1 e
 obtain⟨e1,r1,rfl,he1,hr1⟩:=List.map_eq_cons_iff.1 hr
 obtain⟨y,r2,rfl,hy,hr2⟩:=List.map_eq_append_iff.1 hr1
 obtain⟨e2,z,rfl,he2,hz⟩:=List.map_eq_cons_iff.1 hr2
 obtain⟨m1,w1,w2⟩:=Wlk.split h
 have h1:m1=m:=by
  cases w2 with
  | cons _ _=>exact he1
 subst h1
 rw[show e1::(y++e2::z)=(e1::y)++(e2::z) from rfl] at w2
 obtain⟨m2,w3,w4⟩:=Wlk.split w2
 have h2:m2=m1:=by
  cases w4 with
  | cons _ _=>exact he2
 subst h2
 exact⟨x,e1::y,e2::z,m2,by simp,by simp,w1,w3,w4,by simp⟩
theorem shorten1 {p:Ed→Prop} {n:Nat} (hn:NoNeg p) (hi:In p n) {u v:Nat} {L:List Ed} (hv:v < n) (h:Wlk p u v L):∃ L',Wlk p u v L'∧L'.length < n∧sumE L'≤sumE L:=by
 have key:∀ (k:Nat) {u:Nat} {L:List Ed},L.length≤k→Wlk p u v L→∃ L',Wlk p u v L'∧(L'.map (·.i)++[v]).Nodup∧sumE L'≤sumE L:=by
  intro k
  induction k with
  | zero =>
   intro u L hk h
   obtain rfl:L=[]:=List.eq_nil_of_length_eq_zero (by omega)
   exact⟨[],h,by simp,Int.le_refl _⟩
  | succ k ih =>
   intro u L hk h
   by_cases hd:(L.map (·.i)).Nodup
   ·by_cases hm:v ∈ L.map (·.i)
    ·obtain⟨e,he,hev⟩:=List.mem_map.1 hm
     obtain⟨x,y,rfl⟩:=List.append_of_mem he
     obtain⟨m,w1,w2⟩:=Wlk.split h
     have hmv:m=v:=by
      cases w2 with
      | cons _ _=>exact hev
     subst hmv
     obtain⟨L',a1,a2,a3⟩:=ih (L:=x) (by simp only[List.length_append,List.length_cons] at hk;omega) w1
     refine⟨L',a1,a2,Int.le_trans a3 ?_⟩
     have:=hn m _ w2
     rw[sumE_app]
     omega
    ·refine⟨L,h,?_,Int.le_refl _⟩
     rw[List.nodup_append]
     refine⟨hd,by simp,fun a ha b hb=>?_⟩
     simp only[List.mem_singleton] at hb
     subst hb
     exact fun e=>hm (e ▸ ha)
   ·obtain⟨x,y,z,m,rfl,hy,w1,w2,w3,_⟩:=cut_walk h hd
    have hyl:0 < y.length:=List.length_pos_iff.2 hy
    obtain⟨L',a1,a2,a3⟩:=ih (L:=x++z) (by simp only[List.length_append] at hk ⊢;omega) (w1.app w3)
    refine⟨L',a1,a2,Int.le_trans a3 ?_⟩
    have:=hn m y w2
    simp only[sumE_app]
    omega
 obtain⟨L',a1,a2,a3⟩:=key L.length (Nat.le_refl _) h
 refine⟨L',a1,?_,a3⟩
 have:=nodup_le n _ a2 (fun x hx=>by
  rcases List.mem_append.1 hx with hx|hx
  ·obtain⟨e,he,rfl⟩:=List.mem_map.1 hx
   exact(hi e (a1.mem e he)).1
  ·simp at hx;omega)
 simp at this
 omega
def low (x:List Int) (e:Ed):List Int:=if x.getD e.i 0+e.c < x.getD e.j 0 then x.set e.j (x.getD e.i 0+e.c) else x
def rnd (l:List Ed) (x:List Int):List Int:=l.foldl low x
theorem low_len (x:List Int) (e:Ed):(low x e).length=x.length:=by unfold low;split<;>simp
theorem rnd_len:∀ (l:List Ed) (x:List Int),(rnd l x).length=x.length
 | [],x=>rfl
 | e::l,x=>by
  show(rnd l (low x e)).length=_
  rw[rnd_len l,low_len]
theorem set_getD (x:List Int) (i v:Nat) (y:Int):(x.set i y).getD v 0=if i=v∧v < x.length then y else x.getD v 0:=by
 simp only[List.getD,List.getElem?_set]
 by_cases h:i=v
 ·subst h
  by_cases hv:i < x.length
  ·simp[hv]
  ·simp[hv]
 ·simp[h]
theorem low_le (x:List Int) (e:Ed) (v:Nat):(low x e).getD v 0≤x.getD v 0:=by
 unfold low
 split
 ·rw[set_getD]
  split
  ·rename_i h1 h2;rw[← h2.1];omega
  ·exact Int.le_refl _
 ·exact Int.le_refl _
theorem rnd_le:∀ (l:List Ed) (x:List Int) (v:Nat),(rnd l x).getD v 0≤x.getD v 0
 | [],x,v=>Int.le_refl _
 | e::l,x,v=>Int.le_trans (rnd_le l (low x e) v) (low_le x e v)
theorem rnd_edge:∀ (l:List Ed) (x:List Int),(∀ e ∈ l,e.j < x.length)→∀ e ∈ l,(rnd l x).getD e.j 0≤x.getD e.i 0+e.c
 | [],x,_,e,h=>by simp at h
 | e::l,x,hj,e',h=>by
  show(rnd l (low x e)).getD e'.j 0≤_
  rcases List.mem_cons.1 h with rfl|h
  ·refine Int.le_trans (rnd_le l _ _) ?_
   unfold low
   split
   ·rw[set_getD,if_pos ⟨rfl,hj _ (by simp)⟩];exact Int.le_refl _
   ·omega
  ·have h1:=rnd_edge l (low x e) (fun e2 he2=>by rw[low_len];exact hj e2 (by simp[he2])) e' h
   have h2:=low_le x e e'.i
   omega
def SumW (p:Ed→Prop) (n:Nat) (x:List Int):Prop:=∀ v,v < n→∃ u L,u < n∧Wlk p u v L∧sumE L=x.getD v 0
theorem Wlk.snoc {p:Ed→Prop} {u v:Nat} {L:List Ed} {e:Ed} (h:Wlk p u v L) (he:p e) (hv:v=e.i):Wlk p u e.j (L++[e]):=by
 subst hv
 exact h.app (.cons he (.nil _))
theorem low_sumW {p:Ed→Prop} {n:Nat} {x:List Int} {e:Ed} (h:SumW p n x) (hi:In p n) (he:p e):SumW p n (low x e):=by
 intro v hv
 unfold low
 split
 ·rw[set_getD]
  split
  ·rename_i h1 h2
   obtain⟨u,L,hu,w,s⟩:=h e.i (hi e he).1
   refine⟨u,L++[e],hu,?_,?_⟩
   ·rw[← h2.1];exact w.snoc he rfl
   ·rw[sumE_app,s];simp[sumE]
  ·exact h v hv
 ·exact h v hv
theorem rnd_sumW {p:Ed→Prop} {n:Nat} (hi:In p n):∀ (l:List Ed) {x:List Int},(∀ e ∈ l,p e)→SumW p n x→SumW p n (rnd l x)
 | [],x,_,h=>h
 | e::l,x,hl,h=>rnd_sumW hi l (fun e' he'=>hl e' (by simp[he'])) (low_sumW h hi (hl e (by simp)))
def rnds (l:List Ed) (x:List Int):Nat→List Int
 | 0=>x
 | k+1=>rnd l (rnds l x k)
theorem rnds_len (l:List Ed) (x:List Int):∀ k,(rnds l x k).length=x.length
 | 0=>rfl
 | k+1=>by show(rnd l _).length=_;rw[rnd_len,rnds_len l x k]
theorem rnds_walk {l:List Ed} {x:List Int} (hx:∀ v,x.getD v 0=0) (hj:∀ e ∈ l,e.j < x.length):∀ (k:Nat) {u v:Nat} {L:List Ed},L.length≤k→Wlk (· ∈ l) u v L→(rnds l x k).getD v 0≤sumE L:=by
 intro k
 induction k with
 | zero =>
  intro u v L hk h
  obtain rfl:L=[]:=List.eq_nil_of_length_eq_zero (by omega)
  show x.getD v 0≤0
  rw[hx];exact Int.le_refl _
 | succ k ih =>
  intro u v L hk h
  show(rnd l (rnds l x k)).getD v 0≤sumE L
  rcases List.eq_nil_or_concat L with rfl|⟨M,e,rfl⟩
  ·refine Int.le_trans (rnd_le l _ v) (ih (L:=[]) (by simp) h)
  ·rw[List.concat_eq_append] at h hk ⊢
   obtain⟨m,w1,w2⟩:=Wlk.split h
   cases w2 with
   | cons he w3 =>
    have hev:=w3.nil_eq
    subst hev
    have h1:=rnd_edge l (rnds l x k) (fun e he=>by rw[rnds_len];exact hj e he) e he
    have h2:=ih (L:=M) (by simp only[List.length_append,List.length_cons,List.length_nil] at hk;omega) w1
    rw[sumE_app]
    simp only[sumE]
    omega
theorem low_same {x:List Int} {e:Ed} (h:x.getD e.j 0≤x.getD e.i 0+e.c):low x e=x:=if_neg (by omega)
theorem rnd_same:∀ (l:List Ed) (x:List Int),(∀ e ∈ l,x.getD e.j 0≤x.getD e.i 0+e.c)→rnd l x=x
 | [],x,_=>rfl
 | e::l,x,h=>by
  show rnd l (low x e)=x
  rw[low_same (h e (by simp))]
  exact rnd_same l x fun e' he'=>h e' (by simp[he'])
theorem rnds_done {l:List Ed} {x:List Int} {n:Nat} (hx:∀ v,x.getD v 0=0) (hl:x.length=n) (hi:In (· ∈ l) n) (hn:NoNeg (· ∈ l)) (hn0:0 < n):∀ e ∈ l,(rnds l x (n - 1)).getD e.j 0≤(rnds l x (n - 1)).getD e.i 0+e.c:=by
 intro e he
 have hj:∀ e ∈ l,e.j < x.length:=fun e he=>by rw[hl];exact(hi e he).2
 have hs:∀ k,SumW (· ∈ l) n (rnds l x k):=by
  intro k
  induction k with
  | zero=>exact fun v hv=>⟨v,[],hv,.nil v,by show(0:Int)=x.getD v 0;rw[hx]⟩
  | succ k ih=>exact rnd_sumW hi l (fun _ h=>h) ih
 obtain⟨u,L,hu,w,s⟩:=hs (n - 1) e.i (hi e he).1
 obtain⟨L',a1,a2,a3⟩:=shorten1 hn hi (hi e he).2 (w.snoc he rfl)
 have:=rnds_walk hx hj (n - 1) (by omega) a1
 rw[sumE_app,s] at a3
 simp only[sumE] at a3
 omega
theorem noNeg_of {p:Ed→Prop} (x:Nat→Int) (h:∀ e,p e→x e.j≤x e.i+e.c):NoNeg p:=by
 have key:∀ u v L,Wlk p u v L→x v≤x u+sumE L:=by
  intro u v L hw
  induction hw with
  | nil=>simp[sumE]
  | cons h1 _ ih=>have:=h _ h1;simp only[sumE];omega
 intro u L hw
 have:=key u u L hw
 omega
def far:Int:=1152921504606846976
def tlow (src dst:Ed→Nat) (old:List Int) (r:List Int) (e:Ed):List Int :=
 if old.getD (src e) 0≠far∧old.getD (src e) 0+e.c < r.getD (dst e) 0 then r.set (dst e) (old.getD (src e) 0+e.c) else r
def trow (src dst:Ed→Nat) (l:List Ed) (old:List Int) (n:Nat):List Int:=l.foldl (tlow src dst old) (List.replicate n far)
def RowS (R:Nat→Int→Prop) (n:Nat) (r:List Int):Prop:=r.length=n∧∀ v,v < n→(r.getD v 0≠far→R v (r.getD v 0))∧∀ c,R v c→r.getD v 0≤c
theorem tlow_len (src dst:Ed→Nat) (old r:List Int) (e:Ed):(tlow src dst old r e).length=r.length:=by unfold tlow;split<;>simp
theorem tlow_le (src dst:Ed→Nat) (old r:List Int) (e:Ed) (v:Nat):(tlow src dst old r e).getD v 0≤r.getD v 0:=by
 unfold tlow
 split
 ·rename_i h
  rw[set_getD]
  split
  ·rename_i h1;rw[← h1.1];omega
  ·exact Int.le_refl _
 ·exact Int.le_refl _
theorem tfold_le (src dst:Ed→Nat) (old:List Int):∀ (l:List Ed) (r:List Int) (v:Nat),(l.foldl (tlow src dst old) r).getD v 0≤r.getD v 0
 | [],_,_=>Int.le_refl _
 | e::l,r,v=>Int.le_trans (tfold_le src dst old l _ v) (tlow_le src dst old r e v)
theorem tfold_len (src dst:Ed→Nat) (old:List Int):∀ (l:List Ed) (r:List Int),(l.foldl (tlow src dst old) r).length=r.length
 | [],_=>rfl
 | e::l,r=>by rw[List.foldl_cons,tfold_len src dst old l,tlow_len]
theorem tfold_from (src dst:Ed→Nat) (old:List Int) (n:Nat):∀ (l:List Ed) (r:List Int),r.length=n→∀ v,v < n→(l.foldl (tlow src dst old) r).getD v 0=r.getD v 0∨∃ e ∈ l,dst e=v∧old.getD (src e) 0≠far∧(l.foldl (tlow src dst old) r).getD v 0=old.getD (src e) 0+e.c
 | [],_,_,_,_=>.inl rfl
 | e::l,r,hr,v,hv=>by
  rw[List.foldl_cons]
  rcases tfold_from src dst old n l (tlow src dst old r e) (by rw[tlow_len,hr]) v hv with h|⟨e',he',h⟩
  ·rw[h]
   unfold tlow
   split
   ·rename_i hc
    rw[set_getD]
    split
    ·rename_i h1;exact .inr ⟨e,by simp,h1.1,hc.1,rfl⟩
    ·exact .inl rfl
   ·exact .inl rfl
  ·exact .inr ⟨e',by simp[he'],h⟩
theorem tfold_edge (src dst:Ed→Nat) (old:List Int) (n:Nat):∀ (l:List Ed) (r:List Int),r.length=n→∀ e ∈ l,dst e < n→old.getD (src e) 0≠far→(l.foldl (tlow src dst old) r).getD (dst e) 0≤old.getD (src e) 0+e.c
 | [],_,_,e,h,_,_=>by simp at h
 | e'::l,r,hr,e,h,hd,ho=>by
  rw[List.foldl_cons]
  rcases List.mem_cons.1 h with rfl|h
  ·refine Int.le_trans (tfold_le src dst old l _ _) ?_
   unfold tlow
   split
   ·rw[set_getD,if_pos ⟨rfl,by omega⟩];exact Int.le_refl _
   ·rename_i hc
    have:¬ (old.getD (src e) 0+e.c < r.getD (dst e) 0):=fun q=>hc ⟨ho,q⟩
    omega
  ·exact tfold_edge src dst old n l _ (by rw[tlow_len,hr]) e h hd ho
theorem rep_getD {n v:Nat} (hv:v < n):(List.replicate n far).getD v 0=far:=by simp[List.getD,hv]
theorem trow_spec {src dst:Ed→Nat} {l:List Ed} {old:List Int} {n:Nat} {R R':Nat→Int→Prop} (hb:∀ v c,R v c→c < far) (hb':∀ v c,R' v c→c < far) (hi:∀ e ∈ l,src e < n∧dst e < n) (ho:RowS R n old)
  (hR:∀ v c,R' v c ↔ ∃ e ∈ l,dst e=v∧∃ c',R (src e) c'∧c=c'+e.c):RowS R' n (trow src dst l old n):=by
 refine⟨by unfold trow;rw[tfold_len];simp,fun v hv=>⟨fun hne=>?_,fun c hc=>?_⟩⟩
 ·rcases tfold_from src dst old n l (List.replicate n far) (by simp) v hv with h|⟨e,he,h1,h2,h3⟩
  ·exact absurd (h.trans (rep_getD hv)) hne
  ·refine(hR v _).2 ⟨e,he,h1,_,(ho.2 _ (hi e he).1).1 h2,h3⟩
 ·obtain⟨e,he,rfl,c',hc',rfl⟩:=(hR v c).1 hc
  have h1:=(ho.2 _ (hi e he).1).2 c' hc'
  have h2:=hb _ _ hc'
  have:=tfold_edge src dst old n l (List.replicate n far) (by simp) e he (hi e he).2 (by omega)
  show(l.foldl (tlow src dst old) (List.replicate n far)).getD _ 0≤_
  omega
def FW (l:List Ed) (s k v:Nat) (c:Int):Prop:=∃ L,Wlk (· ∈ l) s v L∧L.length=k∧sumE L=c
theorem sumE_bd {l:List Ed} (hc:∀ e ∈ l,-1099511627776≤e.c∧e.c≤1099511627776):∀ (L:List Ed),(∀ e ∈ L,e ∈ l)→-((L.length:Int) * 1099511627776)≤sumE L∧sumE L≤(L.length:Int) * 1099511627776
 | [],_=>by simp[sumE]
 | e::L,h=>by
  have h1:=sumE_bd hc L fun e he=>h e (by simp[he])
  have h2:=hc e (h e (by simp))
  simp only[sumE,List.length_cons,Int.natCast_add,Int.natCast_one,Int.add_mul]
  omega
theorem fw_bd {l:List Ed} (hc:∀ e ∈ l,-1099511627776≤e.c∧e.c≤1099511627776) {s k v:Nat} {c:Int} (h:FW l s k v c):-((k:Int) * 1099511627776)≤c∧c≤(k:Int) * 1099511627776:=by
 obtain⟨L,w,rfl,rfl⟩:=h
 exact sumE_bd hc L w.mem
theorem fw_0 {l:List Ed} {s v:Nat} {c:Int}:FW l s 0 v c ↔ v=s∧c=0:=by
 constructor
 ·rintro⟨L,w,h,rfl⟩
  obtain rfl:=List.eq_nil_of_length_eq_zero h
  exact⟨w.nil_eq.symm,rfl⟩
 ·rintro⟨rfl,rfl⟩
  exact⟨[],.nil _,rfl,rfl⟩
theorem fw_snoc {l:List Ed} {s k v:Nat} {c:Int}:FW l s (k+1) v c ↔ ∃ e ∈ l,e.j=v∧∃ c',FW l s k e.i c'∧c=c'+e.c:=by
 constructor
 ·rintro⟨L,w,h,rfl⟩
  rcases List.eq_nil_or_concat L with rfl|⟨M,e,rfl⟩
  ·simp at h
  ·rw[List.concat_eq_append] at w h ⊢
   obtain⟨m,w1,w2⟩:=Wlk.split w
   cases w2 with
   | cons he w3 =>
    refine⟨e,he,w3.nil_eq,_,⟨M,w1,by simpa using h,rfl⟩,?_⟩
    rw[sumE_app];simp[sumE]
 ·rintro⟨e,he,rfl,c',⟨M,w,h,rfl⟩,rfl⟩
  exact⟨M++[e],w.snoc he rfl,by simp[h],by rw[sumE_app];simp[sumE]⟩
theorem fw_cons {l:List Ed} {k u t:Nat} {c:Int}:FW l u (k+1) t c ↔ ∃ e ∈ l,e.i=u∧∃ c',FW l e.j k t c'∧c=c'+e.c:=by
 constructor
 ·rintro⟨L,w,h,rfl⟩
  cases w with
  | nil=>simp at h
  | @cons e _ M he w2=>exact⟨e,he,rfl,_,⟨M,w2,by simpa using h,rfl⟩,by simp only[sumE];omega⟩
 ·rintro⟨e,he,rfl,c',⟨M,w,h,rfl⟩,rfl⟩
  exact⟨e::M,.cons he w,by simp[h],by simp only[sumE];omega⟩
theorem row_0 {l:List Ed} {n s:Nat} (hs:s < n):RowS (fun v c=>FW l s 0 v c) n ((List.replicate n far).set s 0):=by
 refine⟨by simp,fun v hv=>⟨fun h=>?_,fun c hc=>?_⟩⟩
 ·rw[set_getD] at h ⊢
  by_cases hsv:s=v
  ·rw[if_pos ⟨hsv,by simpa using hv⟩];exact fw_0.2 ⟨hsv.symm,rfl⟩
  ·rw[if_neg (fun q=>hsv q.1),rep_getD hv] at h;exact absurd rfl h
 ·obtain⟨rfl,rfl⟩:=fw_0.1 hc
  rw[set_getD,if_pos ⟨rfl,by simpa using hv⟩]
  exact Int.le_refl _
theorem row_0b {l:List Ed} {n t:Nat} (ht:t < n):RowS (fun u c=>FW l u 0 t c) n ((List.replicate n far).set t 0):=by
 have h:=row_0 (l:=l) (n:=n) (s:=t) ht
 refine⟨h.1,fun v hv=>⟨fun q=>?_,fun c hc=>?_⟩⟩
 ·have:=fw_0.1 ((h.2 v hv).1 q)
  exact fw_0.2 ⟨this.1.symm,this.2⟩
 ·have:=fw_0.1 hc
  exact(h.2 v hv).2 c (fw_0.2 ⟨this.1.symm,this.2⟩)
section
variable {l:List Ed} {n:Nat} (hc:∀ e ∈ l,-1099511627776≤e.c∧e.c≤1099511627776) (hi:In (· ∈ l) n)
include hc hi
theorem row_f {s k:Nat} {old:List Int} (hk:k≤1000000) (h:RowS (fun v c=>FW l s k v c) n old):RowS (fun v c=>FW l s (k+1) v c) n (trow (·.i) (·.j) l old n):=by
 refine trow_spec (fun v c q=>?_) (fun v c q=>?_) (fun e he=>hi e he) h (fun v c=>fw_snoc)
 ·have:=fw_bd hc q;unfold far;omega
 ·have:=fw_bd hc q;unfold far;omega
theorem row_b {t k:Nat} {old:List Int} (hk:k≤1000000) (h:RowS (fun u c=>FW l u k t c) n old):RowS (fun u c=>FW l u (k+1) t c) n (trow (·.j) (·.i) l old n):=by
 refine trow_spec (fun v c q=>?_) (fun v c q=>?_) (fun e he=>⟨(hi e he).2,(hi e he).1⟩) h (fun v c=>fw_cons)
 ·have:=fw_bd hc q;unfold far;omega
 ·have:=fw_bd hc q;unfold far;omega
end
def Cyc (p:Ed→Prop) (k:Nat):Prop:=∃ u L,Wlk p u u L∧L.length=k∧sumE L < 0
def Least (p:Ed→Prop) (k:Nat):Prop:=∀ k',k' < k→¬ Cyc p k'
theorem cyc_simple {p:Ed→Prop} {u:Nat} {L:List Ed} (hl:Least p L.length) (w:Wlk p u u L) (hs:sumE L < 0):(L.map (·.i)).Nodup:=by
 refine Classical.byContradiction fun hd=>?_
 obtain⟨x,y,z,m,rfl,hy,w1,w2,w3,hz⟩:=cut_walk w hd
 have hyl:0 < y.length:=List.length_pos_iff.2 hy
 have hzl:0 < z.length:=List.length_pos_iff.2 hz
 simp only[sumE_app] at hs
 by_cases h:sumE y < 0
 ·exact hl y.length (by simp only[List.length_append];omega) ⟨m,y,w2,rfl,h⟩
 ·exact hl (x++z).length (by simp only[List.length_append];omega) ⟨u,x++z,w1.app w3,rfl,by rw[sumE_app];omega⟩
theorem cyc_of {p:Ed→Prop} {n:Nat} (hi:In p n) (hn:¬ NoNeg p):∃ k,0 < k∧k≤n∧Cyc p k∧Least p k:=by
 have h1:∃ k,Cyc p k:=by
  refine Classical.byContradiction fun h=>hn fun u L w=>?_
  refine Classical.byContradiction fun hs=>h ⟨L.length,u,L,w,rfl,by omega⟩
 have hmin:∀ k,Cyc p k→∃ m,Cyc p m∧Least p m:=by
  intro k
  induction k using Nat.strongRecOn with
  | ind k ih =>
   intro hk
   by_cases hl:Least p k
   ·exact⟨k,hk,hl⟩
   ·have:∃ k',k' < k∧Cyc p k':=by
     refine Classical.byContradiction fun q=>hl fun k' hk' hc=>q ⟨k',hk',hc⟩
    obtain⟨k',hk',hc⟩:=this
    exact ih k' hk' hc
 obtain⟨k,hk⟩:=h1
 obtain⟨m,⟨u,L,w,rfl,hs⟩,hl⟩:=hmin k hk
 have hd:=cyc_simple hl w hs
 have hle:=nodup_le n _ hd (fun x hx=>by
  obtain⟨e,he,rfl⟩:=List.mem_map.1 hx
  exact(hi e (w.mem e he)).1)
 refine⟨L.length,?_,by simpa using hle,⟨u,L,w,rfl,hs⟩,hl⟩
 rcases Nat.eq_zero_or_pos L.length with h|h
 ·obtain rfl:=List.eq_nil_of_length_eq_zero h
  simp[sumE] at hs
 ·exact h
theorem Wlk.head {p:Ed→Prop} {u v:Nat} {L:List Ed} (h:Wlk p u v L):(L.map (·.i)++[v]).head? = some u:=by
 cases h<;>rfl
set_option maxRecDepth 100000
def ed (b:T_api_Bound):Ed:=⟨b.I.toNat,b.J.toNat,b.C⟩
def eds (l:List T_api_Bound):List Ed:=l.map ed
structure BdsOK (n:Nat) (l:List T_api_Bound):Prop where
 n1:1≤n
 n2:n≤512
 len:l.length≤4000
 bd:∀ b ∈ l,0≤b.I∧b.I < (n:Int)∧0≤b.J∧b.J < (n:Int)∧-1099511627776≤b.C∧b.C≤1099511627776
theorem BdsOK.inn {n:Nat} {l:List T_api_Bound} (h:BdsOK n l):In (· ∈ eds l) n:=by
 intro e he
 obtain⟨b,hb,rfl⟩:=List.mem_map.1 he
 have:=h.bd b hb
 simp only[ed]
 omega
theorem BdsOK.cc {n:Nat} {l:List T_api_Bound} (h:BdsOK n l):∀ e ∈ eds l,-1099511627776≤e.c∧e.c≤1099511627776:=by
 intro e he
 obtain⟨b,hb,rfl⟩:=List.mem_map.1 he
 have:=h.bd b hb
 simp only[ed]
 omega
theorem atI_getD {x:List Int} {k:Int} (h0:0≤k) (h1:k < (x.length:Int)):atI x k=some (x.getD k.toNat 0):=by
 obtain⟨k,rfl⟩:=Int.eq_ofNat_of_zero_le h0
 rw[atI_nat (show k < x.length by omega)]
 simp[List.getD,show k < x.length by omega]
theorem setI_nat {α:Type} {l:List α} {n:Nat} (x:α) (h:n < l.length):setI l (n:Int) x=some (l.set n x):=by
 unfold setI
 rw[if_pos (by omega)]
 rfl
theorem setI_toNat {α:Type} {l:List α} {k:Int} (x:α) (h0:0≤k) (h1:k < (l.length:Int)):setI l k x=some (l.set k.toNat x):=by
 obtain⟨k,rfl⟩:=Int.eq_ofNat_of_zero_le h0
 exact setI_nat x (by omega)
theorem runF_inr {S α E:Type} (F:S→α→S) (fin:S→E):∀ (L:List α) (s:S),runF (fun s a=>.inr (F s a)) fin s L=fin (L.foldl F s)
 | [],s=>rfl
 | a::L,s=>by simp only[runF,List.foldl_cons];exact runF_inr F fin L _
def heed (x:List Int) (e:Ed):Prop:=x.getD e.j 0≤x.getD e.i 0+e.c
def Bd (n:Nat) (K:Int) (x:List Int):Prop:=x.length=n∧∀ v,v < n→-(K * 1099511627776)≤x.getD v 0∧x.getD v 0≤0
def chF (s:Bool × List Int) (b:T_api_Bound):Bool × List Int:=if s.2.getD (ed b).i 0+(ed b).c < s.2.getD (ed b).j 0 then(true,s.2.set (ed b).j (s.2.getD (ed b).i 0+(ed b).c)) else s
theorem chF_snd (s:Bool × List Int) (b:T_api_Bound):(chF s b).2=low s.2 (ed b):=by unfold chF low;split<;>rfl
theorem chF_fold:∀ (l:List T_api_Bound) (s:Bool × List Int),(l.foldl chF s).2=rnd (eds l) s.2
 | [],s=>rfl
 | b::l,s=>by
  rw[List.foldl_cons,chF_fold l]
  show rnd (eds l) (chF s b).2=rnd (eds l) (low s.2 (ed b))
  rw[chF_snd]
theorem chF_true:∀ (l:List T_api_Bound) (x:List Int),(l.foldl chF (true,x)).1=true
 | [],_=>rfl
 | b::l,x=>by
  rw[List.foldl_cons]
  rw[show chF (true,x) b=(true,(chF (true,x) b).2) from by unfold chF;split<;>rfl]
  exact chF_true l _
theorem chF_false:∀ (l:List T_api_Bound) (x:List Int),(l.foldl chF (false,x)).1=false ↔ ∀ e ∈ eds l,heed x e
 | [],x=>by simp[eds]
 | b::l,x=>by
  rw[List.foldl_cons]
  by_cases h:x.getD (ed b).i 0+(ed b).c < x.getD (ed b).j 0
  ·have h1:chF (false,x) b=(true,x.set (ed b).j (x.getD (ed b).i 0+(ed b).c)):=by unfold chF;rw[if_pos h]
   rw[h1,chF_true]
   constructor
   ·intro q;cases q
   ·intro q
    have:=q (ed b) (by simp[eds])
    unfold heed at this
    omega
  ·have h1:chF (false,x) b=(false,x):=by unfold chF;rw[if_neg h]
   rw[h1,chF_false l x]
   constructor
   ·intro q e he
    rcases List.mem_cons.1 he with rfl|he
    ·unfold heed;omega
    ·exact q e he
   ·intro q e he
    exact q e (List.mem_cons_of_mem _ he)
theorem low_bd {n:Nat} {l:List T_api_Bound} (hl:BdsOK n l) {b:T_api_Bound} (hb:b ∈ l) {K:Int} {x:List Int} (h:Bd n K x):Bd n (K+1) (low x (ed b)):=by
 refine⟨by rw[low_len];exact h.1,fun v hv=>?_⟩
 have hq:=hl.bd b hb
 have h1:=h.2 v hv
 unfold low
 split
 ·rename_i hlt
  rw[set_getD]
  split
  ·rename_i hvj
   have h2:=h.2 (ed b).i (by simp only[ed];omega)
   have h3:=h.2 (ed b).j (by simp only[ed];omega)
   have h4:(ed b).c=b.C:=rfl
   omega
  ·omega
 ·omega
theorem round_eq {n:Nat} {l:List T_api_Bound} (hl:BdsOK n l) {K:Int} (hK:K≤3000000) {x:List Int} (hx:Bd n K x):iter (g_diffcon_relax_w_s2 l) (false,0,x)=some ((l.foldl chF (false,x)).2,(l.foldl chF (false,x)).1):=by
 have hn:=hl.n2
 have hlen:=hl.len
 have:=iter_run (step:=g_diffcon_relax_w_s2 l) l (by omega) (fun i (s:Bool × List Int)=>(s.1,i,s.2)) (fun s b=>.inr (chF s b)) (fun s=>(s.2,s.1)) (fun i s=>Bd n (K+i) s.2) (s0:=(false,x)) (by simpa using hx)
  (fun i hi s hs=>.inr ⟨_,rfl,by
   have hb:=hl.bd _ (List.getElem_mem hi)
   unfold g_diffcon_relax_w_s2
   rw[if_pos (by simpa using hi),atI_nat hi,wr64 (x:=(i:Int)+1) (by omega)]
   simp only[Option.bind_some]
   generalize l[i]=b at hb
   have hs1:=hs.1
   have h1:=hs.2 b.I.toNat (by omega)
   have h2:=hs.2 b.J.toNat (by omega)
   rw[atI_getD hb.1 (by omega),atI_getD hb.2.2.1 (by omega)]
   simp only[Option.bind_some]
   rw[if_pos (by rw[bne_iff_ne];omega),wr64 (x:=s.2.getD b.I.toNat 0+b.C) (by omega)]
   by_cases q:s.2.getD b.I.toNat 0+b.C < s.2.getD b.J.toNat 0
   ·have e1:chF s b=(true,s.2.set b.J.toNat (s.2.getD b.I.toNat 0+b.C)):=by unfold chF ed;rw[if_pos q]
    simp only[q,decide_true,Option.bind_some,if_true]
    rw[setI_toNat _ hb.2.2.1 (by omega),e1]
    rfl
   ·have e1:chF s b=s:=by unfold chF ed;rw[if_neg q]
    simp only[q,decide_false,Option.bind_some,Bool.false_eq_true,if_false]
    rw[e1],by
   rw[chF_snd]
   have:=low_bd hl (List.getElem_mem hi) hs
   rw[show K+((i+1:Nat):Int)=K+(i:Int)+1 by omega]
   exact this⟩)
  (fun s hs=>by unfold g_diffcon_relax_w_s2;rw[if_neg (by simp)])
 rw[runF_inr] at this
 exact this
theorem fold_bd {n:Nat} {l:List T_api_Bound} (hl:BdsOK n l) {K:Int} {x:List Int} (hx:Bd n K x):Bd n (K+4000) (rnd (eds l) x):=by
 have key:∀ (t:List T_api_Bound) (K:Int) (x:List Int),(∀ b ∈ t,b ∈ l)→Bd n K x→Bd n (K+t.length) (rnd (eds t) x):=by
  intro t
  induction t with
  | nil=>intro K x _ h;simpa[eds,rnd] using h
  | cons b t ih =>
   intro K x ht h
   have:=ih (K+1) (low x (ed b)) (fun c hc=>ht c (by simp[hc])) (low_bd hl (ht b (by simp)) h)
   show Bd n _ (rnd (eds t) (low x (ed b)))
   rw[show K+((b::t).length:Int)=K+1+(t.length:Int) by simp;omega]
   exact this
 have h1:=key l K x (fun _ h=>h) hx
 refine⟨h1.1,fun v hv=>?_⟩
 have:=h1.2 v hv
 have:=hl.len
 have h2:(K+(l.length:Int)) * 1099511627776≤(K+4000) * 1099511627776:=by omega
 omega
def x0 (n:Nat):List Int:=List.replicate n 0
theorem x0_0 (n v:Nat):(x0 n).getD v 0=0:=by
 unfold x0
 by_cases h:v < n<;>simp[List.getD,h]
theorem rnds_bd {n:Nat} {l:List T_api_Bound} (hl:BdsOK n l):∀ k:Nat,Bd n ((k:Int) * 4000) (rnds (eds l) (x0 n) k)
 | 0=>⟨by simp[rnds,x0],fun v hv=>by rw[show rnds (eds l) (x0 n) 0=x0 n from rfl,x0_0];omega⟩
 | k+1=>by
  have:=fold_bd hl (rnds_bd hl k)
  rw[show((k+1:Nat):Int) * 4000=(k:Int) * 4000+4000 by omega]
  exact this
theorem rnds_stay {l:List Ed} {x:List Int} {k:Nat} (h:∀ e ∈ l,heed (rnds l x k) e):∀ m,rnds l x (k+m)=rnds l x k
 | 0=>rfl
 | m+1=>by
  show rnd l (rnds l x (k+m))=_
  rw[rnds_stay h m]
  exact rnd_same l _ h
def sol (n:Nat) (l:List T_api_Bound):List Int:=rnds (eds l) (x0 n) (n - 1)
theorem sol_heed {n:Nat} {l:List T_api_Bound} (hl:BdsOK n l) (hn:NoNeg (· ∈ eds l)):∀ e ∈ eds l,heed (sol n l) e :=
 rnds_done (x0_0 n) (by simp[x0]) hl.inn hn hl.n1
theorem relax_eq {n:Nat} {l:List T_api_Bound} (hl:BdsOK n l):∃ r,g_diffcon_relax l (x0 n)=some r∧((NoNeg (· ∈ eds l)∧r=(true,sol n l))∨(¬ NoNeg (· ∈ eds l)∧r.1=false)):=by
 have hn:=hl.n2
 have hn1:=hl.n1
 have hx0:(x0 n).length=n:=by simp[x0]
 obtain⟨e,he,hp⟩:=iter_post (step:=g_diffcon_relax_w_s1 l (x0 n)) (fun x=>∃ i:Nat,x.1=i∧i≤n+1∧x.2=rnds (eds l) (x0 n) i∧∀ k,k < i→¬ ∀ e ∈ eds l,heed (rnds (eds l) (x0 n) k) e) (fun x=>n+1 - x.1.toNat)
  (fun e=>e.elim (fun x=>∃ k,k≤n∧x=rnds (eds l) (x0 n) k∧(∀ e ∈ eds l,heed (rnds (eds l) (x0 n) k) e)∧∀ j,j < k→¬ ∀ e ∈ eds l,heed (rnds (eds l) (x0 n) j) e) (fun x=>x.length=n∧∀ k,k < n+1→¬ ∀ e ∈ eds l,heed (rnds (eds l) (x0 n) k) e))
  (x:=(0,x0 n)) ⟨0,rfl,by omega,rfl,fun k h=>by omega⟩ (by dsimp only;omega) (by
   rintro⟨x,y⟩ ⟨i,h1,h2,h3,h4⟩
   dsimp only at h1 h3
   subst h1 h3
   unfold g_diffcon_relax_w_s1
   dsimp only
   rw[hx0,wr64 (x:=(n:Int)+1) (by omega)]
   by_cases q:i < n+1
   ·rw[if_pos (by simp;omega),round_eq hl (by omega) (rnds_bd hl i),wr64 (x:=(i:Int)+1) (by omega)]
    simp only[Option.bind_some]
    cases hc:(l.foldl chF (false,rnds (eds l) (x0 n) i)).1 with
    | true =>
     left
     simp only[if_true]
     refine⟨_,rfl,⟨i+1,by simp,by omega,?_,fun k hk=>?_⟩,by dsimp only;omega⟩
     ·dsimp only;rw[chF_fold];rfl
     ·rcases Nat.lt_succ_iff_lt_or_eq.1 hk with hk|rfl
      ·exact h4 k hk
      ·intro hh
       rw[(chF_false l _).2 hh] at hc
       cases hc
    | false =>
     right
     simp only[Bool.false_eq_true,if_false]
     have hh:=(chF_false l _).1 hc
     refine⟨_,rfl,i,by omega,?_,hh,h4⟩
     rw[chF_fold]
     exact rnd_same _ _ hh
   ·right
    rw[if_neg (by simp;omega)]
    obtain rfl:i=n+1:=by omega
    exact⟨_,rfl,by rw[rnds_len];exact hx0,h4⟩)
 have hw:g_diffcon_relax_w l (x0 n)=some (e.elim (fun x=>(true,x)) (fun x=>(false,x))):=by
  unfold g_diffcon_relax_w
  rw[he]
  cases e<;>rfl
 cases e with
 | inl x =>
  obtain⟨k,hk,rfl,hh,hf⟩:=hp
  have hnn:NoNeg (· ∈ eds l):=noNeg_of (fun v=>(rnds (eds l) (x0 n) k).getD v 0) hh
  have hkn:k≤n - 1:=by
   by_cases q:n - 1 < k
   ·exact absurd (sol_heed hl hnn) (hf (n - 1) q)
   ·omega
  have hs:rnds (eds l) (x0 n) k=sol n l:=by
   have:=rnds_stay hh (n - 1 - k)
   rw[show k+(n - 1 - k)=n - 1 by omega] at this
   exact this.symm
  refine⟨(true,sol n l),?_,.inl ⟨hnn,rfl⟩⟩
  unfold g_diffcon_relax
  rw[hw]
  simp only[Option.bind_some]
  exact(if_pos (show(rnds (eds l) (x0 n) k).length=(x0 n).length from rnds_len _ _ _)).trans (by rw[hs];rfl)
 | inr x =>
  refine⟨(false,x),?_,.inr ⟨fun hnn=>?_,rfl⟩⟩
  ·unfold g_diffcon_relax
   rw[hw]
   simp only[Option.bind_some]
   exact if_pos (show x.length=(x0 n).length by rw[hx0];exact hp.1)
  ·exact hp.2 (n - 1) (by omega) (sol_heed hl hnn)
theorem letters_tot (e:T_api_Event) (hz:EvZ e) (hr:∀ r ∈ e.Rows,r.Runs.length≤16):∃ c,g_repair_letters e=some c:=by
 obtain⟨x,he,_⟩:=iter_post (step:=g_repair_letters_s1 e) (fun x=>0≤x.2∧x.2≤(e.Rows.length:Int)) (fun x=>e.Rows.length - x.2.toNat) (fun _=>True) (x:=(0,0)) ⟨by simp,by simp⟩ (by have:=hz.1;dsimp only;omega) (by
  rintro⟨c,i⟩ ⟨q1,q2⟩
  dsimp only at q1 q2
  obtain⟨i,rfl⟩:=Int.eq_ofNat_of_zero_le q1
  have hn:=hz.1
  unfold g_repair_letters_s1
  dsimp only
  by_cases hi:i < e.Rows.length
  ·have hm:=List.getElem_mem hi
   rw[if_pos (by simpa using hi),atI_nat hi,wr64 (x:=(i:Int)+1) (by omega)]
   simp only[Option.bind_some]
   obtain⟨s,hs,hsl⟩:=plain_tot _ (hz.2 _ hm).1 (hr _ hm)
   rw[hs]
   simp only[Option.bind_some]
   obtain⟨y,hy,_⟩:=iter_post (step:=g_repair_letters_s2 s) (fun x=>True) (fun x=>s.length - x.2) (fun _=>True) (x:=(c,0)) trivial (by dsimp only;omega) (by
    rintro⟨c',p⟩ _
    unfold g_repair_letters_s2
    dsimp only
    by_cases hp:p < s.length
    ·have hw:=wd_pos hp
     rw[if_pos (by simpa using hp)]
     split
     ·exact .inl ⟨_,rfl,trivial,by dsimp only;omega⟩
     ·exact .inl ⟨_,rfl,trivial,by dsimp only;omega⟩
    ·right
     rw[if_neg (by simpa using hp)]
     exact⟨_,rfl,trivial⟩)
   rw[hy]
   exact .inl ⟨_,rfl,⟨by dsimp only;omega,by dsimp only;omega⟩,by dsimp only;omega⟩
  ·right
   rw[if_neg (by simpa using hi)]
   exact⟨_,rfl,trivial⟩)
 unfold g_repair_letters
 rw[he]
 exact⟨_,rfl⟩
def letS (e:T_api_Event):Int:=(g_repair_letters e).getD 0
theorem letS_eq (e:T_api_Event) (hz:EvZ e) (hr:∀ r ∈ e.Rows,r.Runs.length≤16):g_repair_letters e=some (letS e):=by
 obtain⟨c,h⟩:=letters_tot e hz hr
 unfold letS;rw[h];rfl
theorem needS_bd (r c l:Int) (h0:0≤r) (h1:r≤255):0≤(needS r c l).1∧(needS r c l).1≤120000000000:=by
 unfold needS
 split
 ·rename_i hv
  split
  ·rename_i hw
   have hw':wiB c 0 10000=true∧wiB l 1 10000=true:=by simpa using hw
   have hc:=wiB_t hw'.1
   have hl:=wiB_t hw'.2
   obtain⟨_,_,_,ht⟩:=rates r h0 h1
   obtain⟨_,t1,t2⟩:=ht hv
   have hm:=mul_small 10000 hl.1 hl.2 t1 t2 (by omega)
   generalize l * rtT r=b at hm
   have hle:upQ (c * 12000000) b≤120000000000:=(upQ_le (by omega) (by omega)).2 (by
    have:120000000000 * 1≤120000000000 * b:=Int.mul_le_mul_of_nonneg_left hm.1 (by omega)
    omega)
   refine⟨?_,hle⟩
   show 0≤upQ (c * 12000000) b
   unfold upQ
   exact Int.tdiv_nonneg (by omega) (by omega)
  ·simp
 ·simp
def bsA (d:T_api_Document) (p:T_api_Profile) (i:Int) (x:T_api_Event):List T_api_Bound :=
 [⟨2 * i+2,2 * i+1,-(needS d.Rate (letS x) p.Reading).1,1,x.ID,0⟩,⟨2 * i+2,2 * i+1,-p.MinFrames,2,x.ID,0⟩,⟨2 * i+1,2 * i+2,p.MaxFrames,3,x.ID,0⟩]
def bsZ (v:Int) (z:T_api_Span) (id:Int):List T_api_Bound:=[⟨v,0,-z.In,6,id,0⟩,⟨0,v,z.Out - 1,6,id,0⟩]
def bsT (v f tol id:Int):List T_api_Bound:=[⟨v,0,-(f - tol),11,id,0⟩,⟨0,v,f+tol,11,id,0⟩]
def bsG (p:T_api_Profile) (i id:Int):Option T_api_Event→List T_api_Bound
 | some y=>[⟨2 * i+3,2 * i+2,-p.MinGap,4,id,y.ID⟩]
 | none=>[]
def bsE (d:T_api_Document) (p:T_api_Profile) (l:List Int) (tol:Int) (i:Nat) (x:T_api_Event):Int ⊕ List T_api_Bound :=
 if(zoS l x.Span.In p).2≠0 then .inl (zoS l x.Span.In p).2 else if(zoS l x.Span.Out p).2≠0 then .inl (zoS l x.Span.Out p).2 else
  .inr (bsA d p i x++(bsZ (2 * i+1) (zoS l x.Span.In p).1 x.ID++bsZ (2 * i+2) (zoS l x.Span.Out p).1 x.ID)++(bsT (2 * i+1) x.Span.In tol x.ID++bsT (2 * i+2) x.Span.Out tol x.ID)++bsG p i x.ID d.Events[i+1]?)
theorem zoS_bd (l:List Int) (hl:l.length≤1000) (f:Int) (p:T_api_Profile):(zoS l f p).2=0→0≤(zoS l f p).1.In∧(zoS l f p).1.In≤5184000∧1≤(zoS l f p).1.Out∧(zoS l f p).1.Out≤5184001:=by
 obtain⟨_,h⟩:=snS_eq l hl f p.ShotBefore p.ShotAfter
 unfold zoS
 cases hs:(snS l f p.ShotBefore p.ShotAfter).2 with
 | false=>intro q;cases q
 | true =>
  intro _
  have:=zoR_in p (h hs) l
  simp only[if_true]
  have:=h hs
  omega
theorem win_eq (out:List T_api_Bound) (ho:out.length≤1000000) (v lo hi rule id:Int) (h:-9000000≤lo∧lo≤9000000):g_repair_window out v lo hi rule id=some (out++[⟨v,0,-lo,rule,id,0⟩,⟨0,v,hi,rule,id,0⟩]):=by
 unfold g_repair_window
 rw[if_pos (by omega),wr64 (x:=0 - lo) (by omega),Int.zero_sub]
theorem bs2_eq (p:T_api_Profile) (l:List Int) (hl:l.length≤1000) (out0:List T_api_Bound) (i:Nat) (hi:i≤1000) (y:T_api_Event) (out:List T_api_Bound) (ho:out.length≤900000) :
  iter (g_repair_Bounds_s2 p l (out0,(i:Int)) y) (0,out)=some (if(zoS l y.Span.In p).2≠0 then .inl (zoS l y.Span.In p).2 else if(zoS l y.Span.Out p).2≠0 then .inl (zoS l y.Span.Out p).2 else .inr (out++bsZ (2 * i+1) (zoS l y.Span.In p).1 y.ID++bsZ (2 * i+2) (zoS l y.Span.Out p).1 y.ID)):=by
 have hst:∀ (k:Nat) (f:Int) (s:List T_api_Bound),(k=0∧f=y.Span.In∨k=1∧f=y.Span.Out)→s.length≤999999→g_repair_Bounds_s2 p l (out0,(i:Int)) y ((k:Int),s)=if(zoS l f p).2≠0 then some (.out (.inl (zoS l f p).2)) else some (.go ((k:Int)+1,s++bsZ (2 * i+1+k) (zoS l f p).1 y.ID)):=by
  intro k f s hk hs
  have hsel:((if(k:Int) == 0 then(some (y.Span.In,0)) else(if(k:Int) == 1 then(some (y.Span.Out,1)) else none)):Option (Int × Int))=some (f,(k:Int)):=by
   rcases hk with⟨rfl,rfl⟩|⟨rfl,rfl⟩<;>rfl
  unfold g_repair_Bounds_s2
  dsimp only
  rw[if_pos (by rw[decide_eq_true_eq];omega),hsel]
  simp only[Option.bind_some]
  rw[zone_eq l hl]
  simp only[Option.bind_some]
  by_cases q:(zoS l f p).2=0
  ·have hb:=zoS_bd l hl f p q
   rw[if_neg (by rw[bne_iff_ne];exact fun h=>h q),if_neg (fun h=>h q),win_eq _ (by omega) _ _ _ _ _ (by omega)]
   simp only[Option.bind_some]
   rw[wr64 (x:=2 * (i:Int)) (by omega),wr64 (x:=2 * (i:Int)+1) (by omega),wr64 (x:=2 * (i:Int)+1+(k:Int)) (by omega),wr64 (x:=(zoS l f p).1.Out - 1) (by omega),wr64 (x:=(k:Int)+1) (by omega)]
   rfl
  ·rw[if_pos (by rw[bne_iff_ne];exact q),if_pos q]
 have hend:∀ s,g_repair_Bounds_s2 p l (out0,(i:Int)) y (2,s)=some (.out (.inr s)):=fun s=>by unfold g_repair_Bounds_s2;rw[if_neg (by simp)]
 refine iter_of (fun x e=>(x=(0,out)∧e=(if(zoS l y.Span.In p).2≠0 then .inl (zoS l y.Span.In p).2 else if(zoS l y.Span.Out p).2≠0 then .inl (zoS l y.Span.Out p).2 else .inr (out++bsZ (2 * i+1) (zoS l y.Span.In p).1 y.ID++bsZ (2 * i+2) (zoS l y.Span.Out p).1 y.ID)))∨(x=(1,out++bsZ (2 * i+1) (zoS l y.Span.In p).1 y.ID)∧e=(if(zoS l y.Span.Out p).2≠0 then .inl (zoS l y.Span.Out p).2 else .inr (out++bsZ (2 * i+1) (zoS l y.Span.In p).1 y.ID++bsZ (2 * i+2) (zoS l y.Span.Out p).1 y.ID)))∨(x=(2,out++bsZ (2 * i+1) (zoS l y.Span.In p).1 y.ID++bsZ (2 * i+2) (zoS l y.Span.Out p).1 y.ID)∧e=.inr (out++bsZ (2 * i+1) (zoS l y.Span.In p).1 y.ID++bsZ (2 * i+2) (zoS l y.Span.Out p).1 y.ID))) (fun x=>2 - x.1.toNat) ?_ (x:=(0,out)) (.inl ⟨rfl,rfl⟩) (by dsimp only;omega)
 rintro x e (⟨rfl,rfl⟩|⟨rfl,rfl⟩|⟨rfl,rfl⟩)
 ·have h:=hst 0 y.Span.In out (.inl ⟨rfl,rfl⟩) (by omega)
  rw[show(((0:Nat):Int),out)=((0:Int),out) from rfl] at h
  rw[h]
  by_cases q:(zoS l y.Span.In p).2=0
  ·rw[if_neg (fun h=>h q),if_neg (fun h=>h q)]
   exact .inl ⟨_,rfl,.inr (.inl ⟨by simp,rfl⟩),by simp⟩
  ·rw[if_pos q,if_pos q];exact .inr rfl
 ·have h:=hst 1 y.Span.Out (out++bsZ (2 * i+1) (zoS l y.Span.In p).1 y.ID) (.inr ⟨rfl,rfl⟩) (by simp[bsZ];omega)
  rw[show(((1:Nat):Int),out++bsZ (2 * i+1) (zoS l y.Span.In p).1 y.ID)=((1:Int),out++bsZ (2 * i+1) (zoS l y.Span.In p).1 y.ID) from rfl] at h
  rw[h]
  by_cases q:(zoS l y.Span.Out p).2=0
  ·rw[if_neg (fun h=>h q),if_neg (fun h=>h q)]
   exact .inl ⟨_,rfl,.inr (.inr ⟨by rw[show(2 * (i:Int)+1+((1:Nat):Int))=2 * (i:Int)+2 by omega];rfl,rfl⟩),by simp⟩
  ·rw[if_pos q,if_pos q];exact .inr rfl
 ·exact .inr (hend _)
theorem bs3_eq (tol:Int) (ht:0≤tol∧tol≤5184000) (out0:List T_api_Bound) (i:Nat) (hi:i≤1000) (y:T_api_Event) (hy:EvOK y) (out:List T_api_Bound) (ho:out.length≤900000) :
  iter (g_repair_Bounds_s3 tol (out0,(i:Int)) y) (0,out)=some (out++bsT (2 * i+1) y.Span.In tol y.ID++bsT (2 * i+2) y.Span.Out tol y.ID):=by
 have hsp:=hy.span
 have hst:∀ (k:Nat) (f:Int) (s:List T_api_Bound),(k=0∧f=y.Span.In∨k=1∧f=y.Span.Out)→s.length≤999999→g_repair_Bounds_s3 tol (out0,(i:Int)) y ((k:Int),s)=some (.go ((k:Int)+1,s++bsT (2 * i+1+k) f tol y.ID)):=by
  intro k f s hk hs
  have hf:0≤f∧f≤5184000:=by rcases hk with⟨_,rfl⟩|⟨_,rfl⟩<;>omega
  have hsel:((if(k:Int) == 0 then(some (y.Span.In,0)) else(if(k:Int) == 1 then(some (y.Span.Out,1)) else none)):Option (Int × Int))=some (f,(k:Int)):=by
   rcases hk with⟨rfl,rfl⟩|⟨rfl,rfl⟩<;>rfl
  unfold g_repair_Bounds_s3
  dsimp only
  rw[if_pos (by rw[decide_eq_true_eq];omega),hsel]
  simp only[Option.bind_some]
  rw[wr64 (x:=f - tol) (by omega),wr64 (x:=f+tol) (by omega),win_eq _ (by omega) _ _ _ _ _ (by omega)]
  simp only[Option.bind_some]
  rw[wr64 (x:=2 * (i:Int)) (by omega),wr64 (x:=2 * (i:Int)+1) (by omega),wr64 (x:=2 * (i:Int)+1+(k:Int)) (by omega),wr64 (x:=(k:Int)+1) (by omega)]
  rfl
 have hend:∀ s,g_repair_Bounds_s3 tol (out0,(i:Int)) y (2,s)=some (.out s):=fun s=>by unfold g_repair_Bounds_s3;rw[if_neg (by simp)]
 refine iter_of (fun x e=>e=out++bsT (2 * i+1) y.Span.In tol y.ID++bsT (2 * i+2) y.Span.Out tol y.ID∧(x=(0,out)∨x=(1,out++bsT (2 * i+1) y.Span.In tol y.ID)∨x=(2,out++bsT (2 * i+1) y.Span.In tol y.ID++bsT (2 * i+2) y.Span.Out tol y.ID))) (fun x=>2 - x.1.toNat) ?_ (x:=(0,out)) ⟨rfl,.inl rfl⟩ (by dsimp only;omega)
 rintro x e ⟨rfl,rfl|rfl|rfl⟩
 ·have h:=hst 0 y.Span.In out (.inl ⟨rfl,rfl⟩) (by omega)
  exact .inl ⟨_,h,⟨rfl,.inr (.inl (by simp))⟩,by simp⟩
 ·have h:=hst 1 y.Span.Out (out++bsT (2 * i+1) y.Span.In tol y.ID) (.inr ⟨rfl,rfl⟩) (by simp[bsT];omega)
  exact .inl ⟨_,h,⟨rfl,.inr (.inr (by rw[show(2 * (i:Int)+1+((1:Nat):Int))=2 * (i:Int)+2 by omega];rfl))⟩,by simp⟩
 ·exact .inr (hend _)
def bnF (d:T_api_Document) (p:T_api_Profile) (l:List Int) (tol:Int) (s:List T_api_Bound) (a:T_api_Event × Nat):(Int ⊕ List T_api_Bound) ⊕ List T_api_Bound :=
 match bsE d p l tol a.2 a.1 with
 | .inl e=>.inl (.inl e)
 | .inr bs=>.inr (s++bs)
def bnR (d:T_api_Document) (p:T_api_Profile) (l:List Int) (tol:Int):Int ⊕ List T_api_Bound:=runF (bnF d p l tol) .inr [] d.Events.zipIdx
theorem bsE_len {d:T_api_Document} {p:T_api_Profile} {l:List Int} {tol:Int} {i:Nat} {x:T_api_Event} {bs:List T_api_Bound} (h:bsE d p l tol i x=.inr bs):bs.length≤12:=by
 unfold bsE at h
 split at h
 ·cases h
 ·split at h
  ·cases h
  ·cases h
   cases d.Events[i+1]?<;>simp[bsA,bsZ,bsT,bsG]
theorem okR_of {p:T_api_Profile} (h:ckS p=0):okR p:=by
 by_cases hr:okR p
 ·exact hr
 ·unfold ckS at h
  simp only[hr,not_false_eq_true,if_true] at h
  split at h<;>cases h
theorem bn_loop (d:T_api_Document) (hd:DocZ d) (hD:DocOK d) (p:T_api_Profile) (hp:okR p) (l:List Int) (hl:l.length≤1000) (tol:Int) (ht:0≤tol∧tol≤5184000):iter (g_repair_Bounds_s1 d p l tol) ([],0)=some (bnR d p l tol):=by
 have hn:=hD.num
 have hlz:d.Events.zipIdx.length=d.Events.length:=List.length_zipIdx
 refine iter_run (step:=g_repair_Bounds_s1 d p l tol) d.Events.zipIdx (by omega) (fun i (s:List T_api_Bound)=>(s,i)) (bnF d p l tol) .inr (fun i s=>s.length≤12 * i) (s0:=[]) (by simp) (fun i hi s hs=>?_) (fun s hs=>by unfold g_repair_Bounds_s1;dsimp only;rw[if_neg (by rw[hlz];simp)])
 have hi':i < d.Events.length:=by omega
 have hm:=List.getElem_mem hi'
 have hx:=hD.ev _ hm
 have hz:=hd.ev _ hm
 rw[show d.Events.zipIdx[i]=(d.Events[i],i) from by simp[List.getElem_zipIdx]]
 have hst:g_repair_Bounds_s1 d p l tol (s,(i:Int))=match bsE d p l tol i d.Events[i] with
   | .inl e=>some (.out (.inl e))
   | .inr bs=>some (.go (s++bs,(i:Int)+1)):=by
  unfold g_repair_Bounds_s1 bsE
  dsimp only
  rw[if_pos (by simpa using hi'),atI_nat hi',wr64 (x:=(i:Int)+1) (by omega)]
  simp only[Option.bind_some]
  generalize d.Events[i]=x at *
  rw[letS_eq x hz hx.runs]
  simp only[Option.bind_some]
  rw[(Needed_eq d.Rate (letS x) p.Reading hd.rate.1 hd.rate.2).1]
  simp only[Option.bind_some]
  have hnd:=needS_bd d.Rate (letS x) p.Reading hd.rate.1 hd.rate.2
  unfold okR at hp
  rw[if_pos (by omega),wr64 (x:=2 * (i:Int)) (by omega),wr64 (x:=2 * (i:Int)+2) (by omega),wr64 (x:=2 * (i:Int)+1) (by omega),wr64 (x:=0 - (needS d.Rate (letS x) p.Reading).1) (by omega),wr64 (x:=0 - p.MinFrames) (by omega),wr64 (x:=2 * (i:Int)+2+1) (by omega),wr64 (x:=0 - p.MinGap) (by omega)]
  simp only[Int.zero_sub]
  rw[bs2_eq p l hl s i (by omega) x _ (by simp;omega)]
  by_cases q1:(zoS l x.Span.In p).2=0
  ·simp only[q1,ne_eq,not_true_eq_false,if_false]
   by_cases q2:(zoS l x.Span.Out p).2=0
   ·simp only[q2,ne_eq,not_true_eq_false,if_false,Option.bind_some]
    rw[bs3_eq tol ht s i (by omega) x hx _ (by simp[bsZ];omega)]
    simp only[Option.bind_some]
    by_cases q3:i+1 < d.Events.length
    ·rw[if_pos (by simp;omega),show(i:Int)+1=((i+1:Nat):Int) by omega,atI_nat q3]
     simp only[Option.bind_some]
     rw[if_pos (by simp[bsZ,bsT];omega),List.getElem?_eq_getElem q3]
     simp only[bsG,bsA,show 2 * (i:Int)+2+1=2 * (i:Int)+3 by omega,List.append_assoc]
    ·rw[if_neg (by simp;omega),List.getElem?_eq_none (by omega)]
     simp only[bsG,bsA,List.append_assoc,List.append_nil]
   ·simp only[q2,ne_eq,not_false_eq_true,if_true];rfl
  ·simp only[q1,ne_eq,not_false_eq_true,if_true];rfl
 rw[hst]
 unfold bnF
 dsimp only
 cases hb:bsE d p l tol i d.Events[i] with
 | inl e=>exact .inl ⟨.inl e,rfl,rfl⟩
 | inr bs =>
  refine .inr ⟨s++bs,rfl,rfl,?_⟩
  have:=bsE_len hb
  simp
  omega
def dcS (d:T_api_Document):Int:=(g_document_Check d).getD 0
theorem dcS_eq (d:T_api_Document) (hd:DocZ d):g_document_Check d=some (dcS d)∧(dcS d=0→DocOK d):=by
 obtain⟨v,h1,h2⟩:=docCheck d hd
 unfold dcS
 rw[h1]
 exact⟨rfl,h2⟩
def ckB (d:T_api_Document) (p:T_api_Profile) (l:List Int) (tol:Int):Int :=
 if dcS d≠0 then dcS d else if ckS p≠0 then ckS p else if shC l≠0 then shC l else if tol < 0∨5184000 < tol then 2 else if 255 < (d.Events.length:Int) then 9 else 0
structure TaskZ (d:T_api_Document) (p:T_api_Profile) (l:List Int):Prop where
 doc:DocZ d
 name:p.Name.length≤1048576
 forb:p.Forbidden.length≤1048576
 shots:l.length≤1000
theorem check_eq {d:T_api_Document} {p:T_api_Profile} {l:List Int} (h:TaskZ d p l) (tol:Int):g_repair_check d p l tol=some (ckB d p l tol):=by
 unfold g_repair_check ckB
 rw[(dcS_eq d h.doc).1,prog_Check p h.name h.forb,shC_eq l h.shots]
 simp only[Option.bind_some,bne_iff_ne]
 by_cases h1:dcS d=0
 ·simp only[h1,ne_eq,not_true_eq_false,if_false]
  by_cases h2:ckS p=0
  ·simp only[h2,ne_eq,not_true_eq_false,if_false]
   by_cases h3:shC l=0
   ·simp only[h3,ne_eq,not_true_eq_false,if_false]
    by_cases h4:tol < 0
    ·simp[h4]
    ·by_cases h5:5184000 < tol
     ·simp[h4,h5]
     ·simp only[h4,h5,decide_false,Bool.false_eq_true,if_false,Option.bind_some,or_self,decide_eq_true_eq]
      split<;>rfl
   ·simp only[h3,ne_eq,not_false_eq_true,if_true]
  ·simp only[h2,ne_eq,not_false_eq_true,if_true]
 ·simp only[h1,ne_eq,not_false_eq_true,if_true]
def bnS (d:T_api_Document) (p:T_api_Profile) (l:List Int) (tol:Int):List T_api_Bound × Int :=
 if ckB d p l tol≠0 then([],ckB d p l tol) else(bnR d p l tol).elim (fun e=>([],e)) (fun bs=>(bs,0))
theorem ckB_0 {d:T_api_Document} {p:T_api_Profile} {l:List Int} {tol:Int} (h:ckB d p l tol=0):dcS d=0∧ckS p=0∧shC l=0∧(0≤tol∧tol≤5184000)∧d.Events.length≤255:=by
 unfold ckB at h
 split at h
 ·exact absurd h ‹_›
 ·split at h
  ·exact absurd h ‹_›
  ·split at h
   ·exact absurd h ‹_›
   ·split at h
    ·cases h
    ·split at h
     ·cases h
     ·omega
theorem bounds_eq {d:T_api_Document} {p:T_api_Profile} {l:List Int} (h:TaskZ d p l) (tol:Int):g_repair_Bounds d p l tol=some (bnS d p l tol):=by
 unfold g_repair_Bounds bnS
 rw[check_eq h]
 simp only[Option.bind_some]
 by_cases h1:ckB d p l tol=0
 ·rw[if_neg (by rw[bne_iff_ne];exact fun q=>q h1),if_neg (fun q=>q h1)]
  obtain⟨a,b,c,e,f⟩:=ckB_0 h1
  rw[bn_loop d h.doc ((dcS_eq d h.doc).2 a) p (okR_of b) l h.shots tol e]
  simp only[Option.bind_some]
  cases bnR d p l tol<;>rfl
 ·rw[if_pos (by rw[bne_iff_ne];exact h1),if_pos h1]
theorem runF_all {α:Type} {F:List T_api_Bound→α→(Int ⊕ List T_api_Bound) ⊕ List T_api_Bound} {P:T_api_Bound→Prop} {Q:α→Prop} (hF:∀ s a s',Q a→F s a=.inr s'→(∀ b ∈ s,P b)→∀ b ∈ s',P b) (hF2:∀ s a e,F s a=.inl e→∃ v,e=.inl v):∀ (L:List α) (s bs:List T_api_Bound),(∀ a ∈ L,Q a)→runF F .inr s L=.inr bs→(∀ b ∈ s,P b)→∀ b ∈ bs,P b
 | [],s,bs,_,h,hs=>by cases h;exact hs
 | a::L,s,bs,hQ,h,hs=>by
  simp only[runF] at h
  cases hf:F s a with
  | inl e =>
   rw[hf] at h
   obtain⟨v,rfl⟩:=hF2 s a e hf
   cases h
  | inr s' =>
   rw[hf] at h
   exact runF_all hF hF2 L s' bs (fun a ha=>hQ a (by simp[ha])) h (hF s a s' (hQ a (by simp)) hf hs)
theorem runF_len {α:Type} {F:List T_api_Bound→α→(Int ⊕ List T_api_Bound) ⊕ List T_api_Bound} (hF:∀ s a s',F s a=.inr s'→s'.length≤s.length+12) (hF2:∀ s a e,F s a=.inl e→∃ v,e=.inl v):∀ (L:List α) (s bs:List T_api_Bound),runF F .inr s L=.inr bs→bs.length≤s.length+12 * L.length
 | [],s,bs,h=>by cases h;simp
 | a::L,s,bs,h=>by
  simp only[runF] at h
  cases hf:F s a with
  | inl e =>
   rw[hf] at h
   obtain⟨v,rfl⟩:=hF2 s a e hf
   cases h
  | inr s' =>
   rw[hf] at h
   have h1:=runF_len hF hF2 L s' bs h
   have h2:=hF s a s' hf
   simp only[List.length_cons]
   omega
theorem bnF_inl {d:T_api_Document} {p:T_api_Profile} {l:List Int} {tol:Int} {s:List T_api_Bound} {a:T_api_Event × Nat} {e:Int ⊕ List T_api_Bound} (h:bnF d p l tol s a=.inl e):∃ v,e=.inl v:=by
 unfold bnF at h
 split at h
 ·cases h;exact⟨_,rfl⟩
 ·cases h
theorem bnF_inr {d:T_api_Document} {p:T_api_Profile} {l:List Int} {tol:Int} {s s':List T_api_Bound} {a:T_api_Event × Nat} (h:bnF d p l tol s a=.inr s'):∃ bs,bsE d p l tol a.2 a.1=.inr bs∧s'=s++bs:=by
 unfold bnF at h
 split at h
 ·cases h
 ·rename_i bs hb;cases h;exact⟨bs,hb,rfl⟩
theorem bnR_ok {d:T_api_Document} {p:T_api_Profile} {l:List Int} (h:TaskZ d p l) {tol:Int} (hc:ckB d p l tol=0) {bs:List T_api_Bound} (hb:bnR d p l tol=.inr bs):BdsOK (2 * d.Events.length+1) bs:=by
 obtain⟨a,b,c,e,f⟩:=ckB_0 hc
 have hD:=(dcS_eq d h.doc).2 a
 have hp:=okR_of b
 have hlz:d.Events.zipIdx.length=d.Events.length:=List.length_zipIdx
 have hlen:=runF_len (fun s a s' hf=>by
  obtain⟨bs,hb,rfl⟩:=bnF_inr hf
  have:=bsE_len hb
  simp;omega) (fun s a e hf=>bnF_inl hf) _ _ _ hb
 simp only[List.length_nil,hlz] at hlen
 refine⟨by omega,by omega,by omega,?_⟩
 refine runF_all (F:=bnF d p l tol) (P:=fun b=>0≤b.I∧b.I < ((2 * d.Events.length+1:Nat):Int)∧0≤b.J∧b.J < ((2 * d.Events.length+1:Nat):Int)∧-1099511627776≤b.C∧b.C≤1099511627776) (Q:=fun a:T_api_Event × Nat=>a.2 < d.Events.length∧EvOK a.1∧(a.2+1=d.Events.length→d.Events[a.2+1]? = none)) ?_ (fun s a e hf=>bnF_inl hf) d.Events.zipIdx [] bs (fun a ha=>?_) hb (by simp)
 ·rintro s ⟨x,i⟩ s' ⟨hi,hx,_⟩ hf hs
  obtain⟨b1,hb1,rfl⟩:=bnF_inr hf
  intro b hbm
  rcases List.mem_append.1 hbm with hbm|hbm
  ·exact hs b hbm
  ·dsimp only at hi hx hb1
   have hsp:=hx.span
   have hnd:=needS_bd d.Rate (letS x) p.Reading h.doc.rate.1 h.doc.rate.2
   unfold okR at hp
   unfold bsE at hb1
   split at hb1
   ·cases hb1
   ·rename_i q1
    split at hb1
    ·cases hb1
    ·rename_i q2
     cases hb1
     have z1:=zoS_bd l h.shots x.Span.In p (by omega)
     have z2:=zoS_bd l h.shots x.Span.Out p (by omega)
     simp only[bsA,bsZ,bsT,List.mem_append,List.mem_cons,List.not_mem_nil,or_false] at hbm
     rcases hbm with(((rfl|rfl|rfl)|(rfl|rfl)|rfl|rfl)|(rfl|rfl)|rfl|rfl)|hg
     all_goals first|(dsimp only;omega)|skip
     by_cases q3:i+1 < d.Events.length
     ·rw[List.getElem?_eq_getElem q3] at hg
      simp only[bsG,List.mem_singleton] at hg
      subst hg
      dsimp only
      omega
     ·rw[List.getElem?_eq_none (by omega)] at hg
      simp[bsG] at hg
 ·obtain⟨j,hj,rfl⟩:=List.getElem_of_mem ha
  have hj':j < d.Events.length:=by omega
  rw[show d.Events.zipIdx[j]=(d.Events[j],j) from by simp[List.getElem_zipIdx]]
  exact⟨hj',hD.ev _ (List.getElem_mem hj'),fun q=>List.getElem?_eq_none (by dsimp only;omega)⟩
theorem mkI_nat {α:Type} (by':Int) (n:Nat) (z:α) (h:(n:Int) * by'≤140737488355328) (h2:n≤9223372036854775807):mkI by' (n:Int) z=some (List.replicate n z):=by
 unfold mkI
 rw[if_pos ⟨by omega,by omega,h⟩]
 rfl
theorem far_eq:far=1152921504606846976:=rfl
theorem fill_far {step:Int × List Int→Option (Nx (Int × List Int) (List Int))} (n:Nat) (hn:n≤1000000) (m:List Int) (hm:m.length=n)
  (hgo:∀ (i:Nat) (y:List Int),i < n→y.length=n→step ((i:Int),y)=some (.go ((i:Int)+1,y.set i far))) (hend:∀ y:List Int,y.length=n→step ((n:Int),y)=some (.out y)):iter step (0,m)=some (List.replicate n far):=by
 obtain⟨e,he,hp⟩:=iter_post (step:=step) (fun x=>∃ i:Nat,x.1=i∧i≤n∧x.2.length=n∧∀ j,j < i→x.2[j]? = some far) (fun x=>n - x.1.toNat) (fun y=>y.length=n∧∀ j,j < n→y[j]? = some far) (x:=(0,m)) ⟨0,rfl,by omega,hm,fun j h=>by omega⟩ (by dsimp only;omega) (by
  rintro⟨x,y⟩ ⟨i,h1,h2,h3,h4⟩
  dsimp only at h1 h3 h4
  subst h1
  by_cases q:i < n
  ·left
   refine⟨_,hgo i y q h3,⟨i+1,by simp,by omega,by simpa using h3,fun j hj=>?_⟩,by dsimp only;omega⟩
   dsimp only
   rw[List.getElem?_set]
   by_cases hij:i=j
   ·rw[if_pos hij,if_pos (by omega)]
   ·rw[if_neg hij];exact h4 j (by omega)
  ·obtain rfl:i=n:=by omega
   exact .inr ⟨_,hend y h3,h3,h4⟩)
 rw[he]
 congr 1
 refine List.ext_getElem? fun j=>?_
 by_cases hj:j < n
 ·rw[hp.2 j hj];simp[hj]
 ·rw[List.getElem?_eq_none (by omega),List.getElem?_eq_none (by simp;omega)]
theorem set_get {x:List Int} {j:Nat}:x.set j (x.getD j 0)=x:=by
 refine List.ext_getElem? fun k=>?_
 rw[List.getElem?_set]
 by_cases h:j=k
 ·subst h
  by_cases hj:j < x.length
  ·simp[hj,List.getD]
  ·simp[hj,List.getElem?_eq_none (show x.length≤j by omega)]
 ·rw[if_neg h]
def RB (n:Nat) (K:Int) (r:List Int):Prop:=r.length=n∧∀ v,v < n→r.getD v 0≠far→-(K * 1099511627776)≤r.getD v 0∧r.getD v 0≤K * 1099511627776
theorem rb_of {l:List Ed} (hc:∀ e ∈ l,-1099511627776≤e.c∧e.c≤1099511627776) {n s k:Nat} {r:List Int} (h:RowS (fun v c=>FW l s k v c) n r):RB n k r :=
 ⟨h.1,fun v hv hf=>fw_bd hc ((h.2 v hv).1 hf)⟩
theorem tlow_prog {src dst:Ed→Nat} {old s:List Int} {e:Ed} (hf:old.getD (src e) 0≠far):s.set (dst e) (if old.getD (src e) 0+e.c < s.getD (dst e) 0 then old.getD (src e) 0+e.c else s.getD (dst e) 0)=tlow src dst old s e:=by
 unfold tlow
 by_cases h:old.getD (src e) 0+e.c < s.getD (dst e) 0
 ·rw[if_pos h,if_pos ⟨hf,h⟩]
 ·rw[if_neg h,if_neg (fun q=>h q.2)];exact set_get
theorem tlow_far {src dst:Ed→Nat} {old s:List Int} {e:Ed} (hf:old.getD (src e) 0=far):tlow src dst old s e=s:=by
 unfold tlow
 rw[if_neg (fun q=>q.1 hf)]
theorem tfold_map {src dst:Ed→Nat} {old:List Int}:∀ (l:List T_api_Bound) (s:List Int),l.foldl (fun s b=>tlow src dst old s (ed b)) s=(eds l).foldl (tlow src dst old) s
 | [],s=>rfl
 | b::l,s=>by rw[List.foldl_cons,tfold_map l];rfl
theorem s6_eq {n:Nat} {l:List T_api_Bound} (hl:BdsOK n l) {K:Int} (hK:K≤1000000) {old:List Int} (ho:RB n K old):iter (g_diffcon_shortest_s6 l old) (0,List.replicate n far)=some (trow (·.i) (·.j) (eds l) old n):=by
 have hn:=hl.n2
 have hlen:=hl.len
 have:=iter_run (step:=g_diffcon_shortest_s6 l old) l (by omega) (fun i (s:List Int)=>(i,s)) (fun s b=>.inr (tlow (·.i) (·.j) old s (ed b))) id (fun i s=>s.length=n) (s0:=List.replicate n far) (by simp)
  (fun i hi s hs=>.inr ⟨_,rfl,by
   have hb:=hl.bd _ (List.getElem_mem hi)
   unfold g_diffcon_shortest_s6
   rw[if_pos (by simpa using hi),atI_nat hi,wr64 (x:=(i:Int)+1) (by omega)]
   simp only[Option.bind_some]
   generalize l[i]=b at hb
   have hol:=ho.1
   have h1:=ho.2 b.I.toNat (by omega)
   rw[atI_getD hb.1 (by omega)]
   simp only[Option.bind_some]
   by_cases q:old.getD b.I.toNat 0=far
   ·rw[if_neg (by rw[bne_iff_ne,← far_eq];exact fun h=>h q),tlow_far (e:=ed b) q]
   ·have h2:=h1 q
    rw[if_pos (by rw[bne_iff_ne,← far_eq];exact q),atI_getD hb.2.2.1 (by omega)]
    simp only[Option.bind_some]
    rw[wr64 (x:=old.getD b.I.toNat 0+b.C) (by omega),setI_toNat _ hb.2.2.1 (by omega)]
    simp only[Option.bind_some]
    rw[← tlow_prog (e:=ed b) (src:=(·.i)) (dst:=(·.j)) q]
    rfl,by rw[tlow_len];exact hs⟩)
  (fun s hs=>by unfold g_diffcon_shortest_s6;rw[if_neg (by simp)];rfl)
 rw[runF_inr] at this
 rw[show((0:Int),List.replicate n far)=(fun i (s:List Int)=>(i,s)) 0 (List.replicate n far) from rfl,this,tfold_map]
 rfl
def row0 (n s:Nat):List Int:=(List.replicate n far).set s 0
theorem s1_eq {n:Nat} (hn:n≤512) (m:List (List Int)) (hm:m.length=n):iter (g_diffcon_shortest_s1 n m) (0,m)=some ((List.range n).map (row0 n)):=by
 obtain⟨e,he,hp⟩:=iter_post (step:=g_diffcon_shortest_s1 n m) (fun x=>∃ i:Nat,x.1=i∧i≤n∧x.2.length=n∧∀ j,j < i→x.2[j]? = some (row0 n j)) (fun x=>n - x.1.toNat) (fun y=>y.length=n∧∀ j,j < n→y[j]? = some (row0 n j)) (x:=(0,m)) ⟨0,rfl,by omega,hm,fun j h=>by omega⟩ (by dsimp only;omega) (by
  rintro⟨x,y⟩ ⟨i,h1,h2,h3,h4⟩
  dsimp only at h1 h3 h4
  subst h1
  unfold g_diffcon_shortest_s1
  dsimp only
  rw[hm]
  by_cases q:i < n
  ·left
   rw[if_pos (by simpa using q),mkI_nat 8 n (0:Int) (by omega) (by omega),atI_nat (show i < y.length by omega),wr64 (x:=(i:Int)+1) (by omega)]
   simp only[Option.bind_some]
   have hfill:=fill_far (step:=g_diffcon_shortest_s2 m) n (by omega) (List.replicate n 0) (by simp)
    (fun k z hk hz=>by
     unfold g_diffcon_shortest_s2
     dsimp only
     rw[hm,if_pos (by simpa using hk),atI_nat (show k < z.length by omega),setI_nat _ (show k < z.length by omega),wr64 (x:=(k:Int)+1) (by omega)]
     rfl)
    (fun z hz=>by unfold g_diffcon_shortest_s2;dsimp only;rw[hm,if_neg (by simp)])
   rw[hfill]
   simp only[Option.bind_some]
   rw[atI_nat (show i < (List.replicate n far).length by simpa using q),setI_nat _ (show i < (List.replicate n far).length by simpa using q)]
   simp only[Option.bind_some]
   refine⟨_,rfl,⟨i+1,by simp,by omega,by simpa using h3,fun j hj=>?_⟩,by dsimp only;omega⟩
   dsimp only
   rw[List.getElem?_set]
   by_cases hij:i=j
   ·subst hij
    simp[show i < y.length by omega,row0]
   ·rw[if_neg (by simpa using hij)];exact h4 j (by omega)
  ·obtain rfl:i=n:=by omega
   rw[if_neg (by simp)]
   exact .inr ⟨_,rfl,h3,h4⟩)
 rw[he]
 congr 1
 refine List.ext_getElem? fun j=>?_
 by_cases hj:j < n
 ·rw[hp.2 j hj];simp[hj]
 ·rw[List.getElem?_eq_none (by omega),List.getElem?_eq_none (by simp;omega)]
def RowsS (l:List Ed) (n k:Nat) (R:List (List Int)):Prop:=R.length=n∧∀ s (h:s < R.length),RowS (fun v c=>FW l s k v c) n R[s]
theorem s4_eq {n:Nat} {l:List T_api_Bound} (hl:BdsOK n l) (m R:List (List Int)) (hm:m.length=n) {k:Nat} (hk:k+1≤n) (hR:RowsS (eds l) n k R):∃ e,iter (g_diffcon_shortest_s4 n l m ((k:Int)+1,R)) (0,R)=some e∧((e=.inl ()∧Cyc (· ∈ eds l) (k+1))∨∃ R',e=.inr R'∧RowsS (eds l) n (k+1) R'∧¬ Cyc (· ∈ eds l) (k+1)):=by
 have hn:=hl.n2
 obtain⟨e,he,hp⟩:=iter_post (step:=g_diffcon_shortest_s4 n l m ((k:Int)+1,R)) (fun x=>∃ i:Nat,x.1=i∧i≤n∧x.2.length=n∧(∀ s (h:s < x.2.length),s < i→RowS (fun v c=>FW (eds l) s (k+1) v c) n x.2[s]∧¬ x.2[s].getD s 0 < 0)∧∀ s (h:s < x.2.length),i≤s→RowS (fun v c=>FW (eds l) s k v c) n x.2[s]) (fun x=>n - x.1.toNat)
  (fun e=>(e=.inl ()∧Cyc (· ∈ eds l) (k+1))∨∃ R',e=.inr R'∧RowsS (eds l) n (k+1) R'∧∀ s (h:s < R'.length),¬ R'[s].getD s 0 < 0) (x:=(0,R)) ⟨0,rfl,by omega,hR.1,fun s h q=>by omega,fun s h _=>hR.2 s h⟩ (by dsimp only;omega) (by
  rintro⟨x,y⟩ ⟨i,h1,h2,h3,h4,h5⟩
  dsimp only at h1 h3 h4 h5
  subst h1
  unfold g_diffcon_shortest_s4
  dsimp only
  rw[hR.1]
  by_cases q:i < n
  ·have hy:=h5 i (by omega) (by omega)
   rw[if_pos (by simpa using q),atI_nat (show i < y.length by omega),mkI_nat 8 n (0:Int) (by omega) (by omega),wr64 (x:=(i:Int)+1) (by omega)]
   simp only[Option.bind_some]
   have hfill:=fill_far (step:=g_diffcon_shortest_s5 m) n (by omega) (List.replicate n 0) (by simp)
    (fun k z hk hz=>by
     unfold g_diffcon_shortest_s5
     dsimp only
     rw[hm,if_pos (by simpa using hk),atI_nat (show k < z.length by omega),setI_nat _ (show k < z.length by omega),wr64 (x:=(k:Int)+1) (by omega)]
     rfl)
    (fun z hz=>by unfold g_diffcon_shortest_s5;dsimp only;rw[hm,if_neg (by simp)])
   rw[hfill]
   simp only[Option.bind_some]
   rw[s6_eq hl (K:=(k:Int)) (by omega) (rb_of hl.cc hy)]
   simp only[Option.bind_some]
   have hrow:=row_f hl.cc hl.inn (by omega) hy
   generalize trow (·.i) (·.j) (eds l) y[i] n=nx at hrow
   rw[atI_getD (x:=nx) (by omega) (by rw[hrow.1];omega)]
   simp only[Option.bind_some,Int.toNat_natCast]
   by_cases hneg:nx.getD i 0 < 0
   ·right
    rw[if_pos (by simpa using hneg)]
    refine⟨_,rfl,.inl ⟨rfl,?_⟩⟩
    obtain⟨L,w,hL,hs⟩:=(hrow.2 i q).1 (by rw[far_eq];omega)
    exact⟨i,L,w,hL,by omega⟩
   ·left
    rw[if_neg (by simpa using hneg)]
    refine⟨_,rfl,⟨i+1,by simp,by omega,by simpa using h3,fun s hs hsi=>?_,fun s hs hsi=>?_⟩,by dsimp only;omega⟩
    ·dsimp only at hs ⊢
     by_cases his:i=s
     ·subst his
      simp only[Int.toNat_natCast,List.getElem_set_self]
      exact⟨hrow,hneg⟩
     ·simp only[Int.toNat_natCast,List.getElem_set_ne his]
      exact h4 s (by simpa using hs) (by omega)
    ·dsimp only at hs ⊢
     have his:i≠s:=by omega
     simp only[Int.toNat_natCast,List.getElem_set_ne his]
     exact h5 s (by simpa using hs) (by omega)
  ·obtain rfl:i=n:=by omega
   rw[if_neg (by simp)]
   exact .inr ⟨_,rfl,.inr ⟨y,rfl,⟨h3,fun s hs=>(h4 s hs (by omega)).1⟩,fun s hs=>(h4 s hs (by omega)).2⟩⟩)
 refine⟨e,he,?_⟩
 rcases hp with hp|⟨R',h1,h2,h3⟩
 ·exact .inl hp
 ·refine .inr ⟨R',h1,h2,fun⟨u,L,w,hL,hs⟩=>?_⟩
  have hu:u < n:=by
   cases L with
   | nil=>simp at hL
   | cons e L=>cases w with|cons h1 _=>exact(hl.inn _ h1).1
  have hu':u < R'.length:=by rw[h2.1];exact hu
  have:=((h2.2 u hu').2 u hu).2 (sumE L) ⟨L,w,hL,rfl⟩
  have:=h3 u hu'
  omega
theorem shortest_eq {n:Nat} {l:List T_api_Bound} (hl:BdsOK n l) (hneg:¬ NoNeg (· ∈ eds l)):∃ k:Nat,g_diffcon_shortest n l=some (k:Int)∧0 < k∧k≤n∧Cyc (· ∈ eds l) k∧Least (· ∈ eds l) k:=by
 have hn:=hl.n2
 obtain⟨k0,hk0,hk1,hk2,hk3⟩:=cyc_of hl.inn hneg
 unfold g_diffcon_shortest
 rw[mkI_nat 24 n _ (by omega) (by omega)]
 simp only[Option.bind_some]
 rw[s1_eq hn _ (by simp)]
 simp only[Option.bind_some]
 obtain⟨e,he,hp⟩:=iter_post (step:=g_diffcon_shortest_s3 n l (List.replicate n [])) (fun x=>∃ k:Nat,x.1=(k:Int)+1∧k < k0∧RowsS (eds l) n k x.2∧Least (· ∈ eds l) (k+1)) (fun x=>n+1 - x.1.toNat)
  (fun e=>∃ k:Nat,e=.inl (k:Int)∧0 < k∧k≤n∧Cyc (· ∈ eds l) k∧Least (· ∈ eds l) k) (x:=(1,(List.range n).map (row0 n))) ⟨0,rfl,hk0,⟨by simp,fun s hs=>by
   have hs':s < n:=by simpa using hs
   have:=row_0 (l:=eds l) (n:=n) hs'
   simpa[row0] using this⟩,fun j hj hc=>by
    obtain rfl:j=0:=by omega
    obtain⟨u,L,w,hL,hs⟩:=hc
    obtain rfl:=List.eq_nil_of_length_eq_zero hL
    simp[sumE] at hs⟩ (by dsimp only;omega) (by
  rintro⟨x,y⟩ ⟨k,h1,h2,h3,h4⟩
  dsimp only at h1 h3
  subst h1
  unfold g_diffcon_shortest_s3
  dsimp only
  rw[if_pos (by simp;omega)]
  obtain⟨e,he,hq⟩:=s4_eq hl (List.replicate n []) y (by simp) (k:=k) (by omega) h3
  rw[he]
  simp only[Option.bind_some]
  rcases hq with⟨rfl,hc⟩|⟨R',rfl,hR',hnc⟩
  ·exact .inr ⟨_,rfl,k+1,by simp,by omega,by omega,hc,h4⟩
  ·left
   rw[wr64 (x:=(k:Int)+1+1) (by omega)]
   have hlt:k+1 < k0:=by
    rcases Nat.lt_or_ge (k+1) k0 with h|h
    ·exact h
    ·obtain rfl:k0=k+1:=by omega
     exact absurd hk2 hnc
   refine⟨_,rfl,⟨k+1,by simp,hlt,hR',fun j hj hc=>?_⟩,by dsimp only;omega⟩
   rcases Nat.lt_succ_iff_lt_or_eq.1 hj with hj|rfl
   ·exact h4 j hj hc
   ·exact hnc hc)
 rw[he]
 obtain⟨k,rfl,h1,h2,h3,h4⟩:=hp
 exact⟨k,rfl,h1,h2,h3,h4⟩
theorem BdsOK.sub {n:Nat} {l t:List T_api_Bound} (h:BdsOK n l) (hs:∀ b ∈ t,b ∈ l) (ht:t.length≤4000):BdsOK n t:=⟨h.n1,h.n2,ht,fun b hb=>h.bd b (hs b hb)⟩
theorem BdsOK.drop {n:Nat} {l:List T_api_Bound} (h:BdsOK n l) (k:Nat):BdsOK n (l.drop k):=h.sub (fun b hb=>List.mem_of_mem_drop hb) (by have:=h.len;simp;omega)
theorem r3_eq {n:Nat} {l:List T_api_Bound} (hl:BdsOK n l) {K:Int} (hK:K≤1000000) {R:List (List Int)} {r:Nat} (hr:0 < r) (hr2:r≤1000) {old:List Int} (hR:R[r - 1]? = some old) (ho:RB n K old):iter (g_diffcon_rests_s3 ((r:Int),R) l) (0,List.replicate n far)=some (trow (·.j) (·.i) (eds l) old n):=by
 have hn:=hl.n2
 have hlen:=hl.len
 have hat:atI R (IntKind.i64.wrap ((r:Int) - 1))=some old:=by
  rw[wr64 (by omega),show((r:Int) - 1)=((r - 1:Nat):Int) by omega]
  obtain⟨h1,h2⟩:=List.getElem?_eq_some_iff.1 hR
  rw[atI_nat h1,h2]
 have:=iter_run (step:=g_diffcon_rests_s3 ((r:Int),R) l) l (by omega) (fun i (s:List Int)=>(i,s)) (fun s b=>.inr (tlow (·.j) (·.i) old s (ed b))) id (fun i s=>s.length=n) (s0:=List.replicate n far) (by simp)
  (fun i hi s hs=>.inr ⟨_,rfl,by
   have hb:=hl.bd _ (List.getElem_mem hi)
   unfold g_diffcon_rests_s3
   rw[if_pos (by simpa using hi),atI_nat hi,wr64 (x:=(i:Int)+1) (by omega)]
   simp only[Option.bind_some]
   rw[hat]
   simp only[Option.bind_some]
   rw[if_pos (by rw[wr64 (by omega)];omega)]
   generalize l[i]=b at hb
   have hol:=ho.1
   have h1:=ho.2 b.J.toNat (by omega)
   rw[atI_getD hb.2.2.1 (by omega)]
   simp only[Option.bind_some]
   by_cases q:old.getD b.J.toNat 0=far
   ·rw[if_neg (by rw[bne_iff_ne,← far_eq];exact fun h=>h q),tlow_far (e:=ed b) q]
   ·have h2:=h1 q
    rw[if_pos (by rw[bne_iff_ne,← far_eq];exact q),atI_getD hb.1 (by omega)]
    simp only[Option.bind_some]
    rw[wr64 (x:=b.C+old.getD b.J.toNat 0) (by omega),setI_toNat _ hb.1 (by omega)]
    simp only[Option.bind_some]
    rw[Int.add_comm b.C,← tlow_prog (e:=ed b) (src:=(·.j)) (dst:=(·.i)) q]
    rfl,by rw[tlow_len];exact hs⟩)
  (fun s hs=>by unfold g_diffcon_rests_s3;rw[if_neg (by simp)];rfl)
 rw[runF_inr] at this
 rw[show((0:Int),List.replicate n far)=(fun i (s:List Int)=>(i,s)) 0 (List.replicate n far) from rfl,this,tfold_map]
 rfl
theorem rb_of' {l:List Ed} (hc:∀ e ∈ l,-1099511627776≤e.c∧e.c≤1099511627776) {n t k:Nat} {r:List Int} (h:RowS (fun u c=>FW l u k t c) n r):RB n k r :=
 ⟨h.1,fun v hv hf=>fw_bd hc ((h.2 v hv).1 hf)⟩
theorem subL_nat {α:Type} (l:List α) {k:Nat} (h:k≤l.length):subL l (k:Int)=some (l.drop k):=by
 unfold subL
 rw[if_pos ⟨by omega,by omega⟩,Int.toNat_natCast,List.take_of_length_le (by simp)]
def RestS (l:List Ed) (n t:Nat) (h:List (List Int)):Prop:=∀ r (hr:r < h.length),RowS (fun u c=>FW l u r t c) n h[r]
theorem rests_eq {n:Nat} {l:List T_api_Bound} (hl:BdsOK n l) {first size:Nat} {t:Int} (hf:first < l.length) (hs:size≤1000) (ht0:0≤t) (ht1:t < (n:Int)):∃ h,g_diffcon_rests n l (first:Int) (size:Int) t=some h∧h.length=size∧RestS (eds (l.drop (first+1))) n t.toNat h:=by
 have hn:=hl.n2
 have hlen:=hl.len
 have hl':=hl.drop (first+1)
 unfold g_diffcon_rests
 rw[mkI_nat 24 size _ (by omega) (by omega)]
 simp only[Option.bind_some]
 obtain⟨e,he,hp⟩:=iter_post (step:=g_diffcon_rests_s1 n l (first:Int) t (List.replicate size [])) (fun x=>∃ r:Nat,x.1=r∧r≤size∧x.2.length=size∧∀ j (h:j < x.2.length),j < r→RowS (fun u c=>FW (eds (l.drop (first+1))) u j t.toNat c) n x.2[j]) (fun x=>size - x.1.toNat)
  (fun h=>h.length=size∧RestS (eds (l.drop (first+1))) n t.toNat h) (x:=(0,List.replicate size [])) ⟨0,rfl,by omega,by simp,fun j h q=>by omega⟩ (by dsimp only;omega) (by
  rintro⟨x,y⟩ ⟨r,h1,h2,h3,h4⟩
  dsimp only at h1 h3 h4
  subst h1
  unfold g_diffcon_rests_s1
  dsimp only
  rw[List.length_replicate]
  by_cases q:r < size
  ·left
   rw[if_pos (by simpa using q),mkI_nat 8 n (0:Int) (by omega) (by omega),atI_nat (show r < y.length by omega),wr64 (x:=(r:Int)+1) (by omega)]
   simp only[Option.bind_some]
   have hfill:=fill_far (step:=g_diffcon_rests_s2 (List.replicate n 0)) n (by omega) (List.replicate n 0) (by simp)
    (fun k z hk hz=>by
     unfold g_diffcon_rests_s2
     dsimp only
     rw[List.length_replicate,if_pos (by simpa using hk),atI_nat (show k < z.length by omega),setI_nat _ (show k < z.length by omega),wr64 (x:=(k:Int)+1) (by omega)]
     rfl)
    (fun z hz=>by unfold g_diffcon_rests_s2;dsimp only;rw[List.length_replicate,if_neg (by simp)])
   rw[hfill]
   simp only[Option.bind_some]
   have fin:∀ nx:List Int,RowS (fun u c=>FW (eds (l.drop (first+1))) u r t.toNat c) n nx→∃ i:Nat,(r:Int)+1=i∧i≤size∧(y.set (r:Int).toNat nx).length=size∧∀ j (h:j < (y.set (r:Int).toNat nx).length),j < i→RowS (fun u c=>FW (eds (l.drop (first+1))) u j t.toNat c) n (y.set (r:Int).toNat nx)[j]:=by
    intro nx hnx
    refine⟨r+1,by simp,by omega,by simpa using h3,fun j hj hjr=>?_⟩
    by_cases hrj:r=j
    ·subst hrj;simpa using hnx
    ·simp only[Int.toNat_natCast,List.getElem_set_ne hrj]
     exact h4 j (by simpa using hj) (by omega)
   by_cases q0:r=0
   ·subst q0
    rw[if_pos (by simp),show(0:Int)=((0:Nat):Int) from rfl,atI_nat (show 0 < y.length by omega)]
    simp only[Option.bind_some]
    rw[atI_getD (x:=List.replicate n far) ht0 (by simpa using ht1),setI_toNat _ ht0 (by simpa using ht1)]
    simp only[Option.bind_some]
    exact⟨_,rfl,fin _ (row_0b (by omega)),by dsimp only;omega⟩
   ·rw[if_neg (by simpa using q0),wr64 (x:=(first:Int)+1) (by omega),show((first:Int)+1)=((first+1:Nat):Int) by omega,subL_nat l (by omega)]
    simp only[Option.bind_some]
    have hold:=h4 (r - 1) (by omega) (by omega)
    rw[r3_eq hl' (K:=((r - 1:Nat):Int)) (by omega) (by omega) (by omega) (List.getElem?_eq_some_iff.2 ⟨by omega,rfl⟩) (by
     have:=rb_of' hl'.cc hold
     exact this)]
    simp only[Option.bind_some]
    have:=row_b hl'.cc hl'.inn (by omega) hold
    rw[show r - 1+1=r by omega] at this
    exact⟨_,rfl,fin _ this,by dsimp only;omega⟩
  ·obtain rfl:r=size:=by omega
   rw[if_neg (by simp)]
   exact .inr ⟨_,rfl,h3,fun j hj=>h4 j hj (by omega)⟩)
 rw[he]
 exact⟨e,rfl,hp.1,hp.2⟩
def eAt (l:List T_api_Bound) (i:Int):Ed:=(eds l).getD i.toNat ⟨0,0,0⟩
theorem eAt_nat {l:List T_api_Bound} {i:Nat} (h:i < l.length):eAt l (i:Int)=ed l[i]:=by
 simp[eAt,eds,List.getD,h]
structure CfOK (l:List T_api_Bound) (k:Nat) (out:List Int):Prop where
 len:out.length=k
 idx:∀ i ∈ out,0≤i∧i < (l.length:Int)
 cyc:∃ u,Wlk (· ∈ eds l) u u (out.map (eAt l))
 neg:sumE (out.map (eAt l)) < 0
theorem c3_eq {n:Nat} {l:List T_api_Bound} (hl:BdsOK n l) {first:Nat} {h:List (List Int)} {rw_:List Int} {at_ sum r:Int} {out:List Int} {K:Int} (hK:0≤K∧K≤1000000) (hr:atI h r=some rw_) (hrow:RB n K rw_) (hsum:-(K * 1099511627776)≤sum∧sum≤K * 1099511627776) (ho:out.length≤1000) (hf:first+1≤l.length)
  (hex:∃ i,∃ q:i < l.length,first < i∧l[i].I=at_∧rw_.getD l[i].J.toNat 0≠far∧sum+l[i].C+rw_.getD l[i].J.toNat 0 < 0) :
  ∃ i,∃ q:i < l.length,first < i∧l[i].I=at_∧rw_.getD l[i].J.toNat 0≠far∧sum+l[i].C+rw_.getD l[i].J.toNat 0 < 0∧iter (g_diffcon_conflict_s3 l h (at_,sum,r,out)) ((first:Int)+1)=some (out++[(i:Int)],l[i].J,sum+l[i].C):=by
 have hlen:=hl.len
 obtain⟨i0,hi0,hc0,hc1,hc2,hc3⟩:=hex
 obtain⟨e,he,hp⟩:=iter_post (step:=g_diffcon_conflict_s3 l h (at_,sum,r,out)) (fun x=>∃ i:Nat,x=i∧first < i∧i≤i0) (fun x=>l.length - x.toNat)
  (fun e=>∃ i,∃ q:i < l.length,first < i∧l[i].I=at_∧rw_.getD l[i].J.toNat 0≠far∧sum+l[i].C+rw_.getD l[i].J.toNat 0 < 0∧e=(out++[(i:Int)],l[i].J,sum+l[i].C)) (x:=(first:Int)+1) ⟨first+1,by simp,by omega,by omega⟩ (by omega) (by
  rintro x ⟨i,rfl,h1,h2⟩
  have hi:i < l.length:=by omega
  have hb:=hl.bd _ (List.getElem_mem hi)
  unfold g_diffcon_conflict_s3
  dsimp only
  rw[if_pos (by simpa using hi),atI_nat hi,wr64 (x:=(i:Int)+1) (by omega)]
  simp only[Option.bind_some]
  have nxt:¬ (l[i].I=at_∧rw_.getD l[i].J.toNat 0≠far∧sum+l[i].C+rw_.getD l[i].J.toNat 0 < 0)→∃ x',(some (.go ((i:Int)+1)):Option (Nx Int (List Int × Int × Int)))=some (.go x')∧(∃ j:Nat,x'=j∧first < j∧j≤i0)∧l.length - x'.toNat < l.length - (i:Int).toNat:=by
   intro hno
   have:i≠i0:=fun e=>by subst e;exact hno ⟨hc1,hc2,hc3⟩
   exact⟨_,rfl,⟨i+1,by simp,by omega,by omega⟩,by omega⟩
  by_cases q1:l[i].I=at_
  ·rw[if_pos (by simpa using q1),hr]
   simp only[Option.bind_some]
   have hrl:=hrow.1
   have hrv:=hrow.2 l[i].J.toNat (by omega)
   rw[atI_getD hb.2.2.1 (by omega)]
   simp only[Option.bind_some]
   by_cases q2:rw_.getD l[i].J.toNat 0=far
   ·rw[if_neg (by rw[bne_iff_ne,← far_eq];exact fun h=>h q2)]
    simp only[Option.bind_some,Bool.false_eq_true,if_false]
    exact .inl (nxt fun h=>h.2.1 q2)
   ·have h3:=hrv q2
    rw[if_pos (by rw[bne_iff_ne,← far_eq];exact q2),wr64 (x:=sum+l[i].C) (by omega),wr64 (x:=sum+l[i].C+rw_.getD l[i].J.toNat 0) (by omega)]
    simp only[Option.bind_some]
    by_cases q3:sum+l[i].C+rw_.getD l[i].J.toNat 0 < 0
    ·rw[if_pos (by simpa using q3),if_pos (by omega)]
     exact .inr ⟨_,rfl,i,hi,h1,q1,q2,q3,rfl⟩
    ·rw[if_neg (by simpa using q3)]
     exact .inl (nxt fun h=>q3 h.2.2)
  ·rw[if_neg (by simpa using q1)]
   simp only[Option.bind_some,Bool.false_eq_true,if_false]
   exact .inl (nxt fun h=>q1 h.1))
 obtain⟨i,q,a1,a2,a3,a4,rfl⟩:=hp
 exact⟨i,q,a1,a2,a3,a4,he⟩
theorem RB.mono {n:Nat} {K K':Int} {r:List Int} (h:RB n K r) (hk:K≤K'):RB n K' r :=
 ⟨h.1,fun v hv hf=>by have:=h.2 v hv hf;omega⟩
theorem mem_drop {l:List T_api_Bound} {k:Nat} {e:Ed} (h:e ∈ eds (l.drop k)):∃ i,∃ q:i < l.length,k≤i∧ed l[i]=e:=by
 obtain⟨b,hb,rfl⟩:=List.mem_map.1 h
 obtain⟨j,hj,rfl⟩:=List.getElem_of_mem hb
 simp only[List.length_drop] at hj
 exact⟨k+j,by omega,by omega,by simp⟩
structure BkI (n:Nat) (l:List T_api_Bound) (first t k:Nat) (r a:Nat) (sum:Int) (out:List Int):Prop where
 an:a < n
 len:out.length+r=k
 idx:∀ i ∈ out,0≤i∧i < (l.length:Int)
 wlk:Wlk (· ∈ eds l) t a (out.map (eAt l))
 tot:sumE (out.map (eAt l))=sum
 rest:∃ L,Wlk (· ∈ eds (l.drop (first+1))) a t L∧L.length=r∧sum+sumE L < 0
theorem eAt_mem {l:List T_api_Bound} {i:Int} (h0:0≤i) (h1:i < (l.length:Int)):eAt l i ∈ eds l:=by
 obtain⟨i,rfl⟩:=Int.eq_ofNat_of_zero_le h0
 have hi:i < l.length:=by omega
 rw[eAt_nat hi]
 exact List.mem_map_of_mem (List.getElem_mem hi)
theorem sum_out {n:Nat} {l:List T_api_Bound} (hl:BdsOK n l) {out:List Int} (h:∀ i ∈ out,0≤i∧i < (l.length:Int)) (ho:out.length≤1000):-(1000 * 1099511627776)≤sumE (out.map (eAt l))∧sumE (out.map (eAt l))≤1000 * 1099511627776:=by
 have:=sumE_bd hl.cc (out.map (eAt l)) (fun e he=>by
  obtain⟨i,hi,rfl⟩:=List.mem_map.1 he
  exact eAt_mem (h i hi).1 (h i hi).2)
 simp only[List.length_map] at this
 omega
theorem c2_eq {n:Nat} {l:List T_api_Bound} (hl:BdsOK n l) {first t k:Nat} (hk:k≤1000) (hf:first < l.length) (ht:t < n) {h:List (List Int)} (hh:h.length=k) (hR:RestS (eds (l.drop (first+1))) n t h) {a0:Nat} {sum0:Int} {out0:List Int} {r0:Nat} (h0:BkI n l first t k r0 a0 sum0 out0) :
  ∃ out,iter (g_diffcon_conflict_s2 l (first:Int) h) ((a0:Int),sum0,(r0:Int) - 1,out0)=some out∧CfOK l k out:=by
 have hlen:=hl.len
 have hl':=hl.drop (first+1)
 refine iter_post (step:=g_diffcon_conflict_s2 l (first:Int) h) (fun x=>∃ r a:Nat,x.1=a∧x.2.2.1=(r:Int) - 1∧BkI n l first t k r a x.2.1 x.2.2.2) (fun x=>(x.2.2.1+1).toNat) (fun out=>CfOK l k out) (x:=((a0:Int),sum0,(r0:Int) - 1,out0)) ⟨r0,a0,rfl,rfl,h0⟩ (by have:=h0.len;dsimp only;omega) ?_
 rintro⟨xa,sum,xr,out⟩ ⟨r,a,h1,h2,hI⟩
 dsimp only at h1 h2 hI
 subst h1 h2
 have hol:=hI.len
 unfold g_diffcon_conflict_s2
 dsimp only
 by_cases q:r=0
 ·subst q
  rw[if_neg (by simp)]
  right
  obtain⟨L,w,hL,hs⟩:=hI.rest
  obtain rfl:=List.eq_nil_of_length_eq_zero hL
  have:=w.nil_eq
  subst this
  exact⟨_,rfl,⟨by omega,hI.idx,⟨a,hI.wlk⟩,by rw[hI.tot];simpa[sumE] using hs⟩⟩
 ·obtain⟨r,rfl⟩:∃ m,r=m+1:=⟨r - 1,by omega⟩
  left
  rw[if_pos (by rw[decide_eq_true_eq];omega),wr64 (x:=(first:Int)+1) (by omega)]
  have hrk:r < h.length:=by omega
  have hrow:=hR r hrk
  have hsum:=sum_out hl hI.idx (by omega)
  rw[hI.tot] at hsum
  have hat:atI h ((((r+1:Nat):Int) - 1))=some h[r]:=by
   rw[show(((r+1:Nat):Int) - 1)=((r:Nat):Int) by omega,atI_nat hrk]
  obtain⟨i,qi,a1,a2,a3,a4,a5⟩:=c3_eq hl (first:=first) (h:=h) (at_:=(a:Int)) (sum:=sum) (r:=((r+1:Nat):Int) - 1) (out:=out) (K:=1000) ⟨by omega,by omega⟩ hat ((rb_of' hl'.cc hrow).mono (by omega)) hsum (by omega) (by omega) (by
   obtain⟨L,w,hL,hs⟩:=hI.rest
   cases L with
   | nil=>simp at hL
   | cons e L =>
    cases w with
    | cons he w2 =>
     obtain⟨i,qi,hki,hei⟩:=mem_drop he
     subst hei
     have hb:=hl.bd _ (List.getElem_mem qi)
     have hj:(ed l[i]).j < n:=by simp only[ed];omega
     have hle:=(hrow.2 (ed l[i]).j hj).2 (sumE L) ⟨L,w2,by simpa using hL,rfl⟩
     have hbd:=sumE_bd hl'.cc L w2.mem
     have hLr:L.length=r:=by simpa using hL
     have hje:(ed l[i]).j=l[i].J.toNat:=rfl
     have hce:(ed l[i]).c=l[i].C:=rfl
     rw[hje] at hle
     simp only[sumE,hce] at hs
     refine⟨i,qi,by omega,?_,?_,by omega⟩
     ·show l[i].I=(((ed l[i]).i:Nat):Int)
      simp only[ed];omega
     ·rw[far_eq];omega)
  rw[a5]
  simp only[Option.bind_some]
  have hb:=hl.bd _ (List.getElem_mem qi)
  rw[wr64 (x:=(((r+1:Nat):Int) - 1) - 1) (by omega)]
  refine⟨_,rfl,⟨r,l[i].J.toNat,by dsimp only;omega,by dsimp only;omega,?_⟩,by dsimp only;omega⟩
  dsimp only
  obtain⟨L,w,hL,hs⟩:=(hrow.2 l[i].J.toNat (by omega)).1 a3
  refine⟨by omega,by simp;omega,fun j hj=>?_,?_,?_,⟨L,w,hL,by omega⟩⟩
  ·rcases List.mem_append.1 hj with hj|hj
   ·exact hI.idx j hj
   ·simp only[List.mem_singleton] at hj;subst hj;omega
  ·rw[List.map_append,List.map_cons,List.map_nil,eAt_nat qi]
   exact hI.wlk.snoc (List.mem_map_of_mem (List.getElem_mem qi)) (by simp only[ed];omega)
  ·rw[List.map_append,List.map_cons,List.map_nil,eAt_nat qi,sumE_app,hI.tot]
   simp[sumE,ed]
theorem conflict_eq {n:Nat} {l:List T_api_Bound} (hl:BdsOK n l) {k:Nat} (hk0:0 < k) (hk:k≤1000):∃ out,g_diffcon_conflict n l (k:Int)=some out∧(out=[]∨CfOK l k out):=by
 have hlen:=hl.len
 have hn:=hl.n2
 obtain⟨e,he,hp⟩:=iter_post (step:=g_diffcon_conflict_s1 n l (k:Int)) (fun x=>∃ i:Nat,x=i∧i≤l.length) (fun x=>l.length - x.toNat) (fun e=>e=.inr ()∨∃ out,e=.inl out∧CfOK l k out) (x:=0) ⟨0,rfl,by omega⟩ (by omega) (by
  rintro x ⟨i,rfl,hi⟩
  unfold g_diffcon_conflict_s1
  by_cases q:i < l.length
  ·have hb:=hl.bd _ (List.getElem_mem q)
   rw[if_pos (by simpa using q),atI_nat q,wr64 (x:=(i:Int)+1) (by omega),wr64 (x:=(k:Int) - 1) (by omega),wr64 (x:=(k:Int) - 2) (by omega)]
   simp only[Option.bind_some]
   obtain⟨h,hh,hlh,hR⟩:=rests_eq hl (first:=i) (size:=k) (t:=l[i].I) q hk hb.1 hb.2.1
   rw[hh]
   simp only[Option.bind_some]
   have hkh:k - 1 < h.length:=by omega
   rw[show(k:Int) - 1=((k - 1:Nat):Int) by omega,atI_nat hkh]
   simp only[Option.bind_some]
   have hrow:=hR (k - 1) hkh
   have hrb:=rb_of' (hl.drop (i+1)).cc hrow
   generalize hrw:h[k - 1]=rw_ at hrow hrb
   have hrl:=hrb.1
   have hrv:=hrb.2 l[i].J.toNat (by omega)
   rw[atI_getD hb.2.2.1 (by omega)]
   simp only[Option.bind_some]
   have nxt:∃ x',(some (.go ((i:Int)+1)):Option (Nx Int (List Int ⊕ Unit)))=some (.go x')∧(∃ j:Nat,x'=j∧j≤l.length)∧l.length - x'.toNat < l.length - (i:Int).toNat:=⟨_,rfl,⟨i+1,by simp,by omega⟩,by omega⟩
   by_cases q2:rw_.getD l[i].J.toNat 0=far
   ·rw[if_pos (by rw[beq_iff_eq,← far_eq];exact q2)]
    simp only[Option.bind_some,if_true]
    exact .inl nxt
   ·have h3:=hrv q2
    rw[if_neg (by rw[beq_iff_eq,← far_eq];exact q2),wr64 (x:=l[i].C+rw_.getD l[i].J.toNat 0) (by omega)]
    simp only[Option.bind_some]
    by_cases q3:0≤l[i].C+rw_.getD l[i].J.toNat 0
    ·rw[if_pos (by simpa using q3)]
     exact .inl nxt
    ·rw[if_neg (by simpa using q3)]
     right
     obtain⟨L,w,hL,hs⟩:=(hrow.2 l[i].J.toNat (by omega)).1 q2
     obtain⟨out,ho,hc⟩:=c2_eq hl (first:=i) (t:=l[i].I.toNat) (k:=k) hk q (by omega) hlh hR (a0:=l[i].J.toNat) (sum0:=l[i].C) (out0:=[(i:Int)]) (r0:=k - 1) ⟨by omega,by simp;omega,by intro j hj;simp only[List.mem_singleton] at hj;subst hj;omega,by
       rw[List.map_cons,List.map_nil,eAt_nat q]
       exact .cons (List.mem_map_of_mem (List.getElem_mem q)) (.nil _),by rw[List.map_cons,List.map_nil,eAt_nat q];simp[sumE,ed],⟨L,w,hL,by omega⟩⟩
     rw[show((l[i].J.toNat:Nat):Int)=l[i].J by omega,show((k - 1:Nat):Int) - 1=(k:Int) - 2 by omega] at ho
     rw[ho]
     exact⟨_,rfl,.inr ⟨out,rfl,hc⟩⟩
  ·obtain rfl:i=l.length:=by omega
   rw[if_neg (by simp)]
   exact .inr ⟨_,rfl,.inl rfl⟩)
 unfold g_diffcon_conflict
 rw[he]
 rcases hp with rfl|⟨out,rfl,hc⟩
 ·exact⟨[],rfl,.inl rfl⟩
 ·exact⟨out,rfl,.inr hc⟩
theorem dcCheck_eq {n:Nat} {l:List T_api_Bound} (hl:BdsOK n l):g_diffcon_Check n l=some 0:=by
 have hlen:=hl.len
 have hn:=hl.n2
 have hn1:=hl.n1
 unfold g_diffcon_Check
 have a1:¬ (n:Int) < 1:=by omega
 have a2:¬ (512:Int) < (n:Int):=by omega
 simp only[a1,a2,decide_false,Bool.false_eq_true,if_false,Option.bind_some]
 rw[if_neg (by simp;omega)]
 obtain⟨e,he,hp⟩:=iter_cnt (step:=g_diffcon_Check_s1 n l) l.length (by omega) (fun _=>True) (fun e=>e=.inr ()) trivial (fun i hi _=>by
  have hb:=hl.bd _ (List.getElem_mem hi)
  unfold g_diffcon_Check_s1
  rw[if_pos (by simpa using hi),atI_nat hi,wr64 (x:=(i:Int)+1) (by omega)]
  simp only[Option.bind_some]
  have b1:¬ l[i].I < 0:=by omega
  have b2:¬ (n:Int)≤l[i].I:=by omega
  have b3:¬ l[i].J < 0:=by omega
  have b4:¬ (n:Int)≤l[i].J:=by omega
  have b5:¬ l[i].C < -1099511627776:=by omega
  have b6:¬ 1099511627776 < l[i].C:=by omega
  simp only[b1,b2,b3,b4,b5,b6,decide_false,Bool.false_eq_true,if_false,Option.bind_some]
  exact .inl ⟨by first|rfl|trivial,trivial⟩) (fun _=>by
  unfold g_diffcon_Check_s1
  exact⟨_,by rw[if_neg (by simp)],rfl⟩)
 rw[he,hp]
 rfl
theorem solve_eq {n:Nat} {l:List T_api_Bound} (hl:BdsOK n l):(NoNeg (· ∈ eds l)∧g_diffcon_Solve n l=some (sol n l,[],0))∨(¬ NoNeg (· ∈ eds l)∧∃ out,g_diffcon_Solve n l=some ([],out,16)∧(out=[]∨∃ k,0 < k∧k≤n∧Least (· ∈ eds l) k∧CfOK l k out)):=by
 have hn:=hl.n2
 obtain⟨r,hr,hc⟩:=relax_eq hl
 have hs:g_diffcon_Solve n l=(if r.1 then(some (r.2,[],0)) else((g_diffcon_shortest n l).bind fun r45=>((g_diffcon_conflict n l r45).bind fun r47=>(some ([],r47,16))))):=by
  unfold g_diffcon_Solve
  rw[dcCheck_eq hl,mkI_nat 8 n _ (by omega) (by omega)]
  simp only[Option.bind_some,bne_self_eq_false,Bool.false_eq_true,if_false]
  rw[show List.replicate n (0:Int)=x0 n from rfl,hr]
  rfl
 rw[hs]
 rcases hc with⟨h1,rfl⟩|⟨h1,h2⟩
 ·exact .inl ⟨h1,rfl⟩
 ·right
  obtain⟨k,hk,k0,kn,_,kl⟩:=shortest_eq hl h1
  obtain⟨out,ho,hco⟩:=conflict_eq hl k0 (by omega)
  rw[h2,hk]
  simp only[Bool.false_eq_true,if_false,Option.bind_some]
  rw[ho]
  refine⟨h1,out,rfl,?_⟩
  rcases hco with rfl|hco
  ·exact .inl rfl
  ·exact .inr ⟨k,k0,kn,kl,hco⟩
theorem clU {l:List T_api_Run} (h:l.length≤1048576):g_slices_Clone_api_Run_api_Run l=some l:=by unfold g_slices_Clone_api_Run_api_Run;rw[if_pos (by omega)]
theorem clR {l:List T_api_Row} (h:l.length≤1048576):g_slices_Clone_api_Row_api_Row l=some l:=by unfold g_slices_Clone_api_Row_api_Row;rw[if_pos (by omega)]
theorem clE {l:List T_api_Event} (h:l.length≤1048576):g_slices_Clone_api_Event_api_Event l=some l:=by unfold g_slices_Clone_api_Event_api_Event;rw[if_pos (by omega)]
theorem clG {l:List T_api_Region} (h:l.length≤1048576):g_slices_Clone_api_Region_api_Region l=some l:=by unfold g_slices_Clone_api_Region_api_Region;rw[if_pos (by omega)]
theorem clC {l:List T_api_Comment} (h:l.length≤1048576):g_slices_Clone_api_Comment_api_Comment l=some l:=by unfold g_slices_Clone_api_Comment_api_Comment;rw[if_pos (by omega)]
theorem same_loop {α:Type} {step:Int × List α→Option (Nx (Int × List α) (List α))} (l:List α) (hn:l.length≤9223372036854775807) (hgo:∀ (i:Nat) (h:i < l.length),step ((i:Int),l)=some (.go ((i:Int)+1,l))) (hend:step ((l.length:Int),l)=some (.out l)):iter step (0,l)=some l:=by
 have:=iter_run (step:=step) l hn (fun i (_:Unit)=>(i,l)) (fun _ _=>.inr ()) (fun _=>l) (fun _ _=>True) (s0:=()) trivial (fun i hi _ _=>.inr ⟨(),rfl,hgo i hi,trivial⟩) (fun _ _=>hend)
 rw[show((0:Int),l)=(fun i (_:Unit)=>(i,l)) 0 () from rfl,this]
 congr 1
 have:∀ t:List α,runF (fun(_:Unit) (_:α)=>(.inr ():List α ⊕ Unit)) (fun _=>l) () t=l:=by
  intro t
  induction t with
  | nil=>rfl
  | cons a t ih=>simp only[runF];exact ih
 exact this l
theorem set_same {α:Type} {l:List α} {i:Nat} (h:i < l.length):setI l (i:Int) l[i]=some l:=by
 rw[setI_nat _ h];simp
theorem styClone (rows:List T_api_Row) (h:rows.length≤1048576) (hr:∀ r ∈ rows,r.Runs.length≤1048576):g_style_Clone rows=some rows:=by
 unfold g_style_Clone
 cases rows with
 | nil =>
  simp only[List.isEmpty_nil,if_true]
  rw[clR (by simp)]
  simp only[Option.bind_some]
  have:iter (g_style_Clone_s1 []) ()=some ():=by
   refine iter_of (fun x e=>True) (fun _=>0) ?_ (x:=()) trivial (by decide)
   intro x e _
   right
   unfold g_style_Clone_s1
   rw[if_neg (by simp)]
  rw[this]
  rfl
 | cons a t =>
  simp only[List.isEmpty_cons,Bool.false_eq_true,if_false]
  generalize hl:a::t=l at *
  have hne:l.isEmpty=false:=by rw[← hl];rfl
  rw[show g_slices_Clone_api_Row_api_Row_nw l=some l from by unfold g_slices_Clone_api_Row_api_Row_nw;rw[hne];exact clR h]
  simp only[Option.bind_some]
  rw[same_loop l (by omega) (fun i hi=>by
   unfold g_style_Clone_s2
   dsimp only
   rw[if_pos (by simpa using hi),atI_nat hi,wr64 (x:=(i:Int)+1) (by omega)]
   simp only[Option.bind_some]
   have hz:=hr _ (List.getElem_mem hi)
   rw[clU hz,show g_slices_Clone_api_Run_api_Run_nw l[i].Runs=if l[i].Runs.isEmpty then none else some l[i].Runs from by unfold g_slices_Clone_api_Run_api_Run_nw;rw[clU hz]]
   have hs:setI l (i:Int) (T_api_Row.mk l[i].Runs)=some l:=set_same hi
   cases hq:l[i].Runs.isEmpty with
   | true=>simp only[if_true,Option.bind_some];rw[hs];rfl
   | false=>simp only[Bool.false_eq_true,if_false,Option.bind_some];rw[hs];rfl) (by unfold g_style_Clone_s2;dsimp only;rw[if_neg (by simp)])]
  rfl
theorem evClone (e:T_api_Event) (h:EvZ e):g_event_Clone e=some e:=by
 unfold g_event_Clone
 rw[styClone _ h.1 (fun r hr=>(h.2 r hr).2)]
 rfl
theorem dcl_loop (l:List T_api_Event) (h:l.length≤1048576) (hz:∀ e ∈ l,EvZ e):iter (g_document_Clone_s2 l) (0,l)=some l :=
 same_loop l (by omega) (fun i hi=>by
  unfold g_document_Clone_s2
  dsimp only
  rw[if_pos (by simpa using hi),atI_nat hi,wr64 (x:=(i:Int)+1) (by omega)]
  simp only[Option.bind_some]
  rw[evClone _ (hz _ (List.getElem_mem hi))]
  simp only[Option.bind_some]
  rw[set_same hi]
  rfl) (by unfold g_document_Clone_s2;dsimp only;rw[if_neg (by simp)])
theorem dcl_nil:iter (g_document_Clone_s1 []) ()=some ():=by
 refine iter_of (fun x e=>True) (fun _=>0) ?_ (x:=()) trivial (by decide)
 intro x e _
 right
 unfold g_document_Clone_s1
 rw[if_neg (by simp)]
theorem empty_nil {α:Type} {l:List α} (h:l.isEmpty=true):l=[]:=List.isEmpty_iff.1 h
theorem docClone (d:T_api_Document) (hd:DocZ d):g_document_Clone d=some d:=by
 have e1:=dcl_loop d.Events hd.evs hd.ev
 have e2:iter (g_document_Clone_s4 d.Events) (0,d.Events)=some d.Events:=e1
 have e3:iter (g_document_Clone_s6 d.Events) (0,d.Events)=some d.Events:=e1
 have e4:iter (g_document_Clone_s8 d.Events) (0,d.Events)=some d.Events:=e1
 have n1:iter (g_document_Clone_s3 []) ()=some ():=dcl_nil
 have n2:iter (g_document_Clone_s5 []) ()=some ():=dcl_nil
 have n3:iter (g_document_Clone_s7 []) ()=some ():=dcl_nil
 unfold g_document_Clone
 have c1:=clG hd.regs
 have c2:=clC hd.coms
 have c3:=clE hd.evs
 have w1:d.Regions.isEmpty=false→g_slices_Clone_api_Region_api_Region_nw d.Regions=some d.Regions:=fun h=>by unfold g_slices_Clone_api_Region_api_Region_nw;rw[h];exact c1
 have w2:d.Comments.isEmpty=false→g_slices_Clone_api_Comment_api_Comment_nw d.Comments=some d.Comments:=fun h=>by unfold g_slices_Clone_api_Comment_api_Comment_nw;rw[h];exact c2
 have w3:d.Events.isEmpty=false→g_slices_Clone_api_Event_api_Event_nw d.Events=some d.Events:=fun h=>by unfold g_slices_Clone_api_Event_api_Event_nw;rw[h];exact c3
 cases h1:d.Regions.isEmpty<;>cases h2:d.Comments.isEmpty<;>cases h3:d.Events.isEmpty<;>simp only[Bool.false_eq_true,if_false,if_true]
 ·rw[w1 h1];simp only[Option.bind_some];rw[w2 h2];simp only[Option.bind_some];rw[w3 h3];simp only[Option.bind_some];rw[e4];rfl
 ·rw[w1 h1];simp only[Option.bind_some];rw[w2 h2];simp only[Option.bind_some];rw[c3];simp only[Option.bind_some];rw[empty_nil h3,n3,Option.bind_some,← empty_nil h3]
 ·rw[w1 h1];simp only[Option.bind_some];rw[c2];simp only[Option.bind_some];rw[w3 h3];simp only[Option.bind_some];rw[e3];rfl
 ·rw[w1 h1];simp only[Option.bind_some];rw[c2];simp only[Option.bind_some];rw[c3];simp only[Option.bind_some];rw[empty_nil h3,n2,Option.bind_some,← empty_nil h3]
 ·rw[c1];simp only[Option.bind_some];rw[w2 h2];simp only[Option.bind_some];rw[w3 h3];simp only[Option.bind_some];rw[e2];rfl
 ·rw[c1];simp only[Option.bind_some];rw[w2 h2];simp only[Option.bind_some];rw[c3];simp only[Option.bind_some];rw[empty_nil h3,n1,Option.bind_some,← empty_nil h3]
 ·rw[c1];simp only[Option.bind_some];rw[c2];simp only[Option.bind_some];rw[w3 h3];simp only[Option.bind_some];rw[e1];rfl
 ·rw[c1];simp only[Option.bind_some];rw[c2];simp only[Option.bind_some];rw[c3];simp only[Option.bind_some];rw[empty_nil h3,dcl_nil,Option.bind_some,← empty_nil h3]
theorem docClone_nw (d:T_api_Document) (hd:DocZ d) (h3:d.Events.isEmpty=false):g_document_Clone_nw d=some d:=by
 have e1:iter (g_document_Clone_nw_s2 d.Events) (0,d.Events)=some d.Events:=dcl_loop d.Events hd.evs hd.ev
 have e2:iter (g_document_Clone_nw_s4 d.Events) (0,d.Events)=some d.Events:=e1
 have e3:iter (g_document_Clone_nw_s6 d.Events) (0,d.Events)=some d.Events:=e1
 have e4:iter (g_document_Clone_nw_s8 d.Events) (0,d.Events)=some d.Events:=e1
 unfold g_document_Clone_nw
 have c1:=clG hd.regs
 have c2:=clC hd.coms
 have c3:=clE hd.evs
 have w1:d.Regions.isEmpty=false→g_slices_Clone_api_Region_api_Region_nw d.Regions=some d.Regions:=fun h=>by unfold g_slices_Clone_api_Region_api_Region_nw;rw[h];exact c1
 have w2:d.Comments.isEmpty=false→g_slices_Clone_api_Comment_api_Comment_nw d.Comments=some d.Comments:=fun h=>by unfold g_slices_Clone_api_Comment_api_Comment_nw;rw[h];exact c2
 have w3:g_slices_Clone_api_Event_api_Event_nw d.Events=some d.Events:=by unfold g_slices_Clone_api_Event_api_Event_nw;rw[h3];exact c3
 cases h1:d.Regions.isEmpty<;>cases h2:d.Comments.isEmpty<;>simp only[h3,Bool.false_eq_true,if_false,if_true]
 ·rw[w1 h1];simp only[Option.bind_some];rw[w2 h2];simp only[Option.bind_some];rw[w3];simp only[Option.bind_some];rw[e4];rfl
 ·rw[w1 h1];simp only[Option.bind_some];rw[c2];simp only[Option.bind_some];rw[w3];simp only[Option.bind_some];rw[e3];rfl
 ·rw[c1];simp only[Option.bind_some];rw[w2 h2];simp only[Option.bind_some];rw[w3];simp only[Option.bind_some];rw[e2];rfl
 ·rw[c1];simp only[Option.bind_some];rw[c2];simp only[Option.bind_some];rw[w3];simp only[Option.bind_some];rw[e1];rfl
theorem find_loop {step:Int→Option (Nx Int (Int ⊕ Unit))} (l:List T_api_Event) (hn:l.length≤1048576) (id:Int) (hgo:∀ (i:Nat) (h:i < l.length),step (i:Int)=if(l[i].ID == id)=true then some (.out (.inl (i:Int))) else some (.go ((i:Int)+1))) (hend:step (l.length:Int)=some (.out (.inr ()))) :
  ∃ e,iter step 0=some e∧((∃ i,∃ h:i < l.length,e=.inl (i:Int)∧l[i].ID=id)∨(e=.inr ()∧∀ i (h:i < l.length),l[i].ID≠id)):=by
 refine iter_cnt l.length (by omega) (fun i=>∀ j (h:j < l.length),j < i→l[j].ID≠id) _ (fun j _ h=>by omega) (fun i hi hI=>?_) (fun hI=>⟨_,hend,.inr ⟨rfl,fun i h=>hI i h h⟩⟩)
 rw[hgo i hi]
 by_cases q:l[i].ID=id
 ·rw[if_pos (by simpa using q)]
  exact .inr ⟨_,rfl,.inl ⟨i,hi,rfl,q⟩⟩
 ·rw[if_neg (by simpa using q)]
  refine .inl ⟨rfl,fun j hj hji=>?_⟩
  rcases Nat.lt_succ_iff_lt_or_eq.1 hji with h|rfl
  ·exact hI j hj h
  ·exact q
theorem find_eq (d:T_api_Document) (hn:d.Events.length≤1048576) (id:Int):∃ r,g_document_Find d id=some r∧g_document_Find_ro d id=some r∧((∃ i,∃ h:i < d.Events.length,r=(i:Int)∧d.Events[i].ID=id)∨(r=-1∧∀ i (h:i < d.Events.length),d.Events[i].ID≠id)):=by
 obtain⟨e,he,hp⟩:=find_loop (step:=g_slices_IndexFunc_api_Event_api_Event_s1 d.Events id) d.Events hn id (fun i hi=>by
  unfold g_slices_IndexFunc_api_Event_api_Event_s1 g_document_Find_1
  rw[if_pos (by simpa using hi),atI_nat hi,wr64 (x:=(i:Int)+1) (by omega)]
  rfl) (by unfold g_slices_IndexFunc_api_Event_api_Event_s1;rw[if_neg (by simp)])
 have he':iter (g_slices_IndexFunc_api_Event_api_Event_ro_s1 d.Events id) 0=some e:=he
 unfold g_document_Find g_slices_IndexFunc_api_Event_api_Event g_document_Find_ro g_slices_IndexFunc_api_Event_api_Event_ro
 rw[he,he']
 rcases hp with⟨i,h,rfl,hid⟩|⟨rfl,hno⟩
 ·exact⟨(i:Int),rfl,rfl,.inl ⟨i,h,rfl,hid⟩⟩
 ·exact⟨-1,rfl,rfl,.inr ⟨rfl,hno⟩⟩
theorem sort1_eq (a b:T_api_Event):∃ r,g_document_Sort_1 a b=some r∧decide (r < 0)=ltE a b:=by
 have h:=less_eq a b
 unfold g_document_Sort_1
 unfold g_event_Less at h
 rw[cmp_eq,cmp_eq] at h ⊢
 simp only[Option.bind_some,or2_eq] at h ⊢
 exact⟨_,rfl,Option.some.inj h⟩
theorem ltE_trans {a b c:T_api_Event} (h1:ltE b a=false) (h2:ltE c b=false):ltE c a=false:=by
 unfold ltE at *
 simp only[Bool.or_eq_false_iff,decide_eq_false_iff_not,Bool.and_eq_false_imp,decide_eq_true_eq] at *
 omega
theorem ltE_asym {a b:T_api_Event} (h1:ltE a b=true):ltE b a=false:=by
 unfold ltE at *
 simp only[Bool.or_eq_false_iff,decide_eq_false_iff_not,Bool.and_eq_false_imp,decide_eq_true_eq,Bool.or_eq_true,Bool.and_eq_true] at *
 omega
def SrtTo (i:Nat) (x:List T_api_Event):Prop:=∀ p q a b,p < q→q < i→x[p]? = some a→x[q]? = some b→ltE b a=false
structure InI (l:List T_api_Event) (i j:Nat) (x:List T_api_Event):Prop where
 ji:j≤i
 perm:x.Perm l
 a:∀ p q a b,p < q→q≤i→p≠j→q≠j→x[p]? = some a→x[q]? = some b→ltE b a=false
 b:∀ q a b,j < q→q≤i→x[j]? = some a→x[q]? = some b→ltE b a=false
theorem ins2 (l:List T_api_Event) (hl:l.length≤1000) {i:Nat} (hi:i < l.length) (hs:SrtTo i l):∃ r,iter (g_slices_insertionSortCmpFunc_api_Event_w_s2 0) ((i:Int),l)=some r∧r.Perm l∧SrtTo (i+1) r:=by
 refine iter_post (step:=g_slices_insertionSortCmpFunc_api_Event_w_s2 0) (fun x=>∃ j:Nat,x.1=j∧InI l i j x.2) (fun x=>x.1.toNat) (fun r=>r.Perm l∧SrtTo (i+1) r) (x:=((i:Int),l)) ⟨i,rfl,Nat.le_refl _,.refl _,fun p q a b h1 h2 h3 h4 h5 h6=>hs p q a b h1 (by omega) h5 h6,fun q a b h1 h2=>by omega⟩ (by dsimp only;omega) ?_
 rintro⟨xj,x⟩ ⟨j,h1,hI⟩
 dsimp only at h1 hI
 subst h1
 have hlen:=hI.perm.length_eq
 have hji:=hI.ji
 have hj:j < x.length:=by omega
 unfold g_slices_insertionSortCmpFunc_api_Event_w_s2
 dsimp only
 have fin:(j=0∨∀ a b,x[j - 1]? = some a→x[j]? = some b→ltE b a=false)→SrtTo (i+1) x:=by
  intro hex p q a b hpq hq ha hb
  by_cases hp:p=j
  ·subst hp;exact hI.b q a b hpq (by omega) ha hb
  ·by_cases hqj:q=j
   ·subst hqj
    rcases hex with h0|hex
    ·omega
    ·by_cases hp1:p=q - 1
     ·subst hp1;exact hex a b ha hb
     ·have hm:q - 1 < x.length:=by omega
      have h2:=hI.a p (q - 1) a x[q - 1] (by omega) (by omega) (by omega) (by omega) ha (List.getElem?_eq_getElem hm)
      exact ltE_trans h2 (hex _ b (List.getElem?_eq_getElem hm) hb)
   ·exact hI.a p q a b hpq (by omega) hp hqj ha hb
 by_cases q0:j=0
 ·right
  subst q0
  simp only[show ¬ (0:Int) < ((0:Nat):Int) by omega,decide_false,Bool.false_eq_true,if_false,Option.bind_some]
  exact⟨_,rfl,hI.perm,fin (.inl rfl)⟩
 ·have hj1:j - 1 < x.length:=by omega
  rw[if_pos (by simp;omega),wr64 (x:=(j:Int) - 1) (by omega),show(j:Int) - 1=((j - 1:Nat):Int) by omega,atI_nat hj,atI_nat hj1]
  simp only[Option.bind_some]
  obtain⟨r,hr,hlt⟩:=sort1_eq x[j] x[j - 1]
  rw[hr]
  simp only[Option.bind_some,hlt]
  cases hc:ltE x[j] x[j - 1] with
  | false =>
   right
   simp only[Bool.false_eq_true,if_false]
   refine⟨_,rfl,hI.perm,fin (.inr fun a b ha hb=>?_)⟩
   rw[List.getElem?_eq_getElem hj1] at ha
   rw[List.getElem?_eq_getElem hj] at hb
   cases ha;cases hb
   exact hc
  | true =>
   left
   simp only[if_true]
   rw[setI_nat _ hj]
   simp only[Option.bind_some]
   rw[atI_nat (show j - 1 < (x.set j x[j - 1]).length by simpa using hj1)]
   simp only[Option.bind_some]
   rw[setI_nat _ (show j - 1 < (x.set j x[j - 1]).length by simpa using hj1)]
   simp only[Option.bind_some]
   refine⟨_,rfl,⟨j - 1,rfl,by omega,(List.set_set_perm hj hj1).trans hI.perm,?_,?_⟩,by dsimp only;omega⟩
   ·intro p q a b hpq hq hp hqj ha hb
    dsimp only at ha hb
    have gp:∀ k c,k≠j - 1→((x.set j x[j - 1]).set (j - 1) x[j])[k]? = some c→(k=j∧c=x[j - 1])∨(k≠j∧x[k]? = some c):=by
     intro k c hk hc'
     rw[List.getElem?_set_ne (by omega),List.getElem?_set] at hc'
     by_cases hkj:j=k
     ·subst hkj
      rw[if_pos rfl,if_pos hj] at hc'
      exact .inl ⟨rfl,(Option.some.inj hc').symm⟩
     ·rw[if_neg hkj] at hc'
      exact .inr ⟨fun e=>hkj e.symm,hc'⟩
    rcases gp p a hp ha with⟨hp1,hp2⟩|⟨hpj,ha'⟩
    ·subst hp2
     rcases gp q b hqj hb with⟨h2,_⟩|⟨hqj2,hb'⟩
     ·omega
     ·exact hI.a (j - 1) q _ b (by omega) hq (by omega) hqj2 (List.getElem?_eq_getElem hj1) hb'
    ·rcases gp q b hqj hb with⟨hq1,hq2⟩|⟨hqj2,hb'⟩
     ·subst hq2
      exact hI.a p (j - 1) a _ (by omega) (by omega) hpj (by omega) ha' (List.getElem?_eq_getElem hj1)
     ·exact hI.a p q a b hpq hq hpj hqj2 ha' hb'
   ·intro q a b hq hqi ha hb
    dsimp only at ha hb
    rw[List.getElem?_set_self (by simpa using hj1)] at ha
    cases ha
    by_cases hqj:q=j
    ·subst hqj
     rw[List.getElem?_set_ne (by omega),List.getElem?_set_self hj] at hb
     cases hb
     exact ltE_asym hc
    ·rw[List.getElem?_set_ne (by omega),List.getElem?_set_ne (by omega)] at hb
     exact hI.b q _ b (by omega) hqi (List.getElem?_eq_getElem hj) hb
theorem ins1 (l:List T_api_Event) (hl:l.length≤1000):∃ r,g_slices_insertionSortCmpFunc_api_Event l 0 (l.length:Int)=some r∧r.Perm l∧SrtTo l.length r:=by
 obtain⟨r,hr,h1,h2⟩:=iter_post (step:=g_slices_insertionSortCmpFunc_api_Event_w_s1 0 (l.length:Int)) (fun x=>∃ i:Nat,x.1=i∧(i≤l.length∨i=1)∧x.2.Perm l∧SrtTo i x.2) (fun x=>l.length - x.1.toNat) (fun r=>r.Perm l∧SrtTo l.length r) (x:=(1,l)) ⟨1,rfl,.inr rfl,.refl _,fun p q a b h1 h2=>by omega⟩ (by dsimp only;omega) (by
  rintro⟨xi,x⟩ ⟨i,h1,h2,h3,h4⟩
  dsimp only at h1 h3 h4
  subst h1
  have hlen:=h3.length_eq
  unfold g_slices_insertionSortCmpFunc_api_Event_w_s1
  dsimp only
  by_cases q:i < l.length
  ·left
   rw[if_pos (by simpa using q),wr64 (x:=(i:Int)+1) (by omega)]
   obtain⟨r,hr,h5,h6⟩:=ins2 x (by omega) (i:=i) (by omega) h4
   rw[hr]
   exact⟨_,rfl,⟨i+1,by simp,.inl (by omega),h5.trans h3,h6⟩,by dsimp only;omega⟩
  ·right
   rw[if_neg (by simpa using q)]
   exact⟨_,rfl,h3,fun p q' a b hpq hq=>h4 p q' a b hpq (by omega)⟩)
 refine⟨r,?_,h1,h2⟩
 unfold g_slices_insertionSortCmpFunc_api_Event g_slices_insertionSortCmpFunc_api_Event_w
 rw[show IntKind.i64.wrap (0+1)=1 from by decide,hr]
 simp only[Option.bind_some]
 rw[if_pos h1.length_eq]
theorem sort_eq (l:List T_api_Event) (hl:l.length≤19) (hz:∀ e ∈ l,EvZ e):∃ r,g_document_Sort l=some r∧r.Perm l∧SrtTo l.length r:=by
 obtain⟨r,hr,h1,h2⟩:=ins1 l (by omega)
 have hst:g_slices_stableCmpFunc_api_Event l (l.length:Int)=some r:=by
  unfold g_slices_stableCmpFunc_api_Event g_slices_stableCmpFunc_api_Event_w
  have s1:iter (g_slices_stableCmpFunc_api_Event_w_s1 (l.length:Int)) (0,20,l)=some (l,0):=by
   refine iter_of (fun x e=>x=(0,20,l)∧e=(l,0)) (fun _=>0) ?_ (x:=(0,20,l)) ⟨rfl,rfl⟩ (by decide)
   rintro x e ⟨rfl,rfl⟩
   right
   unfold g_slices_stableCmpFunc_api_Event_w_s1
   rw[if_neg (by simp;omega)]
  have s2:iter (g_slices_stableCmpFunc_api_Event_w_s2 (l.length:Int)) (20,r)=some r:=by
   refine iter_of (fun x e=>x=(20,r)∧e=r) (fun _=>0) ?_ (x:=(20,r)) ⟨rfl,rfl⟩ (by decide)
   rintro x e ⟨rfl,rfl⟩
   right
   unfold g_slices_stableCmpFunc_api_Event_w_s2
   rw[if_neg (by simp;omega)]
  rw[s1]
  simp only[Option.bind_some]
  rw[hr]
  simp only[Option.bind_some]
  rw[s2]
  simp only[Option.bind_some]
  rw[if_pos h1.length_eq]
 refine⟨r,?_,h1,h2⟩
 have hc:=iter_run (step:=g_document_Sort_s1 l) l (by omega) (fun i (s:List T_api_Event)=>(s,i)) (fun s e=>.inr (s++[e])) id (fun i s=>s.length=i) (s0:=[]) rfl
  (fun i hi s hs=>.inr ⟨_,rfl,by
   unfold g_document_Sort_s1
   dsimp only
   rw[if_pos (by simpa using hi),atI_nat hi,wr64 (x:=(i:Int)+1) (by omega)]
   simp only[Option.bind_some]
   rw[evClone _ (hz _ (List.getElem_mem hi))]
   simp only[Option.bind_some]
   rw[if_pos (by omega)],by simp[hs]⟩)
  (fun s hs=>by unfold g_document_Sort_s1;dsimp only;rw[if_neg (by simp)];rfl)
 have hid:∀ (t s:List T_api_Event),runF (fun(s:List T_api_Event) e=>(.inr (s++[e]):List T_api_Event ⊕ List T_api_Event)) id s t=s++t:=by
  intro t
  induction t with
  | nil=>intro s;simp[runF]
  | cons a t ih=>intro s;simp only[runF];rw[ih];simp
 rw[hid,List.nil_append] at hc
 unfold g_document_Sort
 rw[show(([]:List T_api_Event),(0:Int))=(fun i (s:List T_api_Event)=>(s,i)) 0 [] from rfl,hc]
 simp only[Option.bind_some]
 unfold g_slices_SortStableFunc_api_Event_api_Event g_slices_SortStableFunc_api_Event_api_Event_w
 rw[hst]
 simp only[Option.bind_some]
 rw[if_pos h1.length_eq]
 rfl
def badS (s:T_api_Shift):Bool:=decide (s.In < 0)||decide (s.Out≤s.In)||decide (5184000 < s.Out)
def upE (s:T_api_Shift) (e:T_api_Event):T_api_Event:=if e.ID=s.ID then⟨e.ID,⟨s.In,s.Out⟩,e.Region,e.Kind,e.Speaker,e.Rows⟩ else e
theorem upE_id (s:T_api_Shift) (e:T_api_Event):(upE s e).ID=e.ID:=by unfold upE;split<;>rfl
theorem upE_z {s:T_api_Shift} {e:T_api_Event} (h:EvZ e):EvZ (upE s e):=by unfold upE;split<;>exact h
theorem upE_ids (s:T_api_Shift) (l:List T_api_Event):(l.map (upE s)).map (·.ID)=l.map (·.ID):=by
 rw[List.map_map]
 exact List.map_congr_left fun e _=>upE_id s e
def apF (ev:List T_api_Event) (s:T_api_Shift):(Int ⊕ List T_api_Event) ⊕ List T_api_Event :=
 if(ev.map (·.ID)).contains s.ID then(if badS s then .inl (.inl 2) else .inr (ev.map (upE s))) else .inl (.inl 6)
def apR (ev:List T_api_Event) (l:List T_api_Shift):Int ⊕ List T_api_Event:=runF apF .inr ev l
theorem nodup_at {l:List T_api_Event} (hd:(l.map (·.ID)).Nodup) {i j:Nat} (hi:i < l.length) (hj:j < l.length) (h:l[i].ID=l[j].ID):i=j:=by
 have hp:=List.pairwise_iff_getElem.1 hd
 rcases Nat.lt_trichotomy i j with q|q|q
 ·exact absurd (by rw[List.getElem_map,List.getElem_map];exact h) (hp i j (by simpa using hi) (by simpa using hj) q)
 ·exact q
 ·exact absurd (by rw[List.getElem_map,List.getElem_map];exact h.symm) (hp j i (by simpa using hj) (by simpa using hi) q)
theorem set_map {l:List T_api_Event} (hd:(l.map (·.ID)).Nodup) {i:Nat} (hi:i < l.length) (s:T_api_Shift) (h:l[i].ID=s.ID):l.set i ⟨l[i].ID,⟨s.In,s.Out⟩,l[i].Region,l[i].Kind,l[i].Speaker,l[i].Rows⟩=l.map (upE s):=by
 refine List.ext_getElem (by simp) fun j hj1 hj2=>?_
 have hj:j < l.length:=by simpa using hj1
 rw[List.getElem_map]
 by_cases q:i=j
 ·subst q
  rw[List.getElem_set_self]
  unfold upE
  rw[if_pos h]
 ·rw[List.getElem_set_ne q]
  unfold upE
  rw[if_neg (fun e=>q (nodup_at hd hi hj (h.trans e.symm)))]
theorem bad_eq (s:T_api_Shift):(if(decide (s.In < 0)) then(some true) else(if(decide (s.Out≤s.In)) then(some true) else(some (decide (5184000 < s.Out)))):Option Bool)=some (badS s):=by
 unfold badS
 by_cases h1:s.In < 0<;>by_cases h2:s.Out≤s.In<;>simp[h1,h2]
structure ApI (n:Nat) (ids:List Int) (ev:List T_api_Event):Prop where
 len:ev.length=n
 ids:ev.map (·.ID)=ids
 z:∀ e ∈ ev,EvZ e
theorem ap_loop (d:T_api_Document) (l:List T_api_Shift) (hl:l.length≤1000) (hz:∀ e ∈ d.Events,EvZ e) (hn:d.Events.length≤1048576) (hd:(d.Events.map (·.ID)).Nodup):iter (g_repair_Apply_s2 l d) (0,d.Events)=some (apR d.Events l):=by
 refine iter_run (step:=g_repair_Apply_s2 l d) l (by omega) (fun i (s:List T_api_Event)=>(i,s)) apF .inr (fun _ ev=>ApI d.Events.length (d.Events.map (·.ID)) ev) (s0:=d.Events) ⟨rfl,rfl,hz⟩ (fun i hi ev hI=>?_) (fun ev hI=>by unfold g_repair_Apply_s2;dsimp only;rw[if_neg (by simp)])
 have hst:g_repair_Apply_s2 l d ((i:Int),ev)=(apF ev l[i]).elim (fun e=>some (.out e)) (fun ev'=>some (.go ((i:Int)+1,ev'))):=by
  unfold g_repair_Apply_s2
  dsimp only
  rw[if_pos (by simpa using hi),atI_nat hi,wr64 (x:=(i:Int)+1) (by omega)]
  simp only[Option.bind_some]
  generalize l[i]=s
  obtain⟨r,_,hr,hp⟩:=find_eq (T_api_Document.mk d.Title d.Lang d.Rate d.Drop d.Last d.Regions ev d.Comments) (by show ev.length≤_;rw[hI.len];exact hn) s.ID
  rw[hr]
  simp only[Option.bind_some,bad_eq]
  rcases hp with⟨k,hk,rfl,hid⟩|⟨rfl,hno⟩
  ·have hc:(ev.map (·.ID)).contains s.ID=true:=List.contains_iff_mem.2 (List.mem_map.2 ⟨ev[k],List.getElem_mem hk,hid⟩)
   unfold apF
   rw[hc]
   simp only[show ¬ ((k:Int) < 0) by omega,decide_false,Bool.false_eq_true,if_false,if_true]
   cases badS s with
   | true=>rfl
   | false =>
    simp only[Bool.false_eq_true,if_false]
    have hk':k < ev.length:=hk
    rw[atI_nat hk']
    simp only[Option.bind_some]
    rw[setI_nat _ hk',set_map (by rw[hI.ids];exact hd) hk' s hid]
    rfl
  ·have hc:(ev.map (·.ID)).contains s.ID=false:=by
    cases hq:(ev.map (·.ID)).contains s.ID with
    | false=>rfl
    | true =>
     obtain⟨e,he,heq⟩:=List.mem_map.1 (List.contains_iff_mem.1 hq)
     obtain⟨j,hj,rfl⟩:=List.getElem_of_mem he
     exact absurd heq (hno j hj)
   unfold apF
   rw[hc]
   rfl
 rw[hst]
 cases hf:apF ev l[i] with
 | inl e=>exact .inl ⟨e,rfl,rfl⟩
 | inr ev' =>
  refine .inr ⟨ev',rfl,rfl,?_⟩
  unfold apF at hf
  split at hf
  ·split at hf
   ·cases hf
   ·cases hf
    refine⟨by simp[hI.len],by rw[upE_ids];exact hI.ids,fun e he=>?_⟩
    obtain⟨e0,he0,rfl⟩:=List.mem_map.1 he
    exact upE_z (hI.z _ he0)
  ·cases hf
theorem apR_inr:∀ (l:List T_api_Shift) (ev ev':List T_api_Event),apR ev l=.inr ev'→ev'.length=ev.length∧ev'.map (·.ID)=ev.map (·.ID)∧((∀ e ∈ ev,EvZ e)→∀ e ∈ ev',EvZ e)
 | [],ev,ev',h=>by cases h;exact⟨rfl,rfl,fun h=>h⟩
 | s::l,ev,ev',h=>by
  unfold apR at h
  simp only[runF] at h
  cases hf:apF ev s with
  | inl e =>
   rw[hf] at h
   simp only at h
   unfold apF at hf
   split at hf
   ·split at hf<;>cases hf
    cases h
   ·cases hf;cases h
  | inr e1 =>
   rw[hf] at h
   simp only at h
   obtain⟨a,b,c⟩:=apR_inr l e1 ev' h
   unfold apF at hf
   split at hf
   ·split at hf
    ·cases hf
    ·cases hf
     refine⟨by rw[a];simp,by rw[b,upE_ids],fun hz=>c fun e he=>?_⟩
     obtain⟨e0,he0,rfl⟩:=List.mem_map.1 he
     exact upE_z (hz _ he0)
   ·cases hf
def docN:T_api_Document:=⟨[],[],0,false,0,[],[],[]⟩
def withE (d:T_api_Document) (ev:List T_api_Event):T_api_Document:=⟨d.Title,d.Lang,d.Rate,d.Drop,d.Last,d.Regions,ev,d.Comments⟩
theorem apply_eq (d:T_api_Document) (hd:DocZ d) (hc:g_document_Check d=some 0) (hD:DocOK d) (hn:d.Events.length≤19) (l:List T_api_Shift) (hl:l.length≤1000) :
  (∃ e,apR d.Events l=.inl e∧g_repair_Apply d l=some (docN,e))∨(∃ ev r,apR d.Events l=.inr ev∧g_repair_Apply d l=some (withE d r,0)∧r.Perm ev∧SrtTo ev.length r):=by
 unfold g_repair_Apply
 rw[hc]
 simp only[Option.bind_some,bne_self_eq_false,Bool.false_eq_true,if_false]
 cases h:d.Events.isEmpty with
 | true =>
  have he:=empty_nil h
  simp only[if_true]
  rw[docClone d hd]
  simp only[Option.bind_some]
  cases l with
  | nil =>
   right
   have:iter (g_repair_Apply_s1 [] d) ()=some (.inr ()):=by
    refine iter_of (fun x e=>e=.inr ()) (fun _=>0) ?_ (x:=()) rfl (by decide)
    rintro x e rfl
    right
    unfold g_repair_Apply_s1
    rw[if_neg (by simp)]
   rw[this]
   simp only[Option.bind_some]
   obtain⟨r,hr,h1,h2⟩:=sort_eq d.Events hn hd.ev
   rw[hr]
   exact⟨d.Events,r,by rw[he];rfl,rfl,h1,h2⟩
  | cons s t =>
   left
   have:iter (g_repair_Apply_s1 (s::t) d) ()=some (.inl 6):=by
    refine iter_of (fun x e=>e=.inl 6) (fun _=>0) ?_ (x:=()) rfl (by decide)
    rintro x e rfl
    right
    unfold g_repair_Apply_s1
    rw[if_pos (by simp),show atI (s::t) 0=some s from rfl]
    simp only[Option.bind_some]
    obtain⟨r,hr,_,hp⟩:=find_eq d hd.evs s.ID
    rw[hr]
    simp only[Option.bind_some]
    rcases hp with⟨k,hk,_⟩|⟨rfl,_⟩
    ·rw[he] at hk;simp at hk
    ·rfl
   rw[this]
   refine⟨6,?_,rfl⟩
   rw[he]
   rfl
 | false =>
  simp only[Bool.false_eq_true,if_false]
  rw[docClone_nw d hd h]
  simp only[Option.bind_some]
  rw[ap_loop d l hl hd.ev hd.evs hD.ids]
  simp only[Option.bind_some]
  cases hr:apR d.Events l with
  | inl e=>exact .inl ⟨e,rfl,rfl⟩
  | inr ev =>
   right
   obtain⟨a,b,c⟩:=apR_inr l d.Events ev hr
   obtain⟨r,hs,h1,h2⟩:=sort_eq ev (by omega) (c hd.ev)
   simp only[hs,Option.bind_some]
   exact⟨ev,r,rfl,rfl,h1,h2⟩
theorem bsE_t {d:T_api_Document} {p:T_api_Profile} {l:List Int} {i:Nat} {x:T_api_Event} (t t':Int) {bs:List T_api_Bound} (h:bsE d p l t i x=.inr bs):∃ bs',bsE d p l t' i x=.inr bs':=by
 unfold bsE at h ⊢
 split at h
 ·cases h
 ·rename_i q1
  rw[if_neg q1]
  split at h
  ·cases h
  ·rename_i q2
   rw[if_neg q2]
   exact⟨_,rfl⟩
theorem bnR_t {d:T_api_Document} {p:T_api_Profile} {l:List Int} (t t':Int):∀ (L:List (T_api_Event × Nat)) (s s' bs:List T_api_Bound),runF (bnF d p l t) .inr s L=.inr bs→∃ bs',runF (bnF d p l t') (Sum.inr:_→Int ⊕ List T_api_Bound) s' L=.inr bs'
 | [],s,s',bs,h=>⟨s',rfl⟩
 | a::L,s,s',bs,h=>by
  simp only[runF] at h ⊢
  cases hf:bnF d p l t s a with
  | inl e =>
   rw[hf] at h
   obtain⟨v,rfl⟩:=bnF_inl hf
   cases h
  | inr s1 =>
   rw[hf] at h
   obtain⟨b1,hb1,rfl⟩:=bnF_inr hf
   obtain⟨b2,hb2⟩:=bsE_t t t' hb1
   have:bnF d p l t' s' a=.inr (s'++b2):=by unfold bnF;rw[hb2]
   rw[this]
   exact bnR_t t t' L _ _ bs h
def bnT (d:T_api_Document) (p:T_api_Profile) (l:List Int) (t:Int):List T_api_Bound:=(bnR d p l t).elim (fun _=>[]) id
structure Good (d:T_api_Document) (p:T_api_Profile) (l:List Int):Prop where
 z:TaskZ d p l
 dc:dcS d=0
 pc:ckS p=0
 sc:shC l=0
 num:d.Events.length≤255
 bn:∀ t,∃ bs,bnR d p l t=.inr bs
theorem good_of {d:T_api_Document} {p:T_api_Profile} {l:List Int} (h:TaskZ d p l) {tol:Int} (h0:(bnS d p l tol).2=0):Good d p l∧0≤tol∧tol≤5184000:=by
 have hc:ckB d p l tol=0:=by
  by_cases q:ckB d p l tol=0
  ·exact q
  ·unfold bnS at h0;rw[if_pos q] at h0;exact h0
 obtain⟨a,b,c,e,f⟩:=ckB_0 hc
 refine⟨⟨h,a,b,c,f,fun t=>?_⟩,e⟩
 have:∃ bs,bnR d p l tol=.inr bs:=by
  cases hb:bnR d p l tol with
  | inr bs=>exact⟨bs,rfl⟩
  | inl e0 =>
   unfold bnS at h0
   rw[if_neg (fun q=>q hc),hb] at h0
   have h1:e0=0:=h0
   exfalso
   have key:∀ (L:List (T_api_Event × Nat)) (s:List T_api_Bound) (v:Int),runF (bnF d p l tol) .inr s L=.inl v→v≠0:=by
    intro L
    induction L with
    | nil=>intro s v hv;cases hv
    | cons a L ih =>
     intro s v hv
     simp only[runF] at hv
     cases hf:bnF d p l tol s a with
     | inl e =>
      rw[hf] at hv
      simp only at hv
      subst hv
      unfold bnF bsE at hf
      split at hf
      ·rename_i e2 hs
       split at hs
       ·rename_i q;cases hs;cases hf;exact q
       ·split at hs
        ·rename_i q;cases hs;cases hf;exact q
        ·cases hs
      ·cases hf
     | inr s1=>rw[hf] at hv;exact ih _ _ hv
   exact key _ _ _ hb h1
 obtain⟨bs,hb⟩:=this
 exact bnR_t tol t _ _ _ bs hb
theorem Good.ck {d:T_api_Document} {p:T_api_Profile} {l:List Int} (g:Good d p l) {t:Int} (ht:0≤t∧t≤5184000):ckB d p l t=0:=by
 unfold ckB
 rw[if_neg (fun q=>q g.dc),if_neg (fun q=>q g.pc),if_neg (fun q=>q g.sc),if_neg (by omega),if_neg (by have:=g.num;omega)]
theorem Good.bs {d:T_api_Document} {p:T_api_Profile} {l:List Int} (g:Good d p l) {t:Int} (ht:0≤t∧t≤5184000):bnS d p l t=(bnT d p l t,0)∧BdsOK (2 * d.Events.length+1) (bnT d p l t):=by
 obtain⟨bs,hb⟩:=g.bn t
 have hT:bnT d p l t=bs:=by unfold bnT;rw[hb];rfl
 refine⟨?_,by rw[hT];exact bnR_ok g.z (g.ck ht) hb⟩
 unfold bnS
 rw[if_neg (fun q=>q (g.ck ht)),hb,hT]
 rfl
def okT (d:T_api_Document) (p:T_api_Profile) (l:List Int) (t:Int):Prop:=NoNeg (· ∈ eds (bnT d p l t))
theorem numN (d:T_api_Document) (h:d.Events.length≤255):IntKind.i64.wrap (IntKind.i64.wrap (2 * (d.Events.length:Int))+1)=((2 * d.Events.length+1:Nat):Int):=by
 rw[wr64 (x:=2 * (d.Events.length:Int)) (by omega),wr64 (by omega)]
 omega
theorem plan1_eq {d:T_api_Document} {p:T_api_Profile} {l:List Int} (g:Good d p l) {t:Int} (ht:0≤t∧t≤5184000) :
  (okT d p l t∧g_repair_Plan_1 t d p l ((2 * d.Events.length+1:Nat):Int)=some (sol (2 * d.Events.length+1) (bnT d p l t),true))∨(¬ okT d p l t∧g_repair_Plan_1 t d p l ((2 * d.Events.length+1:Nat):Int)=some ([],false)):=by
 obtain⟨h1,h2⟩:=g.bs ht
 unfold g_repair_Plan_1
 rw[bounds_eq g.z,h1]
 simp only[Option.bind_some]
 rcases solve_eq h2 with⟨a,b⟩|⟨a,out,b,_⟩
 ·rw[b];exact .inl ⟨a,rfl⟩
 ·rw[b];exact .inr ⟨a,rfl⟩
theorem mid_eq {i j:Nat} (h:i+j≤10368000):IntKind.i64.wrap (Int.fdiv (IntKind.u64.wrap (IntKind.i64.wrap ((i:Int)+(j:Int)))) 2)=(((i+j) / 2:Nat):Int):=by
 rw[wr64 (x:=(i:Int)+j) (by omega)]
 have hu:IntKind.u64.wrap ((i:Int)+(j:Int))=(i:Int)+(j:Int):=by
  show((i:Int)+(j:Int)) % 18446744073709551616=_
  omega
 rw[hu,Int.fdiv_eq_ediv_of_nonneg _ (by omega),wr64 (by omega)]
 omega
theorem search_eq {d:T_api_Document} {p:T_api_Profile} {l:List Int} (g:Good d p l) {tol:Int} (ht:0≤tol∧tol≤5184000) (hok:okT d p l tol) :
  ∃ r:Int,g_sort_Search tol d p l ((2 * d.Events.length+1:Nat):Int)=some r∧0≤r∧r≤tol∧okT d p l r∧(r=0∨¬ okT d p l (r - 1)):=by
 obtain⟨T,rfl⟩:=Int.eq_ofNat_of_zero_le ht.1
 obtain⟨r,hr,hp⟩:=iter_post (step:=g_sort_Search_s1 d p l ((2 * d.Events.length+1:Nat):Int)) (fun x=>∃ i j:Nat,x=((i:Int),(j:Int))∧i≤j∧j≤T∧okT d p l (j:Int)∧((i:Int)=0∨¬ okT d p l ((i:Int) - 1))) (fun x=>(x.2 - x.1).toNat) (fun r=>0≤r∧r≤(T:Int)∧okT d p l r∧(r=0∨¬ okT d p l (r - 1))) (x:=(0,(T:Int))) ⟨0,T,rfl,by omega,by omega,hok,.inl rfl⟩ (by dsimp only;omega) (by
  rintro x ⟨i,j,rfl,h1,h2,h3,h4⟩
  unfold g_sort_Search_s1
  dsimp only
  by_cases q:i < j
  ·left
   rw[if_pos (by simpa using q),mid_eq (by omega)]
   have hm1:i≤(i+j) / 2:=by omega
   have hm2:(i+j) / 2 < j:=by omega
   generalize (i+j) / 2=m at hm1 hm2
   unfold g_repair_Plan_2
   rcases plan1_eq g (t:=(m:Int)) ⟨by omega,by omega⟩ with⟨a,b⟩|⟨a,b⟩
   ·rw[b]
    simp only[Option.bind_some,if_true]
    exact⟨_,rfl,⟨i,m,rfl,hm1,by omega,a,h4⟩,by dsimp only;omega⟩
   ·rw[b]
    simp only[Option.bind_some,Bool.false_eq_true,if_false]
    rw[wr64 (x:=(m:Int)+1) (by omega)]
    exact⟨_,rfl,⟨m+1,j,by simp,by omega,h2,h3,.inr (by rw[show((m+1:Nat):Int) - 1=(m:Int) by omega];exact a)⟩,by dsimp only;omega⟩
  ·right
   rw[if_neg (by simpa using q)]
   obtain rfl:i=j:=by omega
   exact⟨_,rfl,by omega,by omega,h3,h4⟩)
 unfold g_sort_Search
 rw[hr]
 exact⟨r,rfl,hp⟩
def bAt (bs:List T_api_Bound) (i:Int):T_api_Bound:=bs.getD i.toNat ⟨0,0,0,0,0,0⟩
theorem pl1_eq (r7:List T_api_Bound × Int) (x:List Int) (out:List Int) (e:Int) (ho:out.length≤1000) (hi:∀ i ∈ out,0≤i∧i < (r7.1.length:Int)):iter (g_repair_Plan_s1 r7 (x,out,e)) (0,[])=some (out.map (bAt r7.1)):=by
 have:=iter_run (step:=g_repair_Plan_s1 r7 (x,out,e)) out (by omega) (fun i (s:List T_api_Bound)=>(i,s)) (fun s i=>.inr (s++[bAt r7.1 i])) id (fun i s=>s.length=i) (s0:=[]) rfl
  (fun i hi' s hs=>.inr ⟨_,rfl,by
   have hq:=hi _ (List.getElem_mem hi')
   unfold g_repair_Plan_s1
   dsimp only
   rw[if_pos (by simpa using hi'),atI_nat hi',wr64 (x:=(i:Int)+1) (by omega)]
   simp only[Option.bind_some]
   generalize out[i]=k at hq
   obtain⟨k,rfl⟩:=Int.eq_ofNat_of_zero_le hq.1
   have hk:k < r7.1.length:=by omega
   rw[atI_nat hk]
   simp only[Option.bind_some]
   rw[if_pos (by omega),show bAt r7.1 (k:Int)=r7.1[k] from by simp[bAt,List.getD,hk]],by simp[hs]⟩)
  (fun s hs=>by unfold g_repair_Plan_s1;dsimp only;rw[if_neg (by simp)];rfl)
 have hid:∀ (t:List Int) (s:List T_api_Bound),runF (fun(s:List T_api_Bound) (i:Int)=>(.inr (s++[bAt r7.1 i]):List T_api_Bound ⊕ List T_api_Bound)) id s t=s++t.map (bAt r7.1):=by
  intro t
  induction t with
  | nil=>intro s;simp[runF]
  | cons a t ih=>intro s;simp only[runF];rw[ih];simp
 rw[hid,List.nil_append] at this
 exact this
def spS (x:List Int) (i:Nat):T_api_Span:=⟨x.getD (2 * i+1) 0 - x.getD 0 0,x.getD (2 * i+2) 0 - x.getD 0 0⟩
def shF (x:List Int) (s:List T_api_Shift) (a:T_api_Event × Nat):List T_api_Shift:=if(spS x a.2).In≠a.1.Span.In∨(spS x a.2).Out≠a.1.Span.Out then s++[⟨a.1.ID,(spS x a.2).In,(spS x a.2).Out⟩] else s
def shS (d:T_api_Document) (x:List Int):List T_api_Shift:=runF (fun s a=>.inr (shF x s a)) id [] d.Events.zipIdx
theorem shF_len (x:List Int) (s:List T_api_Shift) (a:T_api_Event × Nat):(shF x s a).length≤s.length+1:=by unfold shF;split<;>simp
theorem shS_len (d:T_api_Document) (x:List Int):(shS d x).length≤d.Events.length:=by
 have:∀ (t:List (T_api_Event × Nat)) (s:List T_api_Shift),(runF (fun(s:List T_api_Shift) a=>(.inr (shF x s a):List T_api_Shift ⊕ List T_api_Shift)) id s t).length≤s.length+t.length:=by
  intro t
  induction t with
  | nil=>intro s;simp[runF]
  | cons a t ih =>
   intro s
   simp only[runF]
   have h1:=ih (shF x s a)
   have h2:=shF_len x s a
   simp only[List.length_cons]
   omega
 have h:=this d.Events.zipIdx []
 simp only[List.length_nil,List.length_zipIdx,Nat.zero_add] at h
 exact h
theorem pl2_eq {d:T_api_Document} (hn:d.Events.length≤255) {x:List Int} {b:Bool} {K:Int} (hK:K≤2100000) (hx:Bd (2 * d.Events.length+1) K x):iter (g_repair_Plan_s2 d (x,b)) (0,[])=some (shS d x):=by
 have hlz:d.Events.zipIdx.length=d.Events.length:=List.length_zipIdx
 refine iter_run (step:=g_repair_Plan_s2 d (x,b)) d.Events.zipIdx (by omega) (fun i (s:List T_api_Shift)=>(i,s)) (fun s a=>.inr (shF x s a)) id (fun i s=>s.length≤i) (s0:=[]) (by simp)
  (fun i hi s hs=>.inr ⟨_,rfl,?_,by have:=shF_len x s d.Events.zipIdx[i];omega⟩)
  (fun s hs=>by unfold g_repair_Plan_s2;dsimp only;rw[if_neg (by rw[hlz];simp)];rfl)
 have hi':i < d.Events.length:=by omega
 rw[show d.Events.zipIdx[i]=(d.Events[i],i) from by simp[List.getElem_zipIdx]]
 have hl:=hx.1
 have h1:=hx.2 (2 * i+1) (by omega)
 have h2:=hx.2 (2 * i+2) (by omega)
 have h0:=hx.2 0 (by omega)
 unfold g_repair_Plan_s2 shF spS
 dsimp only
 rw[if_pos (by simpa using hi'),atI_nat hi',wr64 (x:=(i:Int)+1) (by omega),wr64 (x:=2 * (i:Int)) (by omega),wr64 (x:=2 * (i:Int)+1) (by omega),wr64 (x:=2 * (i:Int)+2) (by omega),atI_getD (k:=2 * (i:Int)+1) (by omega) (by omega),atI_getD (k:=0) (by omega) (by omega),atI_getD (k:=2 * (i:Int)+2) (by omega) (by omega)]
 simp only[Option.bind_some]
 rw[show(2 * (i:Int)+1).toNat=2 * i+1 by omega,show(2 * (i:Int)+2).toNat=2 * i+2 by omega,show(0:Int).toNat=0 from rfl]
 generalize x.getD (2 * i+1) 0=a1 at *
 generalize x.getD (2 * i+2) 0=a2 at *
 generalize x.getD 0 0=a0 at *
 rw[wr64 (x:=a1 - a0) (by omega),wr64 (x:=a2 - a0) (by omega)]
 have hc:(s.length+1) * 24≤140737488355328:=by omega
 by_cases q1:a1 - a0=d.Events[i].Span.In
 ·by_cases q2:a2 - a0=d.Events[i].Span.Out
  ·simp[q1,q2]
  ·simp[q1,q2,hc]
 ·simp[q1,hc]
theorem sol_bd {n:Nat} {l:List T_api_Bound} (hl:BdsOK n l):Bd n (((n - 1:Nat):Int) * 4000) (sol n l):=rnds_bd hl (n - 1)
theorem plan_eq {d:T_api_Document} {p:T_api_Profile} {l:List Int} (h:TaskZ d p l) (hn:d.Events.length≤19) (tol:Int) :
  ((bnS d p l tol).2≠0∧g_repair_Plan d p l tol=some (⟨docN,[],0,[]⟩,(bnS d p l tol).2)) ∨
  (Good d p l∧(0≤tol∧tol≤5184000)∧¬ okT d p l tol∧∃ out,g_repair_Plan d p l tol=some (⟨docN,[],0,out.map (bAt (bnT d p l tol))⟩,16)∧(out=[]∨∃ k,0 < k∧k≤2 * d.Events.length+1∧Least (· ∈ eds (bnT d p l tol)) k∧CfOK (bnT d p l tol) k out)) ∨
  (Good d p l∧(0≤tol∧tol≤5184000)∧okT d p l tol∧∃ r:Int,0≤r∧r≤tol∧okT d p l r∧(r=0∨¬ okT d p l (r - 1))∧∃ A:T_api_Document × Int,g_repair_Apply d (shS d (sol (2 * d.Events.length+1) (bnT d p l r)))=some A∧g_repair_Plan d p l tol=some (⟨A.1,shS d (sol (2 * d.Events.length+1) (bnT d p l r)),r,[]⟩,A.2)):=by
 unfold g_repair_Plan
 rw[bounds_eq h]
 simp only[Option.bind_some]
 by_cases h0:(bnS d p l tol).2=0
 ·obtain⟨g,ht⟩:=good_of h h0
  obtain⟨h1,h2⟩:=g.bs ht
  have hcd:g_document_Check d=some 0:=by rw[(dcS_eq d h.doc).1,g.dc]
  have hD:=(dcS_eq d h.doc).2 g.dc
  rw[h1]
  simp only[bne_self_eq_false,Bool.false_eq_true,if_false]
  rw[numN d g.num]
  rcases solve_eq h2 with⟨a,b⟩|⟨a,out,b,hout⟩
  ·right;right
   rw[b]
   simp only[Option.bind_some,bne_self_eq_false,Bool.false_eq_true,if_false]
   obtain⟨r,hr,r0,r1,r2,r3⟩:=search_eq g ht a
   rw[hr]
   simp only[Option.bind_some]
   have hrr:0≤r∧r≤5184000:=by omega
   rcases plan1_eq g hrr with⟨c1,c2⟩|⟨c1,c2⟩
   ·rw[c2]
    simp only[Option.bind_some]
    obtain⟨k1,k2⟩:=g.bs hrr
    have hsb:=sol_bd k2
    rw[pl2_eq g.num (by omega) hsb]
    simp only[Option.bind_some]
    have hsl:=shS_len d (sol (2 * d.Events.length+1) (bnT d p l r))
    obtain⟨A,hA⟩:∃ A,g_repair_Apply d (shS d (sol (2 * d.Events.length+1) (bnT d p l r)))=some A:=by
     rcases apply_eq d h.doc hcd hD hn (shS d (sol (2 * d.Events.length+1) (bnT d p l r))) (by omega) with⟨e,_,q⟩|⟨ev,r,_,q,_⟩<;>exact⟨_,q⟩
    rw[hA]
    exact⟨g,ht,a,r,r0,r1,r2,r3,A,hA,rfl⟩
   ·exact absurd r2 c1
  ·right;left
   rw[b]
   simp only[Option.bind_some]
   rw[if_pos (by decide)]
   have hidx:out.length≤1000∧∀ i ∈ out,0≤i∧i < ((bnT d p l tol).length:Int):=by
    rcases hout with rfl|⟨k,k0,k1,_,hc⟩
    ·simp
    ·exact⟨by rw[hc.len];have:=g.num;omega,hc.idx⟩
   rw[pl1_eq (bnT d p l tol,0) [] out 16 hidx.1 hidx.2]
   exact⟨g,ht,a,out,rfl,hout⟩
 ·left
  rw[if_pos (by rw[bne_iff_ne];exact h0)]
  exact⟨h0,rfl⟩
theorem subH_take {α:Type} (l:List α) (k:Nat):subH l (if(k:Int) < (l.length:Int) then(k:Int) else(l.length:Int))=some (l.take k):=by
 unfold subH
 split
 ·rename_i h
  rw[if_pos (by omega),Int.toNat_natCast,Nat.sub_zero,List.drop_zero]
 ·rename_i h
  rw[if_pos (by omega),Int.toNat_natCast,Nat.sub_zero,List.drop_zero,List.take_length,List.take_of_length_le (by omega)]
theorem awake43:g_law43_awake=some true:=by decide +kernel
structure TskZ (t:T_captionerlaw43_Task):Prop where
 doc:DocZ t.Doc
 name:t.House.Name.length≤1048576
 forb:t.House.Forbidden.length≤1048576
def fewT (t:T_captionerlaw43_Task):T_captionerlaw43_Task:=⟨⟨t.Doc.Title,t.Doc.Lang,t.Doc.Rate,t.Doc.Drop,t.Doc.Last,t.Doc.Regions,t.Doc.Events.take 4,t.Doc.Comments.take 4⟩,t.House,t.Shots.take 6,t.Tol⟩
theorem few_eq (t:T_captionerlaw43_Task):g_law43_few t=some (fewT t):=by
 unfold g_law43_few
 have a:=subH_take t.Doc.Events 4
 have b:=subH_take t.Doc.Comments 4
 have c:=subH_take t.Shots 6
 rw[show(if 4 < (t.Doc.Events.length:Int) then 4 else(t.Doc.Events.length:Int))=(if((4:Nat):Int) < (t.Doc.Events.length:Int) then((4:Nat):Int) else(t.Doc.Events.length:Int)) from rfl,a]
 simp only[Option.bind_some]
 rw[show(if 4 < (t.Doc.Comments.length:Int) then 4 else(t.Doc.Comments.length:Int))=(if((4:Nat):Int) < (t.Doc.Comments.length:Int) then((4:Nat):Int) else(t.Doc.Comments.length:Int)) from rfl,b]
 simp only[Option.bind_some]
 rw[show(if 6 < (t.Shots.length:Int) then 6 else(t.Shots.length:Int))=(if((6:Nat):Int) < (t.Shots.length:Int) then((6:Nat):Int) else(t.Shots.length:Int)) from rfl,c]
 rfl
theorem fewT_z {t:T_captionerlaw43_Task} (h:TskZ t):TaskZ (fewT t).Doc (fewT t).House (fewT t).Shots∧(fewT t).Doc.Events.length≤4:=by
 have hd:=h.doc
 refine⟨⟨⟨hd.title,hd.rate,hd.regs,?_,fun e he=>hd.ev e (List.mem_of_mem_take he),?_,fun c hc=>hd.com c (List.mem_of_mem_take hc)⟩,h.name,h.forb,?_⟩,?_⟩
 ·show(t.Doc.Events.take 4).length≤_;simp;omega
 ·show(t.Doc.Comments.take 4).length≤_;simp;omega
 ·show(t.Shots.take 6).length≤_;simp;omega
 ·show(t.Doc.Events.take 4).length≤_;simp;omega
theorem repairLeast_true (t:T_captionerlaw43_Task) (h:TskZ t):g_law43_RepairLeast t=some true:=by
 obtain⟨hz,hn⟩:=fewT_z h
 unfold g_law43_RepairLeast
 rw[awake43,few_eq]
 simp only[Option.bind_some,if_true]
 generalize fewT t=u at hz hn
 rcases plan_eq hz (by omega) u.Tol with⟨he,hp⟩|⟨g,ht,a,out,hp,ho⟩|⟨g,ht,a,r,r0,r1,r2,r3,A,hA,hp⟩
 ·rw[hp]
  simp only[Option.bind_some]
  rw[if_pos (by rw[bne_iff_ne];exact he)]
  rfl
 ·rw[hp]
  rfl
 ·rw[hp]
  simp only[Option.bind_some]
  by_cases h1:A.2=0
  ·rw[if_neg (by rw[bne_iff_ne];exact fun q=>q h1)]
   simp only[Option.bind_some]
   by_cases h2:r=0
   ·rw[if_pos (by simpa using h2)]
   ·rw[if_neg (by simpa using h2),wr64 (x:=r - 1) (by omega)]
    have hno:¬ okT u.Doc u.House u.Shots (r - 1):=by
     rcases r3 with r3|r3
     ·exact absurd r3 h2
     ·exact r3
    rcases plan_eq hz (by omega) (r - 1) with⟨he,hp2⟩|⟨g2,ht2,a2,out,hp2,ho⟩|⟨g2,ht2,a2,_⟩
    ·exact absurd (congrArg Prod.snd (g.bs (t:=r - 1) ⟨by omega,by omega⟩).1) he
    ·rw[hp2]
     rfl
    ·exact absurd a2 hno
  ·rw[if_pos (by rw[bne_iff_ne];exact h1)]
   rfl
open Go.ChangeShapes Go.WideShapes Go.ChangeAt Go.RowKit
theorem own:ownKnob Tryz.prog.godebug=none:=by kernel_rfl
theorem laidOut:laidOutB Tryz.prog=true:=by kernel_rfl
theorem standIn_all (ts:List TypeId) (h:ts.all (fun t=>!(Tryz.prog.wantsStandIn t))=true) (t:TypeId) (ht:t ∈ ts):Tryz.pinned.checked.prog.wantsStandIn t=false:=by
 have:=List.all_eq_true.1 h t ht
 exact(show Tryz.prog.wantsStandIn t=false by simpa using this)
def putCells (cs:Array Value):Obj→Obj
 | .cells _ t frozen=>.cells cs t frozen
 | o=>o
theorem u8t_of9 {W:World} (h:laidMetH Tryz.prog [("unicode/utf8.acceptRanges", Rows.laid_unicode_utf8_acceptRanges),("unicode/utf8.first", Rows.laid_unicode_utf8_first)] W):U8T W :=
 utf8Tabs_of_readsT (U8Types.of196 Tryz.laysValid) ⟨by kernel_rfl,by kernel_rfl,by kernel_rfl,by kernel_rfl,by kernel_rfl,by kernel_rfl,by kernel_rfl⟩ (Lib.laidMet.reads h (.tail _ (.head _))) (Lib.laidMet.reads h (.head _))
theorem cell_keep {w w':World} {g c:Nat} {v:Value} (h:w.cell? ⟨g,c,none⟩=some v) (hb:Below w.heap.size w w'):w'.cell? ⟨g,c,none⟩=some v:=by
 have hlt:g < w.heap.size:=by
  rcases Nat.lt_or_ge g w.heap.size with h1|h1
  ·exact h1
  ·simp[World.cell?,Array.getElem?_eq_none h1] at h
 rw[World.cell?_of_block (hb.block g hlt)]
 exact h
theorem stabU8T:Stab U8T:=fun w w' h hb=>⟨fun c hc=>cell_keep (h.1 c hc) hb,fun i hi=>⟨cell_keep (h.2 i hi).1 hb,cell_keep (h.2 i hi).2 hb⟩⟩
theorem shp_of {W:World} (h:W.ShapedOpen Tryz.prog):Shp W :=
 cell_of_shapedOpen_int (k:=.i64) (t:=3) (zero:=#[.int .i64 0]) h (of_decide_eq_true (by kernel_rfl)) (by kernel_rfl) rfl (by kernel_rfl) (by kernel_rfl) Tryz.underlying3
def Env9 (w:World):Prop:=U8T w∧Shp w
theorem stabEnv9:Stab Env9:=fun w w' ⟨a,b⟩ hb=>⟨stabU8T w w' a hb,stabShp w w' b hb⟩
theorem env_of9 {W:World} (h:laidMetH Tryz.prog [("unicode/utf8.acceptRanges", Rows.laid_unicode_utf8_acceptRanges),("unicode/utf8.first", Rows.laid_unicode_utf8_first)] W) (hs:W.ShapedOpen Tryz.prog):Env9 W:=⟨u8t_of9 h,shp_of hs⟩
noncomputable def laidWorld9 (os:Os):World :=
 { (World.holding Tryz.prog os ⟨#[],#[],[]⟩) with heap:=(((World.holding Tryz.prog os ⟨#[],#[],[]⟩).heap.modify 1 (putCells #[.int .u8 128,.int .u8 191,.int .u8 160,.int .u8 191,.int .u8 128,.int .u8 159,.int .u8 144,.int .u8 191,.int .u8 128,.int .u8 143,.int .u8 0,.int .u8 0,.int .u8 0,.int .u8 0,.int .u8 0,.int .u8 0,.int .u8 0,.int .u8 0,.int .u8 0,.int .u8 0,.int .u8 0,.int .u8 0,.int .u8 0,.int .u8 0,.int .u8 0,.int .u8 0,.int .u8 0,.int .u8 0,.int .u8 0,.int .u8 0,.int .u8 0,.int .u8 0])).modify 0 (putCells (Pinned.utf8FirstZ.map fun(z:Nat)=>Value.int .u8 (z:Int)).toArray)) }
def T_api_Region.sz (x:T_api_Region):Prop:=(x.Name.length≤1048576)∧(True)∧(True)∧(True)∧(True)∧(True)∧(True)∧True
def T_api_Span.sz (x:T_api_Span):Prop:=(True)∧(True)∧True
def T_api_Style.sz (x:T_api_Style):Prop:=(True)∧(True)∧(True)∧True
def T_api_Run.sz (x:T_api_Run):Prop:=(x.Text.length≤1048576)∧(T_api_Style.sz x.Style)∧(x.Ruby.length≤1048576)∧True
def T_api_Row.sz (x:T_api_Row):Prop:=(x.Runs.length≤1048576∧∀ a ∈ x.Runs,T_api_Run.sz a)∧True
def T_api_Event.sz (x:T_api_Event):Prop:=(True)∧(T_api_Span.sz x.Span)∧(x.Region.length≤1048576)∧(True)∧(x.Speaker.length≤1048576)∧(x.Rows.length≤1048576∧∀ a ∈ x.Rows,T_api_Row.sz a)∧True
def T_api_Comment.sz (x:T_api_Comment):Prop:=(True)∧(True)∧(True)∧(True)∧(x.Author.length≤1048576)∧(x.Text.length≤1048576)∧(True)∧(True)∧True
def T_api_Document.sz (x:T_api_Document):Prop:=(x.Title.length≤1048576)∧(x.Lang.length≤1048576)∧(True)∧(True)∧(True)∧(x.Regions.length≤1048576∧∀ a ∈ x.Regions,T_api_Region.sz a)∧(x.Events.length≤1048576∧∀ a ∈ x.Events,T_api_Event.sz a)∧(x.Comments.length≤1048576∧∀ a ∈ x.Comments,T_api_Comment.sz a)∧True
def T_api_Profile.sz (x:T_api_Profile):Prop:=(x.Name.length≤1048576)∧(True)∧(True)∧(True)∧(True)∧(True)∧(True)∧(True)∧(True)∧(x.Forbidden.length≤1048576)∧(True)∧(True)∧(True)∧(True)∧True
def T_captionerlaw43_Task.sz (x:T_captionerlaw43_Task):Prop:=(T_api_Document.sz x.Doc)∧(T_api_Profile.sz x.House)∧(x.Shots.length≤1048576∧∀ a ∈ x.Shots,True)∧(True)∧True
theorem doc_z {d:T_api_Document} (h:T_api_Document.sz d) (hr:0≤d.Rate∧d.Rate≤255):DocZ d :=
 ⟨h.1,hr,h.2.2.2.2.2.1.1,h.2.2.2.2.2.2.1.1,fun e he=>by
  have:=(h.2.2.2.2.2.2.1.2 e he).2.2.2.2.2.1
  exact⟨this.1,fun r hr=>⟨fun u hu=>⟨((this.2 r hr).1.2 u hu).1,((this.2 r hr).1.2 u hu).2.2.1⟩,(this.2 r hr).1.1⟩⟩,h.2.2.2.2.2.2.2.1.1,fun c hc=>(h.2.2.2.2.2.2.2.1.2 c hc).2.2.2.2.2.1⟩
theorem task_z {t:T_captionerlaw43_Task} (h:T_captionerlaw43_Task.sz t) (hr:0≤t.Doc.Rate∧t.Doc.Rate≤255):TskZ t :=
 ⟨doc_z h.1 hr,h.2.1.1,h.2.1.2.2.2.2.2.2.2.2.2.1⟩
theorem task_rate {ds:List D} {t:T_captionerlaw43_Task} (h:∀ d ∈ ds,Sz d) (hm:t.d ∈ ds):0≤t.Doc.Rate∧t.Doc.Rate≤255 :=
 Sz_u8.1 (Sz_agg.1 (h _ hm) (.int .u8 t.Doc.Rate) (by simp))
theorem law_RepairLeast (t:T_captionerlaw43_Task) (hB:T_captionerlaw43_Task.sz t):AFun Tryz.prog Env9 5 [t.d] (.bool true):=by
 refine AFun.sized (by kernel_rfl) fun hz=>?_
 exact a_law43_RepairLeast stabEnv9 (fun _ h=>h.2) (fun _ h=>h.1) (repairLeast_true t (task_z hB (task_rate hz (by simp))))
def up (e:T_api_Event) (s:T_api_Shift):T_api_Event:=upE s e
theorem apR_map:∀ (l:List T_api_Shift) (ev ev':List T_api_Event),apR ev l=.inr ev'→ev'=ev.map (fun e=>l.foldl up e)
 | [],ev,ev',h=>by cases h;simp
 | s::l,ev,ev',h=>by
  unfold apR at h
  simp only[runF] at h
  cases hf:apF ev s with
  | inl e =>
   rw[hf] at h
   simp only at h
   unfold apF at hf
   split at hf
   ·split at hf<;>cases hf
    cases h
   ·cases hf;cases h
  | inr e1 =>
   rw[hf] at h
   have h1:=apR_map l e1 ev' h
   unfold apF at hf
   split at hf
   ·split at hf
    ·cases hf
    ·cases hf
     rw[h1,List.map_map]
     rfl
   ·cases hf
theorem apR_inl:∀ (l:List T_api_Shift) (ev:List T_api_Event) (e:Int),apR ev l=.inl e→e=6∨e=2
 | [],ev,e,h=>by cases h
 | s::l,ev,e,h=>by
  unfold apR at h
  simp only[runF] at h
  cases hf:apF ev s with
  | inl e1 =>
   rw[hf] at h
   simp only at h
   subst h
   unfold apF at hf
   split at hf
   ·split at hf<;>cases hf
    exact .inr rfl
   ·cases hf;exact .inl rfl
  | inr e1=>rw[hf] at h;exact apR_inl l e1 e h
def sh1 (x:List Int) (a:T_api_Event × Nat):List T_api_Shift:=if(spS x a.2).In≠a.1.Span.In∨(spS x a.2).Out≠a.1.Span.Out then[⟨a.1.ID,(spS x a.2).In,(spS x a.2).Out⟩] else[]
theorem shF_app (x:List Int):∀ (L:List (T_api_Event × Nat)) (s:List T_api_Shift),L.foldl (shF x) s=s++L.flatMap (sh1 x)
 | [],s=>by simp
 | a::L,s=>by
  rw[List.foldl_cons,shF_app x L]
  unfold shF
  simp only[List.flatMap_cons]
  by_cases h:(spS x a.2).In≠a.1.Span.In∨(spS x a.2).Out≠a.1.Span.Out
  ·rw[if_pos h,show sh1 x a=[⟨a.1.ID,(spS x a.2).In,(spS x a.2).Out⟩] from if_pos h,List.append_assoc]
  ·rw[if_neg h,show sh1 x a=[] from if_neg h,List.nil_append]
theorem shS_eq (d:T_api_Document) (x:List Int):shS d x=d.Events.zipIdx.flatMap (sh1 x):=by
 show runF (fun s a=>.inr (shF x s a)) id [] d.Events.zipIdx=_
 rw[runF_inr,shF_app]
 rfl
theorem fold_other (x:List Int):∀ (L:List (T_api_Event × Nat)) (e:T_api_Event),(∀ a ∈ L,a.1.ID≠e.ID)→(L.flatMap (sh1 x)).foldl up e=e
 | [],e,_=>rfl
 | a::L,e,h=>by
  rw[List.flatMap_cons,List.foldl_append]
  have h1:(sh1 x a).foldl up e=e:=by
   unfold sh1
   split
   ·show up e _=e
    unfold up upE
    rw[if_neg (fun q=>h a (by simp) q.symm)]
   ·rfl
  rw[h1]
  exact fold_other x L e fun a ha=>h a (by simp[ha])
def nwE (x:List Int) (e:T_api_Event) (i:Nat):T_api_Event:=⟨e.ID,spS x i,e.Region,e.Kind,e.Speaker,e.Rows⟩
theorem fold_own (x:List Int) (e:T_api_Event) (i:Nat):(sh1 x (e,i)).foldl up e=nwE x e i:=by
 unfold sh1 nwE
 dsimp only
 split
 ·show up e _=_
  unfold up upE
  rw[if_pos rfl]
 ·rename_i h
  have h1:(spS x i).In=e.Span.In:=by
   by_cases q:(spS x i).In=e.Span.In
   ·exact q
   ·exact absurd (.inl q) h
  have h2:(spS x i).Out=e.Span.Out:=by
   by_cases q:(spS x i).Out=e.Span.Out
   ·exact q
   ·exact absurd (.inr q) h
  show e=_
  have:spS x i=e.Span:=by
   cases hs:spS x i with
   | mk a b =>
    rw[hs] at h1 h2
    cases he:e.Span with
    | mk c d=>rw[he] at h1 h2;simp at h1 h2;rw[h1,h2]
  rw[this]
theorem shS_fold (d:T_api_Document) (hd:(d.Events.map (·.ID)).Nodup) (x:List Int) {i:Nat} (hi:i < d.Events.length):(shS d x).foldl up d.Events[i]=nwE x d.Events[i] i:=by
 have hlz:d.Events.zipIdx.length=d.Events.length:=List.length_zipIdx
 have hz:i < d.Events.zipIdx.length:=by omega
 have hsplit:d.Events.zipIdx=d.Events.zipIdx.take i++(d.Events[i],i)::d.Events.zipIdx.drop (i+1):=by
  have h1:=List.take_append_drop i d.Events.zipIdx
  rw[List.drop_eq_getElem_cons hz] at h1
  rw[show d.Events.zipIdx[i]=(d.Events[i],i) from by simp[List.getElem_zipIdx]] at h1
  exact h1.symm
 have hT:∀ a ∈ d.Events.zipIdx.take i,a.1.ID≠d.Events[i].ID:=by
  intro a ha
  obtain⟨j,hj,rfl⟩:=List.getElem_of_mem ha
  simp only[List.length_take] at hj
  rw[List.getElem_take,List.getElem_zipIdx]
  intro q
  have:=nodup_at hd (i:=j) (j:=i) (by omega) hi (by simpa using q)
  omega
 have hDr:∀ a ∈ d.Events.zipIdx.drop (i+1),a.1.ID≠d.Events[i].ID:=by
  intro a ha
  obtain⟨j,hj,rfl⟩:=List.getElem_of_mem ha
  simp only[List.length_drop] at hj
  rw[List.getElem_drop,List.getElem_zipIdx]
  intro q
  have:=nodup_at hd (i:=i+1+j) (j:=i) (by omega) hi (by simpa using q)
  omega
 rw[shS_eq,hsplit,List.flatMap_append,List.flatMap_cons,List.foldl_append,List.foldl_append,fold_other x (d.Events.zipIdx.take i) _ hT,fold_own]
 exact fold_other x (d.Events.zipIdx.drop (i+1)) (nwE x d.Events[i] i) hDr
theorem plan_evs (d:T_api_Document) (hd:(d.Events.map (·.ID)).Nodup) (x:List Int) {ev:List T_api_Event} (h:apR d.Events (shS d x)=.inr ev):ev.length=d.Events.length∧∀ i (hi:i < d.Events.length) (hi':i < ev.length),ev[i]=nwE x d.Events[i] i:=by
 have hm:=apR_map _ _ _ h
 subst hm
 refine⟨by simp,fun i hi hi'=>?_⟩
 rw[List.getElem_map]
 exact shS_fold d hd x hi
theorem runF_mem {d:T_api_Document} {p:T_api_Profile} {l:List Int} {t:Int}:∀ (L:List (T_api_Event × Nat)) (s bs:List T_api_Bound),runF (bnF d p l t) .inr s L=.inr bs→(∀ b ∈ s,b ∈ bs)∧∀ a ∈ L,∃ b1,bsE d p l t a.2 a.1=.inr b1∧∀ b ∈ b1,b ∈ bs
 | [],s,bs,h=>by cases h;exact⟨fun _ h=>h,by simp⟩
 | a::L,s,bs,h=>by
  simp only[runF] at h
  cases hf:bnF d p l t s a with
  | inl e =>
   rw[hf] at h
   obtain⟨v,rfl⟩:=bnF_inl hf
   cases h
  | inr s1 =>
   rw[hf] at h
   obtain⟨b1,hb1,rfl⟩:=bnF_inr hf
   obtain⟨h1,h2⟩:=runF_mem L _ _ h
   refine⟨fun b hb=>h1 b (by simp[hb]),fun c hc=>?_⟩
   rcases List.mem_cons.1 hc with rfl|hc
   ·exact⟨b1,hb1,fun b hb=>h1 b (by simp[hb])⟩
   ·exact h2 c hc
theorem near_t {d:T_api_Document} {p:T_api_Profile} {l:List Int} (g:Good d p l) {t:Int} (ht:0≤t∧t≤5184000) (hok:okT d p l t) {i:Nat} (hi:i < d.Events.length) :
  -t≤(spS (sol (2 * d.Events.length+1) (bnT d p l t)) i).In - d.Events[i].Span.In∧(spS (sol (2 * d.Events.length+1) (bnT d p l t)) i).In - d.Events[i].Span.In≤t ∧
  -t≤(spS (sol (2 * d.Events.length+1) (bnT d p l t)) i).Out - d.Events[i].Span.Out∧(spS (sol (2 * d.Events.length+1) (bnT d p l t)) i).Out - d.Events[i].Span.Out≤t:=by
 obtain⟨_,hb⟩:=g.bs ht
 have hh:=sol_heed hb hok
 obtain⟨bs,hbs⟩:=g.bn t
 have hT:bnT d p l t=bs:=by unfold bnT;rw[hbs];rfl
 have hz:(d.Events[i],i) ∈ d.Events.zipIdx:=by
  have hlz:d.Events.zipIdx.length=d.Events.length:=List.length_zipIdx
  have:d.Events.zipIdx[i]'(by omega)=(d.Events[i],i):=by simp[List.getElem_zipIdx]
  rw[← this]
  exact List.getElem_mem _
 obtain⟨b1,hb1,hm⟩:=(runF_mem _ _ _ hbs).2 _ hz
 dsimp only at hb1
 have hin:∀ b ∈ bsT (2 * i+1) d.Events[i].Span.In t d.Events[i].ID++bsT (2 * i+2) d.Events[i].Span.Out t d.Events[i].ID,heed (sol (2 * d.Events.length+1) (bnT d p l t)) (ed b):=by
  intro b hbm
  refine hh _ (List.mem_map_of_mem ?_)
  rw[hT]
  refine hm b ?_
  unfold bsE at hb1
  split at hb1
  ·cases hb1
  ·split at hb1
   ·cases hb1
   ·cases hb1
    simp only[List.mem_append] at hbm ⊢
    exact .inl (.inr hbm)
 generalize sol (2 * d.Events.length+1) (bnT d p l t)=x at hin
 have h1:=hin ⟨2 * i+1,0,-(d.Events[i].Span.In - t),11,d.Events[i].ID,0⟩ (by simp[bsT])
 have h2:=hin ⟨0,2 * i+1,d.Events[i].Span.In+t,11,d.Events[i].ID,0⟩ (by simp[bsT])
 have h3:=hin ⟨2 * i+2,0,-(d.Events[i].Span.Out - t),11,d.Events[i].ID,0⟩ (by simp[bsT])
 have h4:=hin ⟨0,2 * i+2,d.Events[i].Span.Out+t,11,d.Events[i].ID,0⟩ (by simp[bsT])
 unfold heed ed at h1 h2 h3 h4
 dsimp only at h1 h2 h3 h4
 rw[show(2 * (i:Int)+1).toNat=2 * i+1 by omega,show(0:Int).toNat=0 from rfl] at h1 h2
 rw[show(2 * (i:Int)+2).toNat=2 * i+2 by omega,show(0:Int).toNat=0 from rfl] at h3 h4
 unfold spS
 dsimp only
 omega
theorem self_loop {step:Int→Option (Nx Int (Unit ⊕ Unit))} (n:Nat) (hn:n≤1048576) (hgo:∀ i:Nat,i < n→step (i:Int)=some (.go ((i:Int)+1))) (hend:step (n:Int)=some (.out (.inr ()))):iter step 0=some (.inr ()):=by
 obtain⟨e,he,rfl⟩:=iter_cnt n (by omega) (fun _=>True) (fun e=>e=Sum.inr ()) trivial (fun i hi _=>.inl ⟨hgo i hi,trivial⟩) (fun _=>⟨_,hend,rfl⟩)
 exact he
theorem regSelf (l:List T_api_Region) (hn:l.length≤1048576):g_slices_Equal_api_Region_api_Region l l=some true:=by
 unfold g_slices_Equal_api_Region_api_Region
 rw[if_neg (by simp),self_loop l.length hn (fun i hi=>by
  unfold g_slices_Equal_api_Region_api_Region_s1
  rw[if_pos (by simpa using hi),atI_nat hi,wr64 (x:=(i:Int)+1) (by omega)]
  simp) (by unfold g_slices_Equal_api_Region_api_Region_s1;rw[if_neg (by simp)])]
 rfl
theorem runSelf (l:List T_api_Run) (hn:l.length≤1048576):g_slices_Equal_api_Run_api_Run l l=some true:=by
 unfold g_slices_Equal_api_Run_api_Run
 rw[if_neg (by simp),self_loop l.length hn (fun i hi=>by
  unfold g_slices_Equal_api_Run_api_Run_s1
  rw[if_pos (by simpa using hi),atI_nat hi,wr64 (x:=(i:Int)+1) (by omega)]
  simp) (by unfold g_slices_Equal_api_Run_api_Run_s1;rw[if_neg (by simp)])]
 rfl
theorem comSelf (l:List T_api_Comment) (hn:l.length≤1048576):g_slices_Equal_api_Comment_api_Comment l l=some true:=by
 unfold g_slices_Equal_api_Comment_api_Comment
 rw[if_neg (by simp),self_loop l.length hn (fun i hi=>by
  unfold g_slices_Equal_api_Comment_api_Comment_s1
  rw[if_pos (by simpa using hi),atI_nat hi,wr64 (x:=(i:Int)+1) (by omega)]
  simp) (by unfold g_slices_Equal_api_Comment_api_Comment_s1;rw[if_neg (by simp)])]
 rfl
theorem rowsSelf (l:List T_api_Row) (hn:l.length≤1048576) (hr:∀ r ∈ l,r.Runs.length≤1048576):g_style_SameRows l l=some true:=by
 unfold g_style_SameRows g_slices_EqualFunc_api_Row_api_Row_api_Row_api_Row
 rw[if_neg (by simp),self_loop l.length hn (fun i hi=>by
  unfold g_slices_EqualFunc_api_Row_api_Row_api_Row_api_Row_s1 g_style_Same
  rw[if_pos (by simpa using hi),atI_nat hi,wr64 (x:=(i:Int)+1) (by omega)]
  simp only[Option.bind_some]
  rw[runSelf _ (hr _ (List.getElem_mem hi))]
  rfl) (by unfold g_slices_EqualFunc_api_Row_api_Row_api_Row_api_Row_s1;rw[if_neg (by simp)])]
 rfl
theorem evSelf (e:T_api_Event) (h:EvZ e):g_event_Same e e=some true:=by
 unfold g_event_Same
 simp only[beq_self_eq_true,Bool.and_self,if_true]
 rw[rowsSelf _ h.1 (fun r hr=>(h.2 r hr).2)]
 rfl
theorem docSelf (d:T_api_Document) (h:DocZ d):g_document_Same d d=some true:=by
 unfold g_document_Same g_document_Head
 simp only[Option.bind_some,beq_self_eq_true,Bool.and_self,if_true]
 rw[regSelf _ h.regs]
 simp only[Option.bind_some,if_true]
 have he:g_slices_EqualFunc_api_Event_api_Event_api_Event_api_Event d.Events d.Events=some true:=by
  unfold g_slices_EqualFunc_api_Event_api_Event_api_Event_api_Event
  rw[if_neg (by simp),self_loop d.Events.length h.evs (fun i hi=>by
   unfold g_slices_EqualFunc_api_Event_api_Event_api_Event_api_Event_s1
   have hn:=h.evs
   rw[if_pos (by simpa using hi),atI_nat hi,wr64 (x:=(i:Int)+1) (by omega)]
   simp only[Option.bind_some]
   rw[evSelf _ (h.ev _ (List.getElem_mem hi))]
   rfl) (by unfold g_slices_EqualFunc_api_Event_api_Event_api_Event_api_Event_s1;rw[if_neg (by simp)])]
  rfl
 rw[he]
 simp only[Option.bind_some,if_true]
 rw[comSelf _ h.coms]
 rfl
structure NrI (d:T_api_Document) (x:List Int) (t:Int) (r':List T_api_Event):Prop where
 len:r'.length=d.Events.length
 fnd:∀ i (hi:i < d.Events.length),∃ k,∃ hk:k < r'.length,g_document_Find (withE d r') d.Events[i].ID=some (k:Int)∧r'[k]=nwE x d.Events[i] i
 near:∀ i (hi:i < d.Events.length),-t≤(spS x i).In - d.Events[i].Span.In∧(spS x i).In - d.Events[i].Span.In≤t∧-t≤(spS x i).Out - d.Events[i].Span.Out∧(spS x i).Out - d.Events[i].Span.Out≤t
theorem near_loop (u:T_captionerlaw43_Task) (hn:u.Doc.Events.length≤4) {x:List Int} {t:Int} (ht:0≤t∧t≤5184000) {r':List T_api_Event} (hI:NrI u.Doc x t r') (sh:List T_api_Shift) (cf:List T_api_Bound) (e:Int) :
  iter (g_law43_RepairNears_s2 u (⟨withE u.Doc r',sh,t,cf⟩,e)) (0,r')=some (.inr u.Doc.Events):=by
 have hlen:=hI.len
 obtain⟨y,hy,hp⟩:=iter_post (step:=g_law43_RepairNears_s2 u (⟨withE u.Doc r',sh,t,cf⟩,e)) (fun x=>∃ i:Nat,x.1=i∧i≤u.Doc.Events.length∧x.2.length=u.Doc.Events.length∧∀ j,j < i→x.2[j]? = u.Doc.Events[j]?) (fun x=>u.Doc.Events.length - x.1.toNat) (fun y=>∃ l,y=.inr l∧l.length=u.Doc.Events.length∧∀ j,j < u.Doc.Events.length→l[j]? = u.Doc.Events[j]?) (x:=(0,r')) ⟨0,rfl,by omega,hlen,fun j h=>by omega⟩ (by dsimp only;omega) (by
  rintro⟨xi,b⟩ ⟨i,h1,h2,h3,h4⟩
  dsimp only at h1 h3 h4
  subst h1
  unfold g_law43_RepairNears_s2
  dsimp only
  by_cases q:i < u.Doc.Events.length
  ·left
   rw[if_pos (by simpa using q),atI_nat q,wr64 (x:=(i:Int)+1) (by omega)]
   simp only[Option.bind_some]
   obtain⟨k,hk,hf,hev⟩:=hI.fnd i q
   have hnr:=hI.near i q
   generalize hv:u.Doc.Events[i]=v at *
   rw[hf]
   simp only[Option.bind_some]
   rw[if_neg (by simp),show(withE u.Doc r').Events=r' from rfl,atI_nat hk,hev]
   simp only[Option.bind_some]
   have e1:(nwE x v i).Span=spS x i:=rfl
   rw[e1]
   generalize (spS x i).In - v.Span.In=a at hnr
   generalize (spS x i).Out - v.Span.Out=c at hnr
   rw[wr64 (x:=a) (by omega),wr64 (x:=c) (by omega),wr64 (x:=0 - a) (by omega),wr64 (x:=0 - c) (by omega)]
   have b1:¬ t < a:=by omega
   have b2:¬ t < 0 - a:=by omega
   have b3:¬ t < c:=by omega
   have b4:¬ t < 0 - c:=by omega
   simp only[b1,b2,b3,b4,decide_false,Bool.false_eq_true,if_false,Option.bind_some]
   have hib:i < b.length:=by omega
   rw[atI_nat hib]
   simp only[Option.bind_some]
   rw[setI_nat _ hib]
   simp only[Option.bind_some]
   have hib2:i < (b.set i (nwE x v i)).length:=by simpa using hib
   rw[atI_nat hib2]
   simp only[Option.bind_some]
   rw[setI_nat _ hib2]
   simp only[Option.bind_some]
   refine⟨_,rfl,⟨i+1,by simp,by omega,by simpa using h3,fun j hj=>?_⟩,by dsimp only;omega⟩
   dsimp only
   rw[List.getElem_set_self,List.set_set,List.getElem?_set]
   by_cases hij:i=j
   ·subst hij
    rw[if_pos rfl,if_pos hib,List.getElem?_eq_getElem q,hv]
    rfl
   ·rw[if_neg hij]
    exact h4 j (by omega)
  ·right
   rw[if_neg (by simpa using q)]
   obtain rfl:i=u.Doc.Events.length:=by omega
   exact⟨_,rfl,b,rfl,h3,h4⟩)
 obtain⟨l,rfl,h1,h2⟩:=hp
 rw[hy]
 congr 2
 refine List.ext_getElem? fun j=>?_
 by_cases hj:j < u.Doc.Events.length
 ·exact h2 j hj
 ·rw[List.getElem?_eq_none (by omega),List.getElem?_eq_none (by omega)]
theorem repairNears_true (t:T_captionerlaw43_Task) (h:TskZ t):g_law43_RepairNears t=some true:=by
 obtain⟨hz,hn⟩:=fewT_z h
 unfold g_law43_RepairNears
 rw[awake43,few_eq]
 simp only[Option.bind_some,if_true]
 generalize fewT t=u at hz hn
 rcases plan_eq hz (by omega) u.Tol with⟨he,hp⟩|⟨g,ht,a,out,hp,ho⟩|⟨g,ht,a,r,r0,r1,r2,r3,A,hA,hp⟩
 ·rw[hp]
  simp only[Option.bind_some]
  rw[if_pos (by rw[bne_iff_ne];exact he)]
 ·rw[hp]
  rfl
 ·rw[hp]
  simp only[Option.bind_some]
  by_cases h1:A.2=0
  ·rw[if_neg (by rw[bne_iff_ne];exact fun q=>q h1)]
   have hcd:g_document_Check u.Doc=some 0:=by rw[(dcS_eq u.Doc hz.doc).1,g.dc]
   have hD:=(dcS_eq u.Doc hz.doc).2 g.dc
   have hsl:=shS_len u.Doc (sol (2 * u.Doc.Events.length+1) (bnT u.Doc u.House u.Shots r))
   rcases apply_eq u.Doc hz.doc hcd hD (by omega) (shS u.Doc (sol (2 * u.Doc.Events.length+1) (bnT u.Doc u.House u.Shots r))) (by omega) with⟨e,q1,q2⟩|⟨ev,r',q1,q2,q3,q4⟩
   ·exfalso
    rw[hA] at q2
    have:A.2=e:=by rw[Option.some.inj q2]
    rcases apR_inl _ _ _ q1 with h6|h6<;>omega
   ·rw[hA] at q2
    obtain rfl:=Option.some.inj q2
    obtain⟨p1,p2⟩:=plan_evs u.Doc hD.ids _ q1
    obtain⟨_,p3,p4⟩:=apR_inr _ _ _ q1
    have hlen:r'.length=u.Doc.Events.length:=by rw[q3.length_eq,p1]
    have hrr:0≤r∧r≤5184000:=by omega
    have hI:NrI u.Doc (sol (2 * u.Doc.Events.length+1) (bnT u.Doc u.House u.Shots r)) r r':=by
     refine⟨hlen,fun i hi=>?_,fun i hi=>near_t g hrr r2 hi⟩
     obtain⟨k,hk1,_,hk⟩:=find_eq (withE u.Doc r') (by show r'.length≤_;omega) u.Doc.Events[i].ID
     rcases hk with⟨j,hj,rfl,hid⟩|⟨_,hno⟩
     ·refine⟨j,hj,hk1,?_⟩
      have hj':j < r'.length:=hj
      have hm:r'[j] ∈ ev:=q3.mem_iff.1 (List.getElem_mem hj')
      obtain⟨m,hm1,hm2⟩:=List.getElem_of_mem hm
      have hm3:=p2 m (by omega) hm1
      rw[hm2] at hm3
      have hid':r'[j].ID=u.Doc.Events[i].ID:=hid
      rw[hm3] at hid'
      have:m=i:=nodup_at hD.ids (by omega) hi hid'
      subst this
      exact hm3
     ·exfalso
      have hev:ev[i]'(by omega) ∈ r':=q3.mem_iff.2 (List.getElem_mem _)
      obtain⟨m,hm1,hm2⟩:=List.getElem_of_mem hev
      refine hno m hm1 ?_
      show r'[m].ID=_
      rw[hm2,p2 i hi (by omega)]
      rfl
    have c1:¬ r < 0:=by omega
    have c2:¬ u.Tol < r:=by omega
    have c3:(((withE u.Doc r').Events.length:Int) != (u.Doc.Events.length:Int))=false:=by
     show((r'.length:Int) != _)=false
     rw[hlen];simp
    simp only[c1,c2,c3,decide_false,Bool.false_eq_true,if_false,Option.bind_some,List.length_nil,Int.natCast_zero,Int.lt_irrefl]
    have hz2:DocZ (withE u.Doc r'):=⟨hz.doc.title,hz.doc.rate,hz.doc.regs,by show r'.length≤_;omega,fun e he=>p4 hz.doc.ev e (q3.mem_iff.1 he),hz.doc.coms,hz.doc.com⟩
    have hself:=docSelf u.Doc hz.doc
    cases hem:(withE u.Doc r').Events.isEmpty with
    | true =>
     simp only[if_true]
     rw[docClone _ hz2]
     simp only[Option.bind_some]
     have hr0:r'=[]:=empty_nil hem
     have hd0:u.Doc.Events=[]:=List.eq_nil_of_length_eq_zero (by rw[← hlen,hr0];rfl)
     have hw:withE u.Doc r'=u.Doc:=by rw[hr0,← hd0];rfl
     rw[hw]
     have hl:∀ r20 r46,iter (g_law43_RepairNears_s1 u r20 r46) ()=some (.inr ()):=by
      intro r20 r46
      refine iter_of (fun x e=>e=.inr ()) (fun _=>0) ?_ (x:=()) rfl (by decide)
      rintro x e rfl
      right
      unfold g_law43_RepairNears_s1
      rw[if_neg (by rw[hd0];simp)]
     rw[hl]
     simp only[Option.bind_some]
     rw[hself]
     rfl
    | false =>
     simp only[Bool.false_eq_true,if_false]
     rw[docClone_nw _ hz2 hem]
     simp only[Option.bind_some]
     rw[show(withE u.Doc r').Events=r' from rfl,near_loop u hn hrr hI]
     simp only[Option.bind_some]
     show((g_document_Same u.Doc u.Doc).bind fun r709=>some r709)=some true
     rw[hself]
     rfl
  ·rw[if_pos (by rw[bne_iff_ne];exact h1)]
theorem law_RepairNears (t:T_captionerlaw43_Task) (hB:T_captionerlaw43_Task.sz t):AFun Tryz.prog Env9 8 [t.d] (.bool true):=by
 refine AFun.sized (by kernel_rfl) fun hz=>?_
 exact a_law43_RepairNears stabEnv9 (fun _ h=>h.2) (fun _ h=>h.1) (repairNears_true t (task_z hB (task_rate hz (by simp))))
open Go.ChangeShapes Go.WideShapes Go.ChangeAt Go.RowKit Go.Joins
def FA (w:World):Nat→Nat→Prop:=fun b _=>b < w.heap.size
theorem FA_fb (w:World):FB (cF (FA w)) w:=fun _ _ h=>h
theorem wf_inR {k:IntKind} {n:Int} (h:(Lit.int k n).wf=true):inR k n:=by
 simp only[Lit.wf,Bool.and_eq_true,decide_eq_true_eq] at h
 cases k<;>simp[IntKind.min,IntKind.max,IntKind.signed,IntKind.bits] at h<;>simp[inR,kLo,kHi]<;>omega
theorem strOfBytes (s:ByteArray):(⟨s.data.toList.toArray⟩:ByteArray)=s:=by cases s;simp
theorem AFun.law {P:Program} {I:World→Prop} {f:FuncId} {ds:List D} (h:AFun P I f ds (.bool true)) {W:World} {args:List Value} (hI:I W) (hl:args.length=ds.length) (hr:∀ (i:Nat) v d,args[i]? = some v→ds[i]? = some d→Rep W (cF (FA W)) v d) :
  Calls P f args.toArray W fun e w'=>e=.returned (.bool true)∧Below W.heap.size W w':=by
 refine(h.2 W (FA W) args hI (FA_fb W) hl hr).mono ?_
 rintro e w' ⟨v,F',rfl,hb,_,_,_,hrep⟩
 cases hrep
 exact⟨rfl,hb⟩
section
variable (H:Type) (enc:TypeId × Value→H) (P:Program)
def OpT {α:Type} (t:TypeId) (δ:α→D):Prop :=
 ∀ (w:World) (fuel:Nat) (cs:List Value) (x:DataW H × List MemPlace),DataW.trod enc P w 0 (fun _=>true) true fuel t cs=some x→∃ a:α,RepL (cF (FA w)) w cs (δ a).cells
def OpF {α:Type} (fs:List Field) (off:Nat) (γ:α→List D):Prop :=
 ∀ (w:World) (fuel:Nat) (cs:List Value),off≤cs.length→(∀ f ∈ fs,∃ x,DataW.trod enc P w 0 (fun _=>true) true fuel f.type ((cs.drop f.offset).take (P.cellsOf f.type))=some x)→(fs=[]→cs.length=off)→(∀ f ∈ fs,f.offset+P.cellsOf f.type≤cs.length)→((fs.map fun f=>P.cellsOf f.type).sum+off=cs.length)→∃ a:α,RepL (cF (FA w)) w (cs.drop off) (γ a)
end
section
variable {H:Type} {enc:TypeId × Value→H} {P:Program}
theorem OpT.int {t:TypeId} {k:IntKind} (ht:P.underlying t=some (.int k)):OpT H enc P t (D.int k):=by
 intro w fuel cs x h
 obtain⟨n,rfl,_,hw⟩:=DataW.trod_int ht h
 exact⟨n,RepL.one1 rfl (.int _ _ (wf_inR hw))⟩
theorem OpT.bool {t:TypeId} (ht:P.underlying t=some .bool):OpT H enc P t D.bool:=by
 intro w fuel cs x h
 obtain⟨n,rfl,_⟩:=DataW.trod_bool ht h
 exact⟨n,RepL.one1 rfl (.bool _)⟩
theorem rep_strB {w:World} {C:Cx} (s:ByteArray) (h:s.size≤maxLen):Rep w C (.string s) (.str s.data.toList):=by
 have:=Rep.str (w:=w) (C:=C) s.data.toList (by rw[Array.length_toList];exact h)
 rwa[strOfBytes] at this
theorem OpT.str {t:TypeId} (ht:P.underlying t=some .string):OpT H enc P t D.str:=by
 intro w fuel cs x h
 obtain⟨s,rfl,_,hs⟩:=DataW.trod_string ht h
 exact⟨s.data.toList,RepL.one1 rfl (rep_strB s hs)⟩
theorem OpT.map {α β:Type} {t:TypeId} {δ:α→D} {ε:β→D} (h:OpT H enc P t δ) (φ:α→β) (hφ:∀ a,ε (φ a)=δ a):OpT H enc P t ε:=by
 intro w fuel cs x hx
 obtain⟨a,ha⟩:=h w fuel cs x hx
 exact⟨φ a,by rw[hφ];exact ha⟩
theorem OpF.nil {off:Nat}:OpF H enc P [] off (fun _:Unit=>[]):=by
 intro w fuel cs h1 h2 h3 h4 h5
 refine⟨(),?_⟩
 rw[List.drop_eq_nil_of_le (by have:=h3 rfl;omega)]
 exact RepL.nil
theorem OpF.cons {α β:Type} {f:Field} {fs:List Field} {off:Nat} {δ:α→D} {γ:β→List D} (ho:f.offset=off) (h:OpT H enc P f.type δ) (hr:OpF H enc P fs (off+P.cellsOf f.type) γ):OpF H enc P (f::fs) off (fun p:α × β=>(δ p.1).cells++γ p.2):=by
 intro w fuel cs h1 h2 h3 h4 h5
 subst ho
 obtain⟨x,hx⟩:=h2 f (by simp)
 obtain⟨a,ha⟩:=h w fuel _ x hx
 have hlen:f.offset+P.cellsOf f.type≤cs.length:=h4 f (by simp)
 simp only[List.map_cons,List.sum_cons] at h5
 obtain⟨b,hb⟩:=hr w fuel cs hlen (fun g hg=>h2 g (by simp[hg])) (fun e=>by subst e;simp at h5;omega) (fun g hg=>h4 g (by simp[hg])) (by omega)
 refine⟨(a,b),?_⟩
 have:=ha.append hb
 rw[show(cs.drop f.offset).take (P.cellsOf f.type)++cs.drop (f.offset+P.cellsOf f.type)=cs.drop f.offset by rw[← List.drop_drop];exact List.take_append_drop _ _] at this
 exact this
theorem OpT.struct {α β:Type} {t:TypeId} {fs:Array Field} {γ:α→List D} {ε:β→D} (ht:P.underlying t=some (.struct fs)) (hoff:(fs.toList.all fun f=>decide (f.offset+P.cellsOf f.type≤P.cellsOf t))=true) (hsum:(fs.toList.map fun f=>P.cellsOf f.type).sum=P.cellsOf t) (h:OpF H enc P fs.toList 0 γ) (φ:α→β) (hφ:∀ a,(ε (φ a)).cells=γ a):OpT H enc P t ε:=by
 intro w fuel cs x hx
 obtain⟨xs,n,_,_,hl,hxl,hf⟩:=DataW.trod_struct ht hx
 obtain⟨a,ha⟩:=h w n cs (Nat.zero_le _) (fun f hf'=>by
  obtain⟨i,hi,rfl⟩:=List.getElem_of_mem hf'
  have hi':fs[i]? = some fs.toList[i]:=by simp at hi ⊢
  have:=hf i _ hi'
  rw[List.getElem?_eq_getElem (by rw[hxl];simpa using hi)] at this
  exact⟨_,this⟩) (fun e=>by rw[e] at hsum;simp at hsum;omega) (fun f hf'=>by have:=List.all_eq_true.1 hoff f hf';simp at this;omega) (by omega)
 refine⟨φ a,?_⟩
 rw[hφ]
 simpa using ha
theorem addr_addO (b o i:Nat):(⟨b,o,none⟩:Addr).add i=⟨b,o+i,none⟩:=by
 unfold Addr.add
 split
 ·rename_i e;subst e;rfl
 ·rfl
theorem rows_of {w:World} {b off k:Nat} {α:Type} {δ:α→D} (hk:∀ a,(δ a).cells.length=k):∀ (n:Nat) (s:Nat),(∀ i,i < n→∃ cs',(∀ j,j < k→w.cell? ⟨b,off+(s+i) * k+j,none⟩=cs'[j]?)∧cs'.length=k∧∃ a:α,RepL (cF (FA w)) w cs' (δ a).cells) →
  ∃ (l:List α) (vals:List Value),l.length=n∧vals.length=n * k∧RepL (cF (FA w)) w vals ((l.map δ).flatMap D.cells)∧∀ (i:Nat) v,vals[i]? = some v→w.cell? ⟨b,off+s * k+i,none⟩=some v:=by
 intro n
 induction n with
 | zero=>intro s _;exact⟨[],[],rfl,by simp,RepL.nil,by simp⟩
 | succ n ih =>
  intro s h
  obtain⟨cs,hc,hcl,a,ha⟩:=h 0 (by omega)
  obtain⟨l,vals,h1,h2,h3,h4⟩:=ih (s+1) (fun i hi=>by
   obtain⟨cs',hh⟩:=h (i+1) (by omega)
   refine⟨cs',?_⟩
   rw[show s+1+i=s+(i+1) by omega]
   exact hh)
  refine⟨a::l,cs++vals,by simp[h1],by rw[List.length_append,hcl,h2,Nat.add_mul];omega,?_,?_⟩
  ·simp only[List.map_cons,List.flatMap_cons]
   exact ha.append h3
  ·intro i v hv
   by_cases hi:i < k
   ·rw[List.getElem?_append_left (by omega)] at hv
    have:=hc i hi
    rw[Nat.add_zero] at this
    rw[this,hv]
   ·rw[List.getElem?_append_right (by omega)] at hv
    have:=h4 _ v hv
    rw[hcl] at this
    rw[← this]
    congr 2
    rw[Nat.add_mul]
    omega
theorem OpT.slice {α:Type} {t e:TypeId} {δ:α→D} (ht:P.underlying t=some (.slice e)) (hpos:0 < P.cellsOf e) (hk:∀ a,(δ a).cells.length=P.cellsOf e) (h:OpT H enc P e δ):OpT H enc P t (fun l:List α=>D.sl (l.map δ)):=by
 intro w fuel cs x hx
 rcases Deep.open_slice ht hx with⟨rfl,_⟩|⟨a,len,cap,m,n,Dd,Pl,rfl,hb,hl,hm,hmm,_,hel⟩
 ·exact⟨[],RepL.one1 rfl (.sl0 _ _ (Nat.zero_le _))⟩
 ·simp only[if_true] at hmm
  subst hmm
  by_cases h0:len=0
  ·subst h0
   exact⟨[],RepL.one1 rfl (.sl0 _ _ hm)⟩
  ·obtain⟨b,off,spot⟩:=a
   obtain⟨c0,hc0,_⟩:=hel 0 (by omega)
   obtain⟨_,hl0,hg0⟩:=World.cells?_some hc0
   have hcell0:=hg0 0 hpos
   have hx0:c0[0]? = some (c0[0]'(by omega)):=List.getElem?_eq_getElem _
   rw[hx0] at hcell0
   have hspot:spot=none:=by simpa[Addr.add] using World.cell?_spot hcell0
   subst hspot
   have hbl:b < w.heap.size:=by
    rcases Nat.lt_or_ge b w.heap.size with h1|h1
    ·exact h1
    ·simp[Addr.add,World.cell?,Array.getElem?_eq_none h1] at hcell0
   obtain⟨l,vals,h1,h2,h3,h4⟩:=rows_of (w:=w) (b:=b) (off:=off) (k:=P.cellsOf e) hk len 0 (fun i hi=>by
    obtain⟨cs',hc',ht'⟩:=hel i (by omega)
    obtain⟨_,hl',hg'⟩:=World.cells?_some hc'
    refine⟨cs',fun j hj=>?_,hl',h w n cs' _ ht'⟩
    have:=hg' j hj
    rw[addr_addO,addr_addO] at this
    rw[← this]
    simp)
   refine⟨l,RepL.one1 rfl ?_⟩
   have hkk:∀ x ∈ l.map δ,x.cells.length=P.cellsOf e:=fun x hx=>by obtain⟨y,_,rfl⟩:=List.mem_map.1 hx;exact hk y
   have:=Rep.sl (w:=w) (C:=cF (FA w)) b off (P.cellsOf e) m (l.map δ) vals (by simp[h1];omega) hm hkk h3.len h3.one (fun _ _=>hbl) (fun i v hv=>by have:=h4 i v hv;simpa using this) (fun i v d hv hd=>h3.rep i v d hv hd)
   rw[List.length_map,h1] at this
   exact this
theorem arr_rows {α:Type} {e:TypeId} {δ:α→D} (h:OpT H enc P e δ) (w:World) (fuel:Nat) (cs:List Value) (k:Nat):∀ (n s:Nat),(∀ i,s≤i→i < s+n→∃ x,DataW.trod enc P w 0 (fun _=>true) true fuel e ((cs.drop (i * k)).take k)=some x)→cs.length=(s+n) * k →
  ∃ l:List α,l.length=n∧RepL (cF (FA w)) w (cs.drop (s * k)) (l.flatMap fun a=>(δ a).cells):=by
 intro n
 induction n with
 | zero=>intro s _ hl;exact⟨[],rfl,by rw[List.drop_eq_nil_of_le (by rw[hl];exact Nat.le_refl _)];exact RepL.nil⟩
 | succ n ih =>
  intro s hx hl
  obtain⟨x,hx0⟩:=hx s (by omega) (by omega)
  obtain⟨a,ha⟩:=h w fuel _ x hx0
  obtain⟨l,hll,hr⟩:=ih (s+1) (fun i h1 h2=>hx i (by omega) (by omega)) (by rw[hl];congr 1;omega)
  refine⟨a::l,by simp[hll],?_⟩
  have:=ha.append hr
  rw[show(cs.drop (s * k)).take k++cs.drop ((s+1) * k)=cs.drop (s * k) by rw[show(s+1) * k=s * k+k by rw[Nat.add_mul];omega,← List.drop_drop];exact List.take_append_drop _ _] at this
  exact this
theorem OpT.array {α β:Type} {t e:TypeId} {n:Nat} {δ:α→D} {ε:β→D} (ht:P.underlying t=some (.array n e)) (hc:P.cellsOf t=n * P.cellsOf e) (h:OpT H enc P e δ) (φ:(l:List α)→l.length=n→β) (hφ:∀ l h,(ε (φ l h)).cells=l.flatMap fun a=>(δ a).cells):OpT H enc P t ε:=by
 intro w fuel cs x hx
 obtain⟨xs,m,_,_,hl,hxl,hf⟩:=DataW.trod_array ht hx
 obtain⟨l,hll,hr⟩:=arr_rows h w m cs (P.cellsOf e) n 0 (fun i _ hi=>by
  have:=hf i (by omega)
  rw[List.getElem?_eq_getElem (by omega)] at this
  exact⟨_,this⟩) (by rw[hl,hc,Nat.zero_add])
 refine⟨φ l hll,?_⟩
 rw[hφ]
 simpa using hr
theorem OpT.argS {α:Type} {t:TypeId} {δ:α→D} {cs:Array Value} (h:OpT H enc P t δ) {w:World} {d:DataW H} {p:List MemPlace} (hδ:∀ a,∃ ds,δ a=.agg ds) (ht:DataW.Trod enc P w 0 (fun _=>true) true t (.agg cs) d p):∃ a,Rep w (cF (FA w)) (.agg cs) (δ a):=by
 obtain⟨fuel,hf⟩:=ht
 obtain⟨a,ha⟩:=h w fuel _ _ hf
 refine⟨a,?_⟩
 obtain⟨ds,hd⟩:=hδ a
 rw[hd] at ha ⊢
 have:=ha.agg
 simpa[Value.cells,D.cells] using this
theorem OpT.argStruct {α:Type} {t:TypeId} {fs:Array Field} {δ:α→D} (ht:P.underlying t=some (.struct fs)) (h:OpT H enc P t δ) (hδ:∀ a,∃ ds,δ a=.agg ds) {w:World} {r:Reach} {b0:Nat} {v:Value} {d:DataW H} {p:List MemPlace} (hv:Value.okWide P w r b0 t v) (hd:DataW.Trod enc P w 0 (fun _=>true) true t v d p):∃ a,Rep w (cF (FA w)) v (δ a):=by
 obtain⟨_,rfl,_⟩:=okWide_struct ht hv
 exact h.argS hδ hd
end
open Go.ChangeShapes Go.WideShapes Go.ChangeAt Go.RowKit Go.Joins
theorem bulk_pos {H:Type} (d:DataW H):1≤Rows.uptoBulk d:=by
 cases d with
 | lit l=>cases l<;>simp[Rows.uptoBulk]
 | _=>simp[Rows.uptoBulk]
theorem bulk_mem {H:Type}:∀ {l:List (DataW H)} {d:DataW H},d ∈ l→Rows.uptoBulk d≤Rows.uptoBulkAll l
 | a::l,d,h=>by
  unfold Rows.uptoBulkAll
  rcases List.mem_cons.1 h with rfl|h
  ·omega
  ·have:=bulk_mem h;omega
theorem bulk_len {H:Type}:∀ (l:List (DataW H)),l.length≤Rows.uptoBulkAll l
 | []=>by simp[Rows.uptoBulkAll]
 | a::l=>by
  unfold Rows.uptoBulkAll
  have:=bulk_pos a;have:=bulk_len l
  simp only[List.length_cons];omega
section
variable (H:Type) (enc:TypeId × Value→H) (P:Program) (n:Nat)
def OpTB {α:Type} (t:TypeId) (δ:α→D) (B:α→Prop):Prop :=
 ∀ (w:World) (fuel:Nat) (cs:List Value) (x:DataW H × List MemPlace),DataW.trod enc P w 0 (fun _=>true) true fuel t cs=some x→Rows.uptoBulk x.1≤n→∃ a:α,RepL (cF (FA w)) w cs (δ a).cells∧B a
def OpFB {α:Type} (fs:List Field) (off:Nat) (γ:α→List D) (B:α→Prop):Prop :=
 ∀ (w:World) (fuel:Nat) (cs:List Value),off≤cs.length→(∀ f ∈ fs,∃ x:DataW H × List MemPlace,DataW.trod enc P w 0 (fun _=>true) true fuel f.type ((cs.drop f.offset).take (P.cellsOf f.type))=some x∧Rows.uptoBulk x.1≤n)→(fs=[]→cs.length=off)→(∀ f ∈ fs,f.offset+P.cellsOf f.type≤cs.length)→((fs.map fun f=>P.cellsOf f.type).sum+off=cs.length)→∃ a:α,RepL (cF (FA w)) w (cs.drop off) (γ a)∧B a
end
section
variable {H:Type} {enc:TypeId × Value→H} {P:Program} {n:Nat}
theorem OpTB.int {t:TypeId} {k:IntKind} (ht:P.underlying t=some (.int k)):OpTB H enc P n t (D.int k) (fun _=>True):=by
 intro w fuel cs x h _
 obtain⟨a,ha⟩:=OpT.int ht w fuel cs x h
 exact⟨a,ha,trivial⟩
theorem OpTB.bool {t:TypeId} (ht:P.underlying t=some .bool):OpTB H enc P n t D.bool (fun _=>True):=by
 intro w fuel cs x h _
 obtain⟨a,ha⟩:=OpT.bool ht w fuel cs x h
 exact⟨a,ha,trivial⟩
theorem OpTB.str {t:TypeId} (ht:P.underlying t=some .string):OpTB H enc P n t D.str (fun s=>s.length≤n):=by
 intro w fuel cs x h hn
 obtain⟨s,rfl,rfl,hs⟩:=DataW.trod_string ht h
 refine⟨s.data.toList,RepL.one1 rfl (rep_strB s hs),?_⟩
 simp only[Rows.uptoBulk] at hn
 omega
theorem OpFB.nil {off:Nat}:OpFB H enc P n [] off (fun _:Unit=>[]) (fun _=>True):=by
 intro w fuel cs h1 h2 h3 h4 h5
 refine⟨(),?_,trivial⟩
 rw[List.drop_eq_nil_of_le (by have:=h3 rfl;omega)]
 exact RepL.nil
theorem OpFB.cons {α β:Type} {f:Field} {fs:List Field} {off:Nat} {δ:α→D} {γ:β→List D} {A:α→Prop} {B:β→Prop} (ho:f.offset=off) (h:OpTB H enc P n f.type δ A) (hr:OpFB H enc P n fs (off+P.cellsOf f.type) γ B):OpFB H enc P n (f::fs) off (fun p:α × β=>(δ p.1).cells++γ p.2) (fun p=>A p.1∧B p.2):=by
 intro w fuel cs h1 h2 h3 h4 h5
 subst ho
 obtain⟨x,hx,hxn⟩:=h2 f (by simp)
 obtain⟨a,ha,hA⟩:=h w fuel _ x hx hxn
 have hlen:f.offset+P.cellsOf f.type≤cs.length:=h4 f (by simp)
 simp only[List.map_cons,List.sum_cons] at h5
 obtain⟨b,hb,hB⟩:=hr w fuel cs hlen (fun g hg=>h2 g (by simp[hg])) (fun e=>by subst e;simp at h5;omega) (fun g hg=>h4 g (by simp[hg])) (by omega)
 refine⟨(a,b),?_,hA,hB⟩
 have:=ha.append hb
 rw[show(cs.drop f.offset).take (P.cellsOf f.type)++cs.drop (f.offset+P.cellsOf f.type)=cs.drop f.offset by rw[← List.drop_drop];exact List.take_append_drop _ _] at this
 exact this
theorem OpTB.struct {α β:Type} {t:TypeId} {fs:Array Field} {γ:α→List D} {ε:β→D} {A:α→Prop} {B:β→Prop} (ht:P.underlying t=some (.struct fs)) (hoff:(fs.toList.all fun f=>decide (f.offset+P.cellsOf f.type≤P.cellsOf t))=true) (hsum:(fs.toList.map fun f=>P.cellsOf f.type).sum=P.cellsOf t) (h:OpFB H enc P n fs.toList 0 γ A) (φ:α→β) (hφ:∀ a,(ε (φ a)).cells=γ a) (hB:∀ a,A a→B (φ a)):OpTB H enc P n t ε B:=by
 intro w fuel cs x hx hn
 obtain⟨xs,m,_,rfl,hl,hxl,hf⟩:=DataW.trod_struct ht hx
 obtain⟨a,ha,hA⟩:=h w m cs (Nat.zero_le _) (fun f hf'=>by
  obtain⟨i,hi,rfl⟩:=List.getElem_of_mem hf'
  have hi':fs[i]? = some fs.toList[i]:=by simp at hi ⊢
  have:=hf i _ hi'
  have hix:i < xs.length:=by rw[hxl];simpa using hi
  rw[List.getElem?_eq_getElem hix] at this
  refine⟨_,this,?_⟩
  have h1:=bulk_mem (List.mem_map_of_mem (f:=(·.1)) (List.getElem_mem hix))
  simp only[Rows.uptoBulk] at hn
  omega) (fun e=>by rw[e] at hsum;simp at hsum;omega) (fun f hf'=>by have:=List.all_eq_true.1 hoff f hf';simp at this;omega) (by omega)
 refine⟨φ a,?_,hB a hA⟩
 rw[hφ]
 simpa using ha
theorem OpTB.slice {α:Type} {t e:TypeId} {δ:α→D} {A:α→Prop} (ht:P.underlying t=some (.slice e)) (hpos:0 < P.cellsOf e) (hk:∀ a,(δ a).cells.length=P.cellsOf e) (h:OpTB H enc P n e δ A):OpTB H enc P n t (fun l:List α=>D.sl (l.map δ)) (fun l=>l.length≤n∧∀ a ∈ l,A a):=by
 intro w fuel cs x hx hn
 rcases Deep.open_slice ht hx with⟨rfl,_⟩|⟨a,len,cap,m,f,Dd,Pl,rfl,hb,hl,hm,hmm,rfl,hel⟩
 ·exact⟨[],RepL.one1 rfl (.sl0 _ _ (Nat.zero_le _)),by simp,by simp⟩
 ·simp only[if_true] at hmm
  subst hmm
  by_cases h0:len=0
  ·subst h0
   exact⟨[],RepL.one1 rfl (.sl0 _ _ hm),by simp,by simp⟩
  ·obtain⟨b,off,spot⟩:=a
   obtain⟨c0,hc0,_⟩:=hel 0 (by omega)
   obtain⟨_,hl0,hg0⟩:=World.cells?_some hc0
   have hcell0:=hg0 0 hpos
   have hx0:c0[0]? = some (c0[0]'(by omega)):=List.getElem?_eq_getElem _
   rw[hx0] at hcell0
   have hspot:spot=none:=by simpa[Addr.add] using World.cell?_spot hcell0
   subst hspot
   have hbl:b < w.heap.size:=by
    rcases Nat.lt_or_ge b w.heap.size with h1|h1
    ·exact h1
    ·simp[Addr.add,World.cell?,Array.getElem?_eq_none h1] at hcell0
   simp only[Rows.uptoBulk] at hn
   have hln:=bulk_len ((List.range len).map Dd)
   rw[List.length_map,List.length_range] at hln
   obtain⟨l,vals,h1,h2,h3,h4⟩:=rows_of (w:=w) (b:=b) (off:=off) (k:=P.cellsOf e) (α:={ a:α // A a }) (δ:=fun a=>δ a.1) (fun a=>hk a.1) len 0 (fun i hi=>by
    obtain⟨cs',hc',ht'⟩:=hel i (by omega)
    obtain⟨_,hl',hg'⟩:=World.cells?_some hc'
    refine⟨cs',fun j hj=>?_,hl',?_⟩
    ·have:=hg' j hj
     rw[addr_addO,addr_addO] at this
     rw[← this]
     simp
    ·have hmem:Dd i ∈ (List.range len).map Dd:=List.mem_map_of_mem (List.mem_range.2 hi)
     have:=bulk_mem hmem
     obtain⟨a,ha,hA⟩:=h w f cs' _ ht' (by dsimp only;omega)
     exact⟨⟨a,hA⟩,ha⟩)
   have hmap:l.map (fun a=>δ a.1)=(l.map (·.1)).map δ:=by rw[List.map_map];rfl
   rw[hmap] at h3
   refine⟨l.map (·.1),RepL.one1 rfl ?_,by rw[List.length_map,h1];omega,fun a ha=>?_⟩
   ·have hkk:∀ x ∈ (l.map (·.1)).map δ,x.cells.length=P.cellsOf e:=fun x hx=>by obtain⟨y,_,rfl⟩:=List.mem_map.1 hx;exact hk y
    have:=Rep.sl (w:=w) (C:=cF (FA w)) b off (P.cellsOf e) m ((l.map (·.1)).map δ) vals (by simp[h1];omega) hm hkk h3.len h3.one (fun _ _=>hbl) (fun i v hv=>by have:=h4 i v hv;simpa using this) (fun i v d hv hd=>h3.rep i v d hv hd)
    rw[List.length_map,List.length_map,h1] at this
    exact this
   ·obtain⟨y,_,rfl⟩:=List.mem_map.1 ha
    exact y.2
theorem arr_rowsB {α:Type} {e:TypeId} {δ:α→D} {A:α→Prop} (h:OpTB H enc P n e δ A) (w:World) (fuel:Nat) (cs:List Value) (k:Nat):∀ (m s:Nat),(∀ i,s≤i→i < s+m→∃ x:DataW H × List MemPlace,DataW.trod enc P w 0 (fun _=>true) true fuel e ((cs.drop (i * k)).take k)=some x∧Rows.uptoBulk x.1≤n)→cs.length=(s+m) * k →
  ∃ l:List α,l.length=m∧RepL (cF (FA w)) w (cs.drop (s * k)) (l.flatMap fun a=>(δ a).cells)∧∀ a ∈ l,A a:=by
 intro m
 induction m with
 | zero=>intro s _ hl;exact⟨[],rfl,by rw[List.drop_eq_nil_of_le (by rw[hl];exact Nat.le_refl _)];exact RepL.nil,by simp⟩
 | succ m ih =>
  intro s hx hl
  obtain⟨x,hx0,hxn⟩:=hx s (by omega) (by omega)
  obtain⟨a,ha,hA⟩:=h w fuel _ x hx0 hxn
  obtain⟨l,hll,hr,hAl⟩:=ih (s+1) (fun i h1 h2=>hx i (by omega) (by omega)) (by rw[hl];congr 1;omega)
  refine⟨a::l,by simp[hll],?_,fun b hb=>by
   rcases List.mem_cons.1 hb with rfl|hb
   ·exact hA
   ·exact hAl b hb⟩
  have:=ha.append hr
  rw[show(cs.drop (s * k)).take k++cs.drop ((s+1) * k)=cs.drop (s * k) by rw[show(s+1) * k=s * k+k by rw[Nat.add_mul];omega,← List.drop_drop];exact List.take_append_drop _ _] at this
  exact this
theorem OpTB.array {α β:Type} {t e:TypeId} {m:Nat} {δ:α→D} {ε:β→D} {A:α→Prop} {B:β→Prop} (ht:P.underlying t=some (.array m e)) (hc:P.cellsOf t=m * P.cellsOf e) (h:OpTB H enc P n e δ A) (φ:(l:List α)→l.length=m→β) (hφ:∀ l h,(ε (φ l h)).cells=l.flatMap fun a=>(δ a).cells) (hB:∀ l h,(∀ a ∈ l,A a)→B (φ l h)):OpTB H enc P n t ε B:=by
 intro w fuel cs x hx hn
 obtain⟨xs,k,_,rfl,hl,hxl,hf⟩:=DataW.trod_array ht hx
 obtain⟨l,hll,hr,hA⟩:=arr_rowsB h w k cs (P.cellsOf e) m 0 (fun i _ hi=>by
  have:=hf i (by omega)
  rw[List.getElem?_eq_getElem (by omega)] at this
  refine⟨_,this,?_⟩
  have h1:=bulk_mem (List.mem_map_of_mem (f:=(·.1)) (List.getElem_mem (l:=xs) (n:=i) (by omega)))
  simp only[Rows.uptoBulk] at hn
  omega) (by rw[hl,hc,Nat.zero_add])
 refine⟨φ l hll,?_,hB l hll hA⟩
 rw[hφ]
 simpa using hr
theorem OpTB.argStruct {α:Type} {t:TypeId} {fs:Array Field} {δ:α→D} {B:α→Prop} (ht:P.underlying t=some (.struct fs)) (h:OpTB H enc P n t δ B) (hδ:∀ a,∃ ds,δ a=.agg ds) {w:World} {r:Reach} {b0:Nat} {v:Value} {d:DataW H} {p:List MemPlace} (hv:Value.okWide P w r b0 t v) (hd:DataW.Trod enc P w 0 (fun _=>true) true t v d p) (hn:Rows.uptoBulk d≤n):∃ a,Rep w (cF (FA w)) v (δ a)∧B a:=by
 obtain⟨cs,rfl,_⟩:=okWide_struct ht hv
 obtain⟨fuel,hf⟩:=hd
 obtain⟨a,ha,hB⟩:=h w fuel _ _ hf hn
 refine⟨a,?_,hB⟩
 obtain⟨ds,hd⟩:=hδ a
 rw[hd] at ha ⊢
 have:=ha.agg
 simpa[Value.cells,D.cells] using this
end
end Go.Proofs.YtobglplholhkcaaGreatDoor
