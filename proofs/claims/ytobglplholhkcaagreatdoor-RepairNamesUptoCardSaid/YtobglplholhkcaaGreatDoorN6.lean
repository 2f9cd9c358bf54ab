/- Texts of one proof, put together (V15, V7, V8, V9, V10, V11, V12, V13, V16, V17, V3, V18, Laid9, LT, GDl, EH, V30, LY, Opn, OpnB). No condition but those that each theorem states. -/
import Derived.Test.YtobglplholhkcaaGreatDoorN5
import Derived.Test.YtobglplholhkcaaGreatDoorCards
import Derived.Test.YtobglplholhkcaaGreatDoorTie
import Derived.ProofKit
import Derived.OpenShut
import Derived.Deep.DeepHandedRow
import Derived.Lib.LaidIn
import Derived.Lib.LaidU8T
import Derived.Shelf.Vars
import Derived.Shelf.RegionOpenPlain
import Derived.Deep.RegionLaw
import Derived.Lib.SmallJoins
import Derived.Deep.Slices
import Derived.Deep.Fields
import Derived.Test.YtobglplholhkcaaGreatDoorRows
set_option linter.unusedSimpArgs false
set_option linter.unusedVariables false
namespace Go.Proofs.YtobglplholhkcaaGreatDoor
set_option maxRecDepth 100000
def bnF (d:T_api_Document) (p:T_api_Profile) (l:List Int) (tol:Int) (s:List T_api_Bound) (a:T_api_Event × Nat):(Int ⊕ List T_api_Bound) ⊕ List T_api_Bound :=
 match bsE d p l tol a.2 a.1 with
 | .inl e=>.inl (.inl e)
 | .inr bs=>.inr (s++bs)
def bnR (d:T_api_Document) (p:T_api_Profile) (l:List Int) (tol:Int):Int ⊕ List T_api_Bound:=runF (bnF d p l tol) .inr [] d.Events.zipIdx
theorem bsE_len {d:T_api_Document} {p:T_api_Profile} {l:List Int} {tol:Int} {i:Nat} {x:T_api_Event} {bs:List T_api_Bound} (h:bsE d p l tol i x=.inr bs):bs.length≤12:=by
 unfold bsE at h
 split at h
 ·cases h
 ·split at h
  ·cases h
  ·cases h
   cases d.Events[i+1]?<;>simp[bsA,bsZ,bsT,bsG]
theorem okR_of {p:T_api_Profile} (h:ckS p=0):okR p:=by
 by_cases hr:okR p
 ·exact hr
 ·unfold ckS at h
  simp only[hr,not_false_eq_true,if_true] at h
  split at h<;>cases h
theorem bn_loop (d:T_api_Document) (hd:DocZ d) (hD:DocOK d) (p:T_api_Profile) (hp:okR p) (l:List Int) (hl:l.length≤1000) (tol:Int) (ht:0≤tol∧tol≤5184000):iter (g_repair_Bounds_s1 d p l tol) ([],0)=some (bnR d p l tol):=by
 have hn:=hD.num
 have hlz:d.Events.zipIdx.length=d.Events.length:=List.length_zipIdx
 refine iter_run (step:=g_repair_Bounds_s1 d p l tol) d.Events.zipIdx (by omega) (fun i (s:List T_api_Bound)=>(s,i)) (bnF d p l tol) .inr (fun i s=>s.length≤12 * i) (s0:=[]) (by simp) (fun i hi s hs=>?_) (fun s hs=>by unfold g_repair_Bounds_s1;dsimp only;rw[if_neg (by rw[hlz];simp)])
 have hi':i < d.Events.length:=by omega
 have hm:=List.getElem_mem hi'
 have hx:=hD.ev _ hm
 have hz:=hd.ev _ hm
 rw[show d.Events.zipIdx[i]=(d.Events[i],i) from by simp[List.getElem_zipIdx]]
 have hst:g_repair_Bounds_s1 d p l tol (s,(i:Int))=match bsE d p l tol i d.Events[i] with
   | .inl e=>some (.out (.inl e))
   | .inr bs=>some (.go (s++bs,(i:Int)+1)):=by
  unfold g_repair_Bounds_s1 bsE
  dsimp only
  rw[if_pos (by simpa using hi'),atI_nat hi',wr64 (x:=(i:Int)+1) (by omega)]
  simp only[Option.bind_some]
  generalize d.Events[i]=x at *
  rw[letS_eq x hz hx.runs]
  simp only[Option.bind_some]
  rw[(Needed_eq d.Rate (letS x) p.Reading hd.rate.1 hd.rate.2).1]
  simp only[Option.bind_some]
  have hnd:=needS_bd d.Rate (letS x) p.Reading hd.rate.1 hd.rate.2
  unfold okR at hp
  rw[if_pos (by omega),wr64 (x:=2 * (i:Int)) (by omega),wr64 (x:=2 * (i:Int)+2) (by omega),wr64 (x:=2 * (i:Int)+1) (by omega),wr64 (x:=0 - (needS d.Rate (letS x) p.Reading).1) (by omega),wr64 (x:=0 - p.MinFrames) (by omega),wr64 (x:=2 * (i:Int)+2+1) (by omega),wr64 (x:=0 - p.MinGap) (by omega)]
  simp only[Int.zero_sub]
  rw[bs2_eq p l hl s i (by omega) x _ (by simp;omega)]
  by_cases q1:(zoS l x.Span.In p).2=0
  ·simp only[q1,ne_eq,not_true_eq_false,if_false]
   by_cases q2:(zoS l x.Span.Out p).2=0
   ·simp only[q2,ne_eq,not_true_eq_false,if_false,Option.bind_some]
    rw[bs3_eq tol ht s i (by omega) x hx _ (by simp[bsZ];omega)]
    simp only[Option.bind_some]
    by_cases q3:i+1 < d.Events.length
    ·rw[if_pos (by simp;omega),show(i:Int)+1=((i+1:Nat):Int) by omega,atI_nat q3]
     simp only[Option.bind_some]
     rw[if_pos (by simp[bsZ,bsT];omega),List.getElem?_eq_getElem q3]
     simp only[bsG,bsA,show 2 * (i:Int)+2+1=2 * (i:Int)+3 by omega,List.append_assoc]
    ·rw[if_neg (by simp;omega),List.getElem?_eq_none (by omega)]
     simp only[bsG,bsA,List.append_assoc,List.append_nil]
   ·simp only[q2,ne_eq,not_false_eq_true,if_true];rfl
  ·simp only[q1,ne_eq,not_false_eq_true,if_true];rfl
 rw[hst]
 unfold bnF
 dsimp only
 cases hb:bsE d p l tol i d.Events[i] with
 | inl e=>exact .inl ⟨.inl e,rfl,rfl⟩
 | inr bs =>
  refine .inr ⟨s++bs,rfl,rfl,?_⟩
  have:=bsE_len hb
  simp
  omega
def dcS (d:T_api_Document):Int:=(g_document_Check d).getD 0
theorem dcS_eq (d:T_api_Document) (hd:DocZ d):g_document_Check d=some (dcS d)∧(dcS d=0→DocOK d):=by
 obtain⟨v,h1,h2⟩:=docCheck d hd
 unfold dcS
 rw[h1]
 exact⟨rfl,h2⟩
def ckB (d:T_api_Document) (p:T_api_Profile) (l:List Int) (tol:Int):Int :=
 if dcS d≠0 then dcS d else if ckS p≠0 then ckS p else if shC l≠0 then shC l else if tol < 0∨5184000 < tol then 2 else if 255 < (d.Events.length:Int) then 9 else 0
structure TaskZ (d:T_api_Document) (p:T_api_Profile) (l:List Int):Prop where
 doc:DocZ d
 name:p.Name.length≤1048576
 forb:p.Forbidden.length≤1048576
 shots:l.length≤1000
theorem check_eq {d:T_api_Document} {p:T_api_Profile} {l:List Int} (h:TaskZ d p l) (tol:Int):g_repair_check d p l tol=some (ckB d p l tol):=by
 unfold g_repair_check ckB
 rw[(dcS_eq d h.doc).1,prog_Check p h.name h.forb,shC_eq l h.shots]
 simp only[Option.bind_some,bne_iff_ne]
 by_cases h1:dcS d=0
 ·simp only[h1,ne_eq,not_true_eq_false,if_false]
  by_cases h2:ckS p=0
  ·simp only[h2,ne_eq,not_true_eq_false,if_false]
   by_cases h3:shC l=0
   ·simp only[h3,ne_eq,not_true_eq_false,if_false]
    by_cases h4:tol < 0
    ·simp[h4]
    ·by_cases h5:5184000 < tol
     ·simp[h4,h5]
     ·simp only[h4,h5,decide_false,Bool.false_eq_true,if_false,Option.bind_some,or_self,decide_eq_true_eq]
      split<;>rfl
   ·simp only[h3,ne_eq,not_false_eq_true,if_true]
  ·simp only[h2,ne_eq,not_false_eq_true,if_true]
 ·simp only[h1,ne_eq,not_false_eq_true,if_true]
def bnS (d:T_api_Document) (p:T_api_Profile) (l:List Int) (tol:Int):List T_api_Bound × Int :=
 if ckB d p l tol≠0 then([],ckB d p l tol) else(bnR d p l tol).elim (fun e=>([],e)) (fun bs=>(bs,0))
theorem ckB_0 {d:T_api_Document} {p:T_api_Profile} {l:List Int} {tol:Int} (h:ckB d p l tol=0):dcS d=0∧ckS p=0∧shC l=0∧(0≤tol∧tol≤5184000)∧d.Events.length≤255:=by
 unfold ckB at h
 split at h
 ·exact absurd h ‹_›
 ·split at h
  ·exact absurd h ‹_›
  ·split at h
   ·exact absurd h ‹_›
   ·split at h
    ·cases h
    ·split at h
     ·cases h
     ·omega
theorem bounds_eq {d:T_api_Document} {p:T_api_Profile} {l:List Int} (h:TaskZ d p l) (tol:Int):g_repair_Bounds d p l tol=some (bnS d p l tol):=by
 unfold g_repair_Bounds bnS
 rw[check_eq h]
 simp only[Option.bind_some]
 by_cases h1:ckB d p l tol=0
 ·rw[if_neg (by rw[bne_iff_ne];exact fun q=>q h1),if_neg (fun q=>q h1)]
  obtain⟨a,b,c,e,f⟩:=ckB_0 h1
  rw[bn_loop d h.doc ((dcS_eq d h.doc).2 a) p (okR_of b) l h.shots tol e]
  simp only[Option.bind_some]
  cases bnR d p l tol<;>rfl
 ·rw[if_pos (by rw[bne_iff_ne];exact h1),if_pos h1]
theorem runF_all {α:Type} {F:List T_api_Bound→α→(Int ⊕ List T_api_Bound) ⊕ List T_api_Bound} {P:T_api_Bound→Prop} {Q:α→Prop} (hF:∀ s a s',Q a→F s a=.inr s'→(∀ b ∈ s,P b)→∀ b ∈ s',P b) (hF2:∀ s a e,F s a=.inl e→∃ v,e=.inl v):∀ (L:List α) (s bs:List T_api_Bound),(∀ a ∈ L,Q a)→runF F .inr s L=.inr bs→(∀ b ∈ s,P b)→∀ b ∈ bs,P b
 | [],s,bs,_,h,hs=>by cases h;exact hs
 | a::L,s,bs,hQ,h,hs=>by
  simp only[runF] at h
  cases hf:F s a with
  | inl e =>
   rw[hf] at h
   obtain⟨v,rfl⟩:=hF2 s a e hf
   cases h
  | inr s' =>
   rw[hf] at h
   exact runF_all hF hF2 L s' bs (fun a ha=>hQ a (by simp[ha])) h (hF s a s' (hQ a (by simp)) hf hs)
theorem runF_len {α:Type} {F:List T_api_Bound→α→(Int ⊕ List T_api_Bound) ⊕ List T_api_Bound} (hF:∀ s a s',F s a=.inr s'→s'.length≤s.length+12) (hF2:∀ s a e,F s a=.inl e→∃ v,e=.inl v):∀ (L:List α) (s bs:List T_api_Bound),runF F .inr s L=.inr bs→bs.length≤s.length+12 * L.length
 | [],s,bs,h=>by cases h;simp
 | a::L,s,bs,h=>by
  simp only[runF] at h
  cases hf:F s a with
  | inl e =>
   rw[hf] at h
   obtain⟨v,rfl⟩:=hF2 s a e hf
   cases h
  | inr s' =>
   rw[hf] at h
   have h1:=runF_len hF hF2 L s' bs h
   have h2:=hF s a s' hf
   simp only[List.length_cons]
   omega
theorem bnF_inl {d:T_api_Document} {p:T_api_Profile} {l:List Int} {tol:Int} {s:List T_api_Bound} {a:T_api_Event × Nat} {e:Int ⊕ List T_api_Bound} (h:bnF d p l tol s a=.inl e):∃ v,e=.inl v:=by
 unfold bnF at h
 split at h
 ·cases h;exact⟨_,rfl⟩
 ·cases h
theorem bnF_inr {d:T_api_Document} {p:T_api_Profile} {l:List Int} {tol:Int} {s s':List T_api_Bound} {a:T_api_Event × Nat} (h:bnF d p l tol s a=.inr s'):∃ bs,bsE d p l tol a.2 a.1=.inr bs∧s'=s++bs:=by
 unfold bnF at h
 split at h
 ·cases h
 ·rename_i bs hb;cases h;exact⟨bs,hb,rfl⟩
theorem bnR_ok {d:T_api_Document} {p:T_api_Profile} {l:List Int} (h:TaskZ d p l) {tol:Int} (hc:ckB d p l tol=0) {bs:List T_api_Bound} (hb:bnR d p l tol=.inr bs):BdsOK (2 * d.Events.length+1) bs:=by
 obtain⟨a,b,c,e,f⟩:=ckB_0 hc
 have hD:=(dcS_eq d h.doc).2 a
 have hp:=okR_of b
 have hlz:d.Events.zipIdx.length=d.Events.length:=List.length_zipIdx
 have hlen:=runF_len (fun s a s' hf=>by
  obtain⟨bs,hb,rfl⟩:=bnF_inr hf
  have:=bsE_len hb
  simp;omega) (fun s a e hf=>bnF_inl hf) _ _ _ hb
 simp only[List.length_nil,hlz] at hlen
 refine⟨by omega,by omega,by omega,?_⟩
 refine runF_all (F:=bnF d p l tol) (P:=fun b=>0≤b.I∧b.I < ((2 * d.Events.length+1:Nat):Int)∧0≤b.J∧b.J < ((2 * d.Events.length+1:Nat):Int)∧-1099511627776≤b.C∧b.C≤1099511627776) (Q:=fun a:T_api_Event × Nat=>a.2 < d.Events.length∧EvOK a.1∧(a.2+1=d.Events.length→d.Events[a.2+1]? = none)) ?_ (fun s a e hf=>bnF_inl hf) d.Events.zipIdx [] bs (fun a ha=>?_) hb (by simp)
 ·rintro s ⟨x,i⟩ s' ⟨hi,hx,_⟩ hf hs
  obtain⟨b1,hb1,rfl⟩:=bnF_inr hf
  intro b hbm
  rcases List.mem_append.1 hbm with hbm|hbm
  ·exact hs b hbm
  ·dsimp only at hi hx hb1
   have hsp:=hx.span
   have hnd:=needS_bd d.Rate (letS x) p.Reading h.doc.rate.1 h.doc.rate.2
   unfold okR at hp
   unfold bsE at hb1
   split at hb1
   ·cases hb1
   ·rename_i q1
    split at hb1
    ·cases hb1
    ·rename_i q2
     cases hb1
     have z1:=zoS_bd l h.shots x.Span.In p (by omega)
     have z2:=zoS_bd l h.shots x.Span.Out p (by omega)
     simp only[bsA,bsZ,bsT,List.mem_append,List.mem_cons,List.not_mem_nil,or_false] at hbm
     rcases hbm with(((rfl|rfl|rfl)|(rfl|rfl)|rfl|rfl)|(rfl|rfl)|rfl|rfl)|hg
     all_goals first|(dsimp only;omega)|skip
     by_cases q3:i+1 < d.Events.length
     ·rw[List.getElem?_eq_getElem q3] at hg
      simp only[bsG,List.mem_singleton] at hg
      subst hg
      dsimp only
      omega
     ·rw[List.getElem?_eq_none (by omega)] at hg
      simp[bsG] at hg
 ·obtain⟨j,hj,rfl⟩:=List.getElem_of_mem ha
  have hj':j < d.Events.length:=by omega
  rw[show d.Events.zipIdx[j]=(d.Events[j],j) from by simp[List.getElem_zipIdx]]
  exact⟨hj',hD.ev _ (List.getElem_mem hj'),fun q=>List.getElem?_eq_none (by dsimp only;omega)⟩
theorem mkI_nat {α:Type} (by':Int) (n:Nat) (z:α) (h:(n:Int) * by'≤140737488355328) (h2:n≤9223372036854775807):mkI by' (n:Int) z=some (List.replicate n z):=by
 unfold mkI
 rw[if_pos ⟨by omega,by omega,h⟩]
 rfl
theorem far_eq:far=1152921504606846976:=rfl
theorem fill_far {step:Int × List Int→Option (Nx (Int × List Int) (List Int))} (n:Nat) (hn:n≤1000000) (m:List Int) (hm:m.length=n)
  (hgo:∀ (i:Nat) (y:List Int),i < n→y.length=n→step ((i:Int),y)=some (.go ((i:Int)+1,y.set i far))) (hend:∀ y:List Int,y.length=n→step ((n:Int),y)=some (.out y)):iter step (0,m)=some (List.replicate n far):=by
 obtain⟨e,he,hp⟩:=iter_post (step:=step) (fun x=>∃ i:Nat,x.1=i∧i≤n∧x.2.length=n∧∀ j,j < i→x.2[j]? = some far) (fun x=>n - x.1.toNat) (fun y=>y.length=n∧∀ j,j < n→y[j]? = some far) (x:=(0,m)) ⟨0,rfl,by omega,hm,fun j h=>by omega⟩ (by dsimp only;omega) (by
  rintro⟨x,y⟩ ⟨i,h1,h2,h3,h4⟩
  dsimp only at h1 h3 h4
  subst h1
  by_cases q:i < n
  ·left
   refine⟨_,hgo i y q h3,⟨i+1,by simp,by omega,by simpa using h3,fun j hj=>?_⟩,by dsimp only;omega⟩
   dsimp only
   rw[List.getElem?_set]
   by_cases hij:i=j
   ·rw[if_pos hij,if_pos (by omega)]
   ·rw[if_neg hij];exact h4 j (by omega)
  ·obtain rfl:i=n:=by omega
   exact .inr ⟨_,hend y h3,h3,h4⟩)
 rw[he]
 congr 1
 refine List.ext_getElem? fun j=>?_
 by_cases hj:j < n
 ·rw[hp.2 j hj];simp[hj]
 ·rw[List.getElem?_eq_none (by omega),List.getElem?_eq_none (by simp;omega)]
theorem set_get {x:List Int} {j:Nat}:x.set j (x.getD j 0)=x:=by
 refine List.ext_getElem? fun k=>?_
 rw[List.getElem?_set]
 by_cases h:j=k
 ·subst h
  by_cases hj:j < x.length
  ·simp[hj,List.getD]
  ·simp[hj,List.getElem?_eq_none (show x.length≤j by omega)]
 ·rw[if_neg h]
def RB (n:Nat) (K:Int) (r:List Int):Prop:=r.length=n∧∀ v,v < n→r.getD v 0≠far→-(K * 1099511627776)≤r.getD v 0∧r.getD v 0≤K * 1099511627776
theorem rb_of {l:List Ed} (hc:∀ e ∈ l,-1099511627776≤e.c∧e.c≤1099511627776) {n s k:Nat} {r:List Int} (h:RowS (fun v c=>FW l s k v c) n r):RB n k r :=
 ⟨h.1,fun v hv hf=>fw_bd hc ((h.2 v hv).1 hf)⟩
theorem tlow_prog {src dst:Ed→Nat} {old s:List Int} {e:Ed} (hf:old.getD (src e) 0≠far):s.set (dst e) (if old.getD (src e) 0+e.c < s.getD (dst e) 0 then old.getD (src e) 0+e.c else s.getD (dst e) 0)=tlow src dst old s e:=by
 unfold tlow
 by_cases h:old.getD (src e) 0+e.c < s.getD (dst e) 0
 ·rw[if_pos h,if_pos ⟨hf,h⟩]
 ·rw[if_neg h,if_neg (fun q=>h q.2)];exact set_get
theorem tlow_far {src dst:Ed→Nat} {old s:List Int} {e:Ed} (hf:old.getD (src e) 0=far):tlow src dst old s e=s:=by
 unfold tlow
 rw[if_neg (fun q=>q.1 hf)]
theorem tfold_map {src dst:Ed→Nat} {old:List Int}:∀ (l:List T_api_Bound) (s:List Int),l.foldl (fun s b=>tlow src dst old s (ed b)) s=(eds l).foldl (tlow src dst old) s
 | [],s=>rfl
 | b::l,s=>by rw[List.foldl_cons,tfold_map l];rfl
theorem s6_eq {n:Nat} {l:List T_api_Bound} (hl:BdsOK n l) {K:Int} (hK:K≤1000000) {old:List Int} (ho:RB n K old):iter (g_diffcon_shortest_s6 l old) (0,List.replicate n far)=some (trow (·.i) (·.j) (eds l) old n):=by
 have hn:=hl.n2
 have hlen:=hl.len
 have:=iter_run (step:=g_diffcon_shortest_s6 l old) l (by omega) (fun i (s:List Int)=>(i,s)) (fun s b=>.inr (tlow (·.i) (·.j) old s (ed b))) id (fun i s=>s.length=n) (s0:=List.replicate n far) (by simp)
  (fun i hi s hs=>.inr ⟨_,rfl,by
   have hb:=hl.bd _ (List.getElem_mem hi)
   unfold g_diffcon_shortest_s6
   rw[if_pos (by simpa using hi),atI_nat hi,wr64 (x:=(i:Int)+1) (by omega)]
   simp only[Option.bind_some]
   generalize l[i]=b at hb
   have hol:=ho.1
   have h1:=ho.2 b.I.toNat (by omega)
   rw[atI_getD hb.1 (by omega)]
   simp only[Option.bind_some]
   by_cases q:old.getD b.I.toNat 0=far
   ·rw[if_neg (by rw[bne_iff_ne,← far_eq];exact fun h=>h q),tlow_far (e:=ed b) q]
   ·have h2:=h1 q
    rw[if_pos (by rw[bne_iff_ne,← far_eq];exact q),atI_getD hb.2.2.1 (by omega)]
    simp only[Option.bind_some]
    rw[wr64 (x:=old.getD b.I.toNat 0+b.C) (by omega),setI_toNat _ hb.2.2.1 (by omega)]
    simp only[Option.bind_some]
    rw[← tlow_prog (e:=ed b) (src:=(·.i)) (dst:=(·.j)) q]
    rfl,by rw[tlow_len];exact hs⟩)
  (fun s hs=>by unfold g_diffcon_shortest_s6;rw[if_neg (by simp)];rfl)
 rw[runF_inr] at this
 rw[show((0:Int),List.replicate n far)=(fun i (s:List Int)=>(i,s)) 0 (List.replicate n far) from rfl,this,tfold_map]
 rfl
def row0 (n s:Nat):List Int:=(List.replicate n far).set s 0
theorem s1_eq {n:Nat} (hn:n≤512) (m:List (List Int)) (hm:m.length=n):iter (g_diffcon_shortest_s1 n m) (0,m)=some ((List.range n).map (row0 n)):=by
 obtain⟨e,he,hp⟩:=iter_post (step:=g_diffcon_shortest_s1 n m) (fun x=>∃ i:Nat,x.1=i∧i≤n∧x.2.length=n∧∀ j,j < i→x.2[j]? = some (row0 n j)) (fun x=>n - x.1.toNat) (fun y=>y.length=n∧∀ j,j < n→y[j]? = some (row0 n j)) (x:=(0,m)) ⟨0,rfl,by omega,hm,fun j h=>by omega⟩ (by dsimp only;omega) (by
  rintro⟨x,y⟩ ⟨i,h1,h2,h3,h4⟩
  dsimp only at h1 h3 h4
  subst h1
  unfold g_diffcon_shortest_s1
  dsimp only
  rw[hm]
  by_cases q:i < n
  ·left
   rw[if_pos (by simpa using q),mkI_nat 8 n (0:Int) (by omega) (by omega),atI_nat (show i < y.length by omega),wr64 (x:=(i:Int)+1) (by omega)]
   simp only[Option.bind_some]
   have hfill:=fill_far (step:=g_diffcon_shortest_s2 m) n (by omega) (List.replicate n 0) (by simp)
    (fun k z hk hz=>by
     unfold g_diffcon_shortest_s2
     dsimp only
     rw[hm,if_pos (by simpa using hk),atI_nat (show k < z.length by omega),setI_nat _ (show k < z.length by omega),wr64 (x:=(k:Int)+1) (by omega)]
     rfl)
    (fun z hz=>by unfold g_diffcon_shortest_s2;dsimp only;rw[hm,if_neg (by simp)])
   rw[hfill]
   simp only[Option.bind_some]
   rw[atI_nat (show i < (List.replicate n far).length by simpa using q),setI_nat _ (show i < (List.replicate n far).length by simpa using q)]
   simp only[Option.bind_some]
   refine⟨_,rfl,⟨i+1,by simp,by omega,by simpa using h3,fun j hj=>?_⟩,by dsimp only;omega⟩
   dsimp only
   rw[List.getElem?_set]
   by_cases hij:i=j
   ·subst hij
    simp[show i < y.length by omega,row0]
   ·rw[if_neg (by simpa using hij)];exact h4 j (by omega)
  ·obtain rfl:i=n:=by omega
   rw[if_neg (by simp)]
   exact .inr ⟨_,rfl,h3,h4⟩)
 rw[he]
 congr 1
 refine List.ext_getElem? fun j=>?_
 by_cases hj:j < n
 ·rw[hp.2 j hj];simp[hj]
 ·rw[List.getElem?_eq_none (by omega),List.getElem?_eq_none (by simp;omega)]
def RowsS (l:List Ed) (n k:Nat) (R:List (List Int)):Prop:=R.length=n∧∀ s (h:s < R.length),RowS (fun v c=>FW l s k v c) n R[s]
theorem s4_eq {n:Nat} {l:List T_api_Bound} (hl:BdsOK n l) (m R:List (List Int)) (hm:m.length=n) {k:Nat} (hk:k+1≤n) (hR:RowsS (eds l) n k R):∃ e,iter (g_diffcon_shortest_s4 n l m ((k:Int)+1,R)) (0,R)=some e∧((e=.inl ()∧Cyc (· ∈ eds l) (k+1))∨∃ R',e=.inr R'∧RowsS (eds l) n (k+1) R'∧¬ Cyc (· ∈ eds l) (k+1)):=by
 have hn:=hl.n2
 obtain⟨e,he,hp⟩:=iter_post (step:=g_diffcon_shortest_s4 n l m ((k:Int)+1,R)) (fun x=>∃ i:Nat,x.1=i∧i≤n∧x.2.length=n∧(∀ s (h:s < x.2.length),s < i→RowS (fun v c=>FW (eds l) s (k+1) v c) n x.2[s]∧¬ x.2[s].getD s 0 < 0)∧∀ s (h:s < x.2.length),i≤s→RowS (fun v c=>FW (eds l) s k v c) n x.2[s]) (fun x=>n - x.1.toNat)
  (fun e=>(e=.inl ()∧Cyc (· ∈ eds l) (k+1))∨∃ R',e=.inr R'∧RowsS (eds l) n (k+1) R'∧∀ s (h:s < R'.length),¬ R'[s].getD s 0 < 0) (x:=(0,R)) ⟨0,rfl,by omega,hR.1,fun s h q=>by omega,fun s h _=>hR.2 s h⟩ (by dsimp only;omega) (by
  rintro⟨x,y⟩ ⟨i,h1,h2,h3,h4,h5⟩
  dsimp only at h1 h3 h4 h5
  subst h1
  unfold g_diffcon_shortest_s4
  dsimp only
  rw[hR.1]
  by_cases q:i < n
  ·have hy:=h5 i (by omega) (by omega)
   rw[if_pos (by simpa using q),atI_nat (show i < y.length by omega),mkI_nat 8 n (0:Int) (by omega) (by omega),wr64 (x:=(i:Int)+1) (by omega)]
   simp only[Option.bind_some]
   have hfill:=fill_far (step:=g_diffcon_shortest_s5 m) n (by omega) (List.replicate n 0) (by simp)
    (fun k z hk hz=>by
     unfold g_diffcon_shortest_s5
     dsimp only
     rw[hm,if_pos (by simpa using hk),atI_nat (show k < z.length by omega),setI_nat _ (show k < z.length by omega),wr64 (x:=(k:Int)+1) (by omega)]
     rfl)
    (fun z hz=>by unfold g_diffcon_shortest_s5;dsimp only;rw[hm,if_neg (by simp)])
   rw[hfill]
   simp only[Option.bind_some]
   rw[s6_eq hl (K:=(k:Int)) (by omega) (rb_of hl.cc hy)]
   simp only[Option.bind_some]
   have hrow:=row_f hl.cc hl.inn (by omega) hy
   generalize trow (·.i) (·.j) (eds l) y[i] n=nx at hrow
   rw[atI_getD (x:=nx) (by omega) (by rw[hrow.1];omega)]
   simp only[Option.bind_some,Int.toNat_natCast]
   by_cases hneg:nx.getD i 0 < 0
   ·right
    rw[if_pos (by simpa using hneg)]
    refine⟨_,rfl,.inl ⟨rfl,?_⟩⟩
    obtain⟨L,w,hL,hs⟩:=(hrow.2 i q).1 (by rw[far_eq];omega)
    exact⟨i,L,w,hL,by omega⟩
   ·left
    rw[if_neg (by simpa using hneg)]
    refine⟨_,rfl,⟨i+1,by simp,by omega,by simpa using h3,fun s hs hsi=>?_,fun s hs hsi=>?_⟩,by dsimp only;omega⟩
    ·dsimp only at hs ⊢
     by_cases his:i=s
     ·subst his
      simp only[Int.toNat_natCast,List.getElem_set_self]
      exact⟨hrow,hneg⟩
     ·simp only[Int.toNat_natCast,List.getElem_set_ne his]
      exact h4 s (by simpa using hs) (by omega)
    ·dsimp only at hs ⊢
     have his:i≠s:=by omega
     simp only[Int.toNat_natCast,List.getElem_set_ne his]
     exact h5 s (by simpa using hs) (by omega)
  ·obtain rfl:i=n:=by omega
   rw[if_neg (by simp)]
   exact .inr ⟨_,rfl,.inr ⟨y,rfl,⟨h3,fun s hs=>(h4 s hs (by omega)).1⟩,fun s hs=>(h4 s hs (by omega)).2⟩⟩)
 refine⟨e,he,?_⟩
 rcases hp with hp|⟨R',h1,h2,h3⟩
 ·exact .inl hp
 ·refine .inr ⟨R',h1,h2,fun⟨u,L,w,hL,hs⟩=>?_⟩
  have hu:u < n:=by
   cases L with
   | nil=>simp at hL
   | cons e L=>cases w with|cons h1 _=>exact(hl.inn _ h1).1
  have hu':u < R'.length:=by rw[h2.1];exact hu
  have:=((h2.2 u hu').2 u hu).2 (sumE L) ⟨L,w,hL,rfl⟩
  have:=h3 u hu'
  omega
theorem shortest_eq {n:Nat} {l:List T_api_Bound} (hl:BdsOK n l) (hneg:¬ NoNeg (· ∈ eds l)):∃ k:Nat,g_diffcon_shortest n l=some (k:Int)∧0 < k∧k≤n∧Cyc (· ∈ eds l) k∧Least (· ∈ eds l) k:=by
 have hn:=hl.n2
 obtain⟨k0,hk0,hk1,hk2,hk3⟩:=cyc_of hl.inn hneg
 unfold g_diffcon_shortest
 rw[mkI_nat 24 n _ (by omega) (by omega)]
 simp only[Option.bind_some]
 rw[s1_eq hn _ (by simp)]
 simp only[Option.bind_some]
 obtain⟨e,he,hp⟩:=iter_post (step:=g_diffcon_shortest_s3 n l (List.replicate n [])) (fun x=>∃ k:Nat,x.1=(k:Int)+1∧k < k0∧RowsS (eds l) n k x.2∧Least (· ∈ eds l) (k+1)) (fun x=>n+1 - x.1.toNat)
  (fun e=>∃ k:Nat,e=.inl (k:Int)∧0 < k∧k≤n∧Cyc (· ∈ eds l) k∧Least (· ∈ eds l) k) (x:=(1,(List.range n).map (row0 n))) ⟨0,rfl,hk0,⟨by simp,fun s hs=>by
   have hs':s < n:=by simpa using hs
   have:=row_0 (l:=eds l) (n:=n) hs'
   simpa[row0] using this⟩,fun j hj hc=>by
    obtain rfl:j=0:=by omega
    obtain⟨u,L,w,hL,hs⟩:=hc
    obtain rfl:=List.eq_nil_of_length_eq_zero hL
    simp[sumE] at hs⟩ (by dsimp only;omega) (by
  rintro⟨x,y⟩ ⟨k,h1,h2,h3,h4⟩
  dsimp only at h1 h3
  subst h1
  unfold g_diffcon_shortest_s3
  dsimp only
  rw[if_pos (by simp;omega)]
  obtain⟨e,he,hq⟩:=s4_eq hl (List.replicate n []) y (by simp) (k:=k) (by omega) h3
  rw[he]
  simp only[Option.bind_some]
  rcases hq with⟨rfl,hc⟩|⟨R',rfl,hR',hnc⟩
  ·exact .inr ⟨_,rfl,k+1,by simp,by omega,by omega,hc,h4⟩
  ·left
   rw[wr64 (x:=(k:Int)+1+1) (by omega)]
   have hlt:k+1 < k0:=by
    rcases Nat.lt_or_ge (k+1) k0 with h|h
    ·exact h
    ·obtain rfl:k0=k+1:=by omega
     exact absurd hk2 hnc
   refine⟨_,rfl,⟨k+1,by simp,hlt,hR',fun j hj hc=>?_⟩,by dsimp only;omega⟩
   rcases Nat.lt_succ_iff_lt_or_eq.1 hj with hj|rfl
   ·exact h4 j hj hc
   ·exact hnc hc)
 rw[he]
 obtain⟨k,rfl,h1,h2,h3,h4⟩:=hp
 exact⟨k,rfl,h1,h2,h3,h4⟩
theorem BdsOK.sub {n:Nat} {l t:List T_api_Bound} (h:BdsOK n l) (hs:∀ b ∈ t,b ∈ l) (ht:t.length≤4000):BdsOK n t:=⟨h.n1,h.n2,ht,fun b hb=>h.bd b (hs b hb)⟩
theorem BdsOK.drop {n:Nat} {l:List T_api_Bound} (h:BdsOK n l) (k:Nat):BdsOK n (l.drop k):=h.sub (fun b hb=>List.mem_of_mem_drop hb) (by have:=h.len;simp;omega)
theorem r3_eq {n:Nat} {l:List T_api_Bound} (hl:BdsOK n l) {K:Int} (hK:K≤1000000) {R:List (List Int)} {r:Nat} (hr:0 < r) (hr2:r≤1000) {old:List Int} (hR:R[r - 1]? = some old) (ho:RB n K old):iter (g_diffcon_rests_s3 ((r:Int),R) l) (0,List.replicate n far)=some (trow (·.j) (·.i) (eds l) old n):=by
 have hn:=hl.n2
 have hlen:=hl.len
 have hat:atI R (IntKind.i64.wrap ((r:Int) - 1))=some old:=by
  rw[wr64 (by omega),show((r:Int) - 1)=((r - 1:Nat):Int) by omega]
  obtain⟨h1,h2⟩:=List.getElem?_eq_some_iff.1 hR
  rw[atI_nat h1,h2]
 have:=iter_run (step:=g_diffcon_rests_s3 ((r:Int),R) l) l (by omega) (fun i (s:List Int)=>(i,s)) (fun s b=>.inr (tlow (·.j) (·.i) old s (ed b))) id (fun i s=>s.length=n) (s0:=List.replicate n far) (by simp)
  (fun i hi s hs=>.inr ⟨_,rfl,by
   have hb:=hl.bd _ (List.getElem_mem hi)
   unfold g_diffcon_rests_s3
   rw[if_pos (by simpa using hi),atI_nat hi,wr64 (x:=(i:Int)+1) (by omega)]
   simp only[Option.bind_some]
   rw[hat]
   simp only[Option.bind_some]
   rw[if_pos (by rw[wr64 (by omega)];omega)]
   generalize l[i]=b at hb
   have hol:=ho.1
   have h1:=ho.2 b.J.toNat (by omega)
   rw[atI_getD hb.2.2.1 (by omega)]
   simp only[Option.bind_some]
   by_cases q:old.getD b.J.toNat 0=far
   ·rw[if_neg (by rw[bne_iff_ne,← far_eq];exact fun h=>h q),tlow_far (e:=ed b) q]
   ·have h2:=h1 q
    rw[if_pos (by rw[bne_iff_ne,← far_eq];exact q),atI_getD hb.1 (by omega)]
    simp only[Option.bind_some]
    rw[wr64 (x:=b.C+old.getD b.J.toNat 0) (by omega),setI_toNat _ hb.1 (by omega)]
    simp only[Option.bind_some]
    rw[Int.add_comm b.C,← tlow_prog (e:=ed b) (src:=(·.j)) (dst:=(·.i)) q]
    rfl,by rw[tlow_len];exact hs⟩)
  (fun s hs=>by unfold g_diffcon_rests_s3;rw[if_neg (by simp)];rfl)
 rw[runF_inr] at this
 rw[show((0:Int),List.replicate n far)=(fun i (s:List Int)=>(i,s)) 0 (List.replicate n far) from rfl,this,tfold_map]
 rfl
theorem rb_of' {l:List Ed} (hc:∀ e ∈ l,-1099511627776≤e.c∧e.c≤1099511627776) {n t k:Nat} {r:List Int} (h:RowS (fun u c=>FW l u k t c) n r):RB n k r :=
 ⟨h.1,fun v hv hf=>fw_bd hc ((h.2 v hv).1 hf)⟩
theorem subL_nat {α:Type} (l:List α) {k:Nat} (h:k≤l.length):subL l (k:Int)=some (l.drop k):=by
 unfold subL
 rw[if_pos ⟨by omega,by omega⟩,Int.toNat_natCast,List.take_of_length_le (by simp)]
def RestS (l:List Ed) (n t:Nat) (h:List (List Int)):Prop:=∀ r (hr:r < h.length),RowS (fun u c=>FW l u r t c) n h[r]
theorem rests_eq {n:Nat} {l:List T_api_Bound} (hl:BdsOK n l) {first size:Nat} {t:Int} (hf:first < l.length) (hs:size≤1000) (ht0:0≤t) (ht1:t < (n:Int)):∃ h,g_diffcon_rests n l (first:Int) (size:Int) t=some h∧h.length=size∧RestS (eds (l.drop (first+1))) n t.toNat h:=by
 have hn:=hl.n2
 have hlen:=hl.len
 have hl':=hl.drop (first+1)
 unfold g_diffcon_rests
 rw[mkI_nat 24 size _ (by omega) (by omega)]
 simp only[Option.bind_some]
 obtain⟨e,he,hp⟩:=iter_post (step:=g_diffcon_rests_s1 n l (first:Int) t (List.replicate size [])) (fun x=>∃ r:Nat,x.1=r∧r≤size∧x.2.length=size∧∀ j (h:j < x.2.length),j < r→RowS (fun u c=>FW (eds (l.drop (first+1))) u j t.toNat c) n x.2[j]) (fun x=>size - x.1.toNat)
  (fun h=>h.length=size∧RestS (eds (l.drop (first+1))) n t.toNat h) (x:=(0,List.replicate size [])) ⟨0,rfl,by omega,by simp,fun j h q=>by omega⟩ (by dsimp only;omega) (by
  rintro⟨x,y⟩ ⟨r,h1,h2,h3,h4⟩
  dsimp only at h1 h3 h4
  subst h1
  unfold g_diffcon_rests_s1
  dsimp only
  rw[List.length_replicate]
  by_cases q:r < size
  ·left
   rw[if_pos (by simpa using q),mkI_nat 8 n (0:Int) (by omega) (by omega),atI_nat (show r < y.length by omega),wr64 (x:=(r:Int)+1) (by omega)]
   simp only[Option.bind_some]
   have hfill:=fill_far (step:=g_diffcon_rests_s2 (List.replicate n 0)) n (by omega) (List.replicate n 0) (by simp)
    (fun k z hk hz=>by
     unfold g_diffcon_rests_s2
     dsimp only
     rw[List.length_replicate,if_pos (by simpa using hk),atI_nat (show k < z.length by omega),setI_nat _ (show k < z.length by omega),wr64 (x:=(k:Int)+1) (by omega)]
     rfl)
    (fun z hz=>by unfold g_diffcon_rests_s2;dsimp only;rw[List.length_replicate,if_neg (by simp)])
   rw[hfill]
   simp only[Option.bind_some]
   have fin:∀ nx:List Int,RowS (fun u c=>FW (eds (l.drop (first+1))) u r t.toNat c) n nx→∃ i:Nat,(r:Int)+1=i∧i≤size∧(y.set (r:Int).toNat nx).length=size∧∀ j (h:j < (y.set (r:Int).toNat nx).length),j < i→RowS (fun u c=>FW (eds (l.drop (first+1))) u j t.toNat c) n (y.set (r:Int).toNat nx)[j]:=by
    intro nx hnx
    refine⟨r+1,by simp,by omega,by simpa using h3,fun j hj hjr=>?_⟩
    by_cases hrj:r=j
    ·subst hrj;simpa using hnx
    ·simp only[Int.toNat_natCast,List.getElem_set_ne hrj]
     exact h4 j (by simpa using hj) (by omega)
   by_cases q0:r=0
   ·subst q0
    rw[if_pos (by simp),show(0:Int)=((0:Nat):Int) from rfl,atI_nat (show 0 < y.length by omega)]
    simp only[Option.bind_some]
    rw[atI_getD (x:=List.replicate n far) ht0 (by simpa using ht1),setI_toNat _ ht0 (by simpa using ht1)]
    simp only[Option.bind_some]
    exact⟨_,rfl,fin _ (row_0b (by omega)),by dsimp only;omega⟩
   ·rw[if_neg (by simpa using q0),wr64 (x:=(first:Int)+1) (by omega),show((first:Int)+1)=((first+1:Nat):Int) by omega,subL_nat l (by omega)]
    simp only[Option.bind_some]
    have hold:=h4 (r - 1) (by omega) (by omega)
    rw[r3_eq hl' (K:=((r - 1:Nat):Int)) (by omega) (by omega) (by omega) (List.getElem?_eq_some_iff.2 ⟨by omega,rfl⟩) (by
     have:=rb_of' hl'.cc hold
     exact this)]
    simp only[Option.bind_some]
    have:=row_b hl'.cc hl'.inn (by omega) hold
    rw[show r - 1+1=r by omega] at this
    exact⟨_,rfl,fin _ this,by dsimp only;omega⟩
  ·obtain rfl:r=size:=by omega
   rw[if_neg (by simp)]
   exact .inr ⟨_,rfl,h3,fun j hj=>h4 j hj (by omega)⟩)
 rw[he]
 exact⟨e,rfl,hp.1,hp.2⟩
def eAt (l:List T_api_Bound) (i:Int):Ed:=(eds l).getD i.toNat ⟨0,0,0⟩
theorem eAt_nat {l:List T_api_Bound} {i:Nat} (h:i < l.length):eAt l (i:Int)=ed l[i]:=by
 simp[eAt,eds,List.getD,h]
structure CfOK (l:List T_api_Bound) (k:Nat) (out:List Int):Prop where
 len:out.length=k
 idx:∀ i ∈ out,0≤i∧i < (l.length:Int)
 cyc:∃ u,Wlk (· ∈ eds l) u u (out.map (eAt l))
 neg:sumE (out.map (eAt l)) < 0
theorem c3_eq {n:Nat} {l:List T_api_Bound} (hl:BdsOK n l) {first:Nat} {h:List (List Int)} {rw_:List Int} {at_ sum r:Int} {out:List Int} {K:Int} (hK:0≤K∧K≤1000000) (hr:atI h r=some rw_) (hrow:RB n K rw_) (hsum:-(K * 1099511627776)≤sum∧sum≤K * 1099511627776) (ho:out.length≤1000) (hf:first+1≤l.length)
  (hex:∃ i,∃ q:i < l.length,first < i∧l[i].I=at_∧rw_.getD l[i].J.toNat 0≠far∧sum+l[i].C+rw_.getD l[i].J.toNat 0 < 0) :
  ∃ i,∃ q:i < l.length,first < i∧l[i].I=at_∧rw_.getD l[i].J.toNat 0≠far∧sum+l[i].C+rw_.getD l[i].J.toNat 0 < 0∧iter (g_diffcon_conflict_s3 l h (at_,sum,r,out)) ((first:Int)+1)=some (out++[(i:Int)],l[i].J,sum+l[i].C):=by
 have hlen:=hl.len
 obtain⟨i0,hi0,hc0,hc1,hc2,hc3⟩:=hex
 obtain⟨e,he,hp⟩:=iter_post (step:=g_diffcon_conflict_s3 l h (at_,sum,r,out)) (fun x=>∃ i:Nat,x=i∧first < i∧i≤i0) (fun x=>l.length - x.toNat)
  (fun e=>∃ i,∃ q:i < l.length,first < i∧l[i].I=at_∧rw_.getD l[i].J.toNat 0≠far∧sum+l[i].C+rw_.getD l[i].J.toNat 0 < 0∧e=(out++[(i:Int)],l[i].J,sum+l[i].C)) (x:=(first:Int)+1) ⟨first+1,by simp,by omega,by omega⟩ (by omega) (by
  rintro x ⟨i,rfl,h1,h2⟩
  have hi:i < l.length:=by omega
  have hb:=hl.bd _ (List.getElem_mem hi)
  unfold g_diffcon_conflict_s3
  dsimp only
  rw[if_pos (by simpa using hi),atI_nat hi,wr64 (x:=(i:Int)+1) (by omega)]
  simp only[Option.bind_some]
  have nxt:¬ (l[i].I=at_∧rw_.getD l[i].J.toNat 0≠far∧sum+l[i].C+rw_.getD l[i].J.toNat 0 < 0)→∃ x',(some (.go ((i:Int)+1)):Option (Nx Int (List Int × Int × Int)))=some (.go x')∧(∃ j:Nat,x'=j∧first < j∧j≤i0)∧l.length - x'.toNat < l.length - (i:Int).toNat:=by
   intro hno
   have:i≠i0:=fun e=>by subst e;exact hno ⟨hc1,hc2,hc3⟩
   exact⟨_,rfl,⟨i+1,by simp,by omega,by omega⟩,by omega⟩
  by_cases q1:l[i].I=at_
  ·rw[if_pos (by simpa using q1),hr]
   simp only[Option.bind_some]
   have hrl:=hrow.1
   have hrv:=hrow.2 l[i].J.toNat (by omega)
   rw[atI_getD hb.2.2.1 (by omega)]
   simp only[Option.bind_some]
   by_cases q2:rw_.getD l[i].J.toNat 0=far
   ·rw[if_neg (by rw[bne_iff_ne,← far_eq];exact fun h=>h q2)]
    simp only[Option.bind_some,Bool.false_eq_true,if_false]
    exact .inl (nxt fun h=>h.2.1 q2)
   ·have h3:=hrv q2
    rw[if_pos (by rw[bne_iff_ne,← far_eq];exact q2),wr64 (x:=sum+l[i].C) (by omega),wr64 (x:=sum+l[i].C+rw_.getD l[i].J.toNat 0) (by omega)]
    simp only[Option.bind_some]
    by_cases q3:sum+l[i].C+rw_.getD l[i].J.toNat 0 < 0
    ·rw[if_pos (by simpa using q3),if_pos (by omega)]
     exact .inr ⟨_,rfl,i,hi,h1,q1,q2,q3,rfl⟩
    ·rw[if_neg (by simpa using q3)]
     exact .inl (nxt fun h=>q3 h.2.2)
  ·rw[if_neg (by simpa using q1)]
   simp only[Option.bind_some,Bool.false_eq_true,if_false]
   exact .inl (nxt fun h=>q1 h.1))
 obtain⟨i,q,a1,a2,a3,a4,rfl⟩:=hp
 exact⟨i,q,a1,a2,a3,a4,he⟩
theorem RB.mono {n:Nat} {K K':Int} {r:List Int} (h:RB n K r) (hk:K≤K'):RB n K' r :=
 ⟨h.1,fun v hv hf=>by have:=h.2 v hv hf;omega⟩
theorem mem_drop {l:List T_api_Bound} {k:Nat} {e:Ed} (h:e ∈ eds (l.drop k)):∃ i,∃ q:i < l.length,k≤i∧ed l[i]=e:=by
 obtain⟨b,hb,rfl⟩:=List.mem_map.1 h
 obtain⟨j,hj,rfl⟩:=List.getElem_of_mem hb
 simp only[List.length_drop] at hj
 exact⟨k+j,by omega,by omega,by simp⟩
structure BkI (n:Nat) (l:List T_api_Bound) (first t k:Nat) (r a:Nat) (sum:Int) (out:List Int):Prop where
 an:a < n
 len:out.length+r=k
 idx:∀ i ∈ out,0≤i∧i < (l.length:Int)
 wlk:Wlk (· ∈ eds l) t a (out.map (eAt l))
 tot:sumE (out.map (eAt l))=sum
 rest:∃ L,Wlk (· ∈ eds (l.drop (first+1))) a t L∧L.length=r∧sum+sumE L < 0
theorem eAt_mem {l:List T_api_Bound} {i:Int} (h0:0≤i) (h1:i < (l.length:Int)):eAt l i ∈ eds l:=by
 obtain⟨i,rfl⟩:=Int.eq_ofNat_of_zero_le h0
 have hi:i < l.length:=by omega
 rw[eAt_nat hi]
 exact List.mem_map_of_mem (List.getElem_mem hi)
theorem sum_out {n:Nat} {l:List T_api_Bound} (hl:BdsOK n l) {out:List Int} (h:∀ i ∈ out,0≤i∧i < (l.length:Int)) (ho:out.length≤1000):-(1000 * 1099511627776)≤sumE (out.map (eAt l))∧sumE (out.map (eAt l))≤1000 * 1099511627776:=by
 have:=sumE_bd hl.cc (out.map (eAt l)) (fun e he=>by
  obtain⟨i,hi,rfl⟩:=List.mem_map.1 he
  exact eAt_mem (h i hi).1 (h i hi).2)
 simp only[List.length_map] at this
 omega
theorem c2_eq {n:Nat} {l:List T_api_Bound} (hl:BdsOK n l) {first t k:Nat} (hk:k≤1000) (hf:first < l.length) (ht:t < n) {h:List (List Int)} (hh:h.length=k) (hR:RestS (eds (l.drop (first+1))) n t h) {a0:Nat} {sum0:Int} {out0:List Int} {r0:Nat} (h0:BkI n l first t k r0 a0 sum0 out0) :
  ∃ out,iter (g_diffcon_conflict_s2 l (first:Int) h) ((a0:Int),sum0,(r0:Int) - 1,out0)=some out∧CfOK l k out:=by
 have hlen:=hl.len
 have hl':=hl.drop (first+1)
 refine iter_post (step:=g_diffcon_conflict_s2 l (first:Int) h) (fun x=>∃ r a:Nat,x.1=a∧x.2.2.1=(r:Int) - 1∧BkI n l first t k r a x.2.1 x.2.2.2) (fun x=>(x.2.2.1+1).toNat) (fun out=>CfOK l k out) (x:=((a0:Int),sum0,(r0:Int) - 1,out0)) ⟨r0,a0,rfl,rfl,h0⟩ (by have:=h0.len;dsimp only;omega) ?_
 rintro⟨xa,sum,xr,out⟩ ⟨r,a,h1,h2,hI⟩
 dsimp only at h1 h2 hI
 subst h1 h2
 have hol:=hI.len
 unfold g_diffcon_conflict_s2
 dsimp only
 by_cases q:r=0
 ·subst q
  rw[if_neg (by simp)]
  right
  obtain⟨L,w,hL,hs⟩:=hI.rest
  obtain rfl:=List.eq_nil_of_length_eq_zero hL
  have:=w.nil_eq
  subst this
  exact⟨_,rfl,⟨by omega,hI.idx,⟨a,hI.wlk⟩,by rw[hI.tot];simpa[sumE] using hs⟩⟩
 ·obtain⟨r,rfl⟩:∃ m,r=m+1:=⟨r - 1,by omega⟩
  left
  rw[if_pos (by rw[decide_eq_true_eq];omega),wr64 (x:=(first:Int)+1) (by omega)]
  have hrk:r < h.length:=by omega
  have hrow:=hR r hrk
  have hsum:=sum_out hl hI.idx (by omega)
  rw[hI.tot] at hsum
  have hat:atI h ((((r+1:Nat):Int) - 1))=some h[r]:=by
   rw[show(((r+1:Nat):Int) - 1)=((r:Nat):Int) by omega,atI_nat hrk]
  obtain⟨i,qi,a1,a2,a3,a4,a5⟩:=c3_eq hl (first:=first) (h:=h) (at_:=(a:Int)) (sum:=sum) (r:=((r+1:Nat):Int) - 1) (out:=out) (K:=1000) ⟨by omega,by omega⟩ hat ((rb_of' hl'.cc hrow).mono (by omega)) hsum (by omega) (by omega) (by
   obtain⟨L,w,hL,hs⟩:=hI.rest
   cases L with
   | nil=>simp at hL
   | cons e L =>
    cases w with
    | cons he w2 =>
     obtain⟨i,qi,hki,hei⟩:=mem_drop he
     subst hei
     have hb:=hl.bd _ (List.getElem_mem qi)
     have hj:(ed l[i]).j < n:=by simp only[ed];omega
     have hle:=(hrow.2 (ed l[i]).j hj).2 (sumE L) ⟨L,w2,by simpa using hL,rfl⟩
     have hbd:=sumE_bd hl'.cc L w2.mem
     have hLr:L.length=r:=by simpa using hL
     have hje:(ed l[i]).j=l[i].J.toNat:=rfl
     have hce:(ed l[i]).c=l[i].C:=rfl
     rw[hje] at hle
     simp only[sumE,hce] at hs
     refine⟨i,qi,by omega,?_,?_,by omega⟩
     ·show l[i].I=(((ed l[i]).i:Nat):Int)
      simp only[ed];omega
     ·rw[far_eq];omega)
  rw[a5]
  simp only[Option.bind_some]
  have hb:=hl.bd _ (List.getElem_mem qi)
  rw[wr64 (x:=(((r+1:Nat):Int) - 1) - 1) (by omega)]
  refine⟨_,rfl,⟨r,l[i].J.toNat,by dsimp only;omega,by dsimp only;omega,?_⟩,by dsimp only;omega⟩
  dsimp only
  obtain⟨L,w,hL,hs⟩:=(hrow.2 l[i].J.toNat (by omega)).1 a3
  refine⟨by omega,by simp;omega,fun j hj=>?_,?_,?_,⟨L,w,hL,by omega⟩⟩
  ·rcases List.mem_append.1 hj with hj|hj
   ·exact hI.idx j hj
   ·simp only[List.mem_singleton] at hj;subst hj;omega
  ·rw[List.map_append,List.map_cons,List.map_nil,eAt_nat qi]
   exact hI.wlk.snoc (List.mem_map_of_mem (List.getElem_mem qi)) (by simp only[ed];omega)
  ·rw[List.map_append,List.map_cons,List.map_nil,eAt_nat qi,sumE_app,hI.tot]
   simp[sumE,ed]
theorem conflict_eq {n:Nat} {l:List T_api_Bound} (hl:BdsOK n l) {k:Nat} (hk0:0 < k) (hk:k≤1000):∃ out,g_diffcon_conflict n l (k:Int)=some out∧(out=[]∨CfOK l k out):=by
 have hlen:=hl.len
 have hn:=hl.n2
 obtain⟨e,he,hp⟩:=iter_post (step:=g_diffcon_conflict_s1 n l (k:Int)) (fun x=>∃ i:Nat,x=i∧i≤l.length) (fun x=>l.length - x.toNat) (fun e=>e=.inr ()∨∃ out,e=.inl out∧CfOK l k out) (x:=0) ⟨0,rfl,by omega⟩ (by omega) (by
  rintro x ⟨i,rfl,hi⟩
  unfold g_diffcon_conflict_s1
  by_cases q:i < l.length
  ·have hb:=hl.bd _ (List.getElem_mem q)
   rw[if_pos (by simpa using q),atI_nat q,wr64 (x:=(i:Int)+1) (by omega),wr64 (x:=(k:Int) - 1) (by omega),wr64 (x:=(k:Int) - 2) (by omega)]
   simp only[Option.bind_some]
   obtain⟨h,hh,hlh,hR⟩:=rests_eq hl (first:=i) (size:=k) (t:=l[i].I) q hk hb.1 hb.2.1
   rw[hh]
   simp only[Option.bind_some]
   have hkh:k - 1 < h.length:=by omega
   rw[show(k:Int) - 1=((k - 1:Nat):Int) by omega,atI_nat hkh]
   simp only[Option.bind_some]
   have hrow:=hR (k - 1) hkh
   have hrb:=rb_of' (hl.drop (i+1)).cc hrow
   generalize hrw:h[k - 1]=rw_ at hrow hrb
   have hrl:=hrb.1
   have hrv:=hrb.2 l[i].J.toNat (by omega)
   rw[atI_getD hb.2.2.1 (by omega)]
   simp only[Option.bind_some]
   have nxt:∃ x',(some (.go ((i:Int)+1)):Option (Nx Int (List Int ⊕ Unit)))=some (.go x')∧(∃ j:Nat,x'=j∧j≤l.length)∧l.length - x'.toNat < l.length - (i:Int).toNat:=⟨_,rfl,⟨i+1,by simp,by omega⟩,by omega⟩
   by_cases q2:rw_.getD l[i].J.toNat 0=far
   ·rw[if_pos (by rw[beq_iff_eq,← far_eq];exact q2)]
    simp only[Option.bind_some,if_true]
    exact .inl nxt
   ·have h3:=hrv q2
    rw[if_neg (by rw[beq_iff_eq,← far_eq];exact q2),wr64 (x:=l[i].C+rw_.getD l[i].J.toNat 0) (by omega)]
    simp only[Option.bind_some]
    by_cases q3:0≤l[i].C+rw_.getD l[i].J.toNat 0
    ·rw[if_pos (by simpa using q3)]
     exact .inl nxt
    ·rw[if_neg (by simpa using q3)]
     right
     obtain⟨L,w,hL,hs⟩:=(hrow.2 l[i].J.toNat (by omega)).1 q2
     obtain⟨out,ho,hc⟩:=c2_eq hl (first:=i) (t:=l[i].I.toNat) (k:=k) hk q (by omega) hlh hR (a0:=l[i].J.toNat) (sum0:=l[i].C) (out0:=[(i:Int)]) (r0:=k - 1) ⟨by omega,by simp;omega,by intro j hj;simp only[List.mem_singleton] at hj;subst hj;omega,by
       rw[List.map_cons,List.map_nil,eAt_nat q]
       exact .cons (List.mem_map_of_mem (List.getElem_mem q)) (.nil _),by rw[List.map_cons,List.map_nil,eAt_nat q];simp[sumE,ed],⟨L,w,hL,by omega⟩⟩
     rw[show((l[i].J.toNat:Nat):Int)=l[i].J by omega,show((k - 1:Nat):Int) - 1=(k:Int) - 2 by omega] at ho
     rw[ho]
     exact⟨_,rfl,.inr ⟨out,rfl,hc⟩⟩
  ·obtain rfl:i=l.length:=by omega
   rw[if_neg (by simp)]
   exact .inr ⟨_,rfl,.inl rfl⟩)
 unfold g_diffcon_conflict
 rw[he]
 rcases hp with rfl|⟨out,rfl,hc⟩
 ·exact⟨[],rfl,.inl rfl⟩
 ·exact⟨out,rfl,.inr hc⟩
theorem dcCheck_eq {n:Nat} {l:List T_api_Bound} (hl:BdsOK n l):g_diffcon_Check n l=some 0:=by
 have hlen:=hl.len
 have hn:=hl.n2
 have hn1:=hl.n1
 unfold g_diffcon_Check
 have a1:¬ (n:Int) < 1:=by omega
 have a2:¬ (512:Int) < (n:Int):=by omega
 simp only[a1,a2,decide_false,Bool.false_eq_true,if_false,Option.bind_some]
 rw[if_neg (by simp;omega)]
 obtain⟨e,he,hp⟩:=iter_cnt (step:=g_diffcon_Check_s1 n l) l.length (by omega) (fun _=>True) (fun e=>e=.inr ()) trivial (fun i hi _=>by
  have hb:=hl.bd _ (List.getElem_mem hi)
  unfold g_diffcon_Check_s1
  rw[if_pos (by simpa using hi),atI_nat hi,wr64 (x:=(i:Int)+1) (by omega)]
  simp only[Option.bind_some]
  have b1:¬ l[i].I < 0:=by omega
  have b2:¬ (n:Int)≤l[i].I:=by omega
  have b3:¬ l[i].J < 0:=by omega
  have b4:¬ (n:Int)≤l[i].J:=by omega
  have b5:¬ l[i].C < -1099511627776:=by omega
  have b6:¬ 1099511627776 < l[i].C:=by omega
  simp only[b1,b2,b3,b4,b5,b6,decide_false,Bool.false_eq_true,if_false,Option.bind_some]
  exact .inl ⟨by first|rfl|trivial,trivial⟩) (fun _=>by
  unfold g_diffcon_Check_s1
  exact⟨_,by rw[if_neg (by simp)],rfl⟩)
 rw[he,hp]
 rfl
theorem solve_eq {n:Nat} {l:List T_api_Bound} (hl:BdsOK n l):(NoNeg (· ∈ eds l)∧g_diffcon_Solve n l=some (sol n l,[],0))∨(¬ NoNeg (· ∈ eds l)∧∃ out,g_diffcon_Solve n l=some ([],out,16)∧(out=[]∨∃ k,0 < k∧k≤n∧Least (· ∈ eds l) k∧CfOK l k out)):=by
 have hn:=hl.n2
 obtain⟨r,hr,hc⟩:=relax_eq hl
 have hs:g_diffcon_Solve n l=(if r.1 then(some (r.2,[],0)) else((g_diffcon_shortest n l).bind fun r45=>((g_diffcon_conflict n l r45).bind fun r47=>(some ([],r47,16))))):=by
  unfold g_diffcon_Solve
  rw[dcCheck_eq hl,mkI_nat 8 n _ (by omega) (by omega)]
  simp only[Option.bind_some,bne_self_eq_false,Bool.false_eq_true,if_false]
  rw[show List.replicate n (0:Int)=x0 n from rfl,hr]
  rfl
 rw[hs]
 rcases hc with⟨h1,rfl⟩|⟨h1,h2⟩
 ·exact .inl ⟨h1,rfl⟩
 ·right
  obtain⟨k,hk,k0,kn,_,kl⟩:=shortest_eq hl h1
  obtain⟨out,ho,hco⟩:=conflict_eq hl k0 (by omega)
  rw[h2,hk]
  simp only[Bool.false_eq_true,if_false,Option.bind_some]
  rw[ho]
  refine⟨h1,out,rfl,?_⟩
  rcases hco with rfl|hco
  ·exact .inl rfl
  ·exact .inr ⟨k,k0,kn,kl,hco⟩
theorem clU {l:List T_api_Run} (h:l.length≤1048576):g_slices_Clone_api_Run_api_Run l=some l:=by unfold g_slices_Clone_api_Run_api_Run;rw[if_pos (by omega)]
theorem clR {l:List T_api_Row} (h:l.length≤1048576):g_slices_Clone_api_Row_api_Row l=some l:=by unfold g_slices_Clone_api_Row_api_Row;rw[if_pos (by omega)]
theorem clE {l:List T_api_Event} (h:l.length≤1048576):g_slices_Clone_api_Event_api_Event l=some l:=by unfold g_slices_Clone_api_Event_api_Event;rw[if_pos (by omega)]
theorem clG {l:List T_api_Region} (h:l.length≤1048576):g_slices_Clone_api_Region_api_Region l=some l:=by unfold g_slices_Clone_api_Region_api_Region;rw[if_pos (by omega)]
theorem clC {l:List T_api_Comment} (h:l.length≤1048576):g_slices_Clone_api_Comment_api_Comment l=some l:=by unfold g_slices_Clone_api_Comment_api_Comment;rw[if_pos (by omega)]
theorem same_loop {α:Type} {step:Int × List α→Option (Nx (Int × List α) (List α))} (l:List α) (hn:l.length≤9223372036854775807) (hgo:∀ (i:Nat) (h:i < l.length),step ((i:Int),l)=some (.go ((i:Int)+1,l))) (hend:step ((l.length:Int),l)=some (.out l)):iter step (0,l)=some l:=by
 have:=iter_run (step:=step) l hn (fun i (_:Unit)=>(i,l)) (fun _ _=>.inr ()) (fun _=>l) (fun _ _=>True) (s0:=()) trivial (fun i hi _ _=>.inr ⟨(),rfl,hgo i hi,trivial⟩) (fun _ _=>hend)
 rw[show((0:Int),l)=(fun i (_:Unit)=>(i,l)) 0 () from rfl,this]
 congr 1
 have:∀ t:List α,runF (fun(_:Unit) (_:α)=>(.inr ():List α ⊕ Unit)) (fun _=>l) () t=l:=by
  intro t
  induction t with
  | nil=>rfl
  | cons a t ih=>simp only[runF];exact ih
 exact this l
theorem set_same {α:Type} {l:List α} {i:Nat} (h:i < l.length):setI l (i:Int) l[i]=some l:=by
 rw[setI_nat _ h];simp
theorem styClone (rows:List T_api_Row) (h:rows.length≤1048576) (hr:∀ r ∈ rows,r.Runs.length≤1048576):g_style_Clone rows=some rows:=by
 unfold g_style_Clone
 cases rows with
 | nil =>
  simp only[List.isEmpty_nil,if_true]
  rw[clR (by simp)]
  simp only[Option.bind_some]
  have:iter (g_style_Clone_s1 []) ()=some ():=by
   refine iter_of (fun x e=>True) (fun _=>0) ?_ (x:=()) trivial (by decide)
   intro x e _
   right
   unfold g_style_Clone_s1
   rw[if_neg (by simp)]
  rw[this]
  rfl
 | cons a t =>
  simp only[List.isEmpty_cons,Bool.false_eq_true,if_false]
  generalize hl:a::t=l at *
  have hne:l.isEmpty=false:=by rw[← hl];rfl
  rw[show g_slices_Clone_api_Row_api_Row_nw l=some l from by unfold g_slices_Clone_api_Row_api_Row_nw;rw[hne];exact clR h]
  simp only[Option.bind_some]
  rw[same_loop l (by omega) (fun i hi=>by
   unfold g_style_Clone_s2
   dsimp only
   rw[if_pos (by simpa using hi),atI_nat hi,wr64 (x:=(i:Int)+1) (by omega)]
   simp only[Option.bind_some]
   have hz:=hr _ (List.getElem_mem hi)
   rw[clU hz,show g_slices_Clone_api_Run_api_Run_nw l[i].Runs=if l[i].Runs.isEmpty then none else some l[i].Runs from by unfold g_slices_Clone_api_Run_api_Run_nw;rw[clU hz]]
   have hs:setI l (i:Int) (T_api_Row.mk l[i].Runs)=some l:=set_same hi
   cases hq:l[i].Runs.isEmpty with
   | true=>simp only[if_true,Option.bind_some];rw[hs];rfl
   | false=>simp only[Bool.false_eq_true,if_false,Option.bind_some];rw[hs];rfl) (by unfold g_style_Clone_s2;dsimp only;rw[if_neg (by simp)])]
  rfl
theorem evClone (e:T_api_Event) (h:EvZ e):g_event_Clone e=some e:=by
 unfold g_event_Clone
 rw[styClone _ h.1 (fun r hr=>(h.2 r hr).2)]
 rfl
theorem dcl_loop (l:List T_api_Event) (h:l.length≤1048576) (hz:∀ e ∈ l,EvZ e):iter (g_document_Clone_s2 l) (0,l)=some l :=
 same_loop l (by omega) (fun i hi=>by
  unfold g_document_Clone_s2
  dsimp only
  rw[if_pos (by simpa using hi),atI_nat hi,wr64 (x:=(i:Int)+1) (by omega)]
  simp only[Option.bind_some]
  rw[evClone _ (hz _ (List.getElem_mem hi))]
  simp only[Option.bind_some]
  rw[set_same hi]
  rfl) (by unfold g_document_Clone_s2;dsimp only;rw[if_neg (by simp)])
theorem dcl_nil:iter (g_document_Clone_s1 []) ()=some ():=by
 refine iter_of (fun x e=>True) (fun _=>0) ?_ (x:=()) trivial (by decide)
 intro x e _
 right
 unfold g_document_Clone_s1
 rw[if_neg (by simp)]
theorem empty_nil {α:Type} {l:List α} (h:l.isEmpty=true):l=[]:=List.isEmpty_iff.1 h
theorem docClone (d:T_api_Document) (hd:DocZ d):g_document_Clone d=some d:=by
 have e1:=dcl_loop d.Events hd.evs hd.ev
 have e2:iter (g_document_Clone_s4 d.Events) (0,d.Events)=some d.Events:=e1
 have e3:iter (g_document_Clone_s6 d.Events) (0,d.Events)=some d.Events:=e1
 have e4:iter (g_document_Clone_s8 d.Events) (0,d.Events)=some d.Events:=e1
 have n1:iter (g_document_Clone_s3 []) ()=some ():=dcl_nil
 have n2:iter (g_document_Clone_s5 []) ()=some ():=dcl_nil
 have n3:iter (g_document_Clone_s7 []) ()=some ():=dcl_nil
 unfold g_document_Clone
 have c1:=clG hd.regs
 have c2:=clC hd.coms
 have c3:=clE hd.evs
 have w1:d.Regions.isEmpty=false→g_slices_Clone_api_Region_api_Region_nw d.Regions=some d.Regions:=fun h=>by unfold g_slices_Clone_api_Region_api_Region_nw;rw[h];exact c1
 have w2:d.Comments.isEmpty=false→g_slices_Clone_api_Comment_api_Comment_nw d.Comments=some d.Comments:=fun h=>by unfold g_slices_Clone_api_Comment_api_Comment_nw;rw[h];exact c2
 have w3:d.Events.isEmpty=false→g_slices_Clone_api_Event_api_Event_nw d.Events=some d.Events:=fun h=>by unfold g_slices_Clone_api_Event_api_Event_nw;rw[h];exact c3
 cases h1:d.Regions.isEmpty<;>cases h2:d.Comments.isEmpty<;>cases h3:d.Events.isEmpty<;>simp only[Bool.false_eq_true,if_false,if_true]
 ·rw[w1 h1];simp only[Option.bind_some];rw[w2 h2];simp only[Option.bind_some];rw[w3 h3];simp only[Option.bind_some];rw[e4];rfl
 ·rw[w1 h1];simp only[Option.bind_some];rw[w2 h2];simp only[Option.bind_some];rw[c3];simp only[Option.bind_some];rw[empty_nil h3,n3,Option.bind_some,← empty_nil h3]
 ·rw[w1 h1];simp only[Option.bind_some];rw[c2];simp only[Option.bind_some];rw[w3 h3];simp only[Option.bind_some];rw[e3];rfl
 ·rw[w1 h1];simp only[Option.bind_some];rw[c2];simp only[Option.bind_some];rw[c3];simp only[Option.bind_some];rw[empty_nil h3,n2,Option.bind_some,← empty_nil h3]
 ·rw[c1];simp only[Option.bind_some];rw[w2 h2];simp only[Option.bind_some];rw[w3 h3];simp only[Option.bind_some];rw[e2];rfl
 ·rw[c1];simp only[Option.bind_some];rw[w2 h2];simp only[Option.bind_some];rw[c3];simp only[Option.bind_some];rw[empty_nil h3,n1,Option.bind_some,← empty_nil h3]
 ·rw[c1];simp only[Option.bind_some];rw[c2];simp only[Option.bind_some];rw[w3 h3];simp only[Option.bind_some];rw[e1];rfl
 ·rw[c1];simp only[Option.bind_some];rw[c2];simp only[Option.bind_some];rw[c3];simp only[Option.bind_some];rw[empty_nil h3,dcl_nil,Option.bind_some,← empty_nil h3]
theorem docClone_nw (d:T_api_Document) (hd:DocZ d) (h3:d.Events.isEmpty=false):g_document_Clone_nw d=some d:=by
 have e1:iter (g_document_Clone_nw_s2 d.Events) (0,d.Events)=some d.Events:=dcl_loop d.Events hd.evs hd.ev
 have e2:iter (g_document_Clone_nw_s4 d.Events) (0,d.Events)=some d.Events:=e1
 have e3:iter (g_document_Clone_nw_s6 d.Events) (0,d.Events)=some d.Events:=e1
 have e4:iter (g_document_Clone_nw_s8 d.Events) (0,d.Events)=some d.Events:=e1
 unfold g_document_Clone_nw
 have c1:=clG hd.regs
 have c2:=clC hd.coms
 have c3:=clE hd.evs
 have w1:d.Regions.isEmpty=false→g_slices_Clone_api_Region_api_Region_nw d.Regions=some d.Regions:=fun h=>by unfold g_slices_Clone_api_Region_api_Region_nw;rw[h];exact c1
 have w2:d.Comments.isEmpty=false→g_slices_Clone_api_Comment_api_Comment_nw d.Comments=some d.Comments:=fun h=>by unfold g_slices_Clone_api_Comment_api_Comment_nw;rw[h];exact c2
 have w3:g_slices_Clone_api_Event_api_Event_nw d.Events=some d.Events:=by unfold g_slices_Clone_api_Event_api_Event_nw;rw[h3];exact c3
 cases h1:d.Regions.isEmpty<;>cases h2:d.Comments.isEmpty<;>simp only[h3,Bool.false_eq_true,if_false,if_true]
 ·rw[w1 h1];simp only[Option.bind_some];rw[w2 h2];simp only[Option.bind_some];rw[w3];simp only[Option.bind_some];rw[e4];rfl
 ·rw[w1 h1];simp only[Option.bind_some];rw[c2];simp only[Option.bind_some];rw[w3];simp only[Option.bind_some];rw[e3];rfl
 ·rw[c1];simp only[Option.bind_some];rw[w2 h2];simp only[Option.bind_some];rw[w3];simp only[Option.bind_some];rw[e2];rfl
 ·rw[c1];simp only[Option.bind_some];rw[c2];simp only[Option.bind_some];rw[w3];simp only[Option.bind_some];rw[e1];rfl
theorem find_loop {step:Int→Option (Nx Int (Int ⊕ Unit))} (l:List T_api_Event) (hn:l.length≤1048576) (id:Int) (hgo:∀ (i:Nat) (h:i < l.length),step (i:Int)=if(l[i].ID == id)=true then some (.out (.inl (i:Int))) else some (.go ((i:Int)+1))) (hend:step (l.length:Int)=some (.out (.inr ()))) :
  ∃ e,iter step 0=some e∧((∃ i,∃ h:i < l.length,e=.inl (i:Int)∧l[i].ID=id)∨(e=.inr ()∧∀ i (h:i < l.length),l[i].ID≠id)):=by
 refine iter_cnt l.length (by omega) (fun i=>∀ j (h:j < l.length),j < i→l[j].ID≠id) _ (fun j _ h=>by omega) (fun i hi hI=>?_) (fun hI=>⟨_,hend,.inr ⟨rfl,fun i h=>hI i h h⟩⟩)
 rw[hgo i hi]
 by_cases q:l[i].ID=id
 ·rw[if_pos (by simpa using q)]
  exact .inr ⟨_,rfl,.inl ⟨i,hi,rfl,q⟩⟩
 ·rw[if_neg (by simpa using q)]
  refine .inl ⟨rfl,fun j hj hji=>?_⟩
  rcases Nat.lt_succ_iff_lt_or_eq.1 hji with h|rfl
  ·exact hI j hj h
  ·exact q
theorem find_eq (d:T_api_Document) (hn:d.Events.length≤1048576) (id:Int):∃ r,g_document_Find d id=some r∧g_document_Find_ro d id=some r∧((∃ i,∃ h:i < d.Events.length,r=(i:Int)∧d.Events[i].ID=id)∨(r=-1∧∀ i (h:i < d.Events.length),d.Events[i].ID≠id)):=by
 obtain⟨e,he,hp⟩:=find_loop (step:=g_slices_IndexFunc_api_Event_api_Event_s1 d.Events id) d.Events hn id (fun i hi=>by
  unfold g_slices_IndexFunc_api_Event_api_Event_s1 g_document_Find_1
  rw[if_pos (by simpa using hi),atI_nat hi,wr64 (x:=(i:Int)+1) (by omega)]
  rfl) (by unfold g_slices_IndexFunc_api_Event_api_Event_s1;rw[if_neg (by simp)])
 have he':iter (g_slices_IndexFunc_api_Event_api_Event_ro_s1 d.Events id) 0=some e:=he
 unfold g_document_Find g_slices_IndexFunc_api_Event_api_Event g_document_Find_ro g_slices_IndexFunc_api_Event_api_Event_ro
 rw[he,he']
 rcases hp with⟨i,h,rfl,hid⟩|⟨rfl,hno⟩
 ·exact⟨(i:Int),rfl,rfl,.inl ⟨i,h,rfl,hid⟩⟩
 ·exact⟨-1,rfl,rfl,.inr ⟨rfl,hno⟩⟩
theorem sort1_eq (a b:T_api_Event):∃ r,g_document_Sort_1 a b=some r∧decide (r < 0)=ltE a b:=by
 have h:=less_eq a b
 unfold g_document_Sort_1
 unfold g_event_Less at h
 rw[cmp_eq,cmp_eq] at h ⊢
 simp only[Option.bind_some,or2_eq] at h ⊢
 exact⟨_,rfl,Option.some.inj h⟩
theorem ltE_trans {a b c:T_api_Event} (h1:ltE b a=false) (h2:ltE c b=false):ltE c a=false:=by
 unfold ltE at *
 simp only[Bool.or_eq_false_iff,decide_eq_false_iff_not,Bool.and_eq_false_imp,decide_eq_true_eq] at *
 omega
theorem ltE_asym {a b:T_api_Event} (h1:ltE a b=true):ltE b a=false:=by
 unfold ltE at *
 simp only[Bool.or_eq_false_iff,decide_eq_false_iff_not,Bool.and_eq_false_imp,decide_eq_true_eq,Bool.or_eq_true,Bool.and_eq_true] at *
 omega
def SrtTo (i:Nat) (x:List T_api_Event):Prop:=∀ p q a b,p < q→q < i→x[p]? = some a→x[q]? = some b→ltE b a=false
structure InI (l:List T_api_Event) (i j:Nat) (x:List T_api_Event):Prop where
 ji:j≤i
 perm:x.Perm l
 a:∀ p q a b,p < q→q≤i→p≠j→q≠j→x[p]? = some a→x[q]? = some b→ltE b a=false
 b:∀ q a b,j < q→q≤i→x[j]? = some a→x[q]? = some b→ltE b a=false
theorem ins2 (l:List T_api_Event) (hl:l.length≤1000) {i:Nat} (hi:i < l.length) (hs:SrtTo i l):∃ r,iter (g_slices_insertionSortCmpFunc_api_Event_w_s2 0) ((i:Int),l)=some r∧r.Perm l∧SrtTo (i+1) r:=by
 refine iter_post (step:=g_slices_insertionSortCmpFunc_api_Event_w_s2 0) (fun x=>∃ j:Nat,x.1=j∧InI l i j x.2) (fun x=>x.1.toNat) (fun r=>r.Perm l∧SrtTo (i+1) r) (x:=((i:Int),l)) ⟨i,rfl,Nat.le_refl _,.refl _,fun p q a b h1 h2 h3 h4 h5 h6=>hs p q a b h1 (by omega) h5 h6,fun q a b h1 h2=>by omega⟩ (by dsimp only;omega) ?_
 rintro⟨xj,x⟩ ⟨j,h1,hI⟩
 dsimp only at h1 hI
 subst h1
 have hlen:=hI.perm.length_eq
 have hji:=hI.ji
 have hj:j < x.length:=by omega
 unfold g_slices_insertionSortCmpFunc_api_Event_w_s2
 dsimp only
 have fin:(j=0∨∀ a b,x[j - 1]? = some a→x[j]? = some b→ltE b a=false)→SrtTo (i+1) x:=by
  intro hex p q a b hpq hq ha hb
  by_cases hp:p=j
  ·subst hp;exact hI.b q a b hpq (by omega) ha hb
  ·by_cases hqj:q=j
   ·subst hqj
    rcases hex with h0|hex
    ·omega
    ·by_cases hp1:p=q - 1
     ·subst hp1;exact hex a b ha hb
     ·have hm:q - 1 < x.length:=by omega
      have h2:=hI.a p (q - 1) a x[q - 1] (by omega) (by omega) (by omega) (by omega) ha (List.getElem?_eq_getElem hm)
      exact ltE_trans h2 (hex _ b (List.getElem?_eq_getElem hm) hb)
   ·exact hI.a p q a b hpq (by omega) hp hqj ha hb
 by_cases q0:j=0
 ·right
  subst q0
  simp only[show ¬ (0:Int) < ((0:Nat):Int) by omega,decide_false,Bool.false_eq_true,if_false,Option.bind_some]
  exact⟨_,rfl,hI.perm,fin (.inl rfl)⟩
 ·have hj1:j - 1 < x.length:=by omega
  rw[if_pos (by simp;omega),wr64 (x:=(j:Int) - 1) (by omega),show(j:Int) - 1=((j - 1:Nat):Int) by omega,atI_nat hj,atI_nat hj1]
  simp only[Option.bind_some]
  obtain⟨r,hr,hlt⟩:=sort1_eq x[j] x[j - 1]
  rw[hr]
  simp only[Option.bind_some,hlt]
  cases hc:ltE x[j] x[j - 1] with
  | false =>
   right
   simp only[Bool.false_eq_true,if_false]
   refine⟨_,rfl,hI.perm,fin (.inr fun a b ha hb=>?_)⟩
   rw[List.getElem?_eq_getElem hj1] at ha
   rw[List.getElem?_eq_getElem hj] at hb
   cases ha;cases hb
   exact hc
  | true =>
   left
   simp only[if_true]
   rw[setI_nat _ hj]
   simp only[Option.bind_some]
   rw[atI_nat (show j - 1 < (x.set j x[j - 1]).length by simpa using hj1)]
   simp only[Option.bind_some]
   rw[setI_nat _ (show j - 1 < (x.set j x[j - 1]).length by simpa using hj1)]
   simp only[Option.bind_some]
   refine⟨_,rfl,⟨j - 1,rfl,by omega,(List.set_set_perm hj hj1).trans hI.perm,?_,?_⟩,by dsimp only;omega⟩
   ·intro p q a b hpq hq hp hqj ha hb
    dsimp only at ha hb
    have gp:∀ k c,k≠j - 1→((x.set j x[j - 1]).set (j - 1) x[j])[k]? = some c→(k=j∧c=x[j - 1])∨(k≠j∧x[k]? = some c):=by
     intro k c hk hc'
     rw[List.getElem?_set_ne (by omega),List.getElem?_set] at hc'
     by_cases hkj:j=k
     ·subst hkj
      rw[if_pos rfl,if_pos hj] at hc'
      exact .inl ⟨rfl,(Option.some.inj hc').symm⟩
     ·rw[if_neg hkj] at hc'
      exact .inr ⟨fun e=>hkj e.symm,hc'⟩
    rcases gp p a hp ha with⟨hp1,hp2⟩|⟨hpj,ha'⟩
    ·subst hp2
     rcases gp q b hqj hb with⟨h2,_⟩|⟨hqj2,hb'⟩
     ·omega
     ·exact hI.a (j - 1) q _ b (by omega) hq (by omega) hqj2 (List.getElem?_eq_getElem hj1) hb'
    ·rcases gp q b hqj hb with⟨hq1,hq2⟩|⟨hqj2,hb'⟩
     ·subst hq2
      exact hI.a p (j - 1) a _ (by omega) (by omega) hpj (by omega) ha' (List.getElem?_eq_getElem hj1)
     ·exact hI.a p q a b hpq hq hpj hqj2 ha' hb'
   ·intro q a b hq hqi ha hb
    dsimp only at ha hb
    rw[List.getElem?_set_self (by simpa using hj1)] at ha
    cases ha
    by_cases hqj:q=j
    ·subst hqj
     rw[List.getElem?_set_ne (by omega),List.getElem?_set_self hj] at hb
     cases hb
     exact ltE_asym hc
    ·rw[List.getElem?_set_ne (by omega),List.getElem?_set_ne (by omega)] at hb
     exact hI.b q _ b (by omega) hqi (List.getElem?_eq_getElem hj) hb
theorem ins1 (l:List T_api_Event) (hl:l.length≤1000):∃ r,g_slices_insertionSortCmpFunc_api_Event l 0 (l.length:Int)=some r∧r.Perm l∧SrtTo l.length r:=by
 obtain⟨r,hr,h1,h2⟩:=iter_post (step:=g_slices_insertionSortCmpFunc_api_Event_w_s1 0 (l.length:Int)) (fun x=>∃ i:Nat,x.1=i∧(i≤l.length∨i=1)∧x.2.Perm l∧SrtTo i x.2) (fun x=>l.length - x.1.toNat) (fun r=>r.Perm l∧SrtTo l.length r) (x:=(1,l)) ⟨1,rfl,.inr rfl,.refl _,fun p q a b h1 h2=>by omega⟩ (by dsimp only;omega) (by
  rintro⟨xi,x⟩ ⟨i,h1,h2,h3,h4⟩
  dsimp only at h1 h3 h4
  subst h1
  have hlen:=h3.length_eq
  unfold g_slices_insertionSortCmpFunc_api_Event_w_s1
  dsimp only
  by_cases q:i < l.length
  ·left
   rw[if_pos (by simpa using q),wr64 (x:=(i:Int)+1) (by omega)]
   obtain⟨r,hr,h5,h6⟩:=ins2 x (by omega) (i:=i) (by omega) h4
   rw[hr]
   exact⟨_,rfl,⟨i+1,by simp,.inl (by omega),h5.trans h3,h6⟩,by dsimp only;omega⟩
  ·right
   rw[if_neg (by simpa using q)]
   exact⟨_,rfl,h3,fun p q' a b hpq hq=>h4 p q' a b hpq (by omega)⟩)
 refine⟨r,?_,h1,h2⟩
 unfold g_slices_insertionSortCmpFunc_api_Event g_slices_insertionSortCmpFunc_api_Event_w
 rw[show IntKind.i64.wrap (0+1)=1 from by decide,hr]
 simp only[Option.bind_some]
 rw[if_pos h1.length_eq]
theorem sort_eq (l:List T_api_Event) (hl:l.length≤19) (hz:∀ e ∈ l,EvZ e):∃ r,g_document_Sort l=some r∧r.Perm l∧SrtTo l.length r:=by
 obtain⟨r,hr,h1,h2⟩:=ins1 l (by omega)
 have hst:g_slices_stableCmpFunc_api_Event l (l.length:Int)=some r:=by
  unfold g_slices_stableCmpFunc_api_Event g_slices_stableCmpFunc_api_Event_w
  have s1:iter (g_slices_stableCmpFunc_api_Event_w_s1 (l.length:Int)) (0,20,l)=some (l,0):=by
   refine iter_of (fun x e=>x=(0,20,l)∧e=(l,0)) (fun _=>0) ?_ (x:=(0,20,l)) ⟨rfl,rfl⟩ (by decide)
   rintro x e ⟨rfl,rfl⟩
   right
   unfold g_slices_stableCmpFunc_api_Event_w_s1
   rw[if_neg (by simp;omega)]
  have s2:iter (g_slices_stableCmpFunc_api_Event_w_s2 (l.length:Int)) (20,r)=some r:=by
   refine iter_of (fun x e=>x=(20,r)∧e=r) (fun _=>0) ?_ (x:=(20,r)) ⟨rfl,rfl⟩ (by decide)
   rintro x e ⟨rfl,rfl⟩
   right
   unfold g_slices_stableCmpFunc_api_Event_w_s2
   rw[if_neg (by simp;omega)]
  rw[s1]
  simp only[Option.bind_some]
  rw[hr]
  simp only[Option.bind_some]
  rw[s2]
  simp only[Option.bind_some]
  rw[if_pos h1.length_eq]
 refine⟨r,?_,h1,h2⟩
 have hc:=iter_run (step:=g_document_Sort_s1 l) l (by omega) (fun i (s:List T_api_Event)=>(s,i)) (fun s e=>.inr (s++[e])) id (fun i s=>s.length=i) (s0:=[]) rfl
  (fun i hi s hs=>.inr ⟨_,rfl,by
   unfold g_document_Sort_s1
   dsimp only
   rw[if_pos (by simpa using hi),atI_nat hi,wr64 (x:=(i:Int)+1) (by omega)]
   simp only[Option.bind_some]
   rw[evClone _ (hz _ (List.getElem_mem hi))]
   simp only[Option.bind_some]
   rw[if_pos (by omega)],by simp[hs]⟩)
  (fun s hs=>by unfold g_document_Sort_s1;dsimp only;rw[if_neg (by simp)];rfl)
 have hid:∀ (t s:List T_api_Event),runF (fun(s:List T_api_Event) e=>(.inr (s++[e]):List T_api_Event ⊕ List T_api_Event)) id s t=s++t:=by
  intro t
  induction t with
  | nil=>intro s;simp[runF]
  | cons a t ih=>intro s;simp only[runF];rw[ih];simp
 rw[hid,List.nil_append] at hc
 unfold g_document_Sort
 rw[show(([]:List T_api_Event),(0:Int))=(fun i (s:List T_api_Event)=>(s,i)) 0 [] from rfl,hc]
 simp only[Option.bind_some]
 unfold g_slices_SortStableFunc_api_Event_api_Event g_slices_SortStableFunc_api_Event_api_Event_w
 rw[hst]
 simp only[Option.bind_some]
 rw[if_pos h1.length_eq]
 rfl
def badS (s:T_api_Shift):Bool:=decide (s.In < 0)||decide (s.Out≤s.In)||decide (5184000 < s.Out)
def upE (s:T_api_Shift) (e:T_api_Event):T_api_Event:=if e.ID=s.ID then⟨e.ID,⟨s.In,s.Out⟩,e.Region,e.Kind,e.Speaker,e.Rows⟩ else e
theorem upE_id (s:T_api_Shift) (e:T_api_Event):(upE s e).ID=e.ID:=by unfold upE;split<;>rfl
theorem upE_z {s:T_api_Shift} {e:T_api_Event} (h:EvZ e):EvZ (upE s e):=by unfold upE;split<;>exact h
theorem upE_ids (s:T_api_Shift) (l:List T_api_Event):(l.map (upE s)).map (·.ID)=l.map (·.ID):=by
 rw[List.map_map]
 exact List.map_congr_left fun e _=>upE_id s e
def apF (ev:List T_api_Event) (s:T_api_Shift):(Int ⊕ List T_api_Event) ⊕ List T_api_Event :=
 if(ev.map (·.ID)).contains s.ID then(if badS s then .inl (.inl 2) else .inr (ev.map (upE s))) else .inl (.inl 6)
def apR (ev:List T_api_Event) (l:List T_api_Shift):Int ⊕ List T_api_Event:=runF apF .inr ev l
theorem nodup_at {l:List T_api_Event} (hd:(l.map (·.ID)).Nodup) {i j:Nat} (hi:i < l.length) (hj:j < l.length) (h:l[i].ID=l[j].ID):i=j:=by
 have hp:=List.pairwise_iff_getElem.1 hd
 rcases Nat.lt_trichotomy i j with q|q|q
 ·exact absurd (by rw[List.getElem_map,List.getElem_map];exact h) (hp i j (by simpa using hi) (by simpa using hj) q)
 ·exact q
 ·exact absurd (by rw[List.getElem_map,List.getElem_map];exact h.symm) (hp j i (by simpa using hj) (by simpa using hi) q)
theorem set_map {l:List T_api_Event} (hd:(l.map (·.ID)).Nodup) {i:Nat} (hi:i < l.length) (s:T_api_Shift) (h:l[i].ID=s.ID):l.set i ⟨l[i].ID,⟨s.In,s.Out⟩,l[i].Region,l[i].Kind,l[i].Speaker,l[i].Rows⟩=l.map (upE s):=by
 refine List.ext_getElem (by simp) fun j hj1 hj2=>?_
 have hj:j < l.length:=by simpa using hj1
 rw[List.getElem_map]
 by_cases q:i=j
 ·subst q
  rw[List.getElem_set_self]
  unfold upE
  rw[if_pos h]
 ·rw[List.getElem_set_ne q]
  unfold upE
  rw[if_neg (fun e=>q (nodup_at hd hi hj (h.trans e.symm)))]
theorem bad_eq (s:T_api_Shift):(if(decide (s.In < 0)) then(some true) else(if(decide (s.Out≤s.In)) then(some true) else(some (decide (5184000 < s.Out)))):Option Bool)=some (badS s):=by
 unfold badS
 by_cases h1:s.In < 0<;>by_cases h2:s.Out≤s.In<;>simp[h1,h2]
structure ApI (n:Nat) (ids:List Int) (ev:List T_api_Event):Prop where
 len:ev.length=n
 ids:ev.map (·.ID)=ids
 z:∀ e ∈ ev,EvZ e
theorem ap_loop (d:T_api_Document) (l:List T_api_Shift) (hl:l.length≤1000) (hz:∀ e ∈ d.Events,EvZ e) (hn:d.Events.length≤1048576) (hd:(d.Events.map (·.ID)).Nodup):iter (g_repair_Apply_s2 l d) (0,d.Events)=some (apR d.Events l):=by
 refine iter_run (step:=g_repair_Apply_s2 l d) l (by omega) (fun i (s:List T_api_Event)=>(i,s)) apF .inr (fun _ ev=>ApI d.Events.length (d.Events.map (·.ID)) ev) (s0:=d.Events) ⟨rfl,rfl,hz⟩ (fun i hi ev hI=>?_) (fun ev hI=>by unfold g_repair_Apply_s2;dsimp only;rw[if_neg (by simp)])
 have hst:g_repair_Apply_s2 l d ((i:Int),ev)=(apF ev l[i]).elim (fun e=>some (.out e)) (fun ev'=>some (.go ((i:Int)+1,ev'))):=by
  unfold g_repair_Apply_s2
  dsimp only
  rw[if_pos (by simpa using hi),atI_nat hi,wr64 (x:=(i:Int)+1) (by omega)]
  simp only[Option.bind_some]
  generalize l[i]=s
  obtain⟨r,_,hr,hp⟩:=find_eq (T_api_Document.mk d.Title d.Lang d.Rate d.Drop d.Last d.Regions ev d.Comments) (by show ev.length≤_;rw[hI.len];exact hn) s.ID
  rw[hr]
  simp only[Option.bind_some,bad_eq]
  rcases hp with⟨k,hk,rfl,hid⟩|⟨rfl,hno⟩
  ·have hc:(ev.map (·.ID)).contains s.ID=true:=List.contains_iff_mem.2 (List.mem_map.2 ⟨ev[k],List.getElem_mem hk,hid⟩)
   unfold apF
   rw[hc]
   simp only[show ¬ ((k:Int) < 0) by omega,decide_false,Bool.false_eq_true,if_false,if_true]
   cases badS s with
   | true=>rfl
   | false =>
    simp only[Bool.false_eq_true,if_false]
    have hk':k < ev.length:=hk
    rw[atI_nat hk']
    simp only[Option.bind_some]
    rw[setI_nat _ hk',set_map (by rw[hI.ids];exact hd) hk' s hid]
    rfl
  ·have hc:(ev.map (·.ID)).contains s.ID=false:=by
    cases hq:(ev.map (·.ID)).contains s.ID with
    | false=>rfl
    | true =>
     obtain⟨e,he,heq⟩:=List.mem_map.1 (List.contains_iff_mem.1 hq)
     obtain⟨j,hj,rfl⟩:=List.getElem_of_mem he
     exact absurd heq (hno j hj)
   unfold apF
   rw[hc]
   rfl
 rw[hst]
 cases hf:apF ev l[i] with
 | inl e=>exact .inl ⟨e,rfl,rfl⟩
 | inr ev' =>
  refine .inr ⟨ev',rfl,rfl,?_⟩
  unfold apF at hf
  split at hf
  ·split at hf
   ·cases hf
   ·cases hf
    refine⟨by simp[hI.len],by rw[upE_ids];exact hI.ids,fun e he=>?_⟩
    obtain⟨e0,he0,rfl⟩:=List.mem_map.1 he
    exact upE_z (hI.z _ he0)
  ·cases hf
theorem apR_inr:∀ (l:List T_api_Shift) (ev ev':List T_api_Event),apR ev l=.inr ev'→ev'.length=ev.length∧ev'.map (·.ID)=ev.map (·.ID)∧((∀ e ∈ ev,EvZ e)→∀ e ∈ ev',EvZ e)
 | [],ev,ev',h=>by cases h;exact⟨rfl,rfl,fun h=>h⟩
 | s::l,ev,ev',h=>by
  unfold apR at h
  simp only[runF] at h
  cases hf:apF ev s with
  | inl e =>
   rw[hf] at h
   simp only at h
   unfold apF at hf
   split at hf
   ·split at hf<;>cases hf
    cases h
   ·cases hf;cases h
  | inr e1 =>
   rw[hf] at h
   simp only at h
   obtain⟨a,b,c⟩:=apR_inr l e1 ev' h
   unfold apF at hf
   split at hf
   ·split at hf
    ·cases hf
    ·cases hf
     refine⟨by rw[a];simp,by rw[b,upE_ids],fun hz=>c fun e he=>?_⟩
     obtain⟨e0,he0,rfl⟩:=List.mem_map.1 he
     exact upE_z (hz _ he0)
   ·cases hf
def docN:T_api_Document:=⟨[],[],0,false,0,[],[],[]⟩
def withE (d:T_api_Document) (ev:List T_api_Event):T_api_Document:=⟨d.Title,d.Lang,d.Rate,d.Drop,d.Last,d.Regions,ev,d.Comments⟩
theorem apply_eq (d:T_api_Document) (hd:DocZ d) (hc:g_document_Check d=some 0) (hD:DocOK d) (hn:d.Events.length≤19) (l:List T_api_Shift) (hl:l.length≤1000) :
  (∃ e,apR d.Events l=.inl e∧g_repair_Apply d l=some (docN,e))∨(∃ ev r,apR d.Events l=.inr ev∧g_repair_Apply d l=some (withE d r,0)∧r.Perm ev∧SrtTo ev.length r):=by
 unfold g_repair_Apply
 rw[hc]
 simp only[Option.bind_some,bne_self_eq_false,Bool.false_eq_true,if_false]
 cases h:d.Events.isEmpty with
 | true =>
  have he:=empty_nil h
  simp only[if_true]
  rw[docClone d hd]
  simp only[Option.bind_some]
  cases l with
  | nil =>
   right
   have:iter (g_repair_Apply_s1 [] d) ()=some (.inr ()):=by
    refine iter_of (fun x e=>e=.inr ()) (fun _=>0) ?_ (x:=()) rfl (by decide)
    rintro x e rfl
    right
    unfold g_repair_Apply_s1
    rw[if_neg (by simp)]
   rw[this]
   simp only[Option.bind_some]
   obtain⟨r,hr,h1,h2⟩:=sort_eq d.Events hn hd.ev
   rw[hr]
   exact⟨d.Events,r,by rw[he];rfl,rfl,h1,h2⟩
  | cons s t =>
   left
   have:iter (g_repair_Apply_s1 (s::t) d) ()=some (.inl 6):=by
    refine iter_of (fun x e=>e=.inl 6) (fun _=>0) ?_ (x:=()) rfl (by decide)
    rintro x e rfl
    right
    unfold g_repair_Apply_s1
    rw[if_pos (by simp),show atI (s::t) 0=some s from rfl]
    simp only[Option.bind_some]
    obtain⟨r,hr,_,hp⟩:=find_eq d hd.evs s.ID
    rw[hr]
    simp only[Option.bind_some]
    rcases hp with⟨k,hk,_⟩|⟨rfl,_⟩
    ·rw[he] at hk;simp at hk
    ·rfl
   rw[this]
   refine⟨6,?_,rfl⟩
   rw[he]
   rfl
 | false =>
  simp only[Bool.false_eq_true,if_false]
  rw[docClone_nw d hd h]
  simp only[Option.bind_some]
  rw[ap_loop d l hl hd.ev hd.evs hD.ids]
  simp only[Option.bind_some]
  cases hr:apR d.Events l with
  | inl e=>exact .inl ⟨e,rfl,rfl⟩
  | inr ev =>
   right
   obtain⟨a,b,c⟩:=apR_inr l d.Events ev hr
   obtain⟨r,hs,h1,h2⟩:=sort_eq ev (by omega) (c hd.ev)
   simp only[hs,Option.bind_some]
   exact⟨ev,r,rfl,rfl,h1,h2⟩
theorem bsE_t {d:T_api_Document} {p:T_api_Profile} {l:List Int} {i:Nat} {x:T_api_Event} (t t':Int) {bs:List T_api_Bound} (h:bsE d p l t i x=.inr bs):∃ bs',bsE d p l t' i x=.inr bs':=by
 unfold bsE at h ⊢
 split at h
 ·cases h
 ·rename_i q1
  rw[if_neg q1]
  split at h
  ·cases h
  ·rename_i q2
   rw[if_neg q2]
   exact⟨_,rfl⟩
theorem bnR_t {d:T_api_Document} {p:T_api_Profile} {l:List Int} (t t':Int):∀ (L:List (T_api_Event × Nat)) (s s' bs:List T_api_Bound),runF (bnF d p l t) .inr s L=.inr bs→∃ bs',runF (bnF d p l t') (Sum.inr:_→Int ⊕ List T_api_Bound) s' L=.inr bs'
 | [],s,s',bs,h=>⟨s',rfl⟩
 | a::L,s,s',bs,h=>by
  simp only[runF] at h ⊢
  cases hf:bnF d p l t s a with
  | inl e =>
   rw[hf] at h
   obtain⟨v,rfl⟩:=bnF_inl hf
   cases h
  | inr s1 =>
   rw[hf] at h
   obtain⟨b1,hb1,rfl⟩:=bnF_inr hf
   obtain⟨b2,hb2⟩:=bsE_t t t' hb1
   have:bnF d p l t' s' a=.inr (s'++b2):=by unfold bnF;rw[hb2]
   rw[this]
   exact bnR_t t t' L _ _ bs h
def bnT (d:T_api_Document) (p:T_api_Profile) (l:List Int) (t:Int):List T_api_Bound:=(bnR d p l t).elim (fun _=>[]) id
structure Good (d:T_api_Document) (p:T_api_Profile) (l:List Int):Prop where
 z:TaskZ d p l
 dc:dcS d=0
 pc:ckS p=0
 sc:shC l=0
 num:d.Events.length≤255
 bn:∀ t,∃ bs,bnR d p l t=.inr bs
theorem good_of {d:T_api_Document} {p:T_api_Profile} {l:List Int} (h:TaskZ d p l) {tol:Int} (h0:(bnS d p l tol).2=0):Good d p l∧0≤tol∧tol≤5184000:=by
 have hc:ckB d p l tol=0:=by
  by_cases q:ckB d p l tol=0
  ·exact q
  ·unfold bnS at h0;rw[if_pos q] at h0;exact h0
 obtain⟨a,b,c,e,f⟩:=ckB_0 hc
 refine⟨⟨h,a,b,c,f,fun t=>?_⟩,e⟩
 have:∃ bs,bnR d p l tol=.inr bs:=by
  cases hb:bnR d p l tol with
  | inr bs=>exact⟨bs,rfl⟩
  | inl e0 =>
   unfold bnS at h0
   rw[if_neg (fun q=>q hc),hb] at h0
   have h1:e0=0:=h0
   exfalso
   have key:∀ (L:List (T_api_Event × Nat)) (s:List T_api_Bound) (v:Int),runF (bnF d p l tol) .inr s L=.inl v→v≠0:=by
    intro L
    induction L with
    | nil=>intro s v hv;cases hv
    | cons a L ih =>
     intro s v hv
     simp only[runF] at hv
     cases hf:bnF d p l tol s a with
     | inl e =>
      rw[hf] at hv
      simp only at hv
      subst hv
      unfold bnF bsE at hf
      split at hf
      ·rename_i e2 hs
       split at hs
       ·rename_i q;cases hs;cases hf;exact q
       ·split at hs
        ·rename_i q;cases hs;cases hf;exact q
        ·cases hs
      ·cases hf
     | inr s1=>rw[hf] at hv;exact ih _ _ hv
   exact key _ _ _ hb h1
 obtain⟨bs,hb⟩:=this
 exact bnR_t tol t _ _ _ bs hb
theorem Good.ck {d:T_api_Document} {p:T_api_Profile} {l:List Int} (g:Good d p l) {t:Int} (ht:0≤t∧t≤5184000):ckB d p l t=0:=by
 unfold ckB
 rw[if_neg (fun q=>q g.dc),if_neg (fun q=>q g.pc),if_neg (fun q=>q g.sc),if_neg (by omega),if_neg (by have:=g.num;omega)]
theorem Good.bs {d:T_api_Document} {p:T_api_Profile} {l:List Int} (g:Good d p l) {t:Int} (ht:0≤t∧t≤5184000):bnS d p l t=(bnT d p l t,0)∧BdsOK (2 * d.Events.length+1) (bnT d p l t):=by
 obtain⟨bs,hb⟩:=g.bn t
 have hT:bnT d p l t=bs:=by unfold bnT;rw[hb];rfl
 refine⟨?_,by rw[hT];exact bnR_ok g.z (g.ck ht) hb⟩
 unfold bnS
 rw[if_neg (fun q=>q (g.ck ht)),hb,hT]
 rfl
def okT (d:T_api_Document) (p:T_api_Profile) (l:List Int) (t:Int):Prop:=NoNeg (· ∈ eds (bnT d p l t))
theorem numN (d:T_api_Document) (h:d.Events.length≤255):IntKind.i64.wrap (IntKind.i64.wrap (2 * (d.Events.length:Int))+1)=((2 * d.Events.length+1:Nat):Int):=by
 rw[wr64 (x:=2 * (d.Events.length:Int)) (by omega),wr64 (by omega)]
 omega
theorem plan1_eq {d:T_api_Document} {p:T_api_Profile} {l:List Int} (g:Good d p l) {t:Int} (ht:0≤t∧t≤5184000) :
  (okT d p l t∧g_repair_Plan_1 t d p l ((2 * d.Events.length+1:Nat):Int)=some (sol (2 * d.Events.length+1) (bnT d p l t),true))∨(¬ okT d p l t∧g_repair_Plan_1 t d p l ((2 * d.Events.length+1:Nat):Int)=some ([],false)):=by
 obtain⟨h1,h2⟩:=g.bs ht
 unfold g_repair_Plan_1
 rw[bounds_eq g.z,h1]
 simp only[Option.bind_some]
 rcases solve_eq h2 with⟨a,b⟩|⟨a,out,b,_⟩
 ·rw[b];exact .inl ⟨a,rfl⟩
 ·rw[b];exact .inr ⟨a,rfl⟩
theorem mid_eq {i j:Nat} (h:i+j≤10368000):IntKind.i64.wrap (Int.fdiv (IntKind.u64.wrap (IntKind.i64.wrap ((i:Int)+(j:Int)))) 2)=(((i+j) / 2:Nat):Int):=by
 rw[wr64 (x:=(i:Int)+j) (by omega)]
 have hu:IntKind.u64.wrap ((i:Int)+(j:Int))=(i:Int)+(j:Int):=by
  show((i:Int)+(j:Int)) % 18446744073709551616=_
  omega
 rw[hu,Int.fdiv_eq_ediv_of_nonneg _ (by omega),wr64 (by omega)]
 omega
theorem search_eq {d:T_api_Document} {p:T_api_Profile} {l:List Int} (g:Good d p l) {tol:Int} (ht:0≤tol∧tol≤5184000) (hok:okT d p l tol) :
  ∃ r:Int,g_sort_Search tol d p l ((2 * d.Events.length+1:Nat):Int)=some r∧0≤r∧r≤tol∧okT d p l r∧(r=0∨¬ okT d p l (r - 1)):=by
 obtain⟨T,rfl⟩:=Int.eq_ofNat_of_zero_le ht.1
 obtain⟨r,hr,hp⟩:=iter_post (step:=g_sort_Search_s1 d p l ((2 * d.Events.length+1:Nat):Int)) (fun x=>∃ i j:Nat,x=((i:Int),(j:Int))∧i≤j∧j≤T∧okT d p l (j:Int)∧((i:Int)=0∨¬ okT d p l ((i:Int) - 1))) (fun x=>(x.2 - x.1).toNat) (fun r=>0≤r∧r≤(T:Int)∧okT d p l r∧(r=0∨¬ okT d p l (r - 1))) (x:=(0,(T:Int))) ⟨0,T,rfl,by omega,by omega,hok,.inl rfl⟩ (by dsimp only;omega) (by
  rintro x ⟨i,j,rfl,h1,h2,h3,h4⟩
  unfold g_sort_Search_s1
  dsimp only
  by_cases q:i < j
  ·left
   rw[if_pos (by simpa using q),mid_eq (by omega)]
   have hm1:i≤(i+j) / 2:=by omega
   have hm2:(i+j) / 2 < j:=by omega
   generalize (i+j) / 2=m at hm1 hm2
   unfold g_repair_Plan_2
   rcases plan1_eq g (t:=(m:Int)) ⟨by omega,by omega⟩ with⟨a,b⟩|⟨a,b⟩
   ·rw[b]
    simp only[Option.bind_some,if_true]
    exact⟨_,rfl,⟨i,m,rfl,hm1,by omega,a,h4⟩,by dsimp only;omega⟩
   ·rw[b]
    simp only[Option.bind_some,Bool.false_eq_true,if_false]
    rw[wr64 (x:=(m:Int)+1) (by omega)]
    exact⟨_,rfl,⟨m+1,j,by simp,by omega,h2,h3,.inr (by rw[show((m+1:Nat):Int) - 1=(m:Int) by omega];exact a)⟩,by dsimp only;omega⟩
  ·right
   rw[if_neg (by simpa using q)]
   obtain rfl:i=j:=by omega
   exact⟨_,rfl,by omega,by omega,h3,h4⟩)
 unfold g_sort_Search
 rw[hr]
 exact⟨r,rfl,hp⟩
def bAt (bs:List T_api_Bound) (i:Int):T_api_Bound:=bs.getD i.toNat ⟨0,0,0,0,0,0⟩
theorem pl1_eq (r7:List T_api_Bound × Int) (x:List Int) (out:List Int) (e:Int) (ho:out.length≤1000) (hi:∀ i ∈ out,0≤i∧i < (r7.1.length:Int)):iter (g_repair_Plan_s1 r7 (x,out,e)) (0,[])=some (out.map (bAt r7.1)):=by
 have:=iter_run (step:=g_repair_Plan_s1 r7 (x,out,e)) out (by omega) (fun i (s:List T_api_Bound)=>(i,s)) (fun s i=>.inr (s++[bAt r7.1 i])) id (fun i s=>s.length=i) (s0:=[]) rfl
  (fun i hi' s hs=>.inr ⟨_,rfl,by
   have hq:=hi _ (List.getElem_mem hi')
   unfold g_repair_Plan_s1
   dsimp only
   rw[if_pos (by simpa using hi'),atI_nat hi',wr64 (x:=(i:Int)+1) (by omega)]
   simp only[Option.bind_some]
   generalize out[i]=k at hq
   obtain⟨k,rfl⟩:=Int.eq_ofNat_of_zero_le hq.1
   have hk:k < r7.1.length:=by omega
   rw[atI_nat hk]
   simp only[Option.bind_some]
   rw[if_pos (by omega),show bAt r7.1 (k:Int)=r7.1[k] from by simp[bAt,List.getD,hk]],by simp[hs]⟩)
  (fun s hs=>by unfold g_repair_Plan_s1;dsimp only;rw[if_neg (by simp)];rfl)
 have hid:∀ (t:List Int) (s:List T_api_Bound),runF (fun(s:List T_api_Bound) (i:Int)=>(.inr (s++[bAt r7.1 i]):List T_api_Bound ⊕ List T_api_Bound)) id s t=s++t.map (bAt r7.1):=by
  intro t
  induction t with
  | nil=>intro s;simp[runF]
  | cons a t ih=>intro s;simp only[runF];rw[ih];simp
 rw[hid,List.nil_append] at this
 exact this
def spS (x:List Int) (i:Nat):T_api_Span:=⟨x.getD (2 * i+1) 0 - x.getD 0 0,x.getD (2 * i+2) 0 - x.getD 0 0⟩
def shF (x:List Int) (s:List T_api_Shift) (a:T_api_Event × Nat):List T_api_Shift:=if(spS x a.2).In≠a.1.Span.In∨(spS x a.2).Out≠a.1.Span.Out then s++[⟨a.1.ID,(spS x a.2).In,(spS x a.2).Out⟩] else s
def shS (d:T_api_Document) (x:List Int):List T_api_Shift:=runF (fun s a=>.inr (shF x s a)) id [] d.Events.zipIdx
theorem shF_len (x:List Int) (s:List T_api_Shift) (a:T_api_Event × Nat):(shF x s a).length≤s.length+1:=by unfold shF;split<;>simp
theorem shS_len (d:T_api_Document) (x:List Int):(shS d x).length≤d.Events.length:=by
 have:∀ (t:List (T_api_Event × Nat)) (s:List T_api_Shift),(runF (fun(s:List T_api_Shift) a=>(.inr (shF x s a):List T_api_Shift ⊕ List T_api_Shift)) id s t).length≤s.length+t.length:=by
  intro t
  induction t with
  | nil=>intro s;simp[runF]
  | cons a t ih =>
   intro s
   simp only[runF]
   have h1:=ih (shF x s a)
   have h2:=shF_len x s a
   simp only[List.length_cons]
   omega
 have h:=this d.Events.zipIdx []
 simp only[List.length_nil,List.length_zipIdx,Nat.zero_add] at h
 exact h
theorem pl2_eq {d:T_api_Document} (hn:d.Events.length≤255) {x:List Int} {b:Bool} {K:Int} (hK:K≤2100000) (hx:Bd (2 * d.Events.length+1) K x):iter (g_repair_Plan_s2 d (x,b)) (0,[])=some (shS d x):=by
 have hlz:d.Events.zipIdx.length=d.Events.length:=List.length_zipIdx
 refine iter_run (step:=g_repair_Plan_s2 d (x,b)) d.Events.zipIdx (by omega) (fun i (s:List T_api_Shift)=>(i,s)) (fun s a=>.inr (shF x s a)) id (fun i s=>s.length≤i) (s0:=[]) (by simp)
  (fun i hi s hs=>.inr ⟨_,rfl,?_,by have:=shF_len x s d.Events.zipIdx[i];omega⟩)
  (fun s hs=>by unfold g_repair_Plan_s2;dsimp only;rw[if_neg (by rw[hlz];simp)];rfl)
 have hi':i < d.Events.length:=by omega
 rw[show d.Events.zipIdx[i]=(d.Events[i],i) from by simp[List.getElem_zipIdx]]
 have hl:=hx.1
 have h1:=hx.2 (2 * i+1) (by omega)
 have h2:=hx.2 (2 * i+2) (by omega)
 have h0:=hx.2 0 (by omega)
 unfold g_repair_Plan_s2 shF spS
 dsimp only
 rw[if_pos (by simpa using hi'),atI_nat hi',wr64 (x:=(i:Int)+1) (by omega),wr64 (x:=2 * (i:Int)) (by omega),wr64 (x:=2 * (i:Int)+1) (by omega),wr64 (x:=2 * (i:Int)+2) (by omega),atI_getD (k:=2 * (i:Int)+1) (by omega) (by omega),atI_getD (k:=0) (by omega) (by omega),atI_getD (k:=2 * (i:Int)+2) (by omega) (by omega)]
 simp only[Option.bind_some]
 rw[show(2 * (i:Int)+1).toNat=2 * i+1 by omega,show(2 * (i:Int)+2).toNat=2 * i+2 by omega,show(0:Int).toNat=0 from rfl]
 generalize x.getD (2 * i+1) 0=a1 at *
 generalize x.getD (2 * i+2) 0=a2 at *
 generalize x.getD 0 0=a0 at *
 rw[wr64 (x:=a1 - a0) (by omega),wr64 (x:=a2 - a0) (by omega)]
 have hc:(s.length+1) * 24≤140737488355328:=by omega
 by_cases q1:a1 - a0=d.Events[i].Span.In
 ·by_cases q2:a2 - a0=d.Events[i].Span.Out
  ·simp[q1,q2]
  ·simp[q1,q2,hc]
 ·simp[q1,hc]
theorem sol_bd {n:Nat} {l:List T_api_Bound} (hl:BdsOK n l):Bd n (((n - 1:Nat):Int) * 4000) (sol n l):=rnds_bd hl (n - 1)
theorem plan_eq {d:T_api_Document} {p:T_api_Profile} {l:List Int} (h:TaskZ d p l) (hn:d.Events.length≤19) (tol:Int) :
  ((bnS d p l tol).2≠0∧g_repair_Plan d p l tol=some (⟨docN,[],0,[]⟩,(bnS d p l tol).2)) ∨
  (Good d p l∧(0≤tol∧tol≤5184000)∧¬ okT d p l tol∧∃ out,g_repair_Plan d p l tol=some (⟨docN,[],0,out.map (bAt (bnT d p l tol))⟩,16)∧(out=[]∨∃ k,0 < k∧k≤2 * d.Events.length+1∧Least (· ∈ eds (bnT d p l tol)) k∧CfOK (bnT d p l tol) k out)) ∨
  (Good d p l∧(0≤tol∧tol≤5184000)∧okT d p l tol∧∃ r:Int,0≤r∧r≤tol∧okT d p l r∧(r=0∨¬ okT d p l (r - 1))∧∃ A:T_api_Document × Int,g_repair_Apply d (shS d (sol (2 * d.Events.length+1) (bnT d p l r)))=some A∧g_repair_Plan d p l tol=some (⟨A.1,shS d (sol (2 * d.Events.length+1) (bnT d p l r)),r,[]⟩,A.2)):=by
 unfold g_repair_Plan
 rw[bounds_eq h]
 simp only[Option.bind_some]
 by_cases h0:(bnS d p l tol).2=0
 ·obtain⟨g,ht⟩:=good_of h h0
  obtain⟨h1,h2⟩:=g.bs ht
  have hcd:g_document_Check d=some 0:=by rw[(dcS_eq d h.doc).1,g.dc]
  have hD:=(dcS_eq d h.doc).2 g.dc
  rw[h1]
  simp only[bne_self_eq_false,Bool.false_eq_true,if_false]
  rw[numN d g.num]
  rcases solve_eq h2 with⟨a,b⟩|⟨a,out,b,hout⟩
  ·right;right
   rw[b]
   simp only[Option.bind_some,bne_self_eq_false,Bool.false_eq_true,if_false]
   obtain⟨r,hr,r0,r1,r2,r3⟩:=search_eq g ht a
   rw[hr]
   simp only[Option.bind_some]
   have hrr:0≤r∧r≤5184000:=by omega
   rcases plan1_eq g hrr with⟨c1,c2⟩|⟨c1,c2⟩
   ·rw[c2]
    simp only[Option.bind_some]
    obtain⟨k1,k2⟩:=g.bs hrr
    have hsb:=sol_bd k2
    rw[pl2_eq g.num (by omega) hsb]
    simp only[Option.bind_some]
    have hsl:=shS_len d (sol (2 * d.Events.length+1) (bnT d p l r))
    obtain⟨A,hA⟩:∃ A,g_repair_Apply d (shS d (sol (2 * d.Events.length+1) (bnT d p l r)))=some A:=by
     rcases apply_eq d h.doc hcd hD hn (shS d (sol (2 * d.Events.length+1) (bnT d p l r))) (by omega) with⟨e,_,q⟩|⟨ev,r,_,q,_⟩<;>exact⟨_,q⟩
    rw[hA]
    exact⟨g,ht,a,r,r0,r1,r2,r3,A,hA,rfl⟩
   ·exact absurd r2 c1
  ·right;left
   rw[b]
   simp only[Option.bind_some]
   rw[if_pos (by decide)]
   have hidx:out.length≤1000∧∀ i ∈ out,0≤i∧i < ((bnT d p l tol).length:Int):=by
    rcases hout with rfl|⟨k,k0,k1,_,hc⟩
    ·simp
    ·exact⟨by rw[hc.len];have:=g.num;omega,hc.idx⟩
   rw[pl1_eq (bnT d p l tol,0) [] out 16 hidx.1 hidx.2]
   exact⟨g,ht,a,out,rfl,hout⟩
 ·left
  rw[if_pos (by rw[bne_iff_ne];exact h0)]
  exact⟨h0,rfl⟩
theorem subH_take {α:Type} (l:List α) (k:Nat):subH l (if(k:Int) < (l.length:Int) then(k:Int) else(l.length:Int))=some (l.take k):=by
 unfold subH
 split
 ·rename_i h
  rw[if_pos (by omega),Int.toNat_natCast,Nat.sub_zero,List.drop_zero]
 ·rename_i h
  rw[if_pos (by omega),Int.toNat_natCast,Nat.sub_zero,List.drop_zero,List.take_length,List.take_of_length_le (by omega)]
theorem awake43:g_law43_awake=some true:=by decide +kernel
structure TskZ (t:T_captionerlaw43_Task):Prop where
 doc:DocZ t.Doc
 name:t.House.Name.length≤1048576
 forb:t.House.Forbidden.length≤1048576
def fewT (t:T_captionerlaw43_Task):T_captionerlaw43_Task:=⟨⟨t.Doc.Title,t.Doc.Lang,t.Doc.Rate,t.Doc.Drop,t.Doc.Last,t.Doc.Regions,t.Doc.Events.take 4,t.Doc.Comments.take 4⟩,t.House,t.Shots.take 6,t.Tol⟩
theorem few_eq (t:T_captionerlaw43_Task):g_law43_few t=some (fewT t):=by
 unfold g_law43_few
 have a:=subH_take t.Doc.Events 4
 have b:=subH_take t.Doc.Comments 4
 have c:=subH_take t.Shots 6
 rw[show(if 4 < (t.Doc.Events.length:Int) then 4 else(t.Doc.Events.length:Int))=(if((4:Nat):Int) < (t.Doc.Events.length:Int) then((4:Nat):Int) else(t.Doc.Events.length:Int)) from rfl,a]
 simp only[Option.bind_some]
 rw[show(if 4 < (t.Doc.Comments.length:Int) then 4 else(t.Doc.Comments.length:Int))=(if((4:Nat):Int) < (t.Doc.Comments.length:Int) then((4:Nat):Int) else(t.Doc.Comments.length:Int)) from rfl,b]
 simp only[Option.bind_some]
 rw[show(if 6 < (t.Shots.length:Int) then 6 else(t.Shots.length:Int))=(if((6:Nat):Int) < (t.Shots.length:Int) then((6:Nat):Int) else(t.Shots.length:Int)) from rfl,c]
 rfl
theorem fewT_z {t:T_captionerlaw43_Task} (h:TskZ t):TaskZ (fewT t).Doc (fewT t).House (fewT t).Shots∧(fewT t).Doc.Events.length≤4:=by
 have hd:=h.doc
 refine⟨⟨⟨hd.title,hd.rate,hd.regs,?_,fun e he=>hd.ev e (List.mem_of_mem_take he),?_,fun c hc=>hd.com c (List.mem_of_mem_take hc)⟩,h.name,h.forb,?_⟩,?_⟩
 ·show(t.Doc.Events.take 4).length≤_;simp;omega
 ·show(t.Doc.Comments.take 4).length≤_;simp;omega
 ·show(t.Shots.take 6).length≤_;simp;omega
 ·show(t.Doc.Events.take 4).length≤_;simp;omega
open Go.ChangeShapes Go.WideShapes Go.ChangeAt Go.RowKit
theorem own:ownKnob Tryz.prog.godebug=none:=by kernel_rfl
theorem laidOut:laidOutB Tryz.prog=true:=by kernel_rfl
theorem standIn_all (ts:List TypeId) (h:ts.all (fun t=>!(Tryz.prog.wantsStandIn t))=true) (t:TypeId) (ht:t ∈ ts):Tryz.pinned.checked.prog.wantsStandIn t=false:=by
 have:=List.all_eq_true.1 h t ht
 exact(show Tryz.prog.wantsStandIn t=false by simpa using this)
def putCells (cs:Array Value):Obj→Obj
 | .cells _ t frozen=>.cells cs t frozen
 | o=>o
theorem u8t_of9 {W:World} (h:laidMetH Tryz.prog [("unicode/utf8.acceptRanges", Rows.laid_unicode_utf8_acceptRanges),("unicode/utf8.first", Rows.laid_unicode_utf8_first)] W):U8T W :=
 utf8Tabs_of_readsT (U8Types.of196 Tryz.laysValid) ⟨by kernel_rfl,by kernel_rfl,by kernel_rfl,by kernel_rfl,by kernel_rfl,by kernel_rfl,by kernel_rfl⟩ (Lib.laidMet.reads h (.tail _ (.head _))) (Lib.laidMet.reads h (.head _))
theorem cell_keep {w w':World} {g c:Nat} {v:Value} (h:w.cell? ⟨g,c,none⟩=some v) (hb:Below w.heap.size w w'):w'.cell? ⟨g,c,none⟩=some v:=by
 have hlt:g < w.heap.size:=by
  rcases Nat.lt_or_ge g w.heap.size with h1|h1
  ·exact h1
  ·simp[World.cell?,Array.getElem?_eq_none h1] at h
 rw[World.cell?_of_block (hb.block g hlt)]
 exact h
theorem stabU8T:Stab U8T:=fun w w' h hb=>⟨fun c hc=>cell_keep (h.1 c hc) hb,fun i hi=>⟨cell_keep (h.2 i hi).1 hb,cell_keep (h.2 i hi).2 hb⟩⟩
theorem shp_of {W:World} (h:W.ShapedOpen Tryz.prog):Shp W :=
 cell_of_shapedOpen_int (k:=.i64) (t:=3) (zero:=#[.int .i64 0]) h (of_decide_eq_true (by kernel_rfl)) (by kernel_rfl) rfl (by kernel_rfl) (by kernel_rfl) Tryz.underlying3
def Env9 (w:World):Prop:=U8T w∧Shp w
theorem stabEnv9:Stab Env9:=fun w w' ⟨a,b⟩ hb=>⟨stabU8T w w' a hb,stabShp w w' b hb⟩
theorem env_of9 {W:World} (h:laidMetH Tryz.prog [("unicode/utf8.acceptRanges", Rows.laid_unicode_utf8_acceptRanges),("unicode/utf8.first", Rows.laid_unicode_utf8_first)] W) (hs:W.ShapedOpen Tryz.prog):Env9 W:=⟨u8t_of9 h,shp_of hs⟩
noncomputable def laidWorld9 (os:Os):World :=
 { (World.holding Tryz.prog os ⟨#[],#[],[]⟩) with heap:=(((World.holding Tryz.prog os ⟨#[],#[],[]⟩).heap.modify 1 (putCells #[.int .u8 128,.int .u8 191,.int .u8 160,.int .u8 191,.int .u8 128,.int .u8 159,.int .u8 144,.int .u8 191,.int .u8 128,.int .u8 143,.int .u8 0,.int .u8 0,.int .u8 0,.int .u8 0,.int .u8 0,.int .u8 0,.int .u8 0,.int .u8 0,.int .u8 0,.int .u8 0,.int .u8 0,.int .u8 0,.int .u8 0,.int .u8 0,.int .u8 0,.int .u8 0,.int .u8 0,.int .u8 0,.int .u8 0,.int .u8 0,.int .u8 0,.int .u8 0])).modify 0 (putCells (Pinned.utf8FirstZ.map fun(z:Nat)=>Value.int .u8 (z:Int)).toArray)) }
def T_api_Region.sz (x:T_api_Region):Prop:=(x.Name.length≤1048576)∧(True)∧(True)∧(True)∧(True)∧(True)∧(True)∧True
def T_api_Span.sz (x:T_api_Span):Prop:=(True)∧(True)∧True
def T_api_Style.sz (x:T_api_Style):Prop:=(True)∧(True)∧(True)∧True
def T_api_Run.sz (x:T_api_Run):Prop:=(x.Text.length≤1048576)∧(T_api_Style.sz x.Style)∧(x.Ruby.length≤1048576)∧True
def T_api_Row.sz (x:T_api_Row):Prop:=(x.Runs.length≤1048576∧∀ a ∈ x.Runs,T_api_Run.sz a)∧True
def T_api_Event.sz (x:T_api_Event):Prop:=(True)∧(T_api_Span.sz x.Span)∧(x.Region.length≤1048576)∧(True)∧(x.Speaker.length≤1048576)∧(x.Rows.length≤1048576∧∀ a ∈ x.Rows,T_api_Row.sz a)∧True
def T_api_Comment.sz (x:T_api_Comment):Prop:=(True)∧(True)∧(True)∧(True)∧(x.Author.length≤1048576)∧(x.Text.length≤1048576)∧(True)∧(True)∧True
def T_api_Document.sz (x:T_api_Document):Prop:=(x.Title.length≤1048576)∧(x.Lang.length≤1048576)∧(True)∧(True)∧(True)∧(x.Regions.length≤1048576∧∀ a ∈ x.Regions,T_api_Region.sz a)∧(x.Events.length≤1048576∧∀ a ∈ x.Events,T_api_Event.sz a)∧(x.Comments.length≤1048576∧∀ a ∈ x.Comments,T_api_Comment.sz a)∧True
def T_api_Profile.sz (x:T_api_Profile):Prop:=(x.Name.length≤1048576)∧(True)∧(True)∧(True)∧(True)∧(True)∧(True)∧(True)∧(True)∧(x.Forbidden.length≤1048576)∧(True)∧(True)∧(True)∧(True)∧True
def T_captionerlaw43_Task.sz (x:T_captionerlaw43_Task):Prop:=(T_api_Document.sz x.Doc)∧(T_api_Profile.sz x.House)∧(x.Shots.length≤1048576∧∀ a ∈ x.Shots,True)∧(True)∧True
theorem doc_z {d:T_api_Document} (h:T_api_Document.sz d) (hr:0≤d.Rate∧d.Rate≤255):DocZ d :=
 ⟨h.1,hr,h.2.2.2.2.2.1.1,h.2.2.2.2.2.2.1.1,fun e he=>by
  have:=(h.2.2.2.2.2.2.1.2 e he).2.2.2.2.2.1
  exact⟨this.1,fun r hr=>⟨fun u hu=>⟨((this.2 r hr).1.2 u hu).1,((this.2 r hr).1.2 u hu).2.2.1⟩,(this.2 r hr).1.1⟩⟩,h.2.2.2.2.2.2.2.1.1,fun c hc=>(h.2.2.2.2.2.2.2.1.2 c hc).2.2.2.2.2.1⟩
theorem task_z {t:T_captionerlaw43_Task} (h:T_captionerlaw43_Task.sz t) (hr:0≤t.Doc.Rate∧t.Doc.Rate≤255):TskZ t :=
 ⟨doc_z h.1 hr,h.2.1.1,h.2.1.2.2.2.2.2.2.2.2.2.1⟩
theorem task_rate {ds:List D} {t:T_captionerlaw43_Task} (h:∀ d ∈ ds,Sz d) (hm:t.d ∈ ds):0≤t.Doc.Rate∧t.Doc.Rate≤255 :=
 Sz_u8.1 (Sz_agg.1 (h _ hm) (.int .u8 t.Doc.Rate) (by simp))
open Go.RowKit
theorem setCells_setRow (g:Nat):∀ (vs:List Value) (o:Nat) (w:World) (cur:Array Value) (t:TypeId) (fr:Nat × Nat),w.heap[g]? = some (.cells cur t fr)→o+vs.length≤cur.size→w.setCells g o vs=w.setRow g (cur.toList.take o++vs++cur.toList.drop (o+vs.length)).toArray
 | [],o,w,cur,t,fr,hg,hl=>by
  have hlt:g < w.heap.size:=(Array.getElem?_eq_some_iff.1 hg).1
  have hv:w.heap[g]=.cells cur t fr:=(Array.getElem?_eq_some_iff.1 hg).2
  simp only[World.setCells,List.append_nil,List.length_nil,Nat.add_zero,List.take_append_drop,Array.toArray_toList]
  unfold World.setRow
  have:w.heap=w.heap.modify g (fun|.cells _ t fr=>.cells cur t fr|x=>x):=by
   apply Array.ext
   ·simp
   ·intro k h1 h2
    simp only[Array.getElem_modify]
    split
    ·rename_i hk
     subst hk
     rw[hv]
    ·rfl
  exact congrArg (fun h=>{ w with heap:=h }) this
 | v::r,o,w,cur,t,fr,hg,hl=>by
  simp only[List.length_cons] at hl
  have h1:=setCell_eq_setRow w g o cur t fr v hg
  simp only[World.setCells]
  rw[h1,setCells_setRow g r (o+1) _ (cur.setIfInBounds o v) t fr (setRow_heap w g cur _ t fr hg) (by simp;omega),setRow_setRow]
  congr 2
  have ho:o < cur.toList.length:=by simp;omega
  rw[Array.toList_setIfInBounds]
  have hlo:(cur.toList.take o).length=o:=by rw[List.length_take];omega
  generalize cur.toList=l at *
  have e1:(l.set o v).take (o+1)=l.take o++[v]:=by
   rw[List.set_eq_take_append_cons_drop,if_pos ho,List.take_append,hlo,List.take_of_length_le (by omega),show o+1 - o=1 by omega]
   rfl
  have e2:(l.set o v).drop (o+1+r.length)=l.drop (o+(r.length+1)):=by
   rw[List.drop_set_of_lt (by omega),show o+1+r.length=o+(r.length+1) by omega]
  rw[e1,e2,List.length_cons]
  simp
theorem zeros_len (z:Array Value) (n:Nat):(Builtin.zeroCells z n).toList.length=n * z.size:=by simp[Builtin.zeroCells]
theorem zeros_one {z:Array Value} (hz:∀ u ∈ z,u.oneCell'=true) (h0:0 < z.size) (n:Nat):∀ u ∈ (Builtin.zeroCells z n).toList,u.oneCell'=true:=by
 intro u hu
 simp only[Builtin.zeroCells,Array.toList_map,List.mem_map] at hu
 obtain⟨i,_,rfl⟩:=hu
 have hlt:i % z.size < z.size:=Nat.mod_lt _ h0
 rw[getElem!_pos z _ hlt]
 exact hz _ (Array.getElem_mem hlt)
theorem run_clear_cells (w:World) (t e ty:TypeId) (z:Value) (ht:Tryz.prog.underlying t=some (.slice e)) (hv:∀ w,(zeroValue e).run Tryz.prog w=.ok z w) (h1:∀ u ∈ z.cells,u.oneCell'=true) (h0:0 < z.cells.size) (b o n c:Nat) (hn:0 < n)
  (hc:∀ j,j < n * z.cells.size→(w.cell? ⟨b,o+j,none⟩).isSome=true) (hf:∀ j,j < n * z.cells.size→w.frozen? ⟨b,o+j,none⟩=false) :
  (Builtin.clear_ #[t] ty #[.slice (some ⟨b,o,none⟩) n c]).run Tryz.prog w=.ok (.tuple #[]) (w.setCells b o (Builtin.zeroCells z.cells n).toList):=by
 have hst:=run_storeCells_cells (P:=Tryz.prog) b o (Builtin.zeroCells z.cells n).toList 0 w (by rw[zeros_len];simpa using hc) (by rw[zeros_len];simpa using hf) (zeros_one h1 h0 n)
 simp only[Nat.add_zero] at hst
 obtain⟨m,rfl⟩:∃ m,n=m+1:=⟨n - 1,by omega⟩
 simp[Builtin.clear_,run_underlying ht,hv,hst]
theorem zero_Bound (w:World):(zeroValue 47).run Tryz.prog w=.ok (Value.agg #[Value.int .i64 0,Value.int .i64 0,Value.int .i64 0,Value.int .u8 0,Value.int .i64 0,Value.int .i64 0]) w:=by
 obtain⟨i0,hi,hz0,hz1,hz2⟩:=info_parts info_Bound
 simp[zeroValue,typeInfo,hi,hz0]
set_option maxHeartbeats 4000000
theorem run_Delete_Bound (g n cap i:Nat) (cur:Array Value) (w:World) (hg:w.heap[g]? = some (.cells cur 47 (0,0))) (hi:i < n) (hnc:n≤cap) (hm:cap≤maxLen) (hs:cur.size=cap * 6) (hone:∀ u ∈ cur.toList.take (n * 6),u.oneCell'=true) :
  Calls Tryz.prog 27 #[.slice (some ⟨g,0,none⟩) n cap,.int .i64 i,.int .i64 ((i:Int)+1)] w fun e w'=>e=.returned (.slice (some ⟨g,0,none⟩) (n - 1) cap)∧∃ zs:List Value,zs.length=6∧w'=(w.drew.setCells g (i * 6) ((cur.toList.take (n * 6)).drop ((i+1) * 6))).setCells g ((n - 1) * 6) zs:=by
 obtain⟨i0,hi0,hz0,hz1,hz2⟩:=info_parts info_Bound
 have tS:Tryz.prog.underlying 41=some (.slice 47):=Tryz.underlying41
 have zE:∀ w,(Go.sizeOf 47).run Tryz.prog w=.ok 6 w:=fun w=>by simp[Go.sizeOf,typeInfo,hi0,hz1]
 have mixed:Tryz.prog.follows .mixedOrders=true:=by kernel_rfl
 have hlt:i < i+1:=by omega
 obtain⟨news,hnews⟩:∃ news,news=(cur.toList.take (n * 6)).drop ((i+1) * 6):=⟨_,rfl⟩
 rw[← hnews]
 have hic:i≤cap:=by omega
 have hjc:i+1≤cap:=by omega
 have hjn:i+1≤n:=by omega
 rw[show((i:Int)+1)=((i+1:Nat):Int) by omega]
 generalize hj:i+1=j at *
 have hlenv:(cur.toList.take (n * 6)).length=n * 6:=by rw[List.length_take];simp;omega
 have hlen:news.length=(n - j) * 6:=by rw[hnews,List.length_drop,hlenv,Nat.sub_mul]
 have hcell:∀ k,k < cap * 6→w.cell? ⟨g,k,none⟩=some (cur.toList.getD k Go.undef):=fun k hk=>by
  rw[cell_of_row w g k cur 47 (0,0) hg]
  rw[Array.getElem?_eq_getElem (by omega)]
  simp[List.getD,show k < cur.size by omega]
 have hfrz:∀ k,w.frozen? ⟨g,k,none⟩=false:=fun k=>by simp[World.frozen?,hg]
 have hget:∀ t,t < (n - j) * 6→news[t]? = some (cur.toList.getD (j * 6+t) Go.undef):=by
  intro t ht
  rw[Nat.sub_mul] at ht
  rw[hnews,List.getElem?_drop,List.getElem?_take,if_pos (by omega),List.getD_eq_getElem?_getD,List.getElem?_eq_getElem (by simp;omega)]
  rfl
 obtain⟨A,hA,hsrc⟩:∃ A:Addr,(if cap=j then some (⟨g,0,none⟩:Addr) else some ⟨g,j * 6,none⟩)=some A∧Hid (∀ t u,news[t]? = some u→w.drew.cell? (A.add t)=some u):=by
  by_cases h:cap=j
  ·refine⟨⟨g,0,none⟩,by simp[h],fun t u hu=>?_⟩
   have h0:news.length=0:=by rw[hlen];omega
   rw[List.length_eq_zero_iff.1 h0] at hu
   simp at hu
  ·refine⟨⟨g,j * 6,none⟩,by simp[h],fun t u hu=>?_⟩
   have ht:t < (n - j) * 6:=by
    have:=(List.getElem?_eq_some_iff.1 hu).1
    rwa[hlen] at this
   rw[hget t ht] at hu
   rw[Nat.sub_mul] at ht
   rw[Addr.add_lit]
   exact(hcell (j * 6+t) (by omega)).trans hu
 have s1:Hid (news.length=(n - j) * 6):=hlen
 have s2:Hid (∀ u ∈ news,u.oneCell'=true):=by
  intro u hu
  rw[hnews] at hu
  exact hone u (List.mem_of_mem_drop hu)
 have s3:Hid (∀ t,t < news.length→(w.drew.cell? ⟨g,0+i * 6+t,none⟩).isSome=true∧w.drew.frozen? ⟨g,0+i * 6+t,none⟩=false):=by
  intro t ht
  rw[hlen,Nat.sub_mul] at ht
  rw[Nat.zero_add]
  exact⟨by show(w.cell? _).isSome=true;rw[hcell _ (by omega)];rfl,hfrz _⟩
 obtain⟨W1,hW1⟩:∃ W1,W1=w.drew.setCells g (0+i * 6) news:=⟨_,rfl⟩
 have hW1':W1=w.drew.setRow g (cur.toList.take (i * 6)++news++cur.toList.drop (i * 6+news.length)).toArray:=by
  rw[hW1,Nat.zero_add,setCells_setRow g news (i * 6) w.drew cur 47 (0,0) hg (by rw[hlen,Nat.sub_mul];omega)]
 have hg1:W1.heap[g]? = some (.cells (cur.toList.take (i * 6)++news++cur.toList.drop (i * 6+news.length)).toArray 47 (0,0)):=by
  rw[hW1'];exact setRow_heap w.drew g cur _ 47 (0,0) hg
 have hcl:∀ ty,(Builtin.clear_ #[41] ty #[.slice (some ⟨g,(i+(n - j)) * 6,none⟩) (n - (i+(n - j))) (cap - (i+(n - j)))]).run Tryz.prog W1=.ok (.tuple #[]) (W1.setCells g ((i+(n - j)) * 6) (Builtin.zeroCells #[Value.int .i64 0,Value.int .i64 0,Value.int .i64 0,Value.int .u8 0,Value.int .i64 0,Value.int .i64 0] (n - (i+(n - j)))).toList) :=
  fun ty=>run_clear_cells W1 41 47 ty (Value.agg #[Value.int .i64 0,Value.int .i64 0,Value.int .i64 0,Value.int .u8 0,Value.int .i64 0,Value.int .i64 0]) tS zero_Bound (by simp[Value.cells,Value.oneCell']) (by decide) g ((i+(n - j)) * 6) _ _ (by omega) (fun t ht=>by
   rw[cell_of_row W1 g _ _ 47 (0,0) hg1,Array.getElem?_eq_getElem]
   ·rfl
   ·have:(Value.agg #[Value.int .i64 0,Value.int .i64 0,Value.int .i64 0,Value.int .u8 0,Value.int .i64 0,Value.int .i64 0]).cells.size=6:=rfl
    rw[this] at ht
    simp only[List.size_toArray,List.length_append,List.length_take,List.length_drop,Array.length_toList,hlen,Nat.sub_mul]
    omega) (fun t ht=>by simp[World.frozen?,hg1])
 have hW:Hid (W1=w.drew.setCells g (0+i * 6) news):=hW1
 clear hW1 hW1' hg1 hg hget hnews hlen hcell hfrz hlenv hone
 go_enter Tryz.func27,Tryz.ntmps27
 go_wp2_with fail
 go_region_law_o (refine step_append_room rfl (.tmp 22) (.tmp 25) 41 rfl 47 i0 6 tS hi0 hz1 g 0 i cap (by simp[Act.eval,Act.put]) A (n - j) (cap - j) news (by simp[Act.eval,Act.put]) s1.out hsrc.out s2.out (by omega) s3.out ?_;rw[← hW.out])
 go_wp2
 go_ret
 have e1:i+(n - j)=n - 1:=by omega
 refine⟨?_,(Builtin.zeroCells #[Value.int .i64 0,Value.int .i64 0,Value.int .i64 0,Value.int .u8 0,Value.int .i64 0,Value.int .i64 0] (n - (i+(n - j)))).toList,?_,?_⟩
 ·rw[← e1];rfl
 ·rw[zeros_len,e1,show n - (n - 1)=1 by omega];rfl
 ·have hW':=hW.out
  rw[Nat.zero_add] at hW'
  rw[← hW',e1]
def g_slices_Delete_api_Bound_api_Bound (s:List T_api_Bound) (i j:Int):Option (List T_api_Bound):=if 0≤i∧i < (s.length:Int)∧j=i+1 then some (s.take i.toNat++s.drop (i.toNat+1)) else none
theorem flat_cut {k:Nat}:∀ (l:List D) (i:Nat),(∀ x ∈ l,x.cells.length=k)→(l.flatMap D.cells).take (i * k)=(l.take i).flatMap D.cells∧(l.flatMap D.cells).drop (i * k)=(l.drop i).flatMap D.cells
 | [],i,_=>by simp
 | x::t,0,_=>by simp
 | x::t,i+1,h=>by
  have ih:=flat_cut t i fun y hy=>h y (by simp[hy])
  have hx:=h x (by simp)
  rw[List.flatMap_cons,List.take_append,List.drop_append,hx,List.take_of_length_le (by rw[hx,Nat.succ_mul];omega),List.drop_of_length_le (by rw[hx,Nat.succ_mul];omega),show(i+1) * k - k=i * k by rw[Nat.succ_mul];omega,ih.1,ih.2]
  simp
theorem a_slices_Delete_api_Bound_api_Bound {I:World→Prop} (hI:Stab I) {H:Nat→Option Blk} {nid i0:Nat} {s:List T_api_Bound} {i j:Int} {r:List T_api_Bound} (h:g_slices_Delete_api_Bound_api_Bound s i j=some r) (b0:H i0=some (.vec 47 6 (s.map T_api_Bound.d) false)) :
  CallOK Tryz.prog I 27 [.own i0 s.length,.int .i64 i,.int .i64 j] H nid (.own nid r.length) [(i0,none),(nid,some (.vec 47 6 (r.map T_api_Bound.d) false))]:=by
 unfold g_slices_Delete_api_Bound_api_Bound at h
 split at h
 case isFalse=>cases h
 rename_i hc
 cases h
 obtain⟨hi0,hi1,rfl⟩:=hc
 obtain⟨i,rfl⟩:=Int.eq_ofNat_of_zero_le hi0
 rw[Int.toNat_natCast]
 have hin:i < s.length:=by omega
 refine⟨by kernel_rfl,fun ii w C B args hI hb0 hM hok hF hbase hnid hal hrep=>?_⟩
 obtain⟨v,v1,v2,rfl⟩:∃ v v1 v2,args=[v,v1,v2]:=by
  match args,hal with
  | [v,v1,v2],_=>exact⟨v,v1,v2,rfl⟩
 have hv:=hrep 0 v _ rfl rfl
 have hv1:=hrep 1 v1 _ rfl rfl
 have hv2:=hrep 2 v2 _ rfl rfl
 cases hv1
 cases hv2
 obtain⟨hlv,hB⟩:=hok.rep i0 _ b0
 obtain⟨vals,hown,hcl,hRL,hfz⟩:=hB
 have hnoid:H nid=none:=by
  cases hn2:H nid with
  | none=>rfl
  | some b=>exact absurd (hok.rep _ _ hn2).1 hnid
 generalize hrl:s.take i++s.drop (i+1)=r
 have hrlen:r.length=s.length - 1:=by rw[← hrl];simp;omega
 have hcase:∀ id' b,appEff H [(i0,none),(nid,some (.vec 47 6 (r.map T_api_Bound.d) false))] id'=some b→(id'=nid∧b=.vec 47 6 (r.map T_api_Bound.d) false)∨(id'≠nid∧id'≠i0∧H id'=some b):=by
  intro id' b hb
  rcases appEff_cases _ _ _ _ hb with⟨k1,k2⟩|k1
  ·exact .inr ⟨fun e'=>k1 (nid,some (.vec 47 6 (r.map T_api_Bound.d) false)) (by simp) e'.symm,fun e'=>k1 (i0,none) (by simp) e'.symm,k2⟩
  ·simp only[List.mem_cons,Prod.mk.injEq,reduceCtorEq,and_false,false_or,Option.some.injEq,List.not_mem_nil,or_false] at k1
   exact .inl k1
 cases hv with
 | own _ _ c A _ hm hs =>
 rw[hs,List.length_map] at hown
 obtain⟨hvl,hnil|⟨g,cap,cur,hsl,_,hg,hncap,hcapm,hcs,htk⟩⟩:=hown
 ·omega
 injection hsl with hA hn hcap
 subst hA hcap
 have hone:∀ u ∈ cur.toList.take (s.length * 6),u.oneCell'=true:=fun u hu=>hRL.one u (by rw[← htk];exact hu)
 have hlt:g < w.heap.size:=(Array.getElem?_eq_some_iff.1 hg).1
 refine(run_Delete_Bound g s.length c i cur w hg hin hncap hcapm hcs hone).mono ?_
 rintro e w' ⟨rfl,zs,hz,hw'⟩
 have hnl:((cur.toList.take (s.length * 6)).drop ((i+1) * 6)).length=(s.length - (i+1)) * 6:=by rw[List.length_drop,htk,hvl,Nat.sub_mul]
 have hcl':cur.toList.length=c * 6:=by simpa using hcs
 -- the cells behind the call
 obtain⟨R,hR,hRs,hRt⟩:∃ R:Array Value,w'=w.drew.setRow g R∧R.size=c * 6∧R.toList.take ((s.length - 1) * 6)=vals.take (i * 6)++vals.drop ((i+1) * 6):=by
  have h1:=setCells_setRow g ((cur.toList.take (s.length * 6)).drop ((i+1) * 6)) (i * 6) w.drew cur 47 (0,0) hg (by rw[hnl,Nat.sub_mul];omega)
  rw[h1] at hw'
  have hlen1:(cur.toList.take (i * 6)++(cur.toList.take (s.length * 6)).drop ((i+1) * 6)++cur.toList.drop (i * 6+((cur.toList.take (s.length * 6)).drop ((i+1) * 6)).length)).length=c * 6:=by
   simp only[List.length_append,List.length_take,List.length_drop,hcl']
   omega
  rw[setCells_setRow g zs _ _ _ 47 (0,0) (setRow_heap w.drew g cur _ 47 (0,0) hg) (by rw[List.size_toArray,hlen1,hz];omega),setRow_setRow] at hw'
  refine⟨_,hw',?_,?_⟩
  ·simp only[List.size_toArray,List.length_append,List.length_take,List.length_drop,hz] at hlen1 ⊢
   omega
  ·have ha:(cur.toList.take (i * 6)++(cur.toList.take (s.length * 6)).drop ((i+1) * 6)).length=(s.length - 1) * 6:=by
    rw[List.length_append,hnl,List.length_take];omega
   rw[List.append_assoc,List.take_append_of_le_length (by rw[List.length_take];simp only[List.toList_toArray,hlen1];omega),List.take_take,Nat.min_self]
   simp only[List.toList_toArray]
   rw[List.take_append_of_le_length (by omega),List.take_of_length_le (by omega),htk]
   congr 1
   rw[← htk,List.take_take,Nat.min_eq_left (by omega)]
 have hbel:BelM B.M w w':=by
  rw[hR]
  refine⟨rfl,rfl,rfl,by rw[setRow_size];exact Nat.le_refl _,fun k hk hkm=>?_⟩
  have hne:k≠g:=fun e=>hkm (e ▸ hok.own _ _ b0 g (by rw[hs];rfl))
  exact setRow_other w.drew g k _ hne
 have hblk:∀ k,k≠g→w'.heap[k]? = w.heap[k]?:=fun k hk=>by rw[hR];exact setRow_other w.drew g k _ hk
 have hg':w'.heap[g]? = some (.cells R 47 (0,0)):=by rw[hR];exact setRow_heap w.drew g cur _ 47 (0,0) hg
 let C2:Cx:=⟨C.F,fun q=>if q=nid then .slice (some ⟨g,0,none⟩) (s.length - 1) c else C.σ q,fun q=>C.live q∨q=nid⟩
 have hσ2:∀ q,C.live q→C2.σ q=C.σ q:=fun q hid=>by
  have:q≠nid:=fun e=>hnid (e ▸ hid)
  simp only[C2,if_neg this]
 have hσn:C2.σ nid=.slice (some ⟨g,0,none⟩) (s.length - 1) c:=by simp only[C2,if_true]
 have hbo:blockOf (C2.σ nid)=blockOf (C.σ i0):=by rw[hσn,hs];rfl
 have hnF:∀ o,¬ C.F g o:=fun o ho=>by
  have:=((hfz g (by rw[hs];rfl)).1 o ho).1
  cases this
 have hext:Ext C w C2 w':=⟨fun _ _ h=>h,fun b o hbo'=>hblk b (fun e=>hnF o (e ▸ hbo')),fun _ h=>.inl h,hσ2⟩
 have hk6:∀ x ∈ s.map T_api_Bound.d,x.cells.length=6:=fun x hx=>by obtain⟨y,_,rfl⟩:=List.mem_map.1 hx;rfl
 refine⟨_,C2,rfl,hbel,hext,by rw[hrlen];exact .own nid (s.length - 1) c _ (.inr rfl) (by omega) hσn,?_,fun b o hbo'=>Nat.lt_of_lt_of_le (hF b o hbo') hbel.size,fun _ h=>h,fun _ _ h=>.inl h⟩
 refine⟨fun id' b hb'=>?_,fun id' b hb' g' hg2=>?_,fun id' kk cs hb'=>?_,fun id1 id2 b1 b2 hb1 hb2 hne2 g' hg2 hg3=>?_⟩
 ·rcases hcase id' b hb' with⟨rfl,rfl⟩|⟨hne,hne',k⟩
  ·refine⟨.inr rfl,vals.take (i * 6)++vals.drop ((i+1) * 6),?_,fun x hx=>by obtain⟨y,_,rfl⟩:=List.mem_map.1 hx;rfl,?_,fun g' hg2=>⟨fun o ho=>?_,fun h=>by cases h⟩⟩
   ·rw[hσn,List.length_map,hrlen]
    refine⟨by rw[List.length_append,List.length_take,List.length_drop,hvl];omega,.inr ⟨g,c,R,rfl,Nat.zero_le _,hg',by omega,hcapm,hRs,hRt⟩⟩
   ·have f1:=flat_cut (s.map T_api_Bound.d) i hk6
    have f2:=flat_cut (s.map T_api_Bound.d) (i+1) hk6
    have:(r.map T_api_Bound.d).flatMap D.cells=((s.map T_api_Bound.d).flatMap D.cells).take (i * 6)++((s.map T_api_Bound.d).flatMap D.cells).drop ((i+1) * 6):=by
     rw[f1.1,f2.2,← hrl,List.map_append,List.flatMap_append,List.map_take,List.map_drop]
    rw[this]
    exact(hRL.take _).append (hRL.drop _) |>.ext hext.cF
   ·rw[hσn] at hg2
    simp only[Value.ownBlock,Option.some.injEq] at hg2
    subst hg2
    exact absurd ho (hnF o)
  ·obtain⟨k1,k2⟩:=hok.rep id' b k
   refine⟨.inl k1,k2.keep k1 hext (fun g' hg2=>hblk g' fun e'=>?_) fun _ _ _ h=>h⟩
   exact hok.apart _ _ _ _ b0 k (Ne.symm hne') g (by rw[hs];rfl) (e' ▸ hg2)
 ·rcases hcase id' b hb' with⟨rfl,rfl⟩|⟨hne,hne',k⟩
  ·rw[hbo] at hg2;exact hok.own _ _ b0 g' hg2
  ·rw[hσ2 id' (hok.rep _ _ k).1] at hg2;exact hok.own _ _ k g' hg2
 ·rcases hcase id' _ hb' with⟨rfl,h⟩|⟨hne,hne',k⟩
  ·cases h
  ·rw[hσ2 id' (hok.rep _ _ k).1];exact hok.pin _ _ _ k
 ·rcases hcase id1 b1 hb1 with⟨rfl,rfl⟩|⟨hne,hne',k⟩
  ·rw[hbo] at hg2
   rcases hcase id2 b2 hb2 with⟨rfl,rfl⟩|⟨hne3,hne4,k'⟩
   ·exact hne2 rfl
   ·rw[hσ2 id2 (hok.rep _ _ k').1] at hg3
    exact hok.apart _ _ _ _ b0 k' (Ne.symm hne4) g' hg2 hg3
  ·rw[hσ2 id1 (hok.rep _ _ k).1] at hg2
   rcases hcase id2 b2 hb2 with⟨rfl,rfl⟩|⟨hne3,hne4,k'⟩
   ·rw[hbo] at hg3
    exact hok.apart _ _ _ _ k b0 hne' g' hg2 hg3
   ·rw[hσ2 id2 (hok.rep _ _ k').1] at hg3
    exact hok.apart _ _ _ _ k k' hne2 g' hg2 hg3
set_option maxHeartbeats 10000000
theorem dd_EH:(∀ x,T_api_Region.d x=.agg [.str x.Name,.int .i64 x.Top,.int .i64 x.Height,.int .i64 x.Left,.int .i64 x.Width,.int .u8 x.Align,.bool x.Bottom])∧(∀ x,T_api_Comment.d x=.agg [.int .i64 x.ID,.int .i64 x.Event,.int .i64 x.From,.int .i64 x.To,.str x.Author,.str x.Text,.bool x.Done,.bool x.Lost])∧(∀ x,T_api_Span.d x=.agg [.int .i64 x.In,.int .i64 x.Out])∧(∀ x,T_api_Style.d x=.agg [.int .u8 x.Color,.bool x.Italic,.bool x.Underline])∧(∀ x,T_api_Run.d x=.agg [.str x.Text,.int .u8 x.Style.Color,.bool x.Style.Italic,.bool x.Style.Underline,.str x.Ruby])∧(∀ x,T_api_Row.d x=.agg [.sl (x.Runs.map T_api_Run.d)])∧(∀ x,T_api_Event.d x=.agg [.int .i64 x.ID,.int .i64 x.Span.In,.int .i64 x.Span.Out,.str x.Region,.int .u8 x.Kind,.str x.Speaker,.sl (x.Rows.map T_api_Row.d)])∧(∀ x,T_api_Bound.d x=.agg [.int .i64 x.I,.int .i64 x.J,.int .i64 x.C,.int .u8 x.Rule,.int .i64 x.ID,.int .i64 x.Other])∧(∀ x,T_api_Document.d x=.agg [.str x.Title,.str x.Lang,.int .u8 x.Rate,.bool x.Drop,.int .i64 x.Last,.sl (x.Regions.map T_api_Region.d),.sl (x.Events.map T_api_Event.d),.sl (x.Comments.map T_api_Comment.d)])∧(∀ x,T_api_Profile.d x=.agg [.str x.Name,.int .i64 x.Reading,.int .i64 x.MinFrames,.int .i64 x.MaxFrames,.int .i64 x.MinGap,.int .i64 x.ShotBefore,.int .i64 x.ShotAfter,.int .i64 x.Rows,.int .i64 x.Cols,.str x.Forbidden,.int .i64 x.SafeTop,.int .i64 x.SafeBottom,.int .i64 x.SafeLeft,.int .i64 x.SafeRight])∧(∀ x,T_captionerlaw43_Task.d x=.agg [.str x.Doc.Title,.str x.Doc.Lang,.int .u8 x.Doc.Rate,.bool x.Doc.Drop,.int .i64 x.Doc.Last,.sl (x.Doc.Regions.map T_api_Region.d),.sl (x.Doc.Events.map T_api_Event.d),.sl (x.Doc.Comments.map T_api_Comment.d),.str x.House.Name,.int .i64 x.House.Reading,.int .i64 x.House.MinFrames,.int .i64 x.House.MaxFrames,.int .i64 x.House.MinGap,.int .i64 x.House.ShotBefore,.int .i64 x.House.ShotAfter,.int .i64 x.House.Rows,.int .i64 x.House.Cols,.str x.House.Forbidden,.int .i64 x.House.SafeTop,.int .i64 x.House.SafeBottom,.int .i64 x.House.SafeLeft,.int .i64 x.House.SafeRight,.sl (x.Shots.map (D.int .i64)),.int .i64 x.Tol])∧(∀ x,T_api_Shift.d x=.agg [.int .i64 x.ID,.int .i64 x.In,.int .i64 x.Out])∧(∀ x,T_api_Repair.d x=.agg [.str x.Doc.Title,.str x.Doc.Lang,.int .u8 x.Doc.Rate,.bool x.Doc.Drop,.int .i64 x.Doc.Last,.sl (x.Doc.Regions.map T_api_Region.d),.sl (x.Doc.Events.map T_api_Event.d),.sl (x.Doc.Comments.map T_api_Comment.d),.sl (x.Shifts.map T_api_Shift.d),.int .i64 x.Needed,.sl (x.Conflict.map T_api_Bound.d)]):=⟨fun _=>rfl,fun _=>rfl,fun _=>rfl,fun _=>rfl,fun _=>rfl,fun _=>rfl,fun _=>rfl,fun _=>rfl,fun _=>rfl,fun _=>rfl,fun _=>rfl,fun _=>rfl,fun _=>rfl⟩
def g_law43_RepairNames_s1 (r20:T_api_Repair × Int) (x37:(List Int) × Int):Option (Nx ((List Int) × Int) ((List Int))) :=
 (if(decide (x37.2 < (r20.1.Conflict.length:Int))) then(if(x37.1.length+1) * 8≤140737488355328 then(some (.go ((x37.1++[x37.2]),(IntKind.i64.wrap (x37.2+1))))) else none) else(some (.out x37.1)))
def g_law43_RepairNames (t_0:T_captionerlaw43_Task) (k_1:Int):Option (Bool) :=
 ((g_law43_awake).bind fun r7=>(if r7 then((g_law43_few t_0).bind fun r14=>((g_repair_Plan r14.Doc r14.House r14.Shots r14.Tol).bind fun r20=>(((if(r20.2 != 16) then(some true) else(some ((r20.1.Conflict.length:Int) == 0))):Option (Bool)).bind fun v24=>(if v24 then(some ((r20.1.Conflict.length:Int) == 0)) else((iter (g_law43_RepairNames_s1 r20) ([],0)).bind fun e38=>(if ¬ ((e38.length:Nat):Int)=0 then(if r20.1.Conflict.isEmpty then((g_slices_Clone_api_Bound_api_Bound r20.1.Conflict).bind fun r108=>none) else((g_slices_Clone_api_Bound_api_Bound_nw r20.1.Conflict).bind fun r110=>((g_slices_Delete_api_Bound_api_Bound r110 (Int.tmod (IntKind.i64.wrap k_1) ((e38.length:Nat):Int)) (IntKind.i64.wrap ((Int.tmod (IntKind.i64.wrap k_1) ((e38.length:Nat):Int))+1))).bind fun r112=>((g_diffcon_Solve (IntKind.i64.wrap ((IntKind.i64.wrap (2 * (r14.Doc.Events.length:Int)))+1)) r112).bind fun r114=>((g_diffcon_Refutes (IntKind.i64.wrap ((IntKind.i64.wrap (2 * (r14.Doc.Events.length:Int)))+1)) r20.1.Conflict e38).bind fun r121=>(if(r121 == 0) then(some (r114.2.2 == 0)) else(some false))))))) else none)))))) else(some false)))
theorem a_law43_RepairNames {I:World→Prop} (hI:Stab I) (hShp:∀ w,I w→Shp w) (hU8T:∀ w,I w→U8T w) {t_0:T_captionerlaw43_Task} {k_1:Int} {r:Bool} (h:g_law43_RepairNames t_0 k_1=some r):AFun Tryz.prog I 9 [T_captionerlaw43_Task.d t_0,.int .u8 k_1] (.bool r):=by
 have dd:=dd_EH;have k:=True.intro;have q:=k;have rs:=Tryz.results9
 unfold g_law43_RepairNames at h
 refine .en hI Tryz.func9 Tryz.ntmps9 ?_
 refine xs<|rz ?_
 refine es<|xs<|xs<|rK fun K6 RK6 hK6 gK6=>zz ?_
 obtain⟨r7,h8,h⟩:=bs h
 refine cw (a_law43_awake hI hShp hU8T h8)<|zz ?_
 subst hK6 gK6
 refine es ?_
 rcases iK k h with⟨k,h⟩|⟨k,h⟩
 ·refine xf<|xk<|es<|xs<|rK fun K13 RK13 hK13 gK13=>zz ?_
  obtain⟨r14,h15,h⟩:=bs h
  refine cw (a_law43_few hI h15)<|zz ?_
  subst hK13 gK13
  refine es<|xs<|rK fun K19 RK19 hK19 gK19=>zz ?_
  obtain⟨r20,h21,h⟩:=bs h
  refine cw (a_repair_Plan hI hShp hU8T h21)<|zz ?_
  subst hK19 gK19
  refine es<|xs ?_
  obtain⟨v24,h27,h⟩:=bs h
  refine rb_cut (fun v24=>⟨envL [(1,.int .u8 k_1),(2,.ptr 0 0),(5,.ptr 1 0),(37,.bool v24)],heapL [(0,.box none [.str r14.Doc.Title,.str r14.Doc.Lang,.int .u8 r14.Doc.Rate,.bool r14.Doc.Drop,.int .i64 r14.Doc.Last,.sl (r14.Doc.Regions.map T_api_Region.d),.sl (r14.Doc.Events.map T_api_Event.d),.sl (r14.Doc.Comments.map T_api_Comment.d),.str r14.House.Name,.int .i64 r14.House.Reading,.int .i64 r14.House.MinFrames,.int .i64 r14.House.MaxFrames,.int .i64 r14.House.MinGap,.int .i64 r14.House.ShotBefore,.int .i64 r14.House.ShotAfter,.int .i64 r14.House.Rows,.int .i64 r14.House.Cols,.str r14.House.Forbidden,.int .i64 r14.House.SafeTop,.int .i64 r14.House.SafeBottom,.int .i64 r14.House.SafeLeft,.int .i64 r14.House.SafeRight,.sl (r14.Shots.map (D.int .i64)),.int .i64 r14.Tol]),(1,.box none [.str r20.1.Doc.Title,.str r20.1.Doc.Lang,.int .u8 r20.1.Doc.Rate,.bool r20.1.Doc.Drop,.int .i64 r20.1.Doc.Last,.sl (r20.1.Doc.Regions.map T_api_Region.d),.sl (r20.1.Doc.Events.map T_api_Event.d),.sl (r20.1.Doc.Comments.map T_api_Comment.d),.sl (r20.1.Shifts.map T_api_Shift.d),.int .i64 r20.1.Needed,.sl (r20.1.Conflict.map T_api_Bound.d)])],2,87⟩) h27 ?_ ?_
  ·clear h
   intro v24 h
   refine rK fun K25 RK25 hK25 gK25=>zz ?_
   rcases iK k h with⟨k,h⟩|⟨k,h⟩
   ·refine zz ?_
    subst hK25 gK25
    cases h
    exact en ⟨rfl,wk [(1,some 19)]⟩
   ·refine zz ?_
    subst hK25 gK25
    cases h
    exact en ⟨rfl,wk [(1,some 19)]⟩
  ·rcases iK k h with⟨k,h⟩|⟨k,h⟩
   ·refine xt<|xs<|rz ?_
    refine es<|xr<|er ?_
    cases h
    exact en fr
   ·refine xf<|xk<|es<|xs<|rz ?_
    refine es<|xs<|rz ?_
    refine es<|xs<|xs<|rz ?_
    refine es<|xb ?_
    obtain⟨e38,h95,h⟩:=bs h
    refine rb_loop (fun x37=>⟨envL [(1,.int .u8 k_1),(5,.ptr 0 0),(7,.int .i64 (IntKind.i64.wrap ((IntKind.i64.wrap (2 * (r14.Doc.Events.length:Int)))+1))),(8,.own 1 x37.1.length),(50,.int .i64 (r20.1.Conflict.length:Int)),(51,.int .i64 x37.2)],heapL [(0,.box none [.str r20.1.Doc.Title,.str r20.1.Doc.Lang,.int .u8 r20.1.Doc.Rate,.bool r20.1.Doc.Drop,.int .i64 r20.1.Doc.Last,.sl (r20.1.Doc.Regions.map T_api_Region.d),.sl (r20.1.Doc.Events.map T_api_Event.d),.sl (r20.1.Doc.Comments.map T_api_Comment.d),.sl (r20.1.Shifts.map T_api_Shift.d),.int .i64 r20.1.Needed,.sl (r20.1.Conflict.map T_api_Bound.d)]),(1,.vec 3 1 (x37.1.map (D.int .i64)) false)],2,87⟩) (fun _=>.exit 0) (fun e38=>⟨envL [(1,.int .u8 k_1),(5,.ptr 0 0),(7,.int .i64 (IntKind.i64.wrap ((IntKind.i64.wrap (2 * (r14.Doc.Events.length:Int)))+1))),(8,.own 1 e38.length)],heapL [(0,.box none [.str r20.1.Doc.Title,.str r20.1.Doc.Lang,.int .u8 r20.1.Doc.Rate,.bool r20.1.Doc.Drop,.int .i64 r20.1.Doc.Last,.sl (r20.1.Doc.Regions.map T_api_Region.d),.sl (r20.1.Doc.Events.map T_api_Event.d),.sl (r20.1.Doc.Comments.map T_api_Comment.d),.sl (r20.1.Shifts.map T_api_Shift.d),.int .i64 r20.1.Needed,.sl (r20.1.Conflict.map T_api_Bound.d)]),(1,.vec 3 1 (e38.map (D.int .i64)) false)],2,87⟩) h95 (wk [(0,some 1),(1,none)]) (by intro w;simp) ?_ ?_
    ·clear h
     intro x37 y h
     unfold g_law43_RepairNames_s1 at h
     refine xs<|rz ?_
     refine es<|xs ?_
     rcases iK k h with⟨k,h⟩|⟨k,h⟩
     ·refine xt<|xk<|es<|xs<|xb<|xs<|rz ?_
      refine es<|rK fun K91 RK91 hK91 gK91=>zz ?_
      obtain⟨h92,h⟩:=ite_on h
      have h93:x37.1.length+1≤9223372036854775807:=by omega
      try simp only[Nat.reduceLeDiff] at h93
      have q:=And.intro @h93<|And.intro @h92<|q
      refine zz ?_
      subst hK91 gK91
      refine bn<|es<|rz ?_
      cases h
      exact en ⟨rfl,wk [(1,some 8)]⟩
     ·refine xf<|xx<|ee ?_
      cases h
      exact en ⟨rfl,wk []⟩
    ·refine bh<|es<|xs<|rK fun K97 RK97 hK97 gK97=>zz ?_
     obtain⟨q,h⟩:=oK q h
     refine zz ?_
     subst hK97 gK97
     refine es<|xs<|rK fun K107 RK107 hK107 gK107=>zz ?_
     rcases iK k h with⟨k,h⟩|⟨k,h⟩
     ·obtain⟨r108,h109,h⟩:=bs h
      refine cw (a_slices_Clone_api_Bound_api_Bound hI h109)<|zz ?_
      cases h
     ·obtain⟨r110,h111,h⟩:=bs h
      refine cW.introE (a_slices_Clone_api_Bound_api_Bound_nw hI (nid:=11) h111) fz rfl<|zz ?_
      obtain⟨r112,h113,h⟩:=bs h
      refine cW.introR (a_slices_Delete_api_Bound_api_Bound hI (nid:=15) (i0:=11) h113 fz) fs rfl<|zz ?_
      obtain⟨r114,h115,h⟩:=bs h
      refine cw (a_diffcon_Solve hI h115)<|zz ?_
      subst hK107 gK107
      refine es<|xs<|rK fun K120 RK120 hK120 gK120=>zz ?_
      obtain⟨r121,h122,h⟩:=bs h
      refine cw (a_diffcon_Refutes hI h122)<|zz ?_
      rcases iK k h with⟨k,h⟩|⟨k,h⟩
      ·refine zz ?_
       subst hK120 gK120
       refine es<|xr ?_
       cases h
       exact en fr
      ·refine zz ?_
       subst hK120 gK120
       refine es<|xr ?_
       cases h
       exact en fr
 ·refine xt<|xs<|rz ?_
  refine es<|xr<|er ?_
  cases h
  exact en fr
theorem Wlk.chain {p:Ed→Prop} {u v:Nat} {L:List Ed} (h:Wlk p u v L):(∀ i (hi:i+1 < L.length),L[i+1].i=L[i].j)∧(∀ h0:0 < L.length,L[0].i=u∧(L[L.length - 1]'(by omega)).j=v):=by
 induction h with
 | nil u=>exact⟨fun i hi=>by simp at hi,fun h0=>by simp at h0⟩
 | @cons e v L he hw ih =>
  refine⟨fun i hi=>?_,fun _=>⟨rfl,?_⟩⟩
  ·cases i with
   | zero =>
    simp only[List.length_cons] at hi
    simpa using(ih.2 (by omega)).1
   | succ i=>simpa using ih.1 i (by simpa using hi)
  ·by_cases hL:L=[]
   ·subst hL;simpa using hw.nil_eq
   ·have hpos:=List.length_pos_iff.2 hL
    have:=(ih.2 hpos).2
    simp only[List.length_cons,Nat.add_sub_cancel]
    rw[List.getElem_cons]
    rw[dif_neg (by omega)]
    exact this
def cfl (bs:List T_api_Bound) (out:List Int):List T_api_Bound:=out.map (bAt bs)
theorem bAt_mem {bs:List T_api_Bound} {i:Int} (h:0≤i∧i < (bs.length:Int)):bAt bs i ∈ bs:=by
 obtain⟨i,rfl⟩:=Int.eq_ofNat_of_zero_le h.1
 have hi:i < bs.length:=by omega
 simp[bAt,List.getD,hi]
theorem ed_bAt {bs:List T_api_Bound} {i:Int} (h:0≤i∧i < (bs.length:Int)):eAt bs i=ed (bAt bs i):=by
 obtain⟨i,rfl⟩:=Int.eq_ofNat_of_zero_le h.1
 have hi:i < bs.length:=by omega
 rw[eAt_nat hi]
 simp[bAt,List.getD,hi]
theorem cfl_eds {bs:List T_api_Bound} {out:List Int} (h:∀ i ∈ out,0≤i∧i < (bs.length:Int)):eds (cfl bs out)=out.map (eAt bs):=by
 unfold eds cfl
 rw[List.map_map]
 exact List.map_congr_left fun i hi=>(ed_bAt (h i hi)).symm
theorem cfl_ok {n:Nat} {bs:List T_api_Bound} (hb:BdsOK n bs) {out:List Int} (h:∀ i ∈ out,0≤i∧i < (bs.length:Int)) (hl:out.length≤4000):BdsOK n (cfl bs out) :=
 ⟨hb.n1,hb.n2,by unfold cfl;simpa using hl,fun b hm=>by
  obtain⟨i,hi,rfl⟩:=List.mem_map.1 hm
  exact hb.bd _ (bAt_mem (h i hi))⟩
theorem order_eq (r:T_api_Repair × Int) (hn:r.1.Conflict.length≤4000):iter (g_law43_RepairNames_s1 r) ([],0)=some ((List.range r.1.Conflict.length).map Int.ofNat):=by
 refine iter_of (fun x e=>∃ i:Nat,x=((List.range i).map Int.ofNat,(i:Int))∧i≤r.1.Conflict.length∧e=(List.range r.1.Conflict.length).map Int.ofNat) (fun x=>r.1.Conflict.length - x.2.toNat) ?_ (x:=([],0)) ⟨0,rfl,by omega,rfl⟩ (by dsimp only;omega)
 rintro x e ⟨i,rfl,hi,rfl⟩
 unfold g_law43_RepairNames_s1
 dsimp only
 by_cases h:i < r.1.Conflict.length
 ·left
  rw[if_pos (by simpa using h),if_pos (by simp;omega),wr64 (x:=(i:Int)+1) (by omega)]
  exact⟨_,rfl,⟨i+1,by rw[List.range_succ,List.map_append];rfl,by omega,rfl⟩,by dsimp only;omega⟩
 ·right
  obtain rfl:i=r.1.Conflict.length:=by omega
  rw[if_neg (by simp)]
theorem sumE_take {L:List Ed} {i:Nat} (h:i < L.length):sumE (L.take (i+1))=sumE (L.take i)+L[i].c:=by
 rw[List.take_succ_eq_append_getElem h,sumE_app]
 simp[sumE]
theorem refutes_eq {n:Nat} {l:List T_api_Bound} (hl:BdsOK n l) (h0:0 < l.length) (hn:l.length≤n) {u:Nat} (hw:Wlk (· ∈ eds l) u u (eds l)) (hs:sumE (eds l) < 0):g_diffcon_Refutes n l ((List.range l.length).map Int.ofNat)=some 0:=by
 have hn2:=hl.n2
 have hol:((List.range l.length).map Int.ofNat).length=l.length:=by simp
 have hat:∀ i,i < l.length→atI ((List.range l.length).map Int.ofNat) (i:Int)=some (i:Int):=fun i hi=>by
  rw[atI_nat (by rw[hol];exact hi)]
  simp
 have hel:(eds l).length=l.length:=List.length_map ..
 have heg:∀ i (hi:i < l.length),(eds l)[i]'(by rw[hel];exact hi)=ed l[i]:=fun i hi=>by simp[eds]
 obtain⟨hc1,hc2⟩:=hw.chain
 obtain⟨hf,hla⟩:=hc2 (by omega)
 have hb:∀ i (hi:i < l.length),_:=fun i hi=>hl.bd l[i] (List.getElem_mem hi)
 unfold g_diffcon_Refutes
 rw[dcCheck_eq hl]
 simp only[Option.bind_some,hol,bne_self_eq_false,Bool.false_eq_true,if_false]
 have a1:((l.length:Int) == 0)=false:=by simp;intro h;subst h;simp at h0
 have a2:¬ (n:Int) < (l.length:Int):=by omega
 simp only[a1,a2,decide_false,Bool.false_eq_true,if_false,Option.bind_some]
 obtain⟨e,he,rfl⟩:=iter_cnt (step:=g_diffcon_Refutes_s1 l ((List.range l.length).map Int.ofNat)) l.length (by omega) (fun _=>True) (fun e=>e=.inr ()) trivial (fun i hi _=>by
  unfold g_diffcon_Refutes_s1
  rw[if_pos (by rw[hol];simpa using hi),hat i hi,wr64 (x:=(i:Int)+1) (by omega)]
  simp only[Option.bind_some]
  have b1:¬ (i:Int) < 0:=by omega
  have b2:¬ (l.length:Int)≤(i:Int):=by omega
  simp only[b1,b2,decide_false,Bool.false_eq_true,if_false]
  exact .inl ⟨by first|rfl|trivial,trivial⟩) (fun _=>by
  unfold g_diffcon_Refutes_s1
  exact⟨_,by rw[if_neg (by rw[hol];simp)],rfl⟩)
 rw[he]
 simp only[Option.bind_some]
 rw[wr64 (by omega),show((l.length:Int) - 1)=((l.length - 1:Nat):Int) by omega,hat _ (by omega)]
 simp only[Option.bind_some]
 rw[atI_nat (show l.length - 1 < l.length by omega)]
 simp only[Option.bind_some]
 have hsb:∀ i,i≤l.length→-(4000 * 1099511627776)≤sumE ((eds l).take i)∧sumE ((eds l).take i)≤4000 * 1099511627776:=by
  intro i hi
  have:=sumE_bd hl.cc ((eds l).take i) (fun e he=>List.mem_of_mem_take he)
  have h2:((eds l).take i).length≤4000:=by rw[List.length_take];have:=hl.len;omega
  have h3:((((eds l).take i).length:Nat):Int) * 1099511627776≤4000 * 1099511627776:=Int.mul_le_mul_of_nonneg_right (by omega) (by decide)
  omega
 have key:iter (g_diffcon_Refutes_s2 l ((List.range l.length).map Int.ofNat)) ((l[l.length - 1]'(by omega)).J,0,0)=some (.inr (sumE (eds l))):=by
  refine iter_of (fun x e=>∃ i:Nat,x.2.2=(i:Int)∧i≤l.length∧x.2.1=sumE ((eds l).take i)∧(∀ hi:i < l.length,x.1=l[i].I)∧e=.inr (sumE (eds l))) (fun x=>l.length - x.2.2.toNat) ?_ (x:=((l[l.length - 1]'(by omega)).J,0,0)) ⟨0,rfl,by omega,rfl,fun hi=>?_,rfl⟩ (by dsimp only;omega)
  ·rintro⟨at_,sum,x⟩ e ⟨i,h1,hi,h2,h3,rfl⟩
   dsimp only at h1 h2 h3
   subst h1 h2
   unfold g_diffcon_Refutes_s2
   dsimp only
   by_cases h:i < l.length
   ·left
    have hs1:=hsb (i+1) (by omega)
    rw[sumE_take (by rw[hel];exact h),heg i h] at hs1
    have hs2:-9223372036854775808≤sumE ((eds l).take i)+l[i].C∧sumE ((eds l).take i)+l[i].C≤9223372036854775807:=by
     have e:(ed l[i]).c=l[i].C:=rfl
     rw[e] at hs1
     omega
    rw[if_pos (by rw[hol];simpa using h),hat i h,wr64 (x:=(i:Int)+1) (by omega)]
    simp only[Option.bind_some]
    rw[atI_nat h]
    simp only[Option.bind_some]
    rw[h3 h,if_neg (by simp),wr64 (x:=sumE ((eds l).take i)+l[i].C) hs2]
    refine⟨_,rfl,⟨i+1,by simp,by omega,?_,fun hi2=>?_,by first|rfl|trivial⟩,by dsimp only;omega⟩
    ·dsimp only
     rw[sumE_take (by rw[hel];exact h),heg i h]
     rfl
    ·dsimp only
     have:=hc1 i (by rw[hel];exact hi2)
     rw[heg i h,heg (i+1) hi2] at this
     unfold ed at this
     simp only at this
     have p1:=hb i h
     have p2:=hb (i+1) hi2
     omega
   ·right
    obtain rfl:i=l.length:=by omega
    rw[if_neg (by rw[hol];simp),show(eds l).take l.length=eds l from by rw[← hel];exact List.take_length ..]
  ·have p1:=hb 0 h0
   have p2:=hb (l.length - 1) (by omega)
   rw[heg 0 h0] at hf
   have hq:(eds l)[(eds l).length - 1]'(by omega)=ed (l[l.length - 1]'(by omega)):=by simp[eds]
   rw[hq] at hla
   unfold ed at hf hla
   simp only at hf hla
   dsimp only
   omega
 rw[key]
 simp only[Option.bind_some]
 rw[if_neg (by simpa using hs)]
theorem repairNames_true (t:T_captionerlaw43_Task) (h:TskZ t) (k:Int) (hk:0≤k∧k≤255):g_law43_RepairNames t k=some true:=by
 obtain⟨hz,hn⟩:=fewT_z h
 unfold g_law43_RepairNames
 rw[awake43,few_eq]
 simp only[Option.bind_some,if_true]
 generalize fewT t=u at hz hn
 rcases plan_eq hz (by omega) u.Tol with⟨he,hp⟩|⟨g,ht,a,out,hp,ho⟩|⟨g,ht,a,r,r0,r1,r2,r3,A,hA,hp⟩
 ·rw[hp]
  simp only[Option.bind_some]
  by_cases q:(bnS u.Doc u.House u.Shots u.Tol).2=16
  ·simp[q]
  ·simp[q]
 ·rw[hp]
  simp only[Option.bind_some,bne_self_eq_false,Bool.false_eq_true,if_false]
  rcases ho with rfl|⟨m,m0,m1,hleast,hc⟩
  ·rfl
  ·obtain⟨_,hbs⟩:=g.bs ht
   generalize bnT u.Doc u.House u.Shots u.Tol=bs at *
   have hml:(out.map (bAt bs)).length=m:=by rw[List.length_map,hc.len]
   have hidx:=hc.idx
   have hok:BdsOK (2 * u.Doc.Events.length+1) (cfl bs out):=cfl_ok hbs hidx (by rw[hc.len];omega)
   have hed:=cfl_eds hidx
   have hcl:(cfl bs out).length=m:=hml
   obtain⟨v,hw⟩:=hc.cyc
   rw[← hed] at hw
   have hneg:=hc.neg
   rw[← hed] at hneg
   have hnd:((eds (cfl bs out)).map (·.i)).Nodup:=by
    refine cyc_simple (p:=(· ∈ eds bs)) ?_ hw hneg
    rw[show(eds (cfl bs out)).length=m from by rw[← hcl];simp[eds]]
    exact hleast
   have a1:(((out.map (bAt bs)).length:Int) == 0)=false:=by rw[hml];simp;omega
   simp only[a1,Bool.false_eq_true,if_false]
   have hord:=order_eq (⟨docN,[],0,out.map (bAt bs)⟩,16) (by show(out.map (bAt bs)).length≤4000;omega)
   rw[hord]
   simp only[Option.bind_some,hml,List.length_map,List.length_range]
   have hm0:¬ ((m:Nat):Int)=0:=by omega
   rw[if_pos hm0]
   have hemp:(out.map (bAt bs)).isEmpty=false:=by
    rw[Bool.eq_false_iff];intro q
    rw[List.isEmpty_iff] at q
    rw[q] at hml;simp at hml;omega
   rw[if_neg (by rw[hemp];simp)]
   have hclone:g_slices_Clone_api_Bound_api_Bound_nw (out.map (bAt bs))=some (out.map (bAt bs)):=by
    unfold g_slices_Clone_api_Bound_api_Bound_nw g_slices_Clone_api_Bound_api_Bound
    rw[if_neg (by rw[hemp];simp),if_pos (by rw[hml];omega)]
   rw[hclone,wr64 (x:=k) (by omega)]
   simp only[Option.bind_some]
   obtain⟨k,rfl⟩:=Int.eq_ofNat_of_zero_le hk.1
   have hmod:Int.tmod (k:Int) (m:Int)=((k % m:Nat):Int):=by rw[Int.tmod_eq_emod_of_nonneg (by omega)];exact(Int.natCast_emod ..).symm
   have hlt:k % m < m:=Nat.mod_lt _ m0
   rw[hmod]
   generalize k % m=i at hlt
   rw[wr64 (x:=(i:Int)+1) (by omega)]
   have hdel:g_slices_Delete_api_Bound_api_Bound (out.map (bAt bs)) (i:Int) ((i:Int)+1)=some ((cfl bs out).take i++(cfl bs out).drop (i+1)):=by
    unfold g_slices_Delete_api_Bound_api_Bound
    rw[if_pos ⟨by omega,by rw[hml];omega,rfl⟩]
    rfl
   rw[hdel]
   simp only[Option.bind_some]
   rw[numN u.Doc (by omega)]
   have hok2:BdsOK (2 * u.Doc.Events.length+1) ((cfl bs out).take i++(cfl bs out).drop (i+1)) :=
    ⟨hok.n1,hok.n2,by have:=hok.len;simp only[List.length_append,List.length_take,List.length_drop];omega,fun b hb=>by
     rcases List.mem_append.1 hb with hb|hb
     ·exact hok.bd b (List.mem_of_mem_take hb)
     ·exact hok.bd b (List.mem_of_mem_drop hb)⟩
   have hi:i < (eds (cfl bs out)).length:=by rw[show(eds (cfl bs out)).length=m from by rw[← hcl];simp[eds]];exact hlt
   have hsplit:eds (cfl bs out)=(eds (cfl bs out)).take i++(eds (cfl bs out))[i]::(eds (cfl bs out)).drop (i+1):=by
    rw[← List.drop_eq_getElem_cons hi,List.take_append_drop]
   have hno:NoNeg (· ∈ eds ((cfl bs out).take i++(cfl bs out).drop (i+1))):=by
    have e1:eds ((cfl bs out).take i++(cfl bs out).drop (i+1))=(eds (cfl bs out)).take i++(eds (cfl bs out)).drop (i+1):=by simp[eds,List.map_take,List.map_drop]
    rw[e1]
    rw[hsplit] at hw hnd
    exact drop_one hw hnd
   rcases solve_eq hok2 with⟨_,hs⟩|⟨hbad,_⟩
   ·rw[hs]
    simp only[Option.bind_some]
    have href:=refutes_eq hok (by omega) (by rw[hcl];omega) (hw.mono fun e he _=>he) hneg
    rw[hcl] at href
    rw[show out.map (bAt bs)=cfl bs out from rfl,href]
    rfl
   ·exact absurd hno hbad
 ·rw[hp]
  simp only[Option.bind_some]
  by_cases q:A.2=16
  ·simp[q]
  ·simp[q]
theorem law_RepairNames (t:T_captionerlaw43_Task) (k:Int) (hB:T_captionerlaw43_Task.sz t):AFun Tryz.prog Env9 9 [t.d,.int .u8 k] (.bool true):=by
 refine AFun.sized (by kernel_rfl) fun hz=>?_
 have hk:0≤k∧k≤255:=Sz_u8.1 (hz (.int .u8 k) (by simp))
 exact a_law43_RepairNames stabEnv9 (fun _ h=>h.2) (fun _ h=>h.1) (repairNames_true t (task_z hB (task_rate hz (by simp))) k hk)
open Go.ChangeShapes Go.WideShapes Go.ChangeAt Go.RowKit Go.Joins
def FA (w:World):Nat→Nat→Prop:=fun b _=>b < w.heap.size
theorem FA_fb (w:World):FB (cF (FA w)) w:=fun _ _ h=>h
theorem wf_inR {k:IntKind} {n:Int} (h:(Lit.int k n).wf=true):inR k n:=by
 simp only[Lit.wf,Bool.and_eq_true,decide_eq_true_eq] at h
 cases k<;>simp[IntKind.min,IntKind.max,IntKind.signed,IntKind.bits] at h<;>simp[inR,kLo,kHi]<;>omega
theorem strOfBytes (s:ByteArray):(⟨s.data.toList.toArray⟩:ByteArray)=s:=by cases s;simp
theorem AFun.law {P:Program} {I:World→Prop} {f:FuncId} {ds:List D} (h:AFun P I f ds (.bool true)) {W:World} {args:List Value} (hI:I W) (hl:args.length=ds.length) (hr:∀ (i:Nat) v d,args[i]? = some v→ds[i]? = some d→Rep W (cF (FA W)) v d) :
  Calls P f args.toArray W fun e w'=>e=.returned (.bool true)∧Below W.heap.size W w':=by
 refine(h.2 W (FA W) args hI (FA_fb W) hl hr).mono ?_
 rintro e w' ⟨v,F',rfl,hb,_,_,_,hrep⟩
 cases hrep
 exact⟨rfl,hb⟩
section
variable (H:Type) (enc:TypeId × Value→H) (P:Program)
def OpT {α:Type} (t:TypeId) (δ:α→D):Prop :=
 ∀ (w:World) (fuel:Nat) (cs:List Value) (x:DataW H × List MemPlace),DataW.trod enc P w 0 (fun _=>true) true fuel t cs=some x→∃ a:α,RepL (cF (FA w)) w cs (δ a).cells
def OpF {α:Type} (fs:List Field) (off:Nat) (γ:α→List D):Prop :=
 ∀ (w:World) (fuel:Nat) (cs:List Value),off≤cs.length→(∀ f ∈ fs,∃ x,DataW.trod enc P w 0 (fun _=>true) true fuel f.type ((cs.drop f.offset).take (P.cellsOf f.type))=some x)→(fs=[]→cs.length=off)→(∀ f ∈ fs,f.offset+P.cellsOf f.type≤cs.length)→((fs.map fun f=>P.cellsOf f.type).sum+off=cs.length)→∃ a:α,RepL (cF (FA w)) w (cs.drop off) (γ a)
end
section
variable {H:Type} {enc:TypeId × Value→H} {P:Program}
theorem OpT.int {t:TypeId} {k:IntKind} (ht:P.underlying t=some (.int k)):OpT H enc P t (D.int k):=by
 intro w fuel cs x h
 obtain⟨n,rfl,_,hw⟩:=DataW.trod_int ht h
 exact⟨n,RepL.one1 rfl (.int _ _ (wf_inR hw))⟩
theorem OpT.bool {t:TypeId} (ht:P.underlying t=some .bool):OpT H enc P t D.bool:=by
 intro w fuel cs x h
 obtain⟨n,rfl,_⟩:=DataW.trod_bool ht h
 exact⟨n,RepL.one1 rfl (.bool _)⟩
theorem rep_strB {w:World} {C:Cx} (s:ByteArray) (h:s.size≤maxLen):Rep w C (.string s) (.str s.data.toList):=by
 have:=Rep.str (w:=w) (C:=C) s.data.toList (by rw[Array.length_toList];exact h)
 rwa[strOfBytes] at this
theorem OpT.str {t:TypeId} (ht:P.underlying t=some .string):OpT H enc P t D.str:=by
 intro w fuel cs x h
 obtain⟨s,rfl,_,hs⟩:=DataW.trod_string ht h
 exact⟨s.data.toList,RepL.one1 rfl (rep_strB s hs)⟩
theorem OpT.map {α β:Type} {t:TypeId} {δ:α→D} {ε:β→D} (h:OpT H enc P t δ) (φ:α→β) (hφ:∀ a,ε (φ a)=δ a):OpT H enc P t ε:=by
 intro w fuel cs x hx
 obtain⟨a,ha⟩:=h w fuel cs x hx
 exact⟨φ a,by rw[hφ];exact ha⟩
theorem OpF.nil {off:Nat}:OpF H enc P [] off (fun _:Unit=>[]):=by
 intro w fuel cs h1 h2 h3 h4 h5
 refine⟨(),?_⟩
 rw[List.drop_eq_nil_of_le (by have:=h3 rfl;omega)]
 exact RepL.nil
theorem OpF.cons {α β:Type} {f:Field} {fs:List Field} {off:Nat} {δ:α→D} {γ:β→List D} (ho:f.offset=off) (h:OpT H enc P f.type δ) (hr:OpF H enc P fs (off+P.cellsOf f.type) γ):OpF H enc P (f::fs) off (fun p:α × β=>(δ p.1).cells++γ p.2):=by
 intro w fuel cs h1 h2 h3 h4 h5
 subst ho
 obtain⟨x,hx⟩:=h2 f (by simp)
 obtain⟨a,ha⟩:=h w fuel _ x hx
 have hlen:f.offset+P.cellsOf f.type≤cs.length:=h4 f (by simp)
 simp only[List.map_cons,List.sum_cons] at h5
 obtain⟨b,hb⟩:=hr w fuel cs hlen (fun g hg=>h2 g (by simp[hg])) (fun e=>by subst e;simp at h5;omega) (fun g hg=>h4 g (by simp[hg])) (by omega)
 refine⟨(a,b),?_⟩
 have:=ha.append hb
 rw[show(cs.drop f.offset).take (P.cellsOf f.type)++cs.drop (f.offset+P.cellsOf f.type)=cs.drop f.offset by rw[← List.drop_drop];exact List.take_append_drop _ _] at this
 exact this
theorem OpT.struct {α β:Type} {t:TypeId} {fs:Array Field} {γ:α→List D} {ε:β→D} (ht:P.underlying t=some (.struct fs)) (hoff:(fs.toList.all fun f=>decide (f.offset+P.cellsOf f.type≤P.cellsOf t))=true) (hsum:(fs.toList.map fun f=>P.cellsOf f.type).sum=P.cellsOf t) (h:OpF H enc P fs.toList 0 γ) (φ:α→β) (hφ:∀ a,(ε (φ a)).cells=γ a):OpT H enc P t ε:=by
 intro w fuel cs x hx
 obtain⟨xs,n,_,_,hl,hxl,hf⟩:=DataW.trod_struct ht hx
 obtain⟨a,ha⟩:=h w n cs (Nat.zero_le _) (fun f hf'=>by
  obtain⟨i,hi,rfl⟩:=List.getElem_of_mem hf'
  have hi':fs[i]? = some fs.toList[i]:=by simp at hi ⊢
  have:=hf i _ hi'
  rw[List.getElem?_eq_getElem (by rw[hxl];simpa using hi)] at this
  exact⟨_,this⟩) (fun e=>by rw[e] at hsum;simp at hsum;omega) (fun f hf'=>by have:=List.all_eq_true.1 hoff f hf';simp at this;omega) (by omega)
 refine⟨φ a,?_⟩
 rw[hφ]
 simpa using ha
theorem addr_addO (b o i:Nat):(⟨b,o,none⟩:Addr).add i=⟨b,o+i,none⟩:=by
 unfold Addr.add
 split
 ·rename_i e;subst e;rfl
 ·rfl
theorem rows_of {w:World} {b off k:Nat} {α:Type} {δ:α→D} (hk:∀ a,(δ a).cells.length=k):∀ (n:Nat) (s:Nat),(∀ i,i < n→∃ cs',(∀ j,j < k→w.cell? ⟨b,off+(s+i) * k+j,none⟩=cs'[j]?)∧cs'.length=k∧∃ a:α,RepL (cF (FA w)) w cs' (δ a).cells) →
  ∃ (l:List α) (vals:List Value),l.length=n∧vals.length=n * k∧RepL (cF (FA w)) w vals ((l.map δ).flatMap D.cells)∧∀ (i:Nat) v,vals[i]? = some v→w.cell? ⟨b,off+s * k+i,none⟩=some v:=by
 intro n
 induction n with
 | zero=>intro s _;exact⟨[],[],rfl,by simp,RepL.nil,by simp⟩
 | succ n ih =>
  intro s h
  obtain⟨cs,hc,hcl,a,ha⟩:=h 0 (by omega)
  obtain⟨l,vals,h1,h2,h3,h4⟩:=ih (s+1) (fun i hi=>by
   obtain⟨cs',hh⟩:=h (i+1) (by omega)
   refine⟨cs',?_⟩
   rw[show s+1+i=s+(i+1) by omega]
   exact hh)
  refine⟨a::l,cs++vals,by simp[h1],by rw[List.length_append,hcl,h2,Nat.add_mul];omega,?_,?_⟩
  ·simp only[List.map_cons,List.flatMap_cons]
   exact ha.append h3
  ·intro i v hv
   by_cases hi:i < k
   ·rw[List.getElem?_append_left (by omega)] at hv
    have:=hc i hi
    rw[Nat.add_zero] at this
    rw[this,hv]
   ·rw[List.getElem?_append_right (by omega)] at hv
    have:=h4 _ v hv
    rw[hcl] at this
    rw[← this]
    congr 2
    rw[Nat.add_mul]
    omega
theorem OpT.slice {α:Type} {t e:TypeId} {δ:α→D} (ht:P.underlying t=some (.slice e)) (hpos:0 < P.cellsOf e) (hk:∀ a,(δ a).cells.length=P.cellsOf e) (h:OpT H enc P e δ):OpT H enc P t (fun l:List α=>D.sl (l.map δ)):=by
 intro w fuel cs x hx
 rcases Deep.open_slice ht hx with⟨rfl,_⟩|⟨a,len,cap,m,n,Dd,Pl,rfl,hb,hl,hm,hmm,_,hel⟩
 ·exact⟨[],RepL.one1 rfl (.sl0 _ _ (Nat.zero_le _))⟩
 ·simp only[if_true] at hmm
  subst hmm
  by_cases h0:len=0
  ·subst h0
   exact⟨[],RepL.one1 rfl (.sl0 _ _ hm)⟩
  ·obtain⟨b,off,spot⟩:=a
   obtain⟨c0,hc0,_⟩:=hel 0 (by omega)
   obtain⟨_,hl0,hg0⟩:=World.cells?_some hc0
   have hcell0:=hg0 0 hpos
   have hx0:c0[0]? = some (c0[0]'(by omega)):=List.getElem?_eq_getElem _
   rw[hx0] at hcell0
   have hspot:spot=none:=by simpa[Addr.add] using World.cell?_spot hcell0
   subst hspot
   have hbl:b < w.heap.size:=by
    rcases Nat.lt_or_ge b w.heap.size with h1|h1
    ·exact h1
    ·simp[Addr.add,World.cell?,Array.getElem?_eq_none h1] at hcell0
   obtain⟨l,vals,h1,h2,h3,h4⟩:=rows_of (w:=w) (b:=b) (off:=off) (k:=P.cellsOf e) hk len 0 (fun i hi=>by
    obtain⟨cs',hc',ht'⟩:=hel i (by omega)
    obtain⟨_,hl',hg'⟩:=World.cells?_some hc'
    refine⟨cs',fun j hj=>?_,hl',h w n cs' _ ht'⟩
    have:=hg' j hj
    rw[addr_addO,addr_addO] at this
    rw[← this]
    simp)
   refine⟨l,RepL.one1 rfl ?_⟩
   have hkk:∀ x ∈ l.map δ,x.cells.length=P.cellsOf e:=fun x hx=>by obtain⟨y,_,rfl⟩:=List.mem_map.1 hx;exact hk y
   have:=Rep.sl (w:=w) (C:=cF (FA w)) b off (P.cellsOf e) m (l.map δ) vals (by simp[h1];omega) hm hkk h3.len h3.one (fun _ _=>hbl) (fun i v hv=>by have:=h4 i v hv;simpa using this) (fun i v d hv hd=>h3.rep i v d hv hd)
   rw[List.length_map,h1] at this
   exact this
theorem arr_rows {α:Type} {e:TypeId} {δ:α→D} (h:OpT H enc P e δ) (w:World) (fuel:Nat) (cs:List Value) (k:Nat):∀ (n s:Nat),(∀ i,s≤i→i < s+n→∃ x,DataW.trod enc P w 0 (fun _=>true) true fuel e ((cs.drop (i * k)).take k)=some x)→cs.length=(s+n) * k →
  ∃ l:List α,l.length=n∧RepL (cF (FA w)) w (cs.drop (s * k)) (l.flatMap fun a=>(δ a).cells):=by
 intro n
 induction n with
 | zero=>intro s _ hl;exact⟨[],rfl,by rw[List.drop_eq_nil_of_le (by rw[hl];exact Nat.le_refl _)];exact RepL.nil⟩
 | succ n ih =>
  intro s hx hl
  obtain⟨x,hx0⟩:=hx s (by omega) (by omega)
  obtain⟨a,ha⟩:=h w fuel _ x hx0
  obtain⟨l,hll,hr⟩:=ih (s+1) (fun i h1 h2=>hx i (by omega) (by omega)) (by rw[hl];congr 1;omega)
  refine⟨a::l,by simp[hll],?_⟩
  have:=ha.append hr
  rw[show(cs.drop (s * k)).take k++cs.drop ((s+1) * k)=cs.drop (s * k) by rw[show(s+1) * k=s * k+k by rw[Nat.add_mul];omega,← List.drop_drop];exact List.take_append_drop _ _] at this
  exact this
theorem OpT.array {α β:Type} {t e:TypeId} {n:Nat} {δ:α→D} {ε:β→D} (ht:P.underlying t=some (.array n e)) (hc:P.cellsOf t=n * P.cellsOf e) (h:OpT H enc P e δ) (φ:(l:List α)→l.length=n→β) (hφ:∀ l h,(ε (φ l h)).cells=l.flatMap fun a=>(δ a).cells):OpT H enc P t ε:=by
 intro w fuel cs x hx
 obtain⟨xs,m,_,_,hl,hxl,hf⟩:=DataW.trod_array ht hx
 obtain⟨l,hll,hr⟩:=arr_rows h w m cs (P.cellsOf e) n 0 (fun i _ hi=>by
  have:=hf i (by omega)
  rw[List.getElem?_eq_getElem (by omega)] at this
  exact⟨_,this⟩) (by rw[hl,hc,Nat.zero_add])
 refine⟨φ l hll,?_⟩
 rw[hφ]
 simpa using hr
theorem OpT.arg1 {α:Type} {t:TypeId} {δ:α→D} (h:OpT H enc P t δ) {w:World} {v:Value} {d:DataW H} {p:List MemPlace} (hv:v.cells=#[v]) (hδ:∀ a,(δ a).cells=[δ a]) (ht:DataW.Trod enc P w 0 (fun _=>true) true t v d p):∃ a,Rep w (cF (FA w)) v (δ a):=by
 obtain⟨fuel,hf⟩:=ht
 obtain⟨a,ha⟩:=h w fuel _ _ hf
 refine⟨a,?_⟩
 rw[hv,hδ] at ha
 exact ha.rep 0 v (δ a) rfl rfl
theorem OpT.argS {α:Type} {t:TypeId} {δ:α→D} {cs:Array Value} (h:OpT H enc P t δ) {w:World} {d:DataW H} {p:List MemPlace} (hδ:∀ a,∃ ds,δ a=.agg ds) (ht:DataW.Trod enc P w 0 (fun _=>true) true t (.agg cs) d p):∃ a,Rep w (cF (FA w)) (.agg cs) (δ a):=by
 obtain⟨fuel,hf⟩:=ht
 obtain⟨a,ha⟩:=h w fuel _ _ hf
 refine⟨a,?_⟩
 obtain⟨ds,hd⟩:=hδ a
 rw[hd] at ha ⊢
 have:=ha.agg
 simpa[Value.cells,D.cells] using this
theorem OpT.argInt {α:Type} {t:TypeId} {k:IntKind} {δ:α→D} (ht:P.underlying t=some (.int k)) (h:OpT H enc P t δ) (hδ:∀ a,(δ a).cells=[δ a]) {w:World} {r:Reach} {b0:Nat} {v:Value} {d:DataW H} {p:List MemPlace} (hv:Value.okWide P w r b0 t v) (hd:DataW.Trod enc P w 0 (fun _=>true) true t v d p):∃ a,Rep w (cF (FA w)) v (δ a):=by
 obtain⟨n,rfl⟩:=okWide_int ht hv
 exact h.arg1 rfl hδ hd
theorem OpT.argStruct {α:Type} {t:TypeId} {fs:Array Field} {δ:α→D} (ht:P.underlying t=some (.struct fs)) (h:OpT H enc P t δ) (hδ:∀ a,∃ ds,δ a=.agg ds) {w:World} {r:Reach} {b0:Nat} {v:Value} {d:DataW H} {p:List MemPlace} (hv:Value.okWide P w r b0 t v) (hd:DataW.Trod enc P w 0 (fun _=>true) true t v d p):∃ a,Rep w (cF (FA w)) v (δ a):=by
 obtain⟨_,rfl,_⟩:=okWide_struct ht hv
 exact h.argS hδ hd
end
open Go.ChangeShapes Go.WideShapes Go.ChangeAt Go.RowKit Go.Joins
theorem bulk_pos {H:Type} (d:DataW H):1≤Rows.uptoBulk d:=by
 cases d with
 | lit l=>cases l<;>simp[Rows.uptoBulk]
 | _=>simp[Rows.uptoBulk]
theorem bulk_mem {H:Type}:∀ {l:List (DataW H)} {d:DataW H},d ∈ l→Rows.uptoBulk d≤Rows.uptoBulkAll l
 | a::l,d,h=>by
  unfold Rows.uptoBulkAll
  rcases List.mem_cons.1 h with rfl|h
  ·omega
  ·have:=bulk_mem h;omega
theorem bulk_len {H:Type}:∀ (l:List (DataW H)),l.length≤Rows.uptoBulkAll l
 | []=>by simp[Rows.uptoBulkAll]
 | a::l=>by
  unfold Rows.uptoBulkAll
  have:=bulk_pos a;have:=bulk_len l
  simp only[List.length_cons];omega
section
variable (H:Type) (enc:TypeId × Value→H) (P:Program) (n:Nat)
def OpTB {α:Type} (t:TypeId) (δ:α→D) (B:α→Prop):Prop :=
 ∀ (w:World) (fuel:Nat) (cs:List Value) (x:DataW H × List MemPlace),DataW.trod enc P w 0 (fun _=>true) true fuel t cs=some x→Rows.uptoBulk x.1≤n→∃ a:α,RepL (cF (FA w)) w cs (δ a).cells∧B a
def OpFB {α:Type} (fs:List Field) (off:Nat) (γ:α→List D) (B:α→Prop):Prop :=
 ∀ (w:World) (fuel:Nat) (cs:List Value),off≤cs.length→(∀ f ∈ fs,∃ x:DataW H × List MemPlace,DataW.trod enc P w 0 (fun _=>true) true fuel f.type ((cs.drop f.offset).take (P.cellsOf f.type))=some x∧Rows.uptoBulk x.1≤n)→(fs=[]→cs.length=off)→(∀ f ∈ fs,f.offset+P.cellsOf f.type≤cs.length)→((fs.map fun f=>P.cellsOf f.type).sum+off=cs.length)→∃ a:α,RepL (cF (FA w)) w (cs.drop off) (γ a)∧B a
end
section
variable {H:Type} {enc:TypeId × Value→H} {P:Program} {n:Nat}
theorem OpTB.int {t:TypeId} {k:IntKind} (ht:P.underlying t=some (.int k)):OpTB H enc P n t (D.int k) (fun _=>True):=by
 intro w fuel cs x h _
 obtain⟨a,ha⟩:=OpT.int ht w fuel cs x h
 exact⟨a,ha,trivial⟩
theorem OpTB.bool {t:TypeId} (ht:P.underlying t=some .bool):OpTB H enc P n t D.bool (fun _=>True):=by
 intro w fuel cs x h _
 obtain⟨a,ha⟩:=OpT.bool ht w fuel cs x h
 exact⟨a,ha,trivial⟩
theorem OpTB.str {t:TypeId} (ht:P.underlying t=some .string):OpTB H enc P n t D.str (fun s=>s.length≤n):=by
 intro w fuel cs x h hn
 obtain⟨s,rfl,rfl,hs⟩:=DataW.trod_string ht h
 refine⟨s.data.toList,RepL.one1 rfl (rep_strB s hs),?_⟩
 simp only[Rows.uptoBulk] at hn
 omega
theorem OpFB.nil {off:Nat}:OpFB H enc P n [] off (fun _:Unit=>[]) (fun _=>True):=by
 intro w fuel cs h1 h2 h3 h4 h5
 refine⟨(),?_,trivial⟩
 rw[List.drop_eq_nil_of_le (by have:=h3 rfl;omega)]
 exact RepL.nil
theorem OpFB.cons {α β:Type} {f:Field} {fs:List Field} {off:Nat} {δ:α→D} {γ:β→List D} {A:α→Prop} {B:β→Prop} (ho:f.offset=off) (h:OpTB H enc P n f.type δ A) (hr:OpFB H enc P n fs (off+P.cellsOf f.type) γ B):OpFB H enc P n (f::fs) off (fun p:α × β=>(δ p.1).cells++γ p.2) (fun p=>A p.1∧B p.2):=by
 intro w fuel cs h1 h2 h3 h4 h5
 subst ho
 obtain⟨x,hx,hxn⟩:=h2 f (by simp)
 obtain⟨a,ha,hA⟩:=h w fuel _ x hx hxn
 have hlen:f.offset+P.cellsOf f.type≤cs.length:=h4 f (by simp)
 simp only[List.map_cons,List.sum_cons] at h5
 obtain⟨b,hb,hB⟩:=hr w fuel cs hlen (fun g hg=>h2 g (by simp[hg])) (fun e=>by subst e;simp at h5;omega) (fun g hg=>h4 g (by simp[hg])) (by omega)
 refine⟨(a,b),?_,hA,hB⟩
 have:=ha.append hb
 rw[show(cs.drop f.offset).take (P.cellsOf f.type)++cs.drop (f.offset+P.cellsOf f.type)=cs.drop f.offset by rw[← List.drop_drop];exact List.take_append_drop _ _] at this
 exact this
theorem OpTB.struct {α β:Type} {t:TypeId} {fs:Array Field} {γ:α→List D} {ε:β→D} {A:α→Prop} {B:β→Prop} (ht:P.underlying t=some (.struct fs)) (hoff:(fs.toList.all fun f=>decide (f.offset+P.cellsOf f.type≤P.cellsOf t))=true) (hsum:(fs.toList.map fun f=>P.cellsOf f.type).sum=P.cellsOf t) (h:OpFB H enc P n fs.toList 0 γ A) (φ:α→β) (hφ:∀ a,(ε (φ a)).cells=γ a) (hB:∀ a,A a→B (φ a)):OpTB H enc P n t ε B:=by
 intro w fuel cs x hx hn
 obtain⟨xs,m,_,rfl,hl,hxl,hf⟩:=DataW.trod_struct ht hx
 obtain⟨a,ha,hA⟩:=h w m cs (Nat.zero_le _) (fun f hf'=>by
  obtain⟨i,hi,rfl⟩:=List.getElem_of_mem hf'
  have hi':fs[i]? = some fs.toList[i]:=by simp at hi ⊢
  have:=hf i _ hi'
  have hix:i < xs.length:=by rw[hxl];simpa using hi
  rw[List.getElem?_eq_getElem hix] at this
  refine⟨_,this,?_⟩
  have h1:=bulk_mem (List.mem_map_of_mem (f:=(·.1)) (List.getElem_mem hix))
  simp only[Rows.uptoBulk] at hn
  omega) (fun e=>by rw[e] at hsum;simp at hsum;omega) (fun f hf'=>by have:=List.all_eq_true.1 hoff f hf';simp at this;omega) (by omega)
 refine⟨φ a,?_,hB a hA⟩
 rw[hφ]
 simpa using ha
theorem OpTB.slice {α:Type} {t e:TypeId} {δ:α→D} {A:α→Prop} (ht:P.underlying t=some (.slice e)) (hpos:0 < P.cellsOf e) (hk:∀ a,(δ a).cells.length=P.cellsOf e) (h:OpTB H enc P n e δ A):OpTB H enc P n t (fun l:List α=>D.sl (l.map δ)) (fun l=>l.length≤n∧∀ a ∈ l,A a):=by
 intro w fuel cs x hx hn
 rcases Deep.open_slice ht hx with⟨rfl,_⟩|⟨a,len,cap,m,f,Dd,Pl,rfl,hb,hl,hm,hmm,rfl,hel⟩
 ·exact⟨[],RepL.one1 rfl (.sl0 _ _ (Nat.zero_le _)),by simp,by simp⟩
 ·simp only[if_true] at hmm
  subst hmm
  by_cases h0:len=0
  ·subst h0
   exact⟨[],RepL.one1 rfl (.sl0 _ _ hm),by simp,by simp⟩
  ·obtain⟨b,off,spot⟩:=a
   obtain⟨c0,hc0,_⟩:=hel 0 (by omega)
   obtain⟨_,hl0,hg0⟩:=World.cells?_some hc0
   have hcell0:=hg0 0 hpos
   have hx0:c0[0]? = some (c0[0]'(by omega)):=List.getElem?_eq_getElem _
   rw[hx0] at hcell0
   have hspot:spot=none:=by simpa[Addr.add] using World.cell?_spot hcell0
   subst hspot
   have hbl:b < w.heap.size:=by
    rcases Nat.lt_or_ge b w.heap.size with h1|h1
    ·exact h1
    ·simp[Addr.add,World.cell?,Array.getElem?_eq_none h1] at hcell0
   simp only[Rows.uptoBulk] at hn
   have hln:=bulk_len ((List.range len).map Dd)
   rw[List.length_map,List.length_range] at hln
   obtain⟨l,vals,h1,h2,h3,h4⟩:=rows_of (w:=w) (b:=b) (off:=off) (k:=P.cellsOf e) (α:={ a:α // A a }) (δ:=fun a=>δ a.1) (fun a=>hk a.1) len 0 (fun i hi=>by
    obtain⟨cs',hc',ht'⟩:=hel i (by omega)
    obtain⟨_,hl',hg'⟩:=World.cells?_some hc'
    refine⟨cs',fun j hj=>?_,hl',?_⟩
    ·have:=hg' j hj
     rw[addr_addO,addr_addO] at this
     rw[← this]
     simp
    ·have hmem:Dd i ∈ (List.range len).map Dd:=List.mem_map_of_mem (List.mem_range.2 hi)
     have:=bulk_mem hmem
     obtain⟨a,ha,hA⟩:=h w f cs' _ ht' (by dsimp only;omega)
     exact⟨⟨a,hA⟩,ha⟩)
   have hmap:l.map (fun a=>δ a.1)=(l.map (·.1)).map δ:=by rw[List.map_map];rfl
   rw[hmap] at h3
   refine⟨l.map (·.1),RepL.one1 rfl ?_,by rw[List.length_map,h1];omega,fun a ha=>?_⟩
   ·have hkk:∀ x ∈ (l.map (·.1)).map δ,x.cells.length=P.cellsOf e:=fun x hx=>by obtain⟨y,_,rfl⟩:=List.mem_map.1 hx;exact hk y
    have:=Rep.sl (w:=w) (C:=cF (FA w)) b off (P.cellsOf e) m ((l.map (·.1)).map δ) vals (by simp[h1];omega) hm hkk h3.len h3.one (fun _ _=>hbl) (fun i v hv=>by have:=h4 i v hv;simpa using this) (fun i v d hv hd=>h3.rep i v d hv hd)
    rw[List.length_map,List.length_map,h1] at this
    exact this
   ·obtain⟨y,_,rfl⟩:=List.mem_map.1 ha
    exact y.2
theorem arr_rowsB {α:Type} {e:TypeId} {δ:α→D} {A:α→Prop} (h:OpTB H enc P n e δ A) (w:World) (fuel:Nat) (cs:List Value) (k:Nat):∀ (m s:Nat),(∀ i,s≤i→i < s+m→∃ x:DataW H × List MemPlace,DataW.trod enc P w 0 (fun _=>true) true fuel e ((cs.drop (i * k)).take k)=some x∧Rows.uptoBulk x.1≤n)→cs.length=(s+m) * k →
  ∃ l:List α,l.length=m∧RepL (cF (FA w)) w (cs.drop (s * k)) (l.flatMap fun a=>(δ a).cells)∧∀ a ∈ l,A a:=by
 intro m
 induction m with
 | zero=>intro s _ hl;exact⟨[],rfl,by rw[List.drop_eq_nil_of_le (by rw[hl];exact Nat.le_refl _)];exact RepL.nil,by simp⟩
 | succ m ih =>
  intro s hx hl
  obtain⟨x,hx0,hxn⟩:=hx s (by omega) (by omega)
  obtain⟨a,ha,hA⟩:=h w fuel _ x hx0 hxn
  obtain⟨l,hll,hr,hAl⟩:=ih (s+1) (fun i h1 h2=>hx i (by omega) (by omega)) (by rw[hl];congr 1;omega)
  refine⟨a::l,by simp[hll],?_,fun b hb=>by
   rcases List.mem_cons.1 hb with rfl|hb
   ·exact hA
   ·exact hAl b hb⟩
  have:=ha.append hr
  rw[show(cs.drop (s * k)).take k++cs.drop ((s+1) * k)=cs.drop (s * k) by rw[show(s+1) * k=s * k+k by rw[Nat.add_mul];omega,← List.drop_drop];exact List.take_append_drop _ _] at this
  exact this
theorem OpTB.array {α β:Type} {t e:TypeId} {m:Nat} {δ:α→D} {ε:β→D} {A:α→Prop} {B:β→Prop} (ht:P.underlying t=some (.array m e)) (hc:P.cellsOf t=m * P.cellsOf e) (h:OpTB H enc P n e δ A) (φ:(l:List α)→l.length=m→β) (hφ:∀ l h,(ε (φ l h)).cells=l.flatMap fun a=>(δ a).cells) (hB:∀ l h,(∀ a ∈ l,A a)→B (φ l h)):OpTB H enc P n t ε B:=by
 intro w fuel cs x hx hn
 obtain⟨xs,k,_,rfl,hl,hxl,hf⟩:=DataW.trod_array ht hx
 obtain⟨l,hll,hr,hA⟩:=arr_rowsB h w k cs (P.cellsOf e) m 0 (fun i _ hi=>by
  have:=hf i (by omega)
  rw[List.getElem?_eq_getElem (by omega)] at this
  refine⟨_,this,?_⟩
  have h1:=bulk_mem (List.mem_map_of_mem (f:=(·.1)) (List.getElem_mem (l:=xs) (n:=i) (by omega)))
  simp only[Rows.uptoBulk] at hn
  omega) (by rw[hl,hc,Nat.zero_add])
 refine⟨φ l hll,?_,hB l hll hA⟩
 rw[hφ]
 simpa using hr
theorem OpTB.argStruct {α:Type} {t:TypeId} {fs:Array Field} {δ:α→D} {B:α→Prop} (ht:P.underlying t=some (.struct fs)) (h:OpTB H enc P n t δ B) (hδ:∀ a,∃ ds,δ a=.agg ds) {w:World} {r:Reach} {b0:Nat} {v:Value} {d:DataW H} {p:List MemPlace} (hv:Value.okWide P w r b0 t v) (hd:DataW.Trod enc P w 0 (fun _=>true) true t v d p) (hn:Rows.uptoBulk d≤n):∃ a,Rep w (cF (FA w)) v (δ a)∧B a:=by
 obtain⟨cs,rfl,_⟩:=okWide_struct ht hv
 obtain⟨fuel,hf⟩:=hd
 obtain⟨a,ha,hB⟩:=h w fuel _ _ hf hn
 refine⟨a,?_,hB⟩
 obtain⟨ds,hd⟩:=hδ a
 rw[hd] at ha ⊢
 have:=ha.agg
 simpa[Value.cells,D.cells] using this
end
end Go.Proofs.YtobglplholhkcaaGreatDoor
