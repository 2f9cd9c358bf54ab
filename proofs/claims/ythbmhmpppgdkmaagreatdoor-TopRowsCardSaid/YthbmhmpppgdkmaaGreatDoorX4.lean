/- Texts of one proof, put together (GCi, GMn, EC, W2, W1, W3, W5, W4, EvX, EvL, EvM1, EvM2, EvM3, EvM, ED, W6, Laid8, LTop). No condition but those that each theorem states. -/
import Derived.Test.YthbmhmpppgdkmaaGreatDoorX3
import Derived.Sort.OwnSorted
import Derived.Lib.OwnBridge
import Derived.Lib.Slices
import Derived.Lib.Join
import Derived.Lib.ValidLaws
import Derived.Lib.SlTrimSet
import Derived.Lib.Bytealg
import Derived.Lib.SplitLaws
import Derived.Test.YthbmhmpppgdkmaaGreatDoorProg
import Derived.KernelRfl
import Derived.Test.YthbmhmpppgdkmaaGreatDoorCards
import Derived.Test.YthbmhmpppgdkmaaGreatDoorTie
import Derived.ProofKit
import Derived.OpenShut
import Derived.Deep.DeepHandedRow
import Derived.Lib.LaidTab
import Derived.Stop.LaidErr
import Derived.Lib.LaidIn
import Derived.Lib.LaidU8T
import Derived.Shelf.Vars
set_option linter.unusedSimpArgs false
set_option linter.unusedVariables false
namespace Go.Proofs.YthbmhmpppgdkmaaGreatDoor
open Go.RowKit Go.Sort Go.Shelf
section
variable {P:Program}{I:World→Prop}{f:FuncId}
theorem flat_ints(l:List Int):(l.map (D.int .i64)).flatMap D.cells=l.map (D.int .i64):=by
 induction l with
 | nil=>rfl
 | cons x l ih=>simp[D.cells,ih]
theorem rep_int1Z{w:World}{C:Cx}{v:Value}{x:Int}(h:Rep w C v (.int .i64 x)):v=.int .i64 x∧inR .i64 x:=by cases h;exact⟨rfl,by assumption⟩
theorem vals_ints{w:World}{C:Cx}:∀ {vals:List Value} {zs:List Int},RepL C w vals (zs.map (D.int .i64))→vals=zs.map (Value.int .i64)∧∀ z ∈ zs,inR .i64 z:=by
 intro vals zs h
 have hl:vals.length=zs.length:=by simpa using h.len
 have key:∀ (i:Nat) (hi:i < zs.length),vals[i]? = some (Value.int .i64 zs[i])∧inR .i64 zs[i]:=by
  intro i hi
  obtain⟨hv,hm⟩:=rep_int1Z (h.rep i (vals[i]'(by omega)) (.int .i64 zs[i]) (List.getElem?_eq_getElem _) (by simp[hi]))
  exact⟨by rw[List.getElem?_eq_getElem (by omega:i < vals.length),hv],hm⟩
 refine⟨List.ext_getElem? fun i=>?_,fun z hz=>?_⟩
 ·by_cases hi:i < zs.length
  ·rw[(key i hi).1];simp[hi]
  ·rw[List.getElem?_eq_none (by omega),List.getElem?_eq_none (by simp;omega)]
 ·obtain⟨i,hi,rfl⟩:=List.getElem_of_mem hz
  exact(key i hi).2
theorem ints_vals{w:World}{C:Cx}{zs:List Int}(hz:∀ z ∈ zs,inR .i64 z):RepL C w (zs.map (Value.int .i64)) (zs.map (D.int .i64)):=by
 refine⟨by simp,fun v hv=>?_,fun i v d hv hd=>?_⟩
 ·obtain⟨z,_,rfl⟩:=List.mem_map.1 hv;rfl
 ·simp only[List.getElem?_map] at hv hd
  cases hi:zs[i]? with
  | none=>rw[hi] at hv;simp at hv
  | some s =>
   rw[hi] at hv hd
   simp at hv hd
   subst hv hd
   exact .int .i64 s (hz s (List.mem_of_getElem? hi))
theorem put_blockI(w:World)(n g:Nat)(d:Array Int)(os:Array Obj)(k:Nat)(hk:k < w.heap.size)(hne:k≠g):(grow (putRow (Value.int .i64) (Sort.ahead w n) g 0 d) os).heap[k]? = w.heap[k]?:=by
 simp only[grow,putRow,mapBlock,Sort.ahead]
 rw[Array.getElem?_append_left (by simpa using hk),Array.getElem?_modify,if_neg (Ne.symm hne)]
theorem put_belI(w:World)(n g:Nat)(d:Array Int)(os:Array Obj){M:Nat→Prop}(hg:M g):BelM M w (grow (putRow (Value.int .i64) (Sort.ahead w n) g 0 d) os) :=
 ⟨rfl,rfl,rfl,by simp[grow,putRow,mapBlock,Sort.ahead],fun k hk hm=>put_blockI w n g d os k hk fun e=>hm (e ▸ hg)⟩
theorem CallOK.cut_ints(he:enterable P f=true){e:TypeId}{id nid:Nat}{zs ys ps:List Int}{H:Nat→Option Blk}(hH:H id=some (.vec e 1 (zs.map (D.int .i64)) false))(hlt:(ys++ps).length=zs.length)(hts:∀ t ∈ ys,t ∈ zs)
  (h0:zs=[]→∀ (w:World) (A:Option Addr) (cap:Nat),Calls P f #[.slice A 0 cap] w fun e w'=>e=.returned (.slice A 0 cap)∧w'=w)
  (h1:zs≠[]→∀ (w:World) (blk cap:Nat),Holds (Value.int .i64) w blk 0 zs.toArray→blk < w.heap.size→zs.length≤cap→cap≤maxLen→Calls P f #[.slice (some ⟨blk,0,none⟩) zs.length cap] w fun e w'=>e=.returned (.slice (some ⟨blk,0,none⟩) ys.length cap)∧∃ q,w'=putRow (Value.int .i64) (Sort.ahead w q) blk 0 (ys++ps).toArray) :
  CallOK P I f [.own id zs.length] H nid (.own nid ys.length) [(id,none),(nid,some (.vec e 1 (ys.map (D.int .i64)) false))]:=by
 refine⟨he,fun i0 w C B args hI hb0 hM hok hF hbase hnid hal hrep=>?_⟩
 obtain⟨v,rfl⟩:∃ v,args=[v]:=by
  match args,hal with
  | [v],_=>exact⟨v,rfl⟩
 have hv:=hrep 0 v _ rfl rfl
 obtain⟨hlv,hB⟩:=hok.rep id _ hH
 obtain⟨vals,hown,hcl,hRL,hfz⟩:=hB
 rw[flat_ints] at hRL
 obtain⟨rfl,hzm⟩:=vals_ints hRL
 have hnoid:H nid=none:=by
  cases hn2:H nid with
  | none=>rfl
  | some b=>exact absurd (hok.rep _ _ hn2).1 hnid
 have hcase:∀ id' b,appEff H [(id,none),(nid,some (.vec e 1 (ys.map (D.int .i64)) false))] id'=some b→(id'=nid∧b=.vec e 1 (ys.map (D.int .i64)) false)∨(id'≠nid∧id'≠id∧H id'=some b):=by
  intro id' b hb
  rcases appEff_cases _ _ _ _ hb with⟨k1,k2⟩|k1
  ·exact .inr ⟨fun e'=>k1 (nid,some (.vec e 1 (ys.map (D.int .i64)) false)) (by simp) e'.symm,fun e'=>k1 (id,none) (by simp) e'.symm,k2⟩
  ·simp only[List.mem_cons,Prod.mk.injEq,reduceCtorEq,and_false,false_or,Option.some.injEq,List.not_mem_nil,or_false] at k1
   exact .inl k1
 have hlen:ys.length≤zs.length:=by rw[List.length_append] at hlt;omega
 cases hv with
 | own _ _ c A _ hm hs =>
 rw[hs,List.length_map] at hown
 -- what follows, whatever the world behind the call is
 have fin:∀ w':World,BelM B.M w w'→(∀ k,k < w.heap.size→blockOf (C.σ id)≠some k→w'.heap[k]? = w.heap[k]?)→w'.ownsRow 0 e 1 (.slice A ys.length c) ys.length (ys.map (Value.int .i64)) →
   ∃ v' C',Ending.returned (.slice A ys.length c)=.returned v'∧BelM B.M w w'∧Ext C w C' w'∧Rep w' C' v' (.own nid ys.length)∧HOK C' w' B (appEff H [(id,none),(nid,some (.vec e 1 (ys.map (D.int .i64)) false))])∧FB C' w'∧(∀ id,C'.live id→C.live id∨id=nid)∧∀ b o,C'.F b o→C.F b o∨B.M b:=by
  intro w' hbel hblk hown'
  let C2:Cx:=⟨C.F,fun i=>if i=nid then .slice A ys.length c else C.σ i,fun i=>C.live i∨i=nid⟩
  have hσ2:∀ i,C.live i→C2.σ i=C.σ i:=fun i hid=>by
   have:i≠nid:=fun e=>hnid (e ▸ hid)
   simp only[C2,if_neg this]
  have hσn:C2.σ nid=.slice A ys.length c:=by simp only[C2,if_true]
  have hbo:blockOf (C2.σ nid)=blockOf (C.σ id):=by rw[hσn,hs];cases A<;>rfl
  have hnF:∀ b o,C.F b o→blockOf (C.σ id)≠some b:=fun b o ho hb=>by
   have:=((hfz b (by rw[hs] at hb ⊢;cases A<;>simp_all[blockOf,Value.ownBlock])).1 o ho).1
   cases this
  have hext:Ext C w C2 w':=⟨fun _ _ h=>h,fun b o hbo'=>hblk b (hF b o hbo') (hnF b o hbo'),fun _ h=>.inl h,hσ2⟩
  refine⟨_,C2,rfl,hbel,hext,.own nid ys.length c A (.inr rfl) (Nat.le_trans hlen hm) hσn,?_,fun b o hbo'=>Nat.lt_of_lt_of_le (hF b o hbo') hbel.size,fun _ h=>h,fun _ _ h=>.inl h⟩
  refine⟨fun id' b hb'=>?_,fun id' b hb' g' hg=>?_,fun id' kk cs hb'=>?_,fun id1 id2 b1 b2 hb1 hb2 hne2 g' hg hg'=>?_⟩
  ·rcases hcase id' b hb' with⟨rfl,rfl⟩|⟨hne,hne',k⟩
   ·refine⟨.inr rfl,ys.map (Value.int .i64),?_,fun x hx=>?_,?_,fun g' hg'=>⟨fun o ho=>?_,fun h=>by cases h⟩⟩
    ·rw[hσn,List.length_map];exact hown'
    ·obtain⟨t,_,rfl⟩:=List.mem_map.1 hx;rfl
    ·rw[flat_ints];exact ints_vals fun t ht=>hzm t (hts t ht)
    ·refine absurd ?_ (hnF g' o ho)
     rw[hσn] at hg'
     rw[hs]
     cases A<;>simp_all[blockOf,Value.ownBlock]
   ·obtain⟨k1,k2⟩:=hok.rep id' b k
    refine⟨.inl k1,k2.keep k1 hext (fun g' hg'=>hblk g' (k2.lt g' hg').2 fun e'=>?_) fun _ _ _ h=>h⟩
    exact hok.apart _ _ _ _ hH k (Ne.symm hne') g' e' hg'
  ·rcases hcase id' b hb' with⟨rfl,rfl⟩|⟨hne,hne',k⟩
   ·rw[hbo] at hg;exact hok.own _ _ hH g' hg
   ·rw[hσ2 id' (hok.rep _ _ k).1] at hg;exact hok.own _ _ k g' hg
  ·rcases hcase id' _ hb' with⟨rfl,h⟩|⟨hne,hne',k⟩
   ·cases h
   ·rw[hσ2 id' (hok.rep _ _ k).1];exact hok.pin _ _ _ k
  ·rcases hcase id1 b1 hb1 with⟨rfl,rfl⟩|⟨hne,hne',k⟩
   ·rcases hcase id2 b2 hb2 with⟨rfl,rfl⟩|⟨hne3,hne4,k'⟩
    ·exact hne2 rfl
    ·rw[hbo] at hg
     rw[hσ2 id2 (hok.rep _ _ k').1] at hg'
     exact hok.apart _ _ _ _ hH k' (Ne.symm hne4) g' hg hg'
   ·rw[hσ2 id1 (hok.rep _ _ k).1] at hg
    rcases hcase id2 b2 hb2 with⟨rfl,rfl⟩|⟨hne3,hne4,k'⟩
    ·rw[hbo] at hg'
     exact hok.apart _ _ _ _ k hH hne' g' hg hg'
    ·rw[hσ2 id2 (hok.rep _ _ k').1] at hg'
     exact hok.apart _ _ _ _ k k' hne2 g' hg hg'
 by_cases hz:zs=[]
 ·subst hz
  obtain rfl:ys=[]:=List.eq_nil_of_length_eq_zero (by simpa using hlen)
  refine(h0 rfl w A c).mono ?_
  rintro e' w' ⟨rfl,rfl⟩
  exact fin w' (BelM.refl _ _) (fun _ _ _=>rfl) hown
 ·have hnz:zs.length≠0:=fun h=>hz (List.eq_nil_of_length_eq_zero h)
  obtain⟨g,cap,e1,_,hgl,hncap,hcm,_,hHolds⟩:=Lib.holds_of_ownsRow hown (by intro h;injection h with _ h;exact hnz h)
  cases e1
  refine(h1 hz w g c hHolds hgl hncap hcm).mono ?_
  rintro e' w' ⟨rfl,q,rfl⟩
  have hMg:B.M g:=hok.own id _ hH g (by rw[hs];rfl)
  have hput:=put_belI w q g (ys++ps).toArray #[] hMg
  rw[grow_empty] at hput
  have hrow:=Lib.ownsRow_putRow (q:=q) (k:=ys.length) (ys:=ys++ps) hown hlt hlen
  rw[List.take_left] at hrow
  refine fin _ hput (fun k hk hne=>?_) hrow
  have:=put_blockI w q g (ys++ps).toArray #[] k hk fun e'=>hne (by rw[hs,e'];rfl)
  rwa[grow_empty] at this
end
theorem c_mem_compactI{zs:List Int}{x:Int}(h:x ∈ Lib.compact zs):x ∈ zs:=by
 unfold Lib.compact Lib.compactUpTo at h
 obtain⟨i,hi,rfl⟩:=List.mem_map.1 h
 have hi':i < zs.length:=List.mem_range.1 (List.mem_filter.1 hi).1
 simp[getElem!_pos,hi']
theorem c_Compact64{I:World→Prop}{e:TypeId}{id nid:Nat}{l:List Int}{H:Nat→Option Blk}(hH:H id=some (.vec e 1 (l.map (D.int .i64)) false))(hz:l.length≤9223372036854775807) :
  CallOK Tryz.prog I 151 [.own id l.length] H nid (.own nid (Lib.compact l).length) [(id,none),(nid,some (.vec e 1 ((Lib.compact l).map (D.int .i64)) false))]:=by
 refine CallOK.cut_ints (ps:=List.replicate (l.length - (Lib.compact l).length) 0) (by kernel_rfl) hH (by have:=Lib.compact_length_le l;simp;omega) (fun t ht=>c_mem_compactI ht) (fun _ w A cap=>?_) fun _ w blk cap hh hb hc _=>?_
 ·exact Tryz.slices_Compact_int_empty A cap w
 ·exact Tryz.slices_Compact_int blk 0 cap l w hh hz hc
open Go.RowKit
set_option maxRecDepth 100000
theorem foldmin_mem:∀ (l:List Int) (a:Int),l.foldl min a=a∨l.foldl min a ∈ l
 | [],a=>.inl rfl
 | x::l,a=>by
  rw[List.foldl_cons]
  rcases foldmin_mem l (min a x) with h|h
  ·rw[h]
   by_cases hx:a≤x
   ·left;omega
   ·right;rw[show min a x=x by omega];simp
  ·exact .inr (List.mem_cons_of_mem _ h)
theorem minOf_mem{l:List Int}(hne:l≠[]):Lib.minOf l ∈ l:=by
 obtain⟨x,t,rfl⟩:=List.exists_cons_of_ne_nil hne
 unfold Lib.minOf
 rcases foldmin_mem (x::t) ((x::t).headD 0) with h|h
 ·rw[h];simp
 ·exact h
def g_slices_Min_int64_int64(l:List Int):Option Int:=if 0 < l.length∧l.length≤9223372036854775807 then some (Lib.minOf l) else none
theorem a_slices_Min_int64_int64(I:World→Prop)(hI:Stab I)(l:List Int){r:Int}(h:g_slices_Min_int64_int64 l=some r):AFun Tryz.prog I 32 [.sl (l.map (D.int .i64))] (.int .i64 r):=by
 unfold g_slices_Min_int64_int64 at h
 split at h
 case isFalse=>cases h
 rename_i hc
 cases h
 have hne:l≠[]:=List.length_pos_iff.1 hc.1
 refine AFun.of_vals (by kernel_rfl) _ fun w F args hIw hfb hla hr=>?_
 match args,hla with
 | [v],_ =>
  have hv:=hr 0 v _ rfl rfl
  generalize hxs:l.map (D.int .i64)=xs at hv
  cases hv with
  | sl0 A c hm=>exact absurd (List.map_eq_nil_iff.1 hxs) hne
  | sl b off k c _ vals hcc hm hk hlv hone hF hcell hrep =>
   subst hxs
   rw[flat_ints] at hlv hrep
   obtain⟨hvals,hrange⟩:=vals_ints ⟨hlv,hone,hrep⟩
   have hlen:(l.map (D.int .i64)).length=l.length:=by simp
   rw[hlen]
   refine(Tryz.slices_Min_int b off l.length c l w hc.1 (Nat.le_refl _) hc.2 fun j hj=>?_).mono ?_
   ·refine hcell j _ ?_
    rw[hvals]
    simp[hj]
   ·rintro e w' ⟨rfl,rfl⟩
    rw[List.take_length]
    exact⟨_,rfl,Below.refl _ _,fun F=>.int _ _ (hrange _ (minOf_mem hne))⟩
set_option maxHeartbeats 10000000
structure T_api_Paragraph where
 Tokens:List T_api_Token
 Width:Int
 Rows:Int
 Table:T_api_Penalties
 deriving DecidableEq
def T_api_Paragraph.d(x:T_api_Paragraph):D:=.agg [.sl (x.Tokens.map T_api_Token.d),.int .i64 x.Width,.int .i64 x.Rows,.int .i64 x.Table.Strength.a0,.int .i64 x.Table.Strength.a1,.int .i64 x.Table.Strength.a2,.int .i64 x.Table.Strength.a3,.int .i64 x.Table.Strength.a4,.int .i64 x.Table.Strength.a5,.int .i64 x.Table.Ragged,.int .i64 x.Table.Row,.int .i64 x.Table.Event,.int .i64 x.Table.Fast,.int .i64 x.Table.Gap,.int .i64 x.Table.Shot]
structure T_rowbreak_sheet where
 p_:T_api_Paragraph
 sums_:List Int
 aim_:Int
 deriving DecidableEq
def T_rowbreak_sheet.d(x:T_rowbreak_sheet):D:=.agg [.sl (x.p_.Tokens.map T_api_Token.d),.int .i64 x.p_.Width,.int .i64 x.p_.Rows,.int .i64 x.p_.Table.Strength.a0,.int .i64 x.p_.Table.Strength.a1,.int .i64 x.p_.Table.Strength.a2,.int .i64 x.p_.Table.Strength.a3,.int .i64 x.p_.Table.Strength.a4,.int .i64 x.p_.Table.Strength.a5,.int .i64 x.p_.Table.Ragged,.int .i64 x.p_.Table.Row,.int .i64 x.p_.Table.Event,.int .i64 x.p_.Table.Fast,.int .i64 x.p_.Table.Gap,.int .i64 x.p_.Table.Shot,.sl (x.sums_.map (D.int .i64)),.int .i64 x.aim_]
structure T_api_Breaks where
 Ends:List Int
 Cost:Int
 Potentials:List Int
 deriving DecidableEq
def T_api_Breaks.d(x:T_api_Breaks):D:=.agg [.sl (x.Ends.map (D.int .i64)),.int .i64 x.Cost,.sl (x.Potentials.map (D.int .i64))]
def dl_List_Int_i64(x:List Int):D:=.sl (x.map (D.int .i64))
theorem dd_EC:(∀ x,T_api_Token.d x=.agg [.str x.Text,.int .i64 x.Strength])∧(∀ x,T_arr6_Int.d x=.agg [.int .i64 x.a0,.int .i64 x.a1,.int .i64 x.a2,.int .i64 x.a3,.int .i64 x.a4,.int .i64 x.a5])∧(∀ x,T_api_Penalties.d x=.agg [.int .i64 x.Strength.a0,.int .i64 x.Strength.a1,.int .i64 x.Strength.a2,.int .i64 x.Strength.a3,.int .i64 x.Strength.a4,.int .i64 x.Strength.a5,.int .i64 x.Ragged,.int .i64 x.Row,.int .i64 x.Event,.int .i64 x.Fast,.int .i64 x.Gap,.int .i64 x.Shot])∧(∀ x,T_api_Paragraph.d x=.agg [.sl (x.Tokens.map T_api_Token.d),.int .i64 x.Width,.int .i64 x.Rows,.int .i64 x.Table.Strength.a0,.int .i64 x.Table.Strength.a1,.int .i64 x.Table.Strength.a2,.int .i64 x.Table.Strength.a3,.int .i64 x.Table.Strength.a4,.int .i64 x.Table.Strength.a5,.int .i64 x.Table.Ragged,.int .i64 x.Table.Row,.int .i64 x.Table.Event,.int .i64 x.Table.Fast,.int .i64 x.Table.Gap,.int .i64 x.Table.Shot])∧(∀ x,T_rowbreak_sheet.d x=.agg [.sl (x.p_.Tokens.map T_api_Token.d),.int .i64 x.p_.Width,.int .i64 x.p_.Rows,.int .i64 x.p_.Table.Strength.a0,.int .i64 x.p_.Table.Strength.a1,.int .i64 x.p_.Table.Strength.a2,.int .i64 x.p_.Table.Strength.a3,.int .i64 x.p_.Table.Strength.a4,.int .i64 x.p_.Table.Strength.a5,.int .i64 x.p_.Table.Ragged,.int .i64 x.p_.Table.Row,.int .i64 x.p_.Table.Event,.int .i64 x.p_.Table.Fast,.int .i64 x.p_.Table.Gap,.int .i64 x.p_.Table.Shot,.sl (x.sums_.map (D.int .i64)),.int .i64 x.aim_])∧(∀ x,T_api_Breaks.d x=.agg [.sl (x.Ends.map (D.int .i64)),.int .i64 x.Cost,.sl (x.Potentials.map (D.int .i64))])∧(∀ x:List Int,dl_List_Int_i64 x=.sl (x.map (D.int .i64))):=⟨fun _=>rfl,fun _=>rfl,fun _=>rfl,fun _=>rfl,fun _=>rfl,fun _=>rfl,fun _=>rfl⟩
def g_rowbreak_Check(p_0:T_api_Paragraph):Option (Int) :=
 ((g_token_Check p_0.Tokens).bind fun r7=>(if(r7 != 0) then(some r7) else(if((p_0.Tokens.length:Int) == 0) then(some 6) else(((if(decide (p_0.Width < 1)) then(some true) else(if(decide (32 < p_0.Width)) then(some true) else(if(decide (p_0.Rows < 1)) then(some true) else(some (decide (4 < p_0.Rows)))))):Option (Bool)).bind fun v45=>(if v45 then(some 2) else((g_penalty_Check p_0.Table).bind fun r58=>(some r58)))))))
theorem a_rowbreak_Check{I:World→Prop}(hI:Stab I)(hU8T:∀ w,I w→U8T w){p_0:T_api_Paragraph}{r:Int}(h:g_rowbreak_Check p_0=some r):AFun Tryz.prog I 25 [T_api_Paragraph.d p_0] (.int .i64 r):=by
 have dd:=dd_EC;have k:=True.intro;have q:=k;have rs:=Tryz.results25
 unfold g_rowbreak_Check at h
 refine .en hI Tryz.func25 Tryz.ntmps25 ?_
 refine xs<|rz ?_
 refine es<|xs<|xs<|rK fun K6 RK6 hK6 gK6=>zz ?_
 obtain⟨r7,h8,h⟩:=bs h
 refine cw (a_token_Check hI hU8T h8)<|zz ?_
 subst hK6 gK6
 refine es<|xs<|rz ?_
 refine es ?_
 rcases iK k h with⟨k,h⟩|⟨k,h⟩
 ·refine xt<|xs<|rz ?_
  refine es<|xr<|er ?_
  cases h
  exact en fr
 ·refine xf<|xk<|es<|xs<|xb<|xs<|rz ?_
  refine es ?_
  rcases iK k h with⟨k,h⟩|⟨k,h⟩
  ·refine xt<|xs<|rz ?_
   refine es<|xr<|br<|er ?_
   cases h
   exact en fr
  ·refine xf ?_
   obtain⟨v45,h50,h⟩:=bs h
   refine rb_cut (fun v45=>⟨envL [(1,.ptr 0 0),(15,.bool v45)],heapL [(0,.box none [.sl (p_0.Tokens.map T_api_Token.d),.int .i64 p_0.Width,.int .i64 p_0.Rows,.int .i64 p_0.Table.Strength.a0,.int .i64 p_0.Table.Strength.a1,.int .i64 p_0.Table.Strength.a2,.int .i64 p_0.Table.Strength.a3,.int .i64 p_0.Table.Strength.a4,.int .i64 p_0.Table.Strength.a5,.int .i64 p_0.Table.Ragged,.int .i64 p_0.Table.Row,.int .i64 p_0.Table.Event,.int .i64 p_0.Table.Fast,.int .i64 p_0.Table.Gap,.int .i64 p_0.Table.Shot])],1,37⟩) h50 ?_ ?_
   ·clear h
    intro v45 h
    refine rK fun K46 RK46 hK46 gK46=>zz ?_
    rcases iK k h with⟨k,h⟩|⟨k,h⟩
    ·refine zz ?_
     subst hK46 gK46
     cases h
     exact en ⟨rfl,wk []⟩
    ·refine zz ?_
     rcases iK k h with⟨k,h⟩|⟨k,h⟩
     ·refine zz ?_
      subst hK46 gK46
      cases h
      exact en ⟨rfl,wk []⟩
     ·refine zz ?_
      rcases iK k h with⟨k,h⟩|⟨k,h⟩
      ·refine zz ?_
       subst hK46 gK46
       cases h
       exact en ⟨rfl,wk []⟩
      ·refine zz ?_
       subst hK46 gK46
       cases h
       exact en ⟨rfl,wk []⟩
   ·rcases iK k h with⟨k,h⟩|⟨k,h⟩
    ·refine xt<|xs<|rz ?_
     refine es<|xr<|br<|er ?_
     cases h
     exact en fr
    ·refine xf<|xk<|bn<|es<|xs<|rK fun K57 RK57 hK57 gK57=>zz ?_
     obtain⟨r58,h59,h⟩:=bs h
     refine cw (a_penalty_Check hI h59)<|zz ?_
     subst hK57 gK57
     refine es<|xr ?_
     cases h
     exact en fr
def g_rowbreak_sheet_n(s_0:T_rowbreak_sheet):Option (Int) :=
 (some (s_0.p_.Tokens.length:Int))
theorem a_rowbreak_sheet_n{I:World→Prop}(hI:Stab I){H:Nat→Option Blk}{nid:Nat}{i0:Nat}{p0:Option Nat}{s_0:T_rowbreak_sheet}{r:Int}(h:g_rowbreak_sheet_n s_0=some r)(b0:H i0=some (.box p0 [.sl (s_0.p_.Tokens.map T_api_Token.d),.int .i64 s_0.p_.Width,.int .i64 s_0.p_.Rows,.int .i64 s_0.p_.Table.Strength.a0,.int .i64 s_0.p_.Table.Strength.a1,.int .i64 s_0.p_.Table.Strength.a2,.int .i64 s_0.p_.Table.Strength.a3,.int .i64 s_0.p_.Table.Strength.a4,.int .i64 s_0.p_.Table.Strength.a5,.int .i64 s_0.p_.Table.Ragged,.int .i64 s_0.p_.Table.Row,.int .i64 s_0.p_.Table.Event,.int .i64 s_0.p_.Table.Fast,.int .i64 s_0.p_.Table.Gap,.int .i64 s_0.p_.Table.Shot,.sl (s_0.sums_.map (D.int .i64)),.int .i64 s_0.aim_])):CallOK Tryz.prog I 31 [.ptr i0 0] H nid (.int .i64 r) []:=by
 refine CallOK.ro (eff:=[(i0,some (.box p0 [.sl (s_0.p_.Tokens.map T_api_Token.d),.int .i64 s_0.p_.Width,.int .i64 s_0.p_.Rows,.int .i64 s_0.p_.Table.Strength.a0,.int .i64 s_0.p_.Table.Strength.a1,.int .i64 s_0.p_.Table.Strength.a2,.int .i64 s_0.p_.Table.Strength.a3,.int .i64 s_0.p_.Table.Strength.a4,.int .i64 s_0.p_.Table.Strength.a5,.int .i64 s_0.p_.Table.Ragged,.int .i64 s_0.p_.Table.Row,.int .i64 s_0.p_.Table.Event,.int .i64 s_0.p_.Table.Fast,.int .i64 s_0.p_.Table.Gap,.int .i64 s_0.p_.Table.Shot,.sl (s_0.sums_.map (D.int .i64)),.int .i64 s_0.aim_]))]) (CallOK.intro (is:=[(i0,p0)]) (css:=[[.sl (s_0.p_.Tokens.map T_api_Token.d),.int .i64 s_0.p_.Width,.int .i64 s_0.p_.Rows,.int .i64 s_0.p_.Table.Strength.a0,.int .i64 s_0.p_.Table.Strength.a1,.int .i64 s_0.p_.Table.Strength.a2,.int .i64 s_0.p_.Table.Strength.a3,.int .i64 s_0.p_.Table.Strength.a4,.int .i64 s_0.p_.Table.Strength.a5,.int .i64 s_0.p_.Table.Ragged,.int .i64 s_0.p_.Table.Row,.int .i64 s_0.p_.Table.Event,.int .i64 s_0.p_.Table.Fast,.int .i64 s_0.p_.Table.Gap,.int .i64 s_0.p_.Table.Shot,.sl (s_0.sums_.map (D.int .i64)),.int .i64 s_0.aim_]]) (ds0:=[.ptr 0 0]) (pl:=[(0,none)]) hI Tryz.func31 rfl (by decide) (by simp[Tryz.f31]) (by kernel_rfl) rfl rfl rfl rfl (lentAll_of ⟨⟨b0,rfl⟩,trivial⟩) (by simp) ?_) (ro1 b0)
 have dd:=dd_EC;have k:=True.intro;have q:=k;have rs:=Tryz.results31
 unfold g_rowbreak_sheet_n at h
 simp only[lentH,List.length_cons,List.length_nil,Nat.zero_add,Nat.reduceAdd,Tryz.ntmps31,dd_EC]
 refine xs<|rz ?_
 refine es<|xs<|rz ?_
 refine es<|xr ?_
 cases h
 exact en fp
def g_rowbreak_sheet_length(s_0:T_rowbreak_sheet)(i_1:Int)(j_2:Int):Option (Int) :=
 ((atI s_0.sums_ j_2).bind fun y9=>((atI s_0.sums_ i_1).bind fun y11=>(some (IntKind.i64.wrap ((IntKind.i64.wrap ((IntKind.i64.wrap ((IntKind.i64.wrap (y9 - y11))+j_2)) - i_1)) - 1)))))
theorem a_rowbreak_sheet_length{I:World→Prop}(hI:Stab I){H:Nat→Option Blk}{nid:Nat}{i0:Nat}{p0:Option Nat}{s_0:T_rowbreak_sheet}{i_1:Int}{j_2:Int}{r:Int}(h:g_rowbreak_sheet_length s_0 i_1 j_2=some r)(b0:H i0=some (.box p0 [.sl (s_0.p_.Tokens.map T_api_Token.d),.int .i64 s_0.p_.Width,.int .i64 s_0.p_.Rows,.int .i64 s_0.p_.Table.Strength.a0,.int .i64 s_0.p_.Table.Strength.a1,.int .i64 s_0.p_.Table.Strength.a2,.int .i64 s_0.p_.Table.Strength.a3,.int .i64 s_0.p_.Table.Strength.a4,.int .i64 s_0.p_.Table.Strength.a5,.int .i64 s_0.p_.Table.Ragged,.int .i64 s_0.p_.Table.Row,.int .i64 s_0.p_.Table.Event,.int .i64 s_0.p_.Table.Fast,.int .i64 s_0.p_.Table.Gap,.int .i64 s_0.p_.Table.Shot,.sl (s_0.sums_.map (D.int .i64)),.int .i64 s_0.aim_])):CallOK Tryz.prog I 87 [.ptr i0 0,.int .i64 i_1,.int .i64 j_2] H nid (.int .i64 r) []:=by
 refine CallOK.ro (eff:=[(i0,some (.box p0 [.sl (s_0.p_.Tokens.map T_api_Token.d),.int .i64 s_0.p_.Width,.int .i64 s_0.p_.Rows,.int .i64 s_0.p_.Table.Strength.a0,.int .i64 s_0.p_.Table.Strength.a1,.int .i64 s_0.p_.Table.Strength.a2,.int .i64 s_0.p_.Table.Strength.a3,.int .i64 s_0.p_.Table.Strength.a4,.int .i64 s_0.p_.Table.Strength.a5,.int .i64 s_0.p_.Table.Ragged,.int .i64 s_0.p_.Table.Row,.int .i64 s_0.p_.Table.Event,.int .i64 s_0.p_.Table.Fast,.int .i64 s_0.p_.Table.Gap,.int .i64 s_0.p_.Table.Shot,.sl (s_0.sums_.map (D.int .i64)),.int .i64 s_0.aim_]))]) (CallOK.intro (is:=[(i0,p0)]) (css:=[[.sl (s_0.p_.Tokens.map T_api_Token.d),.int .i64 s_0.p_.Width,.int .i64 s_0.p_.Rows,.int .i64 s_0.p_.Table.Strength.a0,.int .i64 s_0.p_.Table.Strength.a1,.int .i64 s_0.p_.Table.Strength.a2,.int .i64 s_0.p_.Table.Strength.a3,.int .i64 s_0.p_.Table.Strength.a4,.int .i64 s_0.p_.Table.Strength.a5,.int .i64 s_0.p_.Table.Ragged,.int .i64 s_0.p_.Table.Row,.int .i64 s_0.p_.Table.Event,.int .i64 s_0.p_.Table.Fast,.int .i64 s_0.p_.Table.Gap,.int .i64 s_0.p_.Table.Shot,.sl (s_0.sums_.map (D.int .i64)),.int .i64 s_0.aim_]]) (ds0:=[.ptr 0 0,.int .i64 i_1,.int .i64 j_2]) (pl:=[(0,none)]) hI Tryz.func87 rfl (by decide) (by simp[Tryz.f87]) (by kernel_rfl) rfl rfl rfl rfl (lentAll_of ⟨⟨b0,rfl⟩,trivial⟩) (by simp) ?_) (ro1 b0)
 have dd:=dd_EC;have k:=True.intro;have q:=k;have rs:=Tryz.results87
 unfold g_rowbreak_sheet_length at h
 simp only[lentH,List.length_cons,List.length_nil,Nat.zero_add,Nat.reduceAdd,Tryz.ntmps87,dd_EC]
 refine xs<|rz ?_
 refine es<|xs<|rD hI fun K8 RK8 hK8 gK8=>zz ?_
 obtain⟨y9,q,h⟩:=bK q h
 refine zz ?_
 obtain⟨y11,q,h⟩:=bK q h
 refine zz ?_
 subst hK8 gK8
 refine es<|xr ?_
 cases h
 exact en fp
def g_rowbreak_open_s1(p_0:T_api_Paragraph)(x7:Int × (List Int)):Option (Nx (Int × (List Int)) ((List Int))) :=
 (if(decide (x7.1 < (p_0.Tokens.length:Int))) then((atI p_0.Tokens x7.1).bind fun y87=>((atI x7.2 x7.1).bind fun y90=>((g_charset_Len y87.Text).bind fun r91=>(if(x7.2.length+1) * 8≤140737488355328 then(some (.go ((IntKind.i64.wrap (x7.1+1)),(x7.2++[(IntKind.i64.wrap (y90+r91))])))) else none)))) else(some (.out x7.2)))
def g_rowbreak_open(p_0:T_api_Paragraph):Option (T_rowbreak_sheet) :=
 ((iter (g_rowbreak_open_s1 p_0) (0,[0])).bind fun e8=>((g_rowbreak_sheet_n (T_rowbreak_sheet.mk p_0 e8 0)).bind fun r105=>((g_rowbreak_sheet_length (T_rowbreak_sheet.mk p_0 e8 0) 0 r105).bind fun r107=>((g_penalty_Aim r107 p_0.Width).bind fun r109=>(some (T_rowbreak_sheet.mk p_0 e8 r109.1))))))
theorem a_rowbreak_open{I:World→Prop}(hI:Stab I)(hU8T:∀ w,I w→U8T w){H:Nat→Option Blk}{nid:Nat}{p_0:T_api_Paragraph}{r:T_rowbreak_sheet}(h:g_rowbreak_open p_0=some r):CallOK Tryz.prog I 26 [T_api_Paragraph.d p_0] H nid (.ptr nid 0) [(nid,some (.box none [.sl (r.p_.Tokens.map T_api_Token.d),.int .i64 r.p_.Width,.int .i64 r.p_.Rows,.int .i64 r.p_.Table.Strength.a0,.int .i64 r.p_.Table.Strength.a1,.int .i64 r.p_.Table.Strength.a2,.int .i64 r.p_.Table.Strength.a3,.int .i64 r.p_.Table.Strength.a4,.int .i64 r.p_.Table.Strength.a5,.int .i64 r.p_.Table.Ragged,.int .i64 r.p_.Table.Row,.int .i64 r.p_.Table.Event,.int .i64 r.p_.Table.Fast,.int .i64 r.p_.Table.Gap,.int .i64 r.p_.Table.Shot,.sl (r.sums_.map (D.int .i64)),.int .i64 r.aim_]))]:=by
 refine CallOK.intro (is:=[]) (css:=[]) (ds0:=[T_api_Paragraph.d p_0]) (pl:=[]) hI Tryz.func26 rfl (by decide) (by simp[Tryz.f26]) (by kernel_rfl) rfl rfl rfl rfl (lentAll_of trivial) (by simp) ?_
 have dd:=dd_EC;have k:=True.intro;have q:=k;have rs:=Tryz.results26
 unfold g_rowbreak_open at h
 simp only[lentH,List.length_cons,List.length_nil,Nat.zero_add,Nat.reduceAdd,Tryz.ntmps26,dd_EC]
 refine xs<|rz ?_
 refine es<|xs<|rz ?_
 refine es<|xs<|xs<|rz ?_
 refine es<|xb ?_
 obtain⟨e8,h96,h⟩:=bs h
 refine rb_loop (fun x7=>⟨envL [(1,.ptr 0 0),(3,.ptr 1 0),(11,.sl (p_0.Tokens.map T_api_Token.d)),(12,.int .i64 (p_0.Tokens.length:Int)),(13,.int .i64 x7.1)],heapL [(0,.box none [.sl (p_0.Tokens.map T_api_Token.d),.int .i64 p_0.Width,.int .i64 p_0.Rows,.int .i64 p_0.Table.Strength.a0,.int .i64 p_0.Table.Strength.a1,.int .i64 p_0.Table.Strength.a2,.int .i64 p_0.Table.Strength.a3,.int .i64 p_0.Table.Strength.a4,.int .i64 p_0.Table.Strength.a5,.int .i64 p_0.Table.Ragged,.int .i64 p_0.Table.Row,.int .i64 p_0.Table.Event,.int .i64 p_0.Table.Fast,.int .i64 p_0.Table.Gap,.int .i64 p_0.Table.Shot]),(1,.box none [.sl (p_0.Tokens.map T_api_Token.d),.int .i64 p_0.Width,.int .i64 p_0.Rows,.int .i64 p_0.Table.Strength.a0,.int .i64 p_0.Table.Strength.a1,.int .i64 p_0.Table.Strength.a2,.int .i64 p_0.Table.Strength.a3,.int .i64 p_0.Table.Strength.a4,.int .i64 p_0.Table.Strength.a5,.int .i64 p_0.Table.Ragged,.int .i64 p_0.Table.Row,.int .i64 p_0.Table.Event,.int .i64 p_0.Table.Fast,.int .i64 p_0.Table.Gap,.int .i64 p_0.Table.Shot,.own 2 x7.2.length,.int .i64 0]),(2,.vec 3 1 (x7.2.map (D.int .i64)) false)],3,53⟩) (fun _=>.exit 0) (fun e8=>⟨envL [(1,.ptr 0 0),(3,.ptr 1 0)],heapL [(0,.box none [.sl (p_0.Tokens.map T_api_Token.d),.int .i64 p_0.Width,.int .i64 p_0.Rows,.int .i64 p_0.Table.Strength.a0,.int .i64 p_0.Table.Strength.a1,.int .i64 p_0.Table.Strength.a2,.int .i64 p_0.Table.Strength.a3,.int .i64 p_0.Table.Strength.a4,.int .i64 p_0.Table.Strength.a5,.int .i64 p_0.Table.Ragged,.int .i64 p_0.Table.Row,.int .i64 p_0.Table.Event,.int .i64 p_0.Table.Fast,.int .i64 p_0.Table.Gap,.int .i64 p_0.Table.Shot]),(1,.box none [.sl (p_0.Tokens.map T_api_Token.d),.int .i64 p_0.Width,.int .i64 p_0.Rows,.int .i64 p_0.Table.Strength.a0,.int .i64 p_0.Table.Strength.a1,.int .i64 p_0.Table.Strength.a2,.int .i64 p_0.Table.Strength.a3,.int .i64 p_0.Table.Strength.a4,.int .i64 p_0.Table.Strength.a5,.int .i64 p_0.Table.Ragged,.int .i64 p_0.Table.Row,.int .i64 p_0.Table.Event,.int .i64 p_0.Table.Fast,.int .i64 p_0.Table.Gap,.int .i64 p_0.Table.Shot,.sl (e8.map (D.int .i64)),.int .i64 0])],2,53⟩) h96 (wk [(1,some 5),(2,some 3)]) (by intro w;simp) ?_ ?_
 ·clear h
  intro x7 y h
  unfold g_rowbreak_open_s1 at h
  refine xs<|rz ?_
  refine es<|xs ?_
  rcases iK k h with⟨k,h⟩|⟨k,h⟩
  ·refine xt<|xk<|es<|xs<|xb<|xs<|rK fun K86 RK86 hK86 gK86=>zz ?_
   obtain⟨y87,q,h⟩:=bK q h
   refine zz ?_
   subst hK86 gK86
   refine es<|rD hI fun K89 RK89 hK89 gK89=>zz ?_
   obtain⟨y90,q,h⟩:=oN q h
   refine zz ?_
   obtain⟨r91,h92,h⟩:=bs h
   refine cd (a_charset_Len hI hU8T h92)<|zz ?_
   obtain⟨h93,h⟩:=ite_on h
   have h94:x7.2.length+1≤9223372036854775807:=by omega
   try simp only[Nat.reduceLeDiff] at h94
   have q:=And.intro @h94<|And.intro @h93<|q
   refine zz ?_
   refine hd<|zz ?_
   refine hd<|zz ?_
   subst hK89 gK89
   refine bn<|es<|rz ?_
   cases h
   exact en ⟨rfl,wk [(2,some 27)]⟩
  ·refine xf<|xx<|ee ?_
   cases h
   exact en ⟨rfl,((Wk.pubBox (id:=1) (c:=15) (j:=2) fz fz fz fs (by decide)).trans (wk []))⟩
 ·refine bh<|es<|xs<|rD hI fun K104 RK104 hK104 gK104=>zz ?_
  obtain⟨r105,h106,h⟩:=bs h
  refine eD.intro (fun H' ho hs=>a_rowbreak_sheet_n hI (H:=H') (nid:=5) (i0:=1) (p0:=none) h106 (ho 1 _ (by dsimp only;decide) fz)) fi rfl fk<|zz ?_
  obtain⟨r107,h108,h⟩:=bs h
  refine eD.intro (fun H' ho hs=>a_rowbreak_sheet_length hI (H:=H') (nid:=6) (i0:=1) (p0:=none) h108 (ho 1 _ (by dsimp only;decide) fz)) fi rfl fk<|zz ?_
  obtain⟨r109,h110,h⟩:=bs h
  refine cd (a_penalty_Aim hI h110)<|zz ?_
  refine hd<|zz ?_
  subst hK104 gK104
  refine es<|xs<|rz ?_
  refine es<|xr ?_
  cases h
  exact en fp
def g_rowbreak_sheet_fits(s_0:T_rowbreak_sheet)(i_1:Int)(j_2:Int):Option (Bool) :=
 ((g_rowbreak_sheet_length s_0 i_1 j_2).bind fun r7=>(some (decide (r7≤s_0.p_.Width))))
theorem a_rowbreak_sheet_fits{I:World→Prop}(hI:Stab I){H:Nat→Option Blk}{nid:Nat}{i0:Nat}{p0:Option Nat}{s_0:T_rowbreak_sheet}{i_1:Int}{j_2:Int}{r:Bool}(h:g_rowbreak_sheet_fits s_0 i_1 j_2=some r)(b0:H i0=some (.box p0 [.sl (s_0.p_.Tokens.map T_api_Token.d),.int .i64 s_0.p_.Width,.int .i64 s_0.p_.Rows,.int .i64 s_0.p_.Table.Strength.a0,.int .i64 s_0.p_.Table.Strength.a1,.int .i64 s_0.p_.Table.Strength.a2,.int .i64 s_0.p_.Table.Strength.a3,.int .i64 s_0.p_.Table.Strength.a4,.int .i64 s_0.p_.Table.Strength.a5,.int .i64 s_0.p_.Table.Ragged,.int .i64 s_0.p_.Table.Row,.int .i64 s_0.p_.Table.Event,.int .i64 s_0.p_.Table.Fast,.int .i64 s_0.p_.Table.Gap,.int .i64 s_0.p_.Table.Shot,.sl (s_0.sums_.map (D.int .i64)),.int .i64 s_0.aim_])):CallOK Tryz.prog I 28 [.ptr i0 0,.int .i64 i_1,.int .i64 j_2] H nid (.bool r) []:=by
 refine CallOK.ro (eff:=[(i0,some (.box p0 [.sl (s_0.p_.Tokens.map T_api_Token.d),.int .i64 s_0.p_.Width,.int .i64 s_0.p_.Rows,.int .i64 s_0.p_.Table.Strength.a0,.int .i64 s_0.p_.Table.Strength.a1,.int .i64 s_0.p_.Table.Strength.a2,.int .i64 s_0.p_.Table.Strength.a3,.int .i64 s_0.p_.Table.Strength.a4,.int .i64 s_0.p_.Table.Strength.a5,.int .i64 s_0.p_.Table.Ragged,.int .i64 s_0.p_.Table.Row,.int .i64 s_0.p_.Table.Event,.int .i64 s_0.p_.Table.Fast,.int .i64 s_0.p_.Table.Gap,.int .i64 s_0.p_.Table.Shot,.sl (s_0.sums_.map (D.int .i64)),.int .i64 s_0.aim_]))]) (CallOK.intro (is:=[(i0,p0)]) (css:=[[.sl (s_0.p_.Tokens.map T_api_Token.d),.int .i64 s_0.p_.Width,.int .i64 s_0.p_.Rows,.int .i64 s_0.p_.Table.Strength.a0,.int .i64 s_0.p_.Table.Strength.a1,.int .i64 s_0.p_.Table.Strength.a2,.int .i64 s_0.p_.Table.Strength.a3,.int .i64 s_0.p_.Table.Strength.a4,.int .i64 s_0.p_.Table.Strength.a5,.int .i64 s_0.p_.Table.Ragged,.int .i64 s_0.p_.Table.Row,.int .i64 s_0.p_.Table.Event,.int .i64 s_0.p_.Table.Fast,.int .i64 s_0.p_.Table.Gap,.int .i64 s_0.p_.Table.Shot,.sl (s_0.sums_.map (D.int .i64)),.int .i64 s_0.aim_]]) (ds0:=[.ptr 0 0,.int .i64 i_1,.int .i64 j_2]) (pl:=[(0,none)]) hI Tryz.func28 rfl (by decide) (by simp[Tryz.f28]) (by kernel_rfl) rfl rfl rfl rfl (lentAll_of ⟨⟨b0,rfl⟩,trivial⟩) (by simp) ?_) (ro1 b0)
 have dd:=dd_EC;have k:=True.intro;have q:=k;have rs:=Tryz.results28
 unfold g_rowbreak_sheet_fits at h
 simp only[lentH,List.length_cons,List.length_nil,Nat.zero_add,Nat.reduceAdd,Tryz.ntmps28,dd_EC]
 refine xs<|rz ?_
 refine es<|xs<|rD hI fun K6 RK6 hK6 gK6=>zz ?_
 obtain⟨r7,h8,h⟩:=bs h
 refine eD.intro (fun H' ho hs=>a_rowbreak_sheet_length hI (H:=H') (nid:=5) (i0:=0) (p0:=(some 0)) h8 (ho 0 _ (by dsimp only;decide) fz)) fi rfl fk<|zz ?_
 subst hK6 gK6
 refine es<|xr ?_
 cases h
 exact en fp
def g_rowbreak_sheet_cost(s_0:T_rowbreak_sheet)(i_1:Int)(j_2:Int):Option (Int) :=
 ((g_rowbreak_sheet_n s_0).bind fun r9=>(if(decide (j_2 < r9)) then((atI s_0.p_.Tokens (IntKind.i64.wrap (j_2 - 1))).bind fun y13=>((g_rowbreak_sheet_length s_0 i_1 j_2).bind fun r21=>((g_penalty_Row s_0.p_.Table s_0.aim_ r21 y13.Strength).bind fun r23=>(some r23.1)))) else((g_rowbreak_sheet_length s_0 i_1 j_2).bind fun r33=>((g_penalty_Row s_0.p_.Table s_0.aim_ r33 (-1)).bind fun r35=>(some r35.1)))))
theorem a_rowbreak_sheet_cost{I:World→Prop}(hI:Stab I){H:Nat→Option Blk}{nid:Nat}{i0:Nat}{p0:Option Nat}{s_0:T_rowbreak_sheet}{i_1:Int}{j_2:Int}{r:Int}(h:g_rowbreak_sheet_cost s_0 i_1 j_2=some r)(b0:H i0=some (.box p0 [.sl (s_0.p_.Tokens.map T_api_Token.d),.int .i64 s_0.p_.Width,.int .i64 s_0.p_.Rows,.int .i64 s_0.p_.Table.Strength.a0,.int .i64 s_0.p_.Table.Strength.a1,.int .i64 s_0.p_.Table.Strength.a2,.int .i64 s_0.p_.Table.Strength.a3,.int .i64 s_0.p_.Table.Strength.a4,.int .i64 s_0.p_.Table.Strength.a5,.int .i64 s_0.p_.Table.Ragged,.int .i64 s_0.p_.Table.Row,.int .i64 s_0.p_.Table.Event,.int .i64 s_0.p_.Table.Fast,.int .i64 s_0.p_.Table.Gap,.int .i64 s_0.p_.Table.Shot,.sl (s_0.sums_.map (D.int .i64)),.int .i64 s_0.aim_])):CallOK Tryz.prog I 29 [.ptr i0 0,.int .i64 i_1,.int .i64 j_2] H nid (.int .i64 r) []:=by
 refine CallOK.ro (eff:=[(i0,some (.box p0 [.sl (s_0.p_.Tokens.map T_api_Token.d),.int .i64 s_0.p_.Width,.int .i64 s_0.p_.Rows,.int .i64 s_0.p_.Table.Strength.a0,.int .i64 s_0.p_.Table.Strength.a1,.int .i64 s_0.p_.Table.Strength.a2,.int .i64 s_0.p_.Table.Strength.a3,.int .i64 s_0.p_.Table.Strength.a4,.int .i64 s_0.p_.Table.Strength.a5,.int .i64 s_0.p_.Table.Ragged,.int .i64 s_0.p_.Table.Row,.int .i64 s_0.p_.Table.Event,.int .i64 s_0.p_.Table.Fast,.int .i64 s_0.p_.Table.Gap,.int .i64 s_0.p_.Table.Shot,.sl (s_0.sums_.map (D.int .i64)),.int .i64 s_0.aim_]))]) (CallOK.intro (is:=[(i0,p0)]) (css:=[[.sl (s_0.p_.Tokens.map T_api_Token.d),.int .i64 s_0.p_.Width,.int .i64 s_0.p_.Rows,.int .i64 s_0.p_.Table.Strength.a0,.int .i64 s_0.p_.Table.Strength.a1,.int .i64 s_0.p_.Table.Strength.a2,.int .i64 s_0.p_.Table.Strength.a3,.int .i64 s_0.p_.Table.Strength.a4,.int .i64 s_0.p_.Table.Strength.a5,.int .i64 s_0.p_.Table.Ragged,.int .i64 s_0.p_.Table.Row,.int .i64 s_0.p_.Table.Event,.int .i64 s_0.p_.Table.Fast,.int .i64 s_0.p_.Table.Gap,.int .i64 s_0.p_.Table.Shot,.sl (s_0.sums_.map (D.int .i64)),.int .i64 s_0.aim_]]) (ds0:=[.ptr 0 0,.int .i64 i_1,.int .i64 j_2]) (pl:=[(0,none)]) hI Tryz.func29 rfl (by decide) (by simp[Tryz.f29]) (by kernel_rfl) rfl rfl rfl rfl (lentAll_of ⟨⟨b0,rfl⟩,trivial⟩) (by simp) ?_) (ro1 b0)
 have dd:=dd_EC;have k:=True.intro;have q:=k;have rs:=Tryz.results29
 unfold g_rowbreak_sheet_cost at h
 simp only[lentH,List.length_cons,List.length_nil,Nat.zero_add,Nat.reduceAdd,Tryz.ntmps29,dd_EC]
 refine xs<|rz ?_
 refine es<|xs<|rz ?_
 refine es<|xs<|xs<|rK fun K8 RK8 hK8 gK8=>zz ?_
 obtain⟨r9,h10,h⟩:=bs h
 refine eW.intro (a_rowbreak_sheet_n hI (nid:=5) (i0:=0) (p0:=(some 0)) h10 fz) fi rfl<|zz ?_
 subst hK8 gK8
 refine es ?_
 rcases iK k h with⟨k,h⟩|⟨k,h⟩
 ·refine xt<|rK fun K12 RK12 hK12 gK12=>zz ?_
  obtain⟨y13,q,h⟩:=bK q h
  refine zz ?_
  subst hK12 gK12
  refine es<|xs<|rD hI fun K20 RK20 hK20 gK20=>zz ?_
  obtain⟨r21,h22,h⟩:=bs h
  refine eD.intro (fun H' ho hs=>a_rowbreak_sheet_length hI (H:=H') (nid:=30) (i0:=0) (p0:=(some 0)) h22 (ho 0 _ (by dsimp only;decide) fz)) fi rfl fk<|zz ?_
  obtain⟨r23,h24,h⟩:=bs h
  refine cd (a_penalty_Row hI h24)<|zz ?_
  subst hK20 gK20
  refine es<|xs<|rz ?_
  refine es<|xr ?_
  cases h
  exact en fp
 ·refine xf<|xk<|es<|xs<|rD hI fun K32 RK32 hK32 gK32=>zz ?_
  obtain⟨r33,h34,h⟩:=bs h
  refine eD.intro (fun H' ho hs=>a_rowbreak_sheet_length hI (H:=H') (nid:=19) (i0:=0) (p0:=(some 0)) h34 (ho 0 _ (by dsimp only;decide) fz)) fi rfl fk<|zz ?_
  obtain⟨r35,h36,h⟩:=bs h
  refine cd (a_penalty_Row hI h36)<|zz ?_
  subst hK32 gK32
  refine es<|xs<|rz ?_
  refine es<|xr ?_
  cases h
  exact en fp
def g_rowbreak_sheet_total_s1(ends_1:List Int)(x24:Int × Int):Option (Nx (Int × Int) (Unit ⊕ Unit)) :=
 (if(decide (x24.2 < (ends_1.length:Int))) then((atI ends_1 x24.2).bind fun y104=>(if(decide (y104≤x24.1)) then(some (.out (.inl ()))) else(some (.go (y104,(IntKind.i64.wrap (x24.2+1))))))) else(some (.out (.inr ()))))
def g_rowbreak_sheet_total_s2(s_0:T_rowbreak_sheet)(ends_1:List Int)(x125:Int × Int × Int):Option (Nx (Int × Int × Int) (Unit ⊕ Int)) :=
 (if(decide (x125.2.2 < (ends_1.length:Int))) then((atI ends_1 x125.2.2).bind fun y255=>((g_rowbreak_sheet_fits s_0 x125.1 y255).bind fun r261=>(if r261 then((g_rowbreak_sheet_cost s_0 x125.1 y255).bind fun r268=>(some (.go (y255,(IntKind.i64.wrap (x125.2.1+r268)),(IntKind.i64.wrap (x125.2.2+1)))))) else(some (.out (.inl ())))))) else(some (.out (.inr x125.2.1))))
def g_rowbreak_sheet_total(s_0:T_rowbreak_sheet)(ends_1:List Int):Option (Int × Int) :=
 (((if((ends_1.length:Int) == 0) then(some true) else((atI ends_1 (IntKind.i64.wrap ((ends_1.length:Int) - 1))).bind fun y12=>((g_rowbreak_sheet_n s_0).bind fun r14=>(some (y12 != r14))))):Option (Bool)).bind fun v9=>(if v9 then(some (0,1)) else((iter (g_rowbreak_sheet_total_s1 ends_1) (0,0)).bind fun e25=>(match e25 with|Sum.inl e25=>(some (0,1))|Sum.inr (e25)=>(if(decide (s_0.p_.Rows < (ends_1.length:Int))) then(some (0,9)) else((iter (g_rowbreak_sheet_total_s2 s_0 ends_1) (0,0,0)).bind fun e126=>(match e126 with|Sum.inl e126=>(some (0,11))|Sum.inr (e126)=>(some (e126,0)))))))))
theorem a_rowbreak_sheet_total{I:World→Prop}(hI:Stab I){H:Nat→Option Blk}{nid:Nat}{i0:Nat}{p0:Option Nat}{s_0:T_rowbreak_sheet}{ends_1:List Int}{r:Int × Int}(h:g_rowbreak_sheet_total s_0 ends_1=some r)(b0:H i0=some (.box p0 [.sl (s_0.p_.Tokens.map T_api_Token.d),.int .i64 s_0.p_.Width,.int .i64 s_0.p_.Rows,.int .i64 s_0.p_.Table.Strength.a0,.int .i64 s_0.p_.Table.Strength.a1,.int .i64 s_0.p_.Table.Strength.a2,.int .i64 s_0.p_.Table.Strength.a3,.int .i64 s_0.p_.Table.Strength.a4,.int .i64 s_0.p_.Table.Strength.a5,.int .i64 s_0.p_.Table.Ragged,.int .i64 s_0.p_.Table.Row,.int .i64 s_0.p_.Table.Event,.int .i64 s_0.p_.Table.Fast,.int .i64 s_0.p_.Table.Gap,.int .i64 s_0.p_.Table.Shot,.sl (s_0.sums_.map (D.int .i64)),.int .i64 s_0.aim_])):CallOK Tryz.prog I 30 [.ptr i0 0,.sl (ends_1.map (D.int .i64))] H nid (.tup [.int .i64 r.1,.int .i64 r.2]) []:=by
 refine CallOK.ro (eff:=[(i0,some (.box p0 [.sl (s_0.p_.Tokens.map T_api_Token.d),.int .i64 s_0.p_.Width,.int .i64 s_0.p_.Rows,.int .i64 s_0.p_.Table.Strength.a0,.int .i64 s_0.p_.Table.Strength.a1,.int .i64 s_0.p_.Table.Strength.a2,.int .i64 s_0.p_.Table.Strength.a3,.int .i64 s_0.p_.Table.Strength.a4,.int .i64 s_0.p_.Table.Strength.a5,.int .i64 s_0.p_.Table.Ragged,.int .i64 s_0.p_.Table.Row,.int .i64 s_0.p_.Table.Event,.int .i64 s_0.p_.Table.Fast,.int .i64 s_0.p_.Table.Gap,.int .i64 s_0.p_.Table.Shot,.sl (s_0.sums_.map (D.int .i64)),.int .i64 s_0.aim_]))]) (CallOK.intro (is:=[(i0,p0)]) (css:=[[.sl (s_0.p_.Tokens.map T_api_Token.d),.int .i64 s_0.p_.Width,.int .i64 s_0.p_.Rows,.int .i64 s_0.p_.Table.Strength.a0,.int .i64 s_0.p_.Table.Strength.a1,.int .i64 s_0.p_.Table.Strength.a2,.int .i64 s_0.p_.Table.Strength.a3,.int .i64 s_0.p_.Table.Strength.a4,.int .i64 s_0.p_.Table.Strength.a5,.int .i64 s_0.p_.Table.Ragged,.int .i64 s_0.p_.Table.Row,.int .i64 s_0.p_.Table.Event,.int .i64 s_0.p_.Table.Fast,.int .i64 s_0.p_.Table.Gap,.int .i64 s_0.p_.Table.Shot,.sl (s_0.sums_.map (D.int .i64)),.int .i64 s_0.aim_]]) (ds0:=[.ptr 0 0,.sl (ends_1.map (D.int .i64))]) (pl:=[(0,none)]) hI Tryz.func30 rfl (by decide) (by simp[Tryz.f30]) (by kernel_rfl) rfl rfl rfl rfl (lentAll_of ⟨⟨b0,rfl⟩,trivial⟩) (by simp) ?_) (ro1 b0)
 have dd:=dd_EC;have k:=True.intro;have q:=k;have rs:=Tryz.results30
 unfold g_rowbreak_sheet_total at h
 simp only[lentH,List.length_cons,List.length_nil,Nat.zero_add,Nat.reduceAdd,Tryz.ntmps30,dd_EC]
 refine xs<|rz ?_
 refine es<|xs ?_
 obtain⟨v9,h16,h⟩:=bs h
 refine rb_cut (fun v9=>⟨envL [(0,.ptr 0 0),(1,.sl (ends_1.map (D.int .i64))),(25,.bool v9)],heapL [(0,.box (some 0) [.sl (s_0.p_.Tokens.map T_api_Token.d),.int .i64 s_0.p_.Width,.int .i64 s_0.p_.Rows,.int .i64 s_0.p_.Table.Strength.a0,.int .i64 s_0.p_.Table.Strength.a1,.int .i64 s_0.p_.Table.Strength.a2,.int .i64 s_0.p_.Table.Strength.a3,.int .i64 s_0.p_.Table.Strength.a4,.int .i64 s_0.p_.Table.Strength.a5,.int .i64 s_0.p_.Table.Ragged,.int .i64 s_0.p_.Table.Row,.int .i64 s_0.p_.Table.Event,.int .i64 s_0.p_.Table.Fast,.int .i64 s_0.p_.Table.Gap,.int .i64 s_0.p_.Table.Shot,.sl (s_0.sums_.map (D.int .i64)),.int .i64 s_0.aim_])],1,65⟩) h16 ?_ ?_
 ·clear h
  intro v9 h
  refine rD hI fun K10 RK10 hK10 gK10=>zz ?_
  rcases iK k h with⟨k,h⟩|⟨k,h⟩
  ·refine zz ?_
   subst hK10 gK10
   cases h
   exact en ⟨rfl,wk []⟩
  ·refine zz ?_
   obtain⟨y12,q,h⟩:=bK q h
   refine zz ?_
   obtain⟨r14,h15,h⟩:=bs h
   refine eD.intro (fun H' ho hs=>a_rowbreak_sheet_n hI (H:=H') (nid:=14) (i0:=0) (p0:=(some 0)) h15 (ho 0 _ (by dsimp only;decide) fz)) fi rfl fk<|zz ?_
   subst hK10 gK10
   cases h
   exact en ⟨rfl,wk []⟩
 ·rcases iK k h with⟨k,h⟩|⟨k,h⟩
  ·refine xt<|xs<|rz ?_
   refine es<|xr<|er ?_
   cases h
   exact en fp
  ·refine xf<|xk<|es<|xs<|rz ?_
   refine es<|xs<|xs<|rz ?_
   refine es<|xb ?_
   obtain⟨e25,h113,h⟩:=bs h
   refine rb_loop (fun x24=>⟨envL [(0,.ptr 0 0),(1,.sl (ends_1.map (D.int .i64))),(6,.int .i64 x24.1),(26,.sl (ends_1.map (D.int .i64))),(27,.int .i64 (ends_1.length:Int)),(28,.int .i64 x24.2)],heapL [(0,.box (some 0) [.sl (s_0.p_.Tokens.map T_api_Token.d),.int .i64 s_0.p_.Width,.int .i64 s_0.p_.Rows,.int .i64 s_0.p_.Table.Strength.a0,.int .i64 s_0.p_.Table.Strength.a1,.int .i64 s_0.p_.Table.Strength.a2,.int .i64 s_0.p_.Table.Strength.a3,.int .i64 s_0.p_.Table.Strength.a4,.int .i64 s_0.p_.Table.Strength.a5,.int .i64 s_0.p_.Table.Ragged,.int .i64 s_0.p_.Table.Row,.int .i64 s_0.p_.Table.Event,.int .i64 s_0.p_.Table.Fast,.int .i64 s_0.p_.Table.Gap,.int .i64 s_0.p_.Table.Shot,.sl (s_0.sums_.map (D.int .i64)),.int .i64 s_0.aim_])],1,65⟩) (fun w=>match w with|Sum.inl _=>.ret|Sum.inr (_)=>.exit 0) (fun w=>match w with|Sum.inl e25=>⟨envL [(0,.ptr 0 0),(4,.int .i64 0),(5,.int .i64 1)],heapL [(0,.box (some 0) [.sl (s_0.p_.Tokens.map T_api_Token.d),.int .i64 s_0.p_.Width,.int .i64 s_0.p_.Rows,.int .i64 s_0.p_.Table.Strength.a0,.int .i64 s_0.p_.Table.Strength.a1,.int .i64 s_0.p_.Table.Strength.a2,.int .i64 s_0.p_.Table.Strength.a3,.int .i64 s_0.p_.Table.Strength.a4,.int .i64 s_0.p_.Table.Strength.a5,.int .i64 s_0.p_.Table.Ragged,.int .i64 s_0.p_.Table.Row,.int .i64 s_0.p_.Table.Event,.int .i64 s_0.p_.Table.Fast,.int .i64 s_0.p_.Table.Gap,.int .i64 s_0.p_.Table.Shot,.sl (s_0.sums_.map (D.int .i64)),.int .i64 s_0.aim_])],1,65⟩|Sum.inr (e25)=>⟨envL [(0,.ptr 0 0),(1,.sl (ends_1.map (D.int .i64)))],heapL [(0,.box (some 0) [.sl (s_0.p_.Tokens.map T_api_Token.d),.int .i64 s_0.p_.Width,.int .i64 s_0.p_.Rows,.int .i64 s_0.p_.Table.Strength.a0,.int .i64 s_0.p_.Table.Strength.a1,.int .i64 s_0.p_.Table.Strength.a2,.int .i64 s_0.p_.Table.Strength.a3,.int .i64 s_0.p_.Table.Strength.a4,.int .i64 s_0.p_.Table.Strength.a5,.int .i64 s_0.p_.Table.Ragged,.int .i64 s_0.p_.Table.Row,.int .i64 s_0.p_.Table.Event,.int .i64 s_0.p_.Table.Fast,.int .i64 s_0.p_.Table.Gap,.int .i64 s_0.p_.Table.Shot,.sl (s_0.sums_.map (D.int .i64)),.int .i64 s_0.aim_])],1,65⟩) h113 (wk []) (by intro w;rcases w with w|w<;>simp) ?_ ?_
   ·clear h
    intro x24 y h
    unfold g_rowbreak_sheet_total_s1 at h
    refine xs<|rz ?_
    refine es<|xs ?_
    rcases iK k h with⟨k,h⟩|⟨k,h⟩
    ·refine xt<|xk<|es<|xs<|xb<|xs<|rK fun K103 RK103 hK103 gK103=>zz ?_
     obtain⟨y104,q,h⟩:=bK q h
     refine zz ?_
     subst hK103 gK103
     refine es<|xs<|xs<|rz ?_
     refine es ?_
     rcases iK k h with⟨k,h⟩|⟨k,h⟩
     ·refine xt<|xs<|rz ?_
      refine es<|xr<|er<|br<|er ?_
      cases h
      exact en ⟨rfl,wk []⟩
     ·refine xf<|xk<|es<|rz ?_
      refine bn<|es<|rz ?_
      cases h
      exact en ⟨rfl,wk []⟩
    ·refine xf<|xx<|ee ?_
     cases h
     exact en ⟨rfl,wk []⟩
   ·rcases e25 with e25|e25
    ·try dsimp only at h ⊢
     refine br<|er ?_
     cases h
     exact en fp
    ·try dsimp only at h ⊢
     refine bh<|es<|xs<|xs<|rz ?_
     refine es ?_
     rcases iK k h with⟨k,h⟩|⟨k,h⟩
     ·refine xt<|xs<|rz ?_
      refine es<|xr<|er ?_
      cases h
      exact en fp
     ·refine xf<|xk<|es<|xs<|rz ?_
      refine es<|xs<|rz ?_
      refine es<|xs<|xs<|rz ?_
      refine es<|xb ?_
      obtain⟨e126,h274,h⟩:=bs h
      refine rb_loop (fun x125=>⟨envL [(0,.ptr 0 0),(6,.int .i64 x125.1),(9,.int .i64 x125.2.1),(45,.sl (ends_1.map (D.int .i64))),(46,.int .i64 (ends_1.length:Int)),(47,.int .i64 x125.2.2)],heapL [(0,.box (some 0) [.sl (s_0.p_.Tokens.map T_api_Token.d),.int .i64 s_0.p_.Width,.int .i64 s_0.p_.Rows,.int .i64 s_0.p_.Table.Strength.a0,.int .i64 s_0.p_.Table.Strength.a1,.int .i64 s_0.p_.Table.Strength.a2,.int .i64 s_0.p_.Table.Strength.a3,.int .i64 s_0.p_.Table.Strength.a4,.int .i64 s_0.p_.Table.Strength.a5,.int .i64 s_0.p_.Table.Ragged,.int .i64 s_0.p_.Table.Row,.int .i64 s_0.p_.Table.Event,.int .i64 s_0.p_.Table.Fast,.int .i64 s_0.p_.Table.Gap,.int .i64 s_0.p_.Table.Shot,.sl (s_0.sums_.map (D.int .i64)),.int .i64 s_0.aim_])],1,65⟩) (fun w=>match w with|Sum.inl _=>.ret|Sum.inr (_)=>.exit 2) (fun w=>match w with|Sum.inl e126=>⟨envL [(0,.ptr 0 0),(4,.int .i64 0),(5,.int .i64 11)],heapL [(0,.box (some 0) [.sl (s_0.p_.Tokens.map T_api_Token.d),.int .i64 s_0.p_.Width,.int .i64 s_0.p_.Rows,.int .i64 s_0.p_.Table.Strength.a0,.int .i64 s_0.p_.Table.Strength.a1,.int .i64 s_0.p_.Table.Strength.a2,.int .i64 s_0.p_.Table.Strength.a3,.int .i64 s_0.p_.Table.Strength.a4,.int .i64 s_0.p_.Table.Strength.a5,.int .i64 s_0.p_.Table.Ragged,.int .i64 s_0.p_.Table.Row,.int .i64 s_0.p_.Table.Event,.int .i64 s_0.p_.Table.Fast,.int .i64 s_0.p_.Table.Gap,.int .i64 s_0.p_.Table.Shot,.sl (s_0.sums_.map (D.int .i64)),.int .i64 s_0.aim_])],1,65⟩|Sum.inr (e126)=>⟨envL [(0,.ptr 0 0),(9,.int .i64 e126)],heapL [(0,.box (some 0) [.sl (s_0.p_.Tokens.map T_api_Token.d),.int .i64 s_0.p_.Width,.int .i64 s_0.p_.Rows,.int .i64 s_0.p_.Table.Strength.a0,.int .i64 s_0.p_.Table.Strength.a1,.int .i64 s_0.p_.Table.Strength.a2,.int .i64 s_0.p_.Table.Strength.a3,.int .i64 s_0.p_.Table.Strength.a4,.int .i64 s_0.p_.Table.Strength.a5,.int .i64 s_0.p_.Table.Ragged,.int .i64 s_0.p_.Table.Row,.int .i64 s_0.p_.Table.Event,.int .i64 s_0.p_.Table.Fast,.int .i64 s_0.p_.Table.Gap,.int .i64 s_0.p_.Table.Shot,.sl (s_0.sums_.map (D.int .i64)),.int .i64 s_0.aim_])],1,65⟩) h274 (wk []) (by intro w;rcases w with w|w<;>simp) ?_ ?_
      ·clear h
       intro x125 y h
       unfold g_rowbreak_sheet_total_s2 at h
       refine xs<|rz ?_
       refine es<|xs ?_
       rcases iK k h with⟨k,h⟩|⟨k,h⟩
       ·refine xt<|xk<|es<|xs<|xb<|xs<|rK fun K254 RK254 hK254 gK254=>zz ?_
        obtain⟨y255,q,h⟩:=bK q h
        refine zz ?_
        subst hK254 gK254
        refine es<|xs<|xs<|rK fun K260 RK260 hK260 gK260=>zz ?_
        obtain⟨r261,h262,h⟩:=bs h
        refine eW.intro (a_rowbreak_sheet_fits hI (nid:=8) (i0:=0) (p0:=(some 0)) h262 fz) fi rfl<|zz ?_
        subst hK260 gK260
        refine es ?_
        rcases iK k h with⟨k,h⟩|⟨k,h⟩
        ·refine xf<|xk<|es<|xs<|rK fun K267 RK267 hK267 gK267=>zz ?_
         obtain⟨r268,h269,h⟩:=bs h
         refine eW.intro (a_rowbreak_sheet_cost hI (nid:=14) (i0:=0) (p0:=(some 0)) h269 fz) fi rfl<|zz ?_
         subst hK267 gK267
         refine es<|rz ?_
         refine bn<|es<|rz ?_
         cases h
         exact en ⟨rfl,wk []⟩
        ·refine xt<|xs<|rz ?_
         refine es<|xr<|er<|br<|er ?_
         cases h
         exact en ⟨rfl,wk []⟩
       ·refine xf<|xx<|ee ?_
        cases h
        exact en ⟨rfl,wk []⟩
      ·rcases e126 with e126|e126
       ·try dsimp only at h ⊢
        refine br<|er ?_
        cases h
        exact en fp
       ·try dsimp only at h ⊢
        refine bh<|es<|xs<|rz ?_
        refine es<|xr ?_
        cases h
        exact en fp
def g_rowbreak_sheet_exact_s3(s_0:T_rowbreak_sheet)(r7:Int)(x27:Int × (List (List Int)))(x9871:Int × (List Int))(x11495:Int × (List Int)):Option (Nx (Int × (List Int)) ((List Int))) :=
 (((if(decide (x11495.1≤r7)) then((g_rowbreak_sheet_fits s_0 x9871.1 x11495.1).bind fun r11696=>(some r11696)) else(some false)):Option (Bool)).bind fun v11693=>(if v11693 then((atI x27.2 (IntKind.i64.wrap (x27.1 - 1))).bind fun y11748=>(if ¬ (IntKind.i64.wrap (x27.1 - 1))=x27.1 then((atI y11748 x11495.1).bind fun y11751=>(if(y11751 == (-1)) then(some (.go ((IntKind.i64.wrap (x11495.1+1)),x11495.2))) else((g_rowbreak_sheet_cost s_0 x9871.1 x11495.1).bind fun r11761=>((((atI x11495.2 x9871.1).bind fun y11770=>(if(y11770 == (-1)) then(some true) else(some (decide ((IntKind.i64.wrap (r11761+y11751)) < y11770))))):Option (Bool)).bind fun v11767=>(if v11767 then((atI x11495.2 x9871.1).bind fun y11776=>((setI x11495.2 x9871.1 (IntKind.i64.wrap (r11761+y11751))).bind fun m11777=>(some (.go ((IntKind.i64.wrap (x11495.1+1)),m11777))))) else(some (.go ((IntKind.i64.wrap (x11495.1+1)),x11495.2)))))))) else none)) else(some (.out x11495.2))))
def g_rowbreak_sheet_exact_s2(s_0:T_rowbreak_sheet)(r7:Int)(x27:Int × (List (List Int)))(m9858:List Int)(x9871:Int × (List Int)):Option (Nx (Int × (List Int)) ((List Int))) :=
 (if(decide (x9871.1 < ((m9858.length:Nat):Int))) then((atI x9871.2 x9871.1).bind fun y11482=>((setI x9871.2 x9871.1 (-1)).bind fun m11483=>(if(x27.1 == 0) then(some (.go ((IntKind.i64.wrap (x9871.1+1)),m11483))) else((iter (g_rowbreak_sheet_exact_s3 s_0 r7 x27 x9871) ((IntKind.i64.wrap (x9871.1+1)),m11483)).bind fun e11496=>(some (.go ((IntKind.i64.wrap (x9871.1+1)),e11496))))))) else(some (.out x9871.2)))
def g_rowbreak_sheet_exact_s1(s_0:T_rowbreak_sheet)(r7:Int)(m18:List (List Int))(x27:Int × (List (List Int))):Option (Nx (Int × (List (List Int))) ((List (List Int)))) :=
 (if(decide (x27.1 < ((m18.length:Nat):Int))) then((mkI 8 (IntKind.i64.wrap (r7+1)) (0:Int)).bind fun m9858=>((atI x27.2 x27.1).bind fun y9865=>((iter (g_rowbreak_sheet_exact_s2 s_0 r7 x27 m9858) (0,m9858)).bind fun e9872=>(if(x27.1 == 0) then((atI x27.2 0).bind fun y11792=>((atI e9872 r7).bind fun y11798=>((setI e9872 r7 0).bind fun m11799=>(some (.go ((IntKind.i64.wrap (x27.1+1)),(x27.2.set x27.1.toNat m11799))))))) else(some (.go ((IntKind.i64.wrap (x27.1+1)),(x27.2.set x27.1.toNat e9872)))))))) else(some (.out x27.2)))
def g_rowbreak_sheet_exact(s_0:T_rowbreak_sheet):Option ((List (List Int))) :=
 ((g_rowbreak_sheet_n s_0).bind fun r7=>((mkI 24 (IntKind.i64.wrap (s_0.p_.Rows+1)) ([]:List Int)).bind fun m18=>((iter (g_rowbreak_sheet_exact_s1 s_0 r7 m18) (0,m18)).bind fun e28=>(some e28))))
theorem a_rowbreak_sheet_exact{I:World→Prop}(hI:Stab I){H:Nat→Option Blk}{nid:Nat}{i0:Nat}{p0:Option Nat}{s_0:T_rowbreak_sheet}{r:(List (List Int))}(h:g_rowbreak_sheet_exact s_0=some r)(b0:H i0=some (.box p0 [.sl (s_0.p_.Tokens.map T_api_Token.d),.int .i64 s_0.p_.Width,.int .i64 s_0.p_.Rows,.int .i64 s_0.p_.Table.Strength.a0,.int .i64 s_0.p_.Table.Strength.a1,.int .i64 s_0.p_.Table.Strength.a2,.int .i64 s_0.p_.Table.Strength.a3,.int .i64 s_0.p_.Table.Strength.a4,.int .i64 s_0.p_.Table.Strength.a5,.int .i64 s_0.p_.Table.Ragged,.int .i64 s_0.p_.Table.Row,.int .i64 s_0.p_.Table.Event,.int .i64 s_0.p_.Table.Fast,.int .i64 s_0.p_.Table.Gap,.int .i64 s_0.p_.Table.Shot,.sl (s_0.sums_.map (D.int .i64)),.int .i64 s_0.aim_])):CallOK Tryz.prog I 27 [.ptr i0 0] H nid (.sl (r.map dl_List_Int_i64)) []:=by
 refine CallOK.ro (eff:=[(i0,some (.box p0 [.sl (s_0.p_.Tokens.map T_api_Token.d),.int .i64 s_0.p_.Width,.int .i64 s_0.p_.Rows,.int .i64 s_0.p_.Table.Strength.a0,.int .i64 s_0.p_.Table.Strength.a1,.int .i64 s_0.p_.Table.Strength.a2,.int .i64 s_0.p_.Table.Strength.a3,.int .i64 s_0.p_.Table.Strength.a4,.int .i64 s_0.p_.Table.Strength.a5,.int .i64 s_0.p_.Table.Ragged,.int .i64 s_0.p_.Table.Row,.int .i64 s_0.p_.Table.Event,.int .i64 s_0.p_.Table.Fast,.int .i64 s_0.p_.Table.Gap,.int .i64 s_0.p_.Table.Shot,.sl (s_0.sums_.map (D.int .i64)),.int .i64 s_0.aim_]))]) (CallOK.intro (is:=[(i0,p0)]) (css:=[[.sl (s_0.p_.Tokens.map T_api_Token.d),.int .i64 s_0.p_.Width,.int .i64 s_0.p_.Rows,.int .i64 s_0.p_.Table.Strength.a0,.int .i64 s_0.p_.Table.Strength.a1,.int .i64 s_0.p_.Table.Strength.a2,.int .i64 s_0.p_.Table.Strength.a3,.int .i64 s_0.p_.Table.Strength.a4,.int .i64 s_0.p_.Table.Strength.a5,.int .i64 s_0.p_.Table.Ragged,.int .i64 s_0.p_.Table.Row,.int .i64 s_0.p_.Table.Event,.int .i64 s_0.p_.Table.Fast,.int .i64 s_0.p_.Table.Gap,.int .i64 s_0.p_.Table.Shot,.sl (s_0.sums_.map (D.int .i64)),.int .i64 s_0.aim_]]) (ds0:=[.ptr 0 0]) (pl:=[(0,none)]) hI Tryz.func27 rfl (by decide) (by simp[Tryz.f27]) (by kernel_rfl) rfl rfl rfl rfl (lentAll_of ⟨⟨b0,rfl⟩,trivial⟩) (by simp) ?_) (ro1 b0)
 have dd:=dd_EC;have k:=True.intro;have q:=k;have rs:=Tryz.results27
 unfold g_rowbreak_sheet_exact at h
 simp only[lentH,List.length_cons,List.length_nil,Nat.zero_add,Nat.reduceAdd,Tryz.ntmps27,dd_EC]
 refine xs<|rz ?_
 refine es<|xs<|rK fun K6 RK6 hK6 gK6=>zz ?_
 obtain⟨r7,h8,h⟩:=bs h
 refine eW.intro (a_rowbreak_sheet_n hI (nid:=3) (i0:=0) (p0:=(some 0)) h8 fz) fi rfl<|zz ?_
 subst hK6 gK6
 refine es<|xs<|rK fun K17 RK17 hK17 gK17=>zz ?_
 obtain⟨m18,h19,h⟩:=bind_some h
 obtain⟨h20,h21,h22,h23,h24⟩:=mkI_some h19
 have h24:=h24 dl_List_Int_i64
 try simp only[sevalprocAttr,List.map_nil,Int.toNat_natCast,dd] at h23 h24
 have q:=And.intro @h20<|And.intro @h21<|And.intro @h22<|And.intro @h23<|And.intro @h24<|q
 refine zz ?_
 subst hK17 gK17
 refine es<|xs<|xs<|rz ?_
 refine es<|xb ?_
 obtain⟨e28,h11807,h⟩:=bs h
 refine rb_loop (fun x27=>⟨envL [(0,.ptr 0 0),(3,.int .i64 r7),(4,.own 1 x27.2.length),(20,.int .i64 ((m18.length:Nat):Int)),(21,.int .i64 x27.1)],heapL [(0,.box (some 0) [.sl (s_0.p_.Tokens.map T_api_Token.d),.int .i64 s_0.p_.Width,.int .i64 s_0.p_.Rows,.int .i64 s_0.p_.Table.Strength.a0,.int .i64 s_0.p_.Table.Strength.a1,.int .i64 s_0.p_.Table.Strength.a2,.int .i64 s_0.p_.Table.Strength.a3,.int .i64 s_0.p_.Table.Strength.a4,.int .i64 s_0.p_.Table.Strength.a5,.int .i64 s_0.p_.Table.Ragged,.int .i64 s_0.p_.Table.Row,.int .i64 s_0.p_.Table.Event,.int .i64 s_0.p_.Table.Fast,.int .i64 s_0.p_.Table.Gap,.int .i64 s_0.p_.Table.Shot,.sl (s_0.sums_.map (D.int .i64)),.int .i64 s_0.aim_]),(1,.vec 33 1 (x27.2.map dl_List_Int_i64) false)],2,111⟩) (fun _=>.exit 0) (fun e28=>⟨envL [(0,.ptr 0 0),(4,.own 1 e28.length)],heapL [(0,.box (some 0) [.sl (s_0.p_.Tokens.map T_api_Token.d),.int .i64 s_0.p_.Width,.int .i64 s_0.p_.Rows,.int .i64 s_0.p_.Table.Strength.a0,.int .i64 s_0.p_.Table.Strength.a1,.int .i64 s_0.p_.Table.Strength.a2,.int .i64 s_0.p_.Table.Strength.a3,.int .i64 s_0.p_.Table.Strength.a4,.int .i64 s_0.p_.Table.Strength.a5,.int .i64 s_0.p_.Table.Ragged,.int .i64 s_0.p_.Table.Row,.int .i64 s_0.p_.Table.Event,.int .i64 s_0.p_.Table.Fast,.int .i64 s_0.p_.Table.Gap,.int .i64 s_0.p_.Table.Shot,.sl (s_0.sums_.map (D.int .i64)),.int .i64 s_0.aim_]),(1,.vec 33 1 (e28.map dl_List_Int_i64) false)],2,111⟩) h11807 (wk [(1,some 11)]) (by intro w;simp) ?_ ?_
 ·clear h
  intro x27 y h
  unfold g_rowbreak_sheet_exact_s1 at h
  refine xs<|rz ?_
  refine es<|xs ?_
  rcases iK k h with⟨k,h⟩|⟨k,h⟩
  ·refine xt<|xk<|es<|xs<|xb<|xs<|rz ?_
   refine es<|xs<|rK fun K9857 RK9857 hK9857 gK9857=>zz ?_
   obtain⟨m9858,h9859,h⟩:=bind_some h
   obtain⟨h9860,h9861,h9862,h9863,h9864⟩:=mkI_some h9859
   have h9864:=h9864 (D.int .i64)
   try simp only[sevalprocAttr,List.map_nil,Int.toNat_natCast,dd] at h9863 h9864
   have q:=And.intro @h9860<|And.intro @h9861<|And.intro @h9862<|And.intro @h9863<|And.intro @h9864<|q
   refine zz ?_
   obtain⟨y9865,q,h⟩:=oN q h
   refine zz ?_
   have h9866:x27.1.toNat < x27.2.length:=by omega
   have q:=And.intro @h9866<|q
   refine zz ?_
   subst hK9857 gK9857
   refine es<|xs<|xs<|rK fun K9869 RK9869 hK9869 gK9869=>zz ?_
   have h9870:=mat_at (f:=dl_List_Int_i64) (L:=x27.2) (i:=x27.1.toNat) (x:=.own 9 m9858.length) (by omega)
   have q:=And.intro @h9870<|q
   refine zz ?_
   subst hK9869 gK9869
   refine es<|xb ?_
   obtain⟨e9872,h11787,h⟩:=bs h
   refine rb_loop (fun x9871=>⟨envL [(0,.ptr 0 0),(3,.int .i64 r7),(4,.own 1 x27.2.length),(5,.int .i64 x27.1),(20,.int .i64 ((m18.length:Nat):Int)),(21,.int .i64 x27.1),(34,.int .i64 ((m9858.length:Nat):Int)),(35,.int .i64 x9871.1)],heapL [(0,.box (some 0) [.sl (s_0.p_.Tokens.map T_api_Token.d),.int .i64 s_0.p_.Width,.int .i64 s_0.p_.Rows,.int .i64 s_0.p_.Table.Strength.a0,.int .i64 s_0.p_.Table.Strength.a1,.int .i64 s_0.p_.Table.Strength.a2,.int .i64 s_0.p_.Table.Strength.a3,.int .i64 s_0.p_.Table.Strength.a4,.int .i64 s_0.p_.Table.Strength.a5,.int .i64 s_0.p_.Table.Ragged,.int .i64 s_0.p_.Table.Row,.int .i64 s_0.p_.Table.Event,.int .i64 s_0.p_.Table.Fast,.int .i64 s_0.p_.Table.Gap,.int .i64 s_0.p_.Table.Shot,.sl (s_0.sums_.map (D.int .i64)),.int .i64 s_0.aim_]),(1,.mat 33 1 ((x27.2.map dl_List_Int_i64).set x27.1.toNat (.own 2 x9871.2.length))),(2,.vec 2 1 (x9871.2.map (D.int .i64)) false)],3,111⟩) (fun _=>.exit 2) (fun e9872=>⟨envL [(0,.ptr 0 0),(3,.int .i64 r7),(4,.own 1 x27.2.length),(5,.int .i64 x27.1),(20,.int .i64 ((m18.length:Nat):Int)),(21,.int .i64 x27.1)],heapL [(0,.box (some 0) [.sl (s_0.p_.Tokens.map T_api_Token.d),.int .i64 s_0.p_.Width,.int .i64 s_0.p_.Rows,.int .i64 s_0.p_.Table.Strength.a0,.int .i64 s_0.p_.Table.Strength.a1,.int .i64 s_0.p_.Table.Strength.a2,.int .i64 s_0.p_.Table.Strength.a3,.int .i64 s_0.p_.Table.Strength.a4,.int .i64 s_0.p_.Table.Strength.a5,.int .i64 s_0.p_.Table.Ragged,.int .i64 s_0.p_.Table.Row,.int .i64 s_0.p_.Table.Event,.int .i64 s_0.p_.Table.Fast,.int .i64 s_0.p_.Table.Gap,.int .i64 s_0.p_.Table.Shot,.sl (s_0.sums_.map (D.int .i64)),.int .i64 s_0.aim_]),(1,.mat 33 1 ((x27.2.map dl_List_Int_i64).set x27.1.toNat (.own 2 e9872.length))),(2,.vec 2 1 (e9872.map (D.int .i64)) false)],3,111⟩) h11787 (wk [(2,some 9)]) (by intro w;simp) ?_ ?_
   ·clear h
    intro x9871 y h
    unfold g_rowbreak_sheet_exact_s2 at h
    refine xs<|rz ?_
    refine es<|xs ?_
    rcases iK k h with⟨k,h⟩|⟨k,h⟩
    ·refine xt<|xk<|es<|xs<|xb<|xs<|rz ?_
     refine es<|xs<|rK fun K11480 RK11480 hK11480 gK11480=>zz ?_
     have h11481:=mat_at (f:=dl_List_Int_i64) (L:=x27.2) (i:=x27.1.toNat) (x:=.own 2 x9871.2.length) (by omega)
     have q:=And.intro @h11481<|q
     refine zz ?_
     obtain⟨y11482,q,h⟩:=oN q h
     refine zz ?_
     obtain⟨m11483,h11484,h⟩:=bind_some h
     obtain⟨h11485,h11486,h11487,h11488⟩:=setI_some h11484
     have h11488:=h11488 (D.int .i64)
     try simp only[sevalprocAttr,List.map_nil,dd] at h11488
     have q:=And.intro @h11485<|And.intro @h11486<|And.intro @h11487<|And.intro @h11488<|q
     refine zz ?_
     subst hK11480 gK11480
     refine es<|xs<|xs<|rz ?_
     refine es ?_
     rcases iK k h with⟨k,h⟩|⟨k,h⟩
     ·refine xt<|xx<|ee<|bh<|es<|rz ?_
      cases h
      exact en ⟨rfl,wk []⟩
     ·refine xf<|xk<|es<|xs<|rz ?_
      refine es<|xb ?_
      obtain⟨e11496,h11785,h⟩:=bs h
      refine rb_loop (fun x11495=>⟨envL [(0,.ptr 0 0),(3,.int .i64 r7),(4,.own 1 x27.2.length),(5,.int .i64 x27.1),(6,.int .i64 x9871.1),(7,.int .i64 x11495.1),(20,.int .i64 ((m18.length:Nat):Int)),(21,.int .i64 x27.1),(34,.int .i64 ((m9858.length:Nat):Int)),(35,.int .i64 x9871.1)],heapL [(0,.box (some 0) [.sl (s_0.p_.Tokens.map T_api_Token.d),.int .i64 s_0.p_.Width,.int .i64 s_0.p_.Rows,.int .i64 s_0.p_.Table.Strength.a0,.int .i64 s_0.p_.Table.Strength.a1,.int .i64 s_0.p_.Table.Strength.a2,.int .i64 s_0.p_.Table.Strength.a3,.int .i64 s_0.p_.Table.Strength.a4,.int .i64 s_0.p_.Table.Strength.a5,.int .i64 s_0.p_.Table.Ragged,.int .i64 s_0.p_.Table.Row,.int .i64 s_0.p_.Table.Event,.int .i64 s_0.p_.Table.Fast,.int .i64 s_0.p_.Table.Gap,.int .i64 s_0.p_.Table.Shot,.sl (s_0.sums_.map (D.int .i64)),.int .i64 s_0.aim_]),(1,.mat 33 1 ((x27.2.map dl_List_Int_i64).set x27.1.toNat (.own 2 x11495.2.length))),(2,.vec 2 1 (x11495.2.map (D.int .i64)) false)],3,111⟩) (fun _=>.exit 4) (fun e11496=>⟨envL [(0,.ptr 0 0),(3,.int .i64 r7),(4,.own 1 x27.2.length),(5,.int .i64 x27.1),(20,.int .i64 ((m18.length:Nat):Int)),(21,.int .i64 x27.1),(34,.int .i64 ((m9858.length:Nat):Int)),(35,.int .i64 x9871.1)],heapL [(0,.box (some 0) [.sl (s_0.p_.Tokens.map T_api_Token.d),.int .i64 s_0.p_.Width,.int .i64 s_0.p_.Rows,.int .i64 s_0.p_.Table.Strength.a0,.int .i64 s_0.p_.Table.Strength.a1,.int .i64 s_0.p_.Table.Strength.a2,.int .i64 s_0.p_.Table.Strength.a3,.int .i64 s_0.p_.Table.Strength.a4,.int .i64 s_0.p_.Table.Strength.a5,.int .i64 s_0.p_.Table.Ragged,.int .i64 s_0.p_.Table.Row,.int .i64 s_0.p_.Table.Event,.int .i64 s_0.p_.Table.Fast,.int .i64 s_0.p_.Table.Gap,.int .i64 s_0.p_.Table.Shot,.sl (s_0.sums_.map (D.int .i64)),.int .i64 s_0.aim_]),(1,.mat 33 1 ((x27.2.map dl_List_Int_i64).set x27.1.toNat (.own 2 e11496.length))),(2,.vec 2 1 (e11496.map (D.int .i64)) false)],3,111⟩) h11785 (wk []) (by intro w;simp) ?_ ?_
      ·clear h
       intro x11495 y h
       unfold g_rowbreak_sheet_exact_s3 at h
       refine xs ?_
       obtain⟨v11693,h11698,h⟩:=bs h
       refine rb_cut (fun v11693=>⟨envL [(0,.ptr 0 0),(3,.int .i64 r7),(4,.own 1 x27.2.length),(5,.int .i64 x27.1),(6,.int .i64 x9871.1),(7,.int .i64 x11495.1),(20,.int .i64 ((m18.length:Nat):Int)),(21,.int .i64 x27.1),(34,.int .i64 ((m9858.length:Nat):Int)),(35,.int .i64 x9871.1),(56,.bool v11693)],heapL [(0,.box (some 0) [.sl (s_0.p_.Tokens.map T_api_Token.d),.int .i64 s_0.p_.Width,.int .i64 s_0.p_.Rows,.int .i64 s_0.p_.Table.Strength.a0,.int .i64 s_0.p_.Table.Strength.a1,.int .i64 s_0.p_.Table.Strength.a2,.int .i64 s_0.p_.Table.Strength.a3,.int .i64 s_0.p_.Table.Strength.a4,.int .i64 s_0.p_.Table.Strength.a5,.int .i64 s_0.p_.Table.Ragged,.int .i64 s_0.p_.Table.Row,.int .i64 s_0.p_.Table.Event,.int .i64 s_0.p_.Table.Fast,.int .i64 s_0.p_.Table.Gap,.int .i64 s_0.p_.Table.Shot,.sl (s_0.sums_.map (D.int .i64)),.int .i64 s_0.aim_]),(1,.mat 33 1 ((x27.2.map dl_List_Int_i64).set x27.1.toNat (.own 2 x11495.2.length))),(2,.vec 2 1 (x11495.2.map (D.int .i64)) false)],3,111⟩) h11698 ?_ ?_
       ·clear h
        intro v11693 h
        refine rK fun K11694 RK11694 hK11694 gK11694=>zz ?_
        rcases iK k h with⟨k,h⟩|⟨k,h⟩
        ·refine zz ?_
         obtain⟨r11696,h11697,h⟩:=bs h
         refine eW.intro (a_rowbreak_sheet_fits hI (nid:=10) (i0:=0) (p0:=(some 0)) h11697 fz) fi rfl<|zz ?_
         subst hK11694 gK11694
         cases h
         exact en ⟨rfl,wk []⟩
        ·refine zz ?_
         subst hK11694 gK11694
         cases h
         exact en ⟨rfl,wk []⟩
       ·rcases iK k h with⟨k,h⟩|⟨k,h⟩
        ·refine xt<|xk<|es<|xs<|xb<|xs<|rK fun K11747 RK11747 hK11747 gK11747=>zz ?_
         obtain⟨y11748,q,h⟩:=oN q h
         obtain⟨h11749,h⟩:=ite_on h
         have h11750:=mat_ne (i:=x27.1.toNat) (x:=.own 2 x11495.2.length) (q.1.2.2 dl_List_Int_i64) (by omega)
         have q:=And.intro @h11750<|q
         refine zz ?_
         obtain⟨y11751,q,h⟩:=bK q h
         refine zz ?_
         subst hK11747 gK11747
         refine es<|xs<|xs<|rz ?_
         refine es ?_
         rcases iK k h with⟨k,h⟩|⟨k,h⟩
         ·refine xt<|xx<|ee<|bh<|es<|rz ?_
          cases h
          exact en ⟨rfl,wk []⟩
         ·refine xf<|xk<|es<|xs<|rK fun K11760 RK11760 hK11760 gK11760=>zz ?_
          obtain⟨r11761,h11762,h⟩:=bs h
          refine eW.intro (a_rowbreak_sheet_cost hI (nid:=17) (i0:=0) (p0:=(some 0)) h11762 fz) fi rfl<|zz ?_
          subst hK11760 gK11760
          refine es ?_
          obtain⟨v11767,h11772,h⟩:=bs h
          refine rb_cut (fun v11767=>⟨envL [(0,.ptr 0 0),(3,.int .i64 r7),(4,.own 1 x27.2.length),(5,.int .i64 x27.1),(6,.int .i64 x9871.1),(7,.int .i64 x11495.1),(9,.int .i64 (IntKind.i64.wrap (r11761+y11751))),(20,.int .i64 ((m18.length:Nat):Int)),(21,.int .i64 x27.1),(34,.int .i64 ((m9858.length:Nat):Int)),(35,.int .i64 x9871.1),(93,.bool v11767)],heapL [(0,.box (some 0) [.sl (s_0.p_.Tokens.map T_api_Token.d),.int .i64 s_0.p_.Width,.int .i64 s_0.p_.Rows,.int .i64 s_0.p_.Table.Strength.a0,.int .i64 s_0.p_.Table.Strength.a1,.int .i64 s_0.p_.Table.Strength.a2,.int .i64 s_0.p_.Table.Strength.a3,.int .i64 s_0.p_.Table.Strength.a4,.int .i64 s_0.p_.Table.Strength.a5,.int .i64 s_0.p_.Table.Ragged,.int .i64 s_0.p_.Table.Row,.int .i64 s_0.p_.Table.Event,.int .i64 s_0.p_.Table.Fast,.int .i64 s_0.p_.Table.Gap,.int .i64 s_0.p_.Table.Shot,.sl (s_0.sums_.map (D.int .i64)),.int .i64 s_0.aim_]),(1,.mat 33 1 ((x27.2.map dl_List_Int_i64).set x27.1.toNat (.own 2 x11495.2.length))),(2,.vec 2 1 (x11495.2.map (D.int .i64)) false)],3,111⟩) h11772 ?_ ?_
          ·clear h
           intro v11767 h
           refine rK fun K11768 RK11768 hK11768 gK11768=>zz ?_
           have h11769:=mat_at (f:=dl_List_Int_i64) (L:=x27.2) (i:=x27.1.toNat) (x:=.own 2 x11495.2.length) (by omega)
           have q:=And.intro @h11769<|q
           refine zz ?_
           obtain⟨y11770,q,h⟩:=oN q h
           refine zz ?_
           rcases iK k h with⟨k,h⟩|⟨k,h⟩
           ·refine zz ?_
            subst hK11768 gK11768
            cases h
            exact en ⟨rfl,wk []⟩
           ·refine zz ?_
            subst hK11768 gK11768
            cases h
            exact en ⟨rfl,wk []⟩
          ·rcases iK k h with⟨k,h⟩|⟨k,h⟩
           ·refine xt<|rK fun K11774 RK11774 hK11774 gK11774=>zz ?_
            have h11775:=mat_at (f:=dl_List_Int_i64) (L:=x27.2) (i:=x27.1.toNat) (x:=.own 2 x11495.2.length) (by omega)
            have q:=And.intro @h11775<|q
            refine zz ?_
            obtain⟨y11776,q,h⟩:=oN q h
            refine zz ?_
            obtain⟨m11777,h11778,h⟩:=bind_some h
            obtain⟨h11779,h11780,h11781,h11782⟩:=setI_some h11778
            have h11782:=h11782 (D.int .i64)
            try simp only[sevalprocAttr,List.map_nil,dd] at h11782
            have q:=And.intro @h11779<|And.intro @h11780<|And.intro @h11781<|And.intro @h11782<|q
            refine zz ?_
            subst hK11774 gK11774
            refine bn<|es<|rz ?_
            cases h
            exact en ⟨rfl,wk []⟩
           ·refine xf<|xk<|bn<|es<|rz ?_
            cases h
            exact en ⟨rfl,wk []⟩
        ·refine xf<|xx<|ee ?_
         cases h
         exact en ⟨rfl,wk []⟩
      ·refine bh<|bn<|es<|rz ?_
       cases h
       exact en ⟨rfl,wk []⟩
    ·refine xf<|xx<|ee ?_
     cases h
     exact en ⟨rfl,wk []⟩
   ·refine bh<|es<|xs<|rz ?_
    refine es ?_
    rcases iK k h with⟨k,h⟩|⟨k,h⟩
    ·refine xt<|rK fun K11791 RK11791 hK11791 gK11791=>zz ?_
     obtain⟨y11792,h11793,h⟩:=bind_some h
     obtain⟨h11794,h11795,h11796⟩:=atI_own h11793
     try simp only[Int.reduceToNat,Int.toNat_zero,Int.toNat_one] at h11796
     have q:=And.intro h11794<|And.intro h11795<|And.intro @h11796 q
     have h11797:=mat_at0 (f:=dl_List_Int_i64) (L:=x27.2) (i:=x27.1) (m:=0) (x:=.own 2 e9872.length) (by have:=k;simp only[beq_iff_eq] at this;omega) (by omega)
     have q:=And.intro @h11797<|q
     refine zz ?_
     obtain⟨y11798,q,h⟩:=oN q h
     refine zz ?_
     obtain⟨m11799,h11800,h⟩:=bind_some h
     obtain⟨h11801,h11802,h11803,h11804⟩:=setI_some h11800
     have h11804:=h11804 (D.int .i64)
     try simp only[sevalprocAttr,List.map_nil,dd] at h11804
     have q:=And.intro @h11801<|And.intro @h11802<|And.intro @h11803<|And.intro @h11804<|q
     refine zz ?_
     subst hK11791 gK11791
     refine bn<|es<|rz ?_
     cases h
     exact en ⟨rfl,((Wk.closeM (id:=1) (j:=2) (i:=x27.1.toNat) (f:=dl_List_Int_i64) (L:=x27.2) fz (by omega) fz fs (by decide) (fun _=>rfl)).trans (wk []))⟩
    ·refine xf<|xk<|bn<|es<|rz ?_
     cases h
     exact en ⟨rfl,((Wk.closeM (id:=1) (j:=2) (i:=x27.1.toNat) (f:=dl_List_Int_i64) (L:=x27.2) fz (by omega) fz fs (by decide) (fun _=>rfl)).trans (wk []))⟩
  ·refine xf<|xx<|ee ?_
   cases h
   exact en ⟨rfl,wk []⟩
 ·refine bh<|es<|xs<|rz ?_
  refine es<|xr ?_
  cases h
  exact en fp
def g_rowbreak_Break_s3(x8017:Int × (List Int))(z8889:List (List Int))(x8894:Int × Int):Option (Nx (Int × Int) (Int)) :=
 (if(decide (x8894.2 < (z8889.length:Int))) then((atI z8889 x8894.2).bind fun y9023=>((atI y9023 x8017.1).bind fun y9029=>(((if(y9029 != (-1)) then(if(x8894.1 == (-1)) then(some true) else(some (decide (y9029 < x8894.1)))) else(some false)):Option (Bool)).bind fun v9034=>(if v9034 then(some (.go (y9029,(IntKind.i64.wrap (x8894.2+1))))) else(some (.go (x8894.1,(IntKind.i64.wrap (x8894.2+1))))))))) else(some (.out x8894.1)))
def g_rowbreak_Break_s2(p_0:T_api_Paragraph)(r24:(List (List Int)))(x30:Int × (List Int))(y8015:List Int)(x8017:Int × (List Int)):Option (Nx (Int × (List Int)) ((List Int))) :=
 (if(decide (x8017.1 < (y8015.length:Int))) then((subH r24 (IntKind.i64.wrap ((IntKind.i64.wrap (p_0.Rows - x30.1))+1))).bind fun z8889=>((iter (g_rowbreak_Break_s3 x8017 z8889) (-1,0)).bind fun e8895=>(if(x8017.2.length+1) * 8≤140737488355328 then(some (.go ((IntKind.i64.wrap (x8017.1+1)),(x8017.2++[e8895])))) else none))) else(some (.out x8017.2)))
def g_rowbreak_Break_s1(p_0:T_api_Paragraph)(r24:(List (List Int)))(x30:Int × (List Int)):Option (Nx (Int × (List Int)) ((List Int))) :=
 (if(decide (x30.1 < (r24.length:Int))) then((atI r24 0).bind fun y8015=>((iter (g_rowbreak_Break_s2 p_0 r24 x30 y8015) (0,x30.2)).bind fun e8018=>(some (.go ((IntKind.i64.wrap (x30.1+1)),e8018))))) else(some (.out x30.2)))
def g_rowbreak_Break_s4(r24:(List (List Int)))(y9058:Int)(x9109:Int):Option (Nx (Int) (Int)) :=
 ((atI r24 x9109).bind fun y9141=>((atI y9141 0).bind fun y9143=>(if(y9143 != y9058) then(some (.go (IntKind.i64.wrap (x9109+1)))) else(some (.out x9109)))))
def g_rowbreak_Break_s6(r18:T_rowbreak_sheet)(r24:(List (List Int)))(x9150:Int × Int × (List Int))(x10799:Int):Option (Nx (Int) (Int × (List Int) × (List Int) × Int × Int × Int × Bool × Int × Int × (List Int) × (List Int) × Int × Int × Int × Int × (List Int) × (List Int) × Int × Int × Bool)) :=
 ((g_rowbreak_sheet_fits r18 x9150.2.1 x10799).bind fun r10885=>(if r10885 then((atI r24 (IntKind.i64.wrap (x9150.1 - 1))).bind fun y10888=>((atI y10888 x10799).bind fun y10890=>(if(y10890 == (-1)) then(some (.go (IntKind.i64.wrap (x10799+1)))) else((g_rowbreak_sheet_cost r18 x9150.2.1 x10799).bind fun r10894=>((atI r24 x9150.1).bind fun y10896=>((atI y10896 x9150.2.1).bind fun y10898=>(if((IntKind.i64.wrap (r10894+y10890)) != y10898) then(some (.go (IntKind.i64.wrap (x10799+1)))) else(some (.out (x10799,y10888,y10888,x10799,y10890,y10890,(y10890 == (-1)),x10799,r10894,y10888,y10888,x10799,y10890,y10890,(IntKind.i64.wrap (r10894+y10890)),y10896,y10896,y10898,y10898,((IntKind.i64.wrap (r10894+y10890)) != y10898))))))))))) else(some (.go (IntKind.i64.wrap (x10799+1))))))
def g_rowbreak_Break_s5(r18:T_rowbreak_sheet)(r24:(List (List Int)))(x9150:Int × Int × (List Int)):Option (Nx (Int × Int × (List Int)) ((List Int))) :=
 (if(decide (0 < x9150.1)) then((iter (g_rowbreak_Break_s6 r18 r24 x9150) (IntKind.i64.wrap (x9150.2.1+1))).bind fun e10800=>(if(x9150.2.2.length+1) * 8≤140737488355328 then(some (.go ((IntKind.i64.wrap (x9150.1 - 1)),e10800.1,(x9150.2.2++[e10800.1])))) else none)) else(some (.out x9150.2.2)))
def g_rowbreak_Break(p_0:T_api_Paragraph):Option (T_api_Breaks × Int) :=
 ((g_rowbreak_Check p_0).bind fun r7=>(if(r7 != 0) then(some ((T_api_Breaks.mk [] 0 []),r7)) else((g_rowbreak_open p_0).bind fun r18=>((g_rowbreak_sheet_exact r18).bind fun r24=>((iter (g_rowbreak_Break_s1 p_0 r24) (0,[])).bind fun e31=>((atI e31 0).bind fun y9058=>(if(y9058 == (-1)) then(some ((T_api_Breaks.mk [] 0 []),11)) else((iter (g_rowbreak_Break_s4 r24 y9058) 0).bind fun e9110=>((iter (g_rowbreak_Break_s5 r18 r24) (e9110,0,[])).bind fun e9151=>(some ((T_api_Breaks.mk e9151 y9058 e31),0)))))))))))
theorem a_rowbreak_Break{I:World→Prop}(hI:Stab I)(hU8T:∀ w,I w→U8T w){p_0:T_api_Paragraph}{r:T_api_Breaks × Int}(h:g_rowbreak_Break p_0=some r):AFun Tryz.prog I 6 [T_api_Paragraph.d p_0] (.tup [T_api_Breaks.d r.1,.int .i64 r.2]):=by
 have dd:=dd_EC;have k:=True.intro;have q:=k;have rs:=Tryz.results6
 unfold g_rowbreak_Break at h
 refine .en hI Tryz.func6 Tryz.ntmps6 ?_
 refine xs<|rz ?_
 refine es<|xs<|xs<|rK fun K6 RK6 hK6 gK6=>zz ?_
 obtain⟨r7,h8,h⟩:=bs h
 refine cw (a_rowbreak_Check hI hU8T h8)<|zz ?_
 subst hK6 gK6
 refine es<|xs<|rz ?_
 refine es ?_
 rcases iK k h with⟨k,h⟩|⟨k,h⟩
 ·refine xt<|xs<|rz ?_
  refine es<|xr<|er ?_
  cases h
  exact en fr
 ·refine xf<|xk<|es<|xs<|rK fun K17 RK17 hK17 gK17=>zz ?_
  obtain⟨r18,h19,h⟩:=bs h
  refine cW.introE (a_rowbreak_open hI hU8T (nid:=9) h19) fz rfl<|zz ?_
  subst hK17 gK17
  refine es<|xs<|rK fun K23 RK23 hK23 gK23=>zz ?_
  obtain⟨r24,h25,h⟩:=bs h
  refine eW.intro (a_rowbreak_sheet_exact hI (nid:=12) (i0:=9) (p0:=none) h25 fz) fi rfl<|zz ?_
  subst hK23 gK23
  refine es<|xs<|rz ?_
  refine es<|xs<|xs<|rz ?_
  refine es<|xb ?_
  obtain⟨e31,h9050,h⟩:=bs h
  refine rb_loop (fun x30=>⟨envL [(1,.ptr 0 0),(2,.ptr 1 0),(5,.ptr 2 0),(6,.sl (r24.map dl_List_Int_i64)),(7,.ptr 3 0),(29,.int .i64 (r24.length:Int)),(30,.int .i64 x30.1)],heapL [(0,.box none [.sl (p_0.Tokens.map T_api_Token.d),.int .i64 p_0.Width,.int .i64 p_0.Rows,.int .i64 p_0.Table.Strength.a0,.int .i64 p_0.Table.Strength.a1,.int .i64 p_0.Table.Strength.a2,.int .i64 p_0.Table.Strength.a3,.int .i64 p_0.Table.Strength.a4,.int .i64 p_0.Table.Strength.a5,.int .i64 p_0.Table.Ragged,.int .i64 p_0.Table.Row,.int .i64 p_0.Table.Event,.int .i64 p_0.Table.Fast,.int .i64 p_0.Table.Gap,.int .i64 p_0.Table.Shot]),(1,.box none [.nils,.int .i64 0,.nils]),(2,.box none [.sl (r18.p_.Tokens.map T_api_Token.d),.int .i64 r18.p_.Width,.int .i64 r18.p_.Rows,.int .i64 r18.p_.Table.Strength.a0,.int .i64 r18.p_.Table.Strength.a1,.int .i64 r18.p_.Table.Strength.a2,.int .i64 r18.p_.Table.Strength.a3,.int .i64 r18.p_.Table.Strength.a4,.int .i64 r18.p_.Table.Strength.a5,.int .i64 r18.p_.Table.Ragged,.int .i64 r18.p_.Table.Row,.int .i64 r18.p_.Table.Event,.int .i64 r18.p_.Table.Fast,.int .i64 r18.p_.Table.Gap,.int .i64 r18.p_.Table.Shot,.sl (r18.sums_.map (D.int .i64)),.int .i64 r18.aim_]),(3,.box none [.nils,.int .i64 (-1),.own 4 x30.2.length]),(4,.vec 2 1 (x30.2.map (D.int .i64)) false)],5,152⟩) (fun _=>.exit 0) (fun e31=>⟨envL [(2,.ptr 0 0),(5,.ptr 1 0),(6,.sl (r24.map dl_List_Int_i64)),(7,.ptr 2 0)],heapL [(0,.box none [.nils,.int .i64 0,.nils]),(1,.box none [.sl (r18.p_.Tokens.map T_api_Token.d),.int .i64 r18.p_.Width,.int .i64 r18.p_.Rows,.int .i64 r18.p_.Table.Strength.a0,.int .i64 r18.p_.Table.Strength.a1,.int .i64 r18.p_.Table.Strength.a2,.int .i64 r18.p_.Table.Strength.a3,.int .i64 r18.p_.Table.Strength.a4,.int .i64 r18.p_.Table.Strength.a5,.int .i64 r18.p_.Table.Ragged,.int .i64 r18.p_.Table.Row,.int .i64 r18.p_.Table.Event,.int .i64 r18.p_.Table.Fast,.int .i64 r18.p_.Table.Gap,.int .i64 r18.p_.Table.Shot,.sl (r18.sums_.map (D.int .i64)),.int .i64 r18.aim_]),(2,.box none [.nils,.int .i64 (-1),.own 3 e31.length]),(3,.vec 2 1 (e31.map (D.int .i64)) false)],4,152⟩) h9050 (wk [(2,some 9),(3,some 15),(4,none)]) (by intro w;simp) ?_ ?_
  ·clear h
   intro x30 y h
   unfold g_rowbreak_Break_s1 at h
   refine xs<|rz ?_
   refine es<|xs ?_
   rcases iK k h with⟨k,h⟩|⟨k,h⟩
   ·refine xt<|xk<|es<|xs<|xb<|xs<|rz ?_
    refine es<|xs<|rK fun K8014 RK8014 hK8014 gK8014=>zz ?_
    obtain⟨y8015,q,h⟩:=bK q h
    refine zz ?_
    subst hK8014 gK8014
    refine es<|xb ?_
    obtain⟨e8018,h9048,h⟩:=bs h
    refine rb_loop (fun x8017=>⟨envL [(1,.ptr 0 0),(2,.ptr 1 0),(5,.ptr 2 0),(6,.sl (r24.map dl_List_Int_i64)),(7,.ptr 3 0),(8,.int .i64 x30.1),(29,.int .i64 (r24.length:Int)),(30,.int .i64 x30.1),(36,.int .i64 (y8015.length:Int)),(37,.int .i64 x8017.1)],heapL [(0,.box none [.sl (p_0.Tokens.map T_api_Token.d),.int .i64 p_0.Width,.int .i64 p_0.Rows,.int .i64 p_0.Table.Strength.a0,.int .i64 p_0.Table.Strength.a1,.int .i64 p_0.Table.Strength.a2,.int .i64 p_0.Table.Strength.a3,.int .i64 p_0.Table.Strength.a4,.int .i64 p_0.Table.Strength.a5,.int .i64 p_0.Table.Ragged,.int .i64 p_0.Table.Row,.int .i64 p_0.Table.Event,.int .i64 p_0.Table.Fast,.int .i64 p_0.Table.Gap,.int .i64 p_0.Table.Shot]),(1,.box none [.nils,.int .i64 0,.nils]),(2,.box none [.sl (r18.p_.Tokens.map T_api_Token.d),.int .i64 r18.p_.Width,.int .i64 r18.p_.Rows,.int .i64 r18.p_.Table.Strength.a0,.int .i64 r18.p_.Table.Strength.a1,.int .i64 r18.p_.Table.Strength.a2,.int .i64 r18.p_.Table.Strength.a3,.int .i64 r18.p_.Table.Strength.a4,.int .i64 r18.p_.Table.Strength.a5,.int .i64 r18.p_.Table.Ragged,.int .i64 r18.p_.Table.Row,.int .i64 r18.p_.Table.Event,.int .i64 r18.p_.Table.Fast,.int .i64 r18.p_.Table.Gap,.int .i64 r18.p_.Table.Shot,.sl (r18.sums_.map (D.int .i64)),.int .i64 r18.aim_]),(3,.box none [.nils,.int .i64 (-1),.own 4 x8017.2.length]),(4,.vec 2 1 (x8017.2.map (D.int .i64)) false)],5,152⟩) (fun _=>.exit 2) (fun e8018=>⟨envL [(1,.ptr 0 0),(2,.ptr 1 0),(5,.ptr 2 0),(6,.sl (r24.map dl_List_Int_i64)),(7,.ptr 3 0),(29,.int .i64 (r24.length:Int)),(30,.int .i64 x30.1)],heapL [(0,.box none [.sl (p_0.Tokens.map T_api_Token.d),.int .i64 p_0.Width,.int .i64 p_0.Rows,.int .i64 p_0.Table.Strength.a0,.int .i64 p_0.Table.Strength.a1,.int .i64 p_0.Table.Strength.a2,.int .i64 p_0.Table.Strength.a3,.int .i64 p_0.Table.Strength.a4,.int .i64 p_0.Table.Strength.a5,.int .i64 p_0.Table.Ragged,.int .i64 p_0.Table.Row,.int .i64 p_0.Table.Event,.int .i64 p_0.Table.Fast,.int .i64 p_0.Table.Gap,.int .i64 p_0.Table.Shot]),(1,.box none [.nils,.int .i64 0,.nils]),(2,.box none [.sl (r18.p_.Tokens.map T_api_Token.d),.int .i64 r18.p_.Width,.int .i64 r18.p_.Rows,.int .i64 r18.p_.Table.Strength.a0,.int .i64 r18.p_.Table.Strength.a1,.int .i64 r18.p_.Table.Strength.a2,.int .i64 r18.p_.Table.Strength.a3,.int .i64 r18.p_.Table.Strength.a4,.int .i64 r18.p_.Table.Strength.a5,.int .i64 r18.p_.Table.Ragged,.int .i64 r18.p_.Table.Row,.int .i64 r18.p_.Table.Event,.int .i64 r18.p_.Table.Fast,.int .i64 r18.p_.Table.Gap,.int .i64 r18.p_.Table.Shot,.sl (r18.sums_.map (D.int .i64)),.int .i64 r18.aim_]),(3,.box none [.nils,.int .i64 (-1),.own 4 e8018.length]),(4,.vec 2 1 (e8018.map (D.int .i64)) false)],5,152⟩) h9048 (wk []) (by intro w;simp) ?_ ?_
    ·clear h
     intro x8017 y h
     unfold g_rowbreak_Break_s2 at h
     refine xs<|rz ?_
     refine es<|xs ?_
     rcases iK k h with⟨k,h⟩|⟨k,h⟩
     ·refine xt<|xk<|es<|xs<|xb<|xs<|rz ?_
      refine es<|xs<|rz ?_
      refine es<|xs<|xs<|rK fun K8888 RK8888 hK8888 gK8888=>zz ?_
      obtain⟨z8889,h8890,h⟩:=bind_some h
      obtain⟨⟨h8891,h8892⟩,h8893⟩:=subH_some h8890
      have q:=And.intro @h8891<|And.intro @h8892<|q
      try simp -implicitDefEqProofs only[vt,vm,sevalprocAttr,dd,k,q] at h8893
      have q:=And.intro @h8893<|q
      refine zz ?_
      subst hK8888 gK8888
      refine es<|xb ?_
      obtain⟨e8895,h9043,h⟩:=bs h
      refine rb_loop (fun x8894=>⟨envL [(1,.ptr 0 0),(2,.ptr 1 0),(5,.ptr 2 0),(6,.sl (r24.map dl_List_Int_i64)),(7,.ptr 3 0),(8,.int .i64 x30.1),(9,.int .i64 x8017.1),(10,.int .i64 x8894.1),(29,.int .i64 (r24.length:Int)),(30,.int .i64 x30.1),(36,.int .i64 (y8015.length:Int)),(37,.int .i64 x8017.1),(46,.sl (z8889.map dl_List_Int_i64)),(47,.int .i64 (z8889.length:Int)),(48,.int .i64 x8894.2)],heapL [(0,.box none [.sl (p_0.Tokens.map T_api_Token.d),.int .i64 p_0.Width,.int .i64 p_0.Rows,.int .i64 p_0.Table.Strength.a0,.int .i64 p_0.Table.Strength.a1,.int .i64 p_0.Table.Strength.a2,.int .i64 p_0.Table.Strength.a3,.int .i64 p_0.Table.Strength.a4,.int .i64 p_0.Table.Strength.a5,.int .i64 p_0.Table.Ragged,.int .i64 p_0.Table.Row,.int .i64 p_0.Table.Event,.int .i64 p_0.Table.Fast,.int .i64 p_0.Table.Gap,.int .i64 p_0.Table.Shot]),(1,.box none [.nils,.int .i64 0,.nils]),(2,.box none [.sl (r18.p_.Tokens.map T_api_Token.d),.int .i64 r18.p_.Width,.int .i64 r18.p_.Rows,.int .i64 r18.p_.Table.Strength.a0,.int .i64 r18.p_.Table.Strength.a1,.int .i64 r18.p_.Table.Strength.a2,.int .i64 r18.p_.Table.Strength.a3,.int .i64 r18.p_.Table.Strength.a4,.int .i64 r18.p_.Table.Strength.a5,.int .i64 r18.p_.Table.Ragged,.int .i64 r18.p_.Table.Row,.int .i64 r18.p_.Table.Event,.int .i64 r18.p_.Table.Fast,.int .i64 r18.p_.Table.Gap,.int .i64 r18.p_.Table.Shot,.sl (r18.sums_.map (D.int .i64)),.int .i64 r18.aim_]),(3,.box none [.nils,.int .i64 (-1),.own 4 x8017.2.length]),(4,.vec 2 1 (x8017.2.map (D.int .i64)) false)],5,152⟩) (fun _=>.exit 4) (fun e8895=>⟨envL [(1,.ptr 0 0),(2,.ptr 1 0),(5,.ptr 2 0),(6,.sl (r24.map dl_List_Int_i64)),(7,.ptr 3 0),(8,.int .i64 x30.1),(10,.int .i64 e8895),(29,.int .i64 (r24.length:Int)),(30,.int .i64 x30.1),(36,.int .i64 (y8015.length:Int)),(37,.int .i64 x8017.1)],heapL [(0,.box none [.sl (p_0.Tokens.map T_api_Token.d),.int .i64 p_0.Width,.int .i64 p_0.Rows,.int .i64 p_0.Table.Strength.a0,.int .i64 p_0.Table.Strength.a1,.int .i64 p_0.Table.Strength.a2,.int .i64 p_0.Table.Strength.a3,.int .i64 p_0.Table.Strength.a4,.int .i64 p_0.Table.Strength.a5,.int .i64 p_0.Table.Ragged,.int .i64 p_0.Table.Row,.int .i64 p_0.Table.Event,.int .i64 p_0.Table.Fast,.int .i64 p_0.Table.Gap,.int .i64 p_0.Table.Shot]),(1,.box none [.nils,.int .i64 0,.nils]),(2,.box none [.sl (r18.p_.Tokens.map T_api_Token.d),.int .i64 r18.p_.Width,.int .i64 r18.p_.Rows,.int .i64 r18.p_.Table.Strength.a0,.int .i64 r18.p_.Table.Strength.a1,.int .i64 r18.p_.Table.Strength.a2,.int .i64 r18.p_.Table.Strength.a3,.int .i64 r18.p_.Table.Strength.a4,.int .i64 r18.p_.Table.Strength.a5,.int .i64 r18.p_.Table.Ragged,.int .i64 r18.p_.Table.Row,.int .i64 r18.p_.Table.Event,.int .i64 r18.p_.Table.Fast,.int .i64 r18.p_.Table.Gap,.int .i64 r18.p_.Table.Shot,.sl (r18.sums_.map (D.int .i64)),.int .i64 r18.aim_]),(3,.box none [.nils,.int .i64 (-1),.own 4 x8017.2.length]),(4,.vec 2 1 (x8017.2.map (D.int .i64)) false)],5,152⟩) h9043 (wk []) (by intro w;simp) ?_ ?_
      ·clear h
       intro x8894 y h
       unfold g_rowbreak_Break_s3 at h
       refine xs<|rz ?_
       refine es<|xs ?_
       rcases iK k h with⟨k,h⟩|⟨k,h⟩
       ·refine xt<|xk<|es<|xs<|xb<|xs<|rK fun K9022 RK9022 hK9022 gK9022=>zz ?_
        obtain⟨y9023,q,h⟩:=bK q h
        refine zz ?_
        subst hK9022 gK9022
        refine es<|xs<|rK fun K9028 RK9028 hK9028 gK9028=>zz ?_
        obtain⟨y9029,q,h⟩:=bK q h
        refine zz ?_
        subst hK9028 gK9028
        refine es ?_
        obtain⟨v9034,h9038,h⟩:=bs h
        refine rb_cut (fun v9034=>⟨envL [(1,.ptr 0 0),(2,.ptr 1 0),(5,.ptr 2 0),(6,.sl (r24.map dl_List_Int_i64)),(7,.ptr 3 0),(8,.int .i64 x30.1),(9,.int .i64 x8017.1),(10,.int .i64 x8894.1),(13,.int .i64 y9029),(29,.int .i64 (r24.length:Int)),(30,.int .i64 x30.1),(36,.int .i64 (y8015.length:Int)),(37,.int .i64 x8017.1),(46,.sl (z8889.map dl_List_Int_i64)),(47,.int .i64 (z8889.length:Int)),(48,.int .i64 x8894.2),(66,.bool v9034)],heapL [(0,.box none [.sl (p_0.Tokens.map T_api_Token.d),.int .i64 p_0.Width,.int .i64 p_0.Rows,.int .i64 p_0.Table.Strength.a0,.int .i64 p_0.Table.Strength.a1,.int .i64 p_0.Table.Strength.a2,.int .i64 p_0.Table.Strength.a3,.int .i64 p_0.Table.Strength.a4,.int .i64 p_0.Table.Strength.a5,.int .i64 p_0.Table.Ragged,.int .i64 p_0.Table.Row,.int .i64 p_0.Table.Event,.int .i64 p_0.Table.Fast,.int .i64 p_0.Table.Gap,.int .i64 p_0.Table.Shot]),(1,.box none [.nils,.int .i64 0,.nils]),(2,.box none [.sl (r18.p_.Tokens.map T_api_Token.d),.int .i64 r18.p_.Width,.int .i64 r18.p_.Rows,.int .i64 r18.p_.Table.Strength.a0,.int .i64 r18.p_.Table.Strength.a1,.int .i64 r18.p_.Table.Strength.a2,.int .i64 r18.p_.Table.Strength.a3,.int .i64 r18.p_.Table.Strength.a4,.int .i64 r18.p_.Table.Strength.a5,.int .i64 r18.p_.Table.Ragged,.int .i64 r18.p_.Table.Row,.int .i64 r18.p_.Table.Event,.int .i64 r18.p_.Table.Fast,.int .i64 r18.p_.Table.Gap,.int .i64 r18.p_.Table.Shot,.sl (r18.sums_.map (D.int .i64)),.int .i64 r18.aim_]),(3,.box none [.nils,.int .i64 (-1),.own 4 x8017.2.length]),(4,.vec 2 1 (x8017.2.map (D.int .i64)) false)],5,152⟩) h9038 ?_ ?_
        ·clear h
         intro v9034 h
         refine rK fun K9035 RK9035 hK9035 gK9035=>zz ?_
         rcases iK k h with⟨k,h⟩|⟨k,h⟩
         ·refine zz ?_
          rcases iK k h with⟨k,h⟩|⟨k,h⟩
          ·refine zz ?_
           subst hK9035 gK9035
           cases h
           exact en ⟨rfl,wk []⟩
          ·refine zz ?_
           subst hK9035 gK9035
           cases h
           exact en ⟨rfl,wk []⟩
         ·refine zz ?_
          subst hK9035 gK9035
          cases h
          exact en ⟨rfl,wk []⟩
        ·rcases iK k h with⟨k,h⟩|⟨k,h⟩
         ·refine xt<|rz ?_
          refine bn<|es<|rz ?_
          cases h
          exact en ⟨rfl,wk []⟩
         ·refine xf<|xk<|bn<|es<|rz ?_
          cases h
          exact en ⟨rfl,wk []⟩
       ·refine xf<|xx<|ee ?_
        cases h
        exact en ⟨rfl,wk []⟩
      ·refine bh<|es<|rK fun K9044 RK9044 hK9044 gK9044=>zz ?_
       obtain⟨h9045,h⟩:=ite_on h
       have h9046:x8017.2.length+1≤9223372036854775807:=by omega
       try simp only[Nat.reduceLeDiff] at h9046
       have q:=And.intro @h9046<|And.intro @h9045<|q
       refine zz ?_
       subst hK9044 gK9044
       refine bn<|es<|rz ?_
       cases h
       exact en ⟨rfl,wk [(4,some 9)]⟩
     ·refine xf<|xx<|ee ?_
      cases h
      exact en ⟨rfl,wk []⟩
    ·refine bh<|bn<|es<|rz ?_
     cases h
     exact en ⟨rfl,wk []⟩
   ·refine xf<|xx<|ee ?_
    cases h
    exact en ⟨rfl,wk [(0,some 1),(1,some 2),(2,some 3),(3,some 4)]⟩
  ·refine bh<|es<|xs<|xs<|rK fun K9057 RK9057 hK9057 gK9057=>zz ?_
   obtain⟨y9058,h9059,h⟩:=bind_some h
   obtain⟨h9060,h9061,h9062⟩:=atI_own h9059
   try simp only[Int.reduceToNat,Int.toNat_zero,Int.toNat_one] at h9062
   have q:=And.intro h9060<|And.intro h9061<|And.intro @h9062 q
   refine zz ?_
   subst hK9057 gK9057
   refine es<|xs<|rz ?_
   refine es ?_
   rcases iK k h with⟨k,h⟩|⟨k,h⟩
   ·refine xt<|xs<|rz ?_
    refine es<|xr<|er ?_
    cases h
    exact en fr
   ·refine xf<|xk<|es<|xs<|rz ?_
    refine es<|xs<|xb ?_
    obtain⟨e9110,h9147,h⟩:=bs h
    refine rb_loop (fun x9109=>⟨envL [(2,.ptr 0 0),(5,.ptr 1 0),(6,.sl (r24.map dl_List_Int_i64)),(7,.ptr 2 0),(14,.int .i64 x9109)],heapL [(0,.box none [.nils,.int .i64 0,.nils]),(1,.box none [.sl (r18.p_.Tokens.map T_api_Token.d),.int .i64 r18.p_.Width,.int .i64 r18.p_.Rows,.int .i64 r18.p_.Table.Strength.a0,.int .i64 r18.p_.Table.Strength.a1,.int .i64 r18.p_.Table.Strength.a2,.int .i64 r18.p_.Table.Strength.a3,.int .i64 r18.p_.Table.Strength.a4,.int .i64 r18.p_.Table.Strength.a5,.int .i64 r18.p_.Table.Ragged,.int .i64 r18.p_.Table.Row,.int .i64 r18.p_.Table.Event,.int .i64 r18.p_.Table.Fast,.int .i64 r18.p_.Table.Gap,.int .i64 r18.p_.Table.Shot,.sl (r18.sums_.map (D.int .i64)),.int .i64 r18.aim_]),(2,.box none [.nils,.int .i64 y9058,.own 3 e31.length]),(3,.vec 2 1 (e31.map (D.int .i64)) false)],4,152⟩) (fun _=>.exit 6) (fun e9110=>⟨envL [(2,.ptr 0 0),(5,.ptr 1 0),(6,.sl (r24.map dl_List_Int_i64)),(7,.ptr 2 0),(14,.int .i64 e9110)],heapL [(0,.box none [.nils,.int .i64 0,.nils]),(1,.box none [.sl (r18.p_.Tokens.map T_api_Token.d),.int .i64 r18.p_.Width,.int .i64 r18.p_.Rows,.int .i64 r18.p_.Table.Strength.a0,.int .i64 r18.p_.Table.Strength.a1,.int .i64 r18.p_.Table.Strength.a2,.int .i64 r18.p_.Table.Strength.a3,.int .i64 r18.p_.Table.Strength.a4,.int .i64 r18.p_.Table.Strength.a5,.int .i64 r18.p_.Table.Ragged,.int .i64 r18.p_.Table.Row,.int .i64 r18.p_.Table.Event,.int .i64 r18.p_.Table.Fast,.int .i64 r18.p_.Table.Gap,.int .i64 r18.p_.Table.Shot,.sl (r18.sums_.map (D.int .i64)),.int .i64 r18.aim_]),(2,.box none [.nils,.int .i64 y9058,.own 3 e31.length]),(3,.vec 2 1 (e31.map (D.int .i64)) false)],4,152⟩) h9147 (wk []) (by intro w;simp) ?_ ?_
    ·clear h
     intro x9109 y h
     unfold g_rowbreak_Break_s4 at h
     refine xs<|xs<|rD hI fun K9140 RK9140 hK9140 gK9140=>zz ?_
     obtain⟨y9141,q,h⟩:=bK q h
     refine zz ?_
     obtain⟨y9143,q,h⟩:=bK q h
     refine zz ?_
     subst hK9140 gK9140
     refine es ?_
     rcases iK k h with⟨k,h⟩|⟨k,h⟩
     ·refine xt<|xk<|es<|xb<|rz ?_
      refine bn ?_
      cases h
      exact en ⟨rfl,wk []⟩
     ·refine xf<|xx<|ee ?_
      cases h
      exact en ⟨rfl,wk []⟩
    ·refine bh<|es<|xs<|xs<|rz ?_
     refine es<|xb ?_
     obtain⟨e9151,h10912,h⟩:=bs h
     refine rb_loop (fun x9150=>⟨envL [(2,.ptr 0 0),(5,.ptr 1 0),(6,.sl (r24.map dl_List_Int_i64)),(7,.ptr 2 0),(14,.int .i64 x9150.1),(15,.int .i64 x9150.2.1)],heapL [(0,.box none [.nils,.int .i64 0,.nils]),(1,.box none [.sl (r18.p_.Tokens.map T_api_Token.d),.int .i64 r18.p_.Width,.int .i64 r18.p_.Rows,.int .i64 r18.p_.Table.Strength.a0,.int .i64 r18.p_.Table.Strength.a1,.int .i64 r18.p_.Table.Strength.a2,.int .i64 r18.p_.Table.Strength.a3,.int .i64 r18.p_.Table.Strength.a4,.int .i64 r18.p_.Table.Strength.a5,.int .i64 r18.p_.Table.Ragged,.int .i64 r18.p_.Table.Row,.int .i64 r18.p_.Table.Event,.int .i64 r18.p_.Table.Fast,.int .i64 r18.p_.Table.Gap,.int .i64 r18.p_.Table.Shot,.sl (r18.sums_.map (D.int .i64)),.int .i64 r18.aim_]),(2,.box none [.own 4 x9150.2.2.length,.int .i64 y9058,.own 3 e31.length]),(3,.vec 2 1 (e31.map (D.int .i64)) false),(4,.vec 3 1 (x9150.2.2.map (D.int .i64)) false)],5,152⟩) (fun _=>.exit 8) (fun e9151=>⟨envL [(2,.ptr 0 0),(7,.ptr 1 0)],heapL [(0,.box none [.nils,.int .i64 0,.nils]),(1,.box none [.own 2 e9151.length,.int .i64 y9058,.own 3 e31.length]),(2,.vec 3 1 (e9151.map (D.int .i64)) false),(3,.vec 2 1 (e31.map (D.int .i64)) false)],4,152⟩) h10912 (wk [(4,none)]) (by intro w;simp) ?_ ?_
     ·clear h
      intro x9150 y h
      unfold g_rowbreak_Break_s5 at h
      refine xs<|xs<|rz ?_
      refine es ?_
      rcases iK k h with⟨k,h⟩|⟨k,h⟩
      ·refine xt<|xk<|es<|xs<|xb<|xs<|rz ?_
       refine es<|xs<|xb ?_
       obtain⟨e10800,h10903,h⟩:=bs h
       refine rb_loop (fun x10799=>⟨envL [(2,.ptr 0 0),(5,.ptr 1 0),(6,.sl (r24.map dl_List_Int_i64)),(7,.ptr 2 0),(14,.int .i64 x9150.1),(15,.int .i64 x9150.2.1),(16,.int .i64 x10799)],heapL [(0,.box none [.nils,.int .i64 0,.nils]),(1,.box none [.sl (r18.p_.Tokens.map T_api_Token.d),.int .i64 r18.p_.Width,.int .i64 r18.p_.Rows,.int .i64 r18.p_.Table.Strength.a0,.int .i64 r18.p_.Table.Strength.a1,.int .i64 r18.p_.Table.Strength.a2,.int .i64 r18.p_.Table.Strength.a3,.int .i64 r18.p_.Table.Strength.a4,.int .i64 r18.p_.Table.Strength.a5,.int .i64 r18.p_.Table.Ragged,.int .i64 r18.p_.Table.Row,.int .i64 r18.p_.Table.Event,.int .i64 r18.p_.Table.Fast,.int .i64 r18.p_.Table.Gap,.int .i64 r18.p_.Table.Shot,.sl (r18.sums_.map (D.int .i64)),.int .i64 r18.aim_]),(2,.box none [.own 3 x9150.2.2.length,.int .i64 y9058,.own 4 e31.length]),(3,.vec 3 1 (x9150.2.2.map (D.int .i64)) false),(4,.vec 2 1 (e31.map (D.int .i64)) false)],5,152⟩) (fun _=>.exit 10) (fun e10800=>⟨envL [(2,.ptr 0 0),(5,.ptr 1 0),(6,.sl (r24.map dl_List_Int_i64)),(7,.ptr 2 0),(14,.int .i64 x9150.1),(16,.int .i64 e10800.1),(109,.sl (r24.map dl_List_Int_i64)),(110,.int .i64 x9150.1),(111,.int .i64 (IntKind.i64.wrap (x9150.1 - 1))),(112,.iptr [.sl (e10800.2.1.map (D.int .i64))]),(113,.sl (e10800.2.2.1.map (D.int .i64))),(114,.int .i64 e10800.2.2.2.1),(115,.iptr [.int .i64 e10800.2.2.2.2.1]),(116,.int .i64 e10800.2.2.2.2.2.1),(117,.bool e10800.2.2.2.2.2.2.1),(120,.ptr 1 0),(121,.int .i64 x9150.2.1),(122,.int .i64 e10800.2.2.2.2.2.2.2.1),(123,.int .i64 e10800.2.2.2.2.2.2.2.2.1),(124,.sl (r24.map dl_List_Int_i64)),(125,.int .i64 x9150.1),(126,.int .i64 (IntKind.i64.wrap (x9150.1 - 1))),(127,.iptr [.sl (e10800.2.2.2.2.2.2.2.2.2.1.map (D.int .i64))]),(128,.sl (e10800.2.2.2.2.2.2.2.2.2.2.1.map (D.int .i64))),(129,.int .i64 e10800.2.2.2.2.2.2.2.2.2.2.2.1),(130,.iptr [.int .i64 e10800.2.2.2.2.2.2.2.2.2.2.2.2.1]),(131,.int .i64 e10800.2.2.2.2.2.2.2.2.2.2.2.2.2.1),(132,.int .i64 e10800.2.2.2.2.2.2.2.2.2.2.2.2.2.2.1),(133,.sl (r24.map dl_List_Int_i64)),(134,.int .i64 x9150.1),(135,.iptr [.sl (e10800.2.2.2.2.2.2.2.2.2.2.2.2.2.2.2.1.map (D.int .i64))]),(136,.sl (e10800.2.2.2.2.2.2.2.2.2.2.2.2.2.2.2.2.1.map (D.int .i64))),(137,.int .i64 x9150.2.1),(138,.iptr [.int .i64 e10800.2.2.2.2.2.2.2.2.2.2.2.2.2.2.2.2.2.1]),(139,.int .i64 e10800.2.2.2.2.2.2.2.2.2.2.2.2.2.2.2.2.2.2.1),(140,.bool e10800.2.2.2.2.2.2.2.2.2.2.2.2.2.2.2.2.2.2.2)],heapL [(0,.box none [.nils,.int .i64 0,.nils]),(1,.box none [.sl (r18.p_.Tokens.map T_api_Token.d),.int .i64 r18.p_.Width,.int .i64 r18.p_.Rows,.int .i64 r18.p_.Table.Strength.a0,.int .i64 r18.p_.Table.Strength.a1,.int .i64 r18.p_.Table.Strength.a2,.int .i64 r18.p_.Table.Strength.a3,.int .i64 r18.p_.Table.Strength.a4,.int .i64 r18.p_.Table.Strength.a5,.int .i64 r18.p_.Table.Ragged,.int .i64 r18.p_.Table.Row,.int .i64 r18.p_.Table.Event,.int .i64 r18.p_.Table.Fast,.int .i64 r18.p_.Table.Gap,.int .i64 r18.p_.Table.Shot,.sl (r18.sums_.map (D.int .i64)),.int .i64 r18.aim_]),(2,.box none [.own 3 x9150.2.2.length,.int .i64 y9058,.own 4 e31.length]),(3,.vec 3 1 (x9150.2.2.map (D.int .i64)) false),(4,.vec 2 1 (e31.map (D.int .i64)) false)],5,152⟩) h10903 (wk [(3,some 4),(4,some 3)]) (by intro w;simp) ?_ ?_
       ·clear h
        intro x10799 y h
        unfold g_rowbreak_Break_s6 at h
        refine xs<|xs<|rD hI fun K10884 RK10884 hK10884 gK10884=>zz ?_
        obtain⟨r10885,h10886,h⟩:=bs h
        refine eD.intro (fun H' ho hs=>a_rowbreak_sheet_fits hI (H:=H') (nid:=8) (i0:=1) (p0:=none) h10886 (ho 1 _ (by dsimp only;decide) fz)) fi rfl fk<|zz ?_
        rcases iK k h with⟨k,h⟩|⟨k,h⟩
        ·refine zz ?_
         obtain⟨y10888,q,h⟩:=bK q h
         refine zz ?_
         obtain⟨y10890,q,h⟩:=bK q h
         refine zz ?_
         rcases iK k h with⟨k,h⟩|⟨k,h⟩
         ·refine zz ?_
          subst hK10884 gK10884
          refine es<|xt<|xk<|es<|xb<|rz ?_
          refine bn ?_
          cases h
          exact en ⟨rfl,wk []⟩
         ·refine zz ?_
          obtain⟨r10894,h10895,h⟩:=bs h
          refine eD.intro (fun H' ho hs=>a_rowbreak_sheet_cost hI (H:=H') (nid:=25) (i0:=1) (p0:=none) h10895 (ho 1 _ (by dsimp only;decide) fz)) fi rfl fk<|zz ?_
          obtain⟨y10896,q,h⟩:=bK q h
          refine zz ?_
          obtain⟨y10898,q,h⟩:=bK q h
          refine zz ?_
          subst hK10884 gK10884
          refine es ?_
          rcases iK k h with⟨k,h⟩|⟨k,h⟩
          ·refine xt<|xk<|es<|xb<|rz ?_
           refine bn ?_
           cases h
           exact en ⟨rfl,wk []⟩
          ·refine xf<|xx<|ee ?_
           cases h
           exact en ⟨rfl,wk []⟩
        ·refine zz ?_
         subst hK10884 gK10884
         refine es<|xt<|xk<|es<|xb<|rz ?_
         refine bn ?_
         cases h
         exact en ⟨rfl,wk []⟩
       ·refine bh<|es<|xs<|rK fun K10907 RK10907 hK10907 gK10907=>zz ?_
        obtain⟨h10908,h⟩:=ite_on h
        have h10909:x9150.2.2.length+1≤9223372036854775807:=by omega
        try simp only[Nat.reduceLeDiff] at h10909
        have q:=And.intro @h10909<|And.intro @h10908<|q
        refine zz ?_
        subst hK10907 gK10907
        refine es<|rz ?_
        refine bn<|es<|rz ?_
        cases h
        exact en ⟨rfl,wk [(3,some 4),(4,some 9)]⟩
      ·refine xf<|xx<|ee ?_
       cases h
       exact en ⟨rfl,wk [(1,some 2),(2,some 4)]⟩
     ·refine bh<|es<|xs<|rz ?_
      refine es<|xr ?_
      cases h
      exact en fr
def g_rowbreak_Cost(p_0:T_api_Paragraph)(ends_1:List Int):Option (Int × Int) :=
 ((g_rowbreak_Check p_0).bind fun r7=>(if(r7 != 0) then(some (0,r7)) else((g_rowbreak_open p_0).bind fun r20=>((g_rowbreak_sheet_total r20 ends_1).bind fun r22=>(some (r22.1,r22.2))))))
theorem a_rowbreak_Cost{I:World→Prop}(hI:Stab I)(hU8T:∀ w,I w→U8T w){p_0:T_api_Paragraph}{ends_1:List Int}{r:Int × Int}(h:g_rowbreak_Cost p_0 ends_1=some r):AFun Tryz.prog I 7 [T_api_Paragraph.d p_0,.sl (ends_1.map (D.int .i64))] (.tup [.int .i64 r.1,.int .i64 r.2]):=by
 have dd:=dd_EC;have k:=True.intro;have q:=k;have rs:=Tryz.results7
 unfold g_rowbreak_Cost at h
 refine .en hI Tryz.func7 Tryz.ntmps7 ?_
 refine xs<|rz ?_
 refine es<|xs<|xs<|rK fun K6 RK6 hK6 gK6=>zz ?_
 obtain⟨r7,h8,h⟩:=bs h
 refine cw (a_rowbreak_Check hI hU8T h8)<|zz ?_
 subst hK6 gK6
 refine es<|xs<|rz ?_
 refine es ?_
 rcases iK k h with⟨k,h⟩|⟨k,h⟩
 ·refine xt<|xs<|rz ?_
  refine es<|xr<|er ?_
  cases h
  exact en fr
 ·refine xf<|xk<|es<|xs<|rK fun K19 RK19 hK19 gK19=>zz ?_
  obtain⟨r20,h21,h⟩:=bs h
  refine cW.introE (a_rowbreak_open hI hU8T (nid:=9) h21) fz rfl<|zz ?_
  obtain⟨r22,h23,h⟩:=bs h
  refine eW.intro (a_rowbreak_sheet_total hI (nid:=11) (i0:=9) (p0:=none) h23 fz) fi rfl<|zz ?_
  subst hK19 gK19
  refine es<|xr ?_
  cases h
  exact en fr
def g_rowbreak_Rows_s1(p_0:T_api_Paragraph)(ends_1:List Int)(x20:(List (List UInt8)) × Int × Int):Option (Nx ((List (List UInt8)) × Int × Int) ((List (List UInt8)))) :=
 (if(decide (x20.2.2 < (ends_1.length:Int))) then((atI ends_1 x20.2.2).bind fun y254=>((subI p_0.Tokens x20.2.1 y254).bind fun z269=>((g_token_Join z269).bind fun r276=>(if(x20.1.length+1) * 16≤140737488355328 then(some (.go ((x20.1++[r276]),y254,(IntKind.i64.wrap (x20.2.2+1))))) else none)))) else(some (.out x20.1)))
def g_rowbreak_Rows(p_0:T_api_Paragraph)(ends_1:List Int):Option ((List (List UInt8)) × Int) :=
 ((g_rowbreak_Cost p_0 ends_1).bind fun r7=>(if(r7.2 != 0) then(some ([],r7.2)) else((iter (g_rowbreak_Rows_s1 p_0 ends_1) ([],0,0)).bind fun e21=>(some (e21,0)))))
theorem a_rowbreak_Rows{I:World→Prop}(hI:Stab I)(hU8T:∀ w,I w→U8T w){p_0:T_api_Paragraph}{ends_1:List Int}{r:(List (List UInt8)) × Int}(h:g_rowbreak_Rows p_0 ends_1=some r):AFun Tryz.prog I 8 [T_api_Paragraph.d p_0,.sl (ends_1.map (D.int .i64))] (.tup [.sl (r.1.map D.str),.int .i64 r.2]):=by
 have dd:=dd_EC;have k:=True.intro;have q:=k;have rs:=Tryz.results8
 unfold g_rowbreak_Rows at h
 refine .en hI Tryz.func8 Tryz.ntmps8 ?_
 refine xs<|rz ?_
 refine es<|xs<|xs<|rK fun K6 RK6 hK6 gK6=>zz ?_
 obtain⟨r7,h8,h⟩:=bs h
 refine cw (a_rowbreak_Cost hI hU8T h8)<|zz ?_
 subst hK6 gK6
 refine es<|xs<|rz ?_
 refine es ?_
 rcases iK k h with⟨k,h⟩|⟨k,h⟩
 ·refine xt<|xs<|rz ?_
  refine es<|xr<|er ?_
  cases h
  exact en fr
 ·refine xf<|xk<|es<|xs<|rz ?_
  refine es<|xs<|rz ?_
  refine es<|xs<|xs<|rz ?_
  refine es<|xb ?_
  obtain⟨e21,h282,h⟩:=bs h
  refine rb_loop (fun x20=>⟨envL [(2,.ptr 0 0),(8,.own 1 x20.1.length),(9,.int .i64 x20.2.1),(21,.sl (ends_1.map (D.int .i64))),(22,.int .i64 (ends_1.length:Int)),(23,.int .i64 x20.2.2)],heapL [(0,.box none [.sl (p_0.Tokens.map T_api_Token.d),.int .i64 p_0.Width,.int .i64 p_0.Rows,.int .i64 p_0.Table.Strength.a0,.int .i64 p_0.Table.Strength.a1,.int .i64 p_0.Table.Strength.a2,.int .i64 p_0.Table.Strength.a3,.int .i64 p_0.Table.Strength.a4,.int .i64 p_0.Table.Strength.a5,.int .i64 p_0.Table.Ragged,.int .i64 p_0.Table.Row,.int .i64 p_0.Table.Event,.int .i64 p_0.Table.Fast,.int .i64 p_0.Table.Gap,.int .i64 p_0.Table.Shot]),(1,.vec 9 1 (x20.1.map D.str) false)],2,39⟩) (fun _=>.exit 0) (fun e21=>⟨envL [(8,.own 0 e21.length)],heapL [(0,.vec 9 1 (e21.map D.str) false)],1,39⟩) h282 (wk [(1,none)]) (by intro w;simp) ?_ ?_
  ·clear h
   intro x20 y h
   unfold g_rowbreak_Rows_s1 at h
   refine xs<|rz ?_
   refine es<|xs ?_
   rcases iK k h with⟨k,h⟩|⟨k,h⟩
   ·refine xt<|xk<|es<|xs<|xb<|xs<|rK fun K253 RK253 hK253 gK253=>zz ?_
    obtain⟨y254,q,h⟩:=bK q h
    refine zz ?_
    subst hK253 gK253
    refine es<|xs<|rK fun K268 RK268 hK268 gK268=>zz ?_
    obtain⟨z269,h270,h⟩:=bind_some h
    obtain⟨⟨h271,h272,h273,h274⟩,h275⟩:=subI_some h270
    have q:=And.intro @h271<|And.intro @h272<|And.intro @h273<|And.intro @h274<|q
    try simp -implicitDefEqProofs only[vt,vm,sevalprocAttr,dd,k,q] at h275
    have q:=And.intro @h275<|q
    refine zz ?_
    obtain⟨r276,h277,h⟩:=bs h
    refine cw (a_token_Join hI h277)<|zz ?_
    obtain⟨h278,h⟩:=ite_on h
    have h279:x20.1.length+1≤9223372036854775807:=by omega
    try simp only[Nat.reduceLeDiff] at h279
    have q:=And.intro @h279<|And.intro @h278<|q
    refine zz ?_
    subst hK268 gK268
    refine es<|rz ?_
    refine bn<|es<|rz ?_
    cases h
    exact en ⟨rfl,wk [(1,some 14)]⟩
   ·refine xf<|xx<|ee ?_
    cases h
    exact en ⟨rfl,wk [(0,some 1)]⟩
  ·refine bh<|es<|xs<|rz ?_
   refine es<|xr ?_
   cases h
   exact en fr
def g_rowbreak_Accept_s1(p_0:T_api_Paragraph)(b_1:T_api_Breaks)(r50:Int)(x69:Int):Option (Nx (Int) (Unit ⊕ Unit)) :=
 (if(decide (x69 < (IntKind.i64.wrap (p_0.Rows+1)))) then((atI b_1.Potentials (IntKind.i64.wrap ((IntKind.i64.wrap (x69 * (IntKind.i64.wrap (r50+1))))+r50))).bind fun y146=>(if(y146 != 0) then(some (.out (.inl ()))) else(some (.go (IntKind.i64.wrap (x69+1)))))) else(some (.out (.inr ()))))
def g_rowbreak_Accept_s4(b_1:T_api_Breaks)(r18:T_rowbreak_sheet)(r50:Int)(x155:Int)(x5535:Int)(y6432:Int)(x6436:Int):Option (Nx (Int) (Unit ⊕ Unit)) :=
 (((if(decide (x6436≤r50)) then((g_rowbreak_sheet_fits r18 x5535 x6436).bind fun r6553=>(some r6553)) else(some false)):Option (Bool)).bind fun v6550=>(if v6550 then((atI b_1.Potentials (IntKind.i64.wrap ((IntKind.i64.wrap ((IntKind.i64.wrap (x155+1)) * (IntKind.i64.wrap (r50+1))))+x6436))).bind fun y6582=>(((if(y6582 != (-1)) then(if(y6432 == (-1)) then(some true) else((g_rowbreak_sheet_cost r18 x5535 x6436).bind fun r6593=>(some (decide (y6582 < (IntKind.i64.wrap (y6432 - r6593))))))) else(some false)):Option (Bool)).bind fun v6589=>(if v6589 then(some (.out (.inl ()))) else(some (.go (IntKind.i64.wrap (x6436+1))))))) else(some (.out (.inr ())))))
def g_rowbreak_Accept_s3(b_1:T_api_Breaks)(r18:T_rowbreak_sheet)(r50:Int)(x155:Int)(x5535:Int):Option (Nx (Int) (Unit ⊕ Unit)) :=
 (if(decide (x5535 < r50)) then((atI b_1.Potentials (IntKind.i64.wrap ((IntKind.i64.wrap (x155 * (IntKind.i64.wrap (r50+1))))+x5535))).bind fun y6432=>((iter (g_rowbreak_Accept_s4 b_1 r18 r50 x155 x5535 y6432) (IntKind.i64.wrap (x5535+1))).bind fun e6437=>(match e6437 with|Sum.inl e6437=>(some (.out (.inl ())))|Sum.inr (e6437)=>(some (.go (IntKind.i64.wrap (x5535+1))))))) else(some (.out (.inr ()))))
def g_rowbreak_Accept_s2(p_0:T_api_Paragraph)(b_1:T_api_Breaks)(r18:T_rowbreak_sheet)(r50:Int)(x155:Int):Option (Nx (Int) (Unit ⊕ Unit)) :=
 (if(decide (x155 < p_0.Rows)) then((iter (g_rowbreak_Accept_s3 b_1 r18 r50 x155) 0).bind fun e5536=>(match e5536 with|Sum.inl e5536=>(some (.out (.inl ())))|Sum.inr (e5536)=>(some (.go (IntKind.i64.wrap (x155+1)))))) else(some (.out (.inr ()))))
def g_rowbreak_Accept(p_0:T_api_Paragraph)(b_1:T_api_Breaks):Option (Int) :=
 ((g_rowbreak_Check p_0).bind fun r7=>(if(r7 != 0) then(some r7) else((g_rowbreak_open p_0).bind fun r18=>((g_rowbreak_sheet_total r18 b_1.Ends).bind fun r24=>(if(r24.2 != 0) then(some r24.2) else(if(b_1.Cost != r24.1) then(some 1) else((g_rowbreak_sheet_n r18).bind fun r50=>(((if((b_1.Potentials.length:Int) != (IntKind.i64.wrap ((IntKind.i64.wrap (p_0.Rows+1)) * (IntKind.i64.wrap (r50+1))))) then(some true) else((g_slices_Min_int64_int64 b_1.Potentials).bind fun r61=>(some (decide (r61 < (-1)))))):Option (Bool)).bind fun v58=>(if v58 then(some 4) else((iter (g_rowbreak_Accept_s1 p_0 b_1 r50) 0).bind fun e70=>(match e70 with|Sum.inl e70=>(some 4)|Sum.inr (e70)=>((iter (g_rowbreak_Accept_s2 p_0 b_1 r18 r50) 0).bind fun e156=>(match e156 with|Sum.inl e156=>(some 8)|Sum.inr (e156)=>((atI b_1.Potentials 0).bind fun y6609=>(if(decide (y6609 < b_1.Cost)) then(some 16) else(some 0))))))))))))))))
theorem a_rowbreak_Accept{I:World→Prop}(hI:Stab I)(hU8T:∀ w,I w→U8T w){p_0:T_api_Paragraph}{b_1:T_api_Breaks}{r:Int}(h:g_rowbreak_Accept p_0 b_1=some r):AFun Tryz.prog I 9 [T_api_Paragraph.d p_0,T_api_Breaks.d b_1] (.int .i64 r):=by
 have dd:=dd_EC;have k:=True.intro;have q:=k;have rs:=Tryz.results9
 unfold g_rowbreak_Accept at h
 refine .en hI Tryz.func9 Tryz.ntmps9 ?_
 refine xs<|rz ?_
 refine es<|xs<|xs<|rK fun K6 RK6 hK6 gK6=>zz ?_
 obtain⟨r7,h8,h⟩:=bs h
 refine cw (a_rowbreak_Check hI hU8T h8)<|zz ?_
 subst hK6 gK6
 refine es<|xs<|rz ?_
 refine es ?_
 rcases iK k h with⟨k,h⟩|⟨k,h⟩
 ·refine xt<|xs<|rz ?_
  refine es<|xr<|er ?_
  cases h
  exact en fr
 ·refine xf<|xk<|es<|xs<|rK fun K17 RK17 hK17 gK17=>zz ?_
  obtain⟨r18,h19,h⟩:=bs h
  refine cW.introE (a_rowbreak_open hI hU8T (nid:=9) h19) fz rfl<|zz ?_
  subst hK17 gK17
  refine es<|xs<|rK fun K23 RK23 hK23 gK23=>zz ?_
  obtain⟨r24,h25,h⟩:=bs h
  refine eW.intro (a_rowbreak_sheet_total hI (nid:=14) (i0:=9) (p0:=none) h25 fz) fi rfl<|zz ?_
  subst hK23 gK23
  refine es<|xs<|xb<|xs<|rz ?_
  refine es ?_
  rcases iK k h with⟨k,h⟩|⟨k,h⟩
  ·refine xt<|xs<|rz ?_
   refine es<|xr<|br<|er ?_
   cases h
   exact en fr
  ·refine xf<|xs<|rz ?_
   refine es ?_
   rcases iK k h with⟨k,h⟩|⟨k,h⟩
   ·refine xt<|xs<|rz ?_
    refine es<|xr<|br<|er ?_
    cases h
    exact en fr
   ·refine xf<|xk<|bn<|es<|xs<|rK fun K49 RK49 hK49 gK49=>zz ?_
    obtain⟨r50,h51,h⟩:=bs h
    refine eW.intro (a_rowbreak_sheet_n hI (nid:=29) (i0:=9) (p0:=none) h51 fz) fi rfl<|zz ?_
    subst hK49 gK49
    refine es<|xs<|rz ?_
    refine es<|xs ?_
    obtain⟨v58,h63,h⟩:=bs h
    refine rb_cut (fun v58=>⟨envL [(2,.ptr 0 0),(3,.ptr 1 0),(6,.ptr 2 0),(9,.int .i64 r50),(10,.sl (b_1.Potentials.map (D.int .i64))),(57,.bool v58)],heapL [(0,.box none [.sl (p_0.Tokens.map T_api_Token.d),.int .i64 p_0.Width,.int .i64 p_0.Rows,.int .i64 p_0.Table.Strength.a0,.int .i64 p_0.Table.Strength.a1,.int .i64 p_0.Table.Strength.a2,.int .i64 p_0.Table.Strength.a3,.int .i64 p_0.Table.Strength.a4,.int .i64 p_0.Table.Strength.a5,.int .i64 p_0.Table.Ragged,.int .i64 p_0.Table.Row,.int .i64 p_0.Table.Event,.int .i64 p_0.Table.Fast,.int .i64 p_0.Table.Gap,.int .i64 p_0.Table.Shot]),(1,.box none [.sl (b_1.Ends.map (D.int .i64)),.int .i64 b_1.Cost,.sl (b_1.Potentials.map (D.int .i64))]),(2,.box none [.sl (r18.p_.Tokens.map T_api_Token.d),.int .i64 r18.p_.Width,.int .i64 r18.p_.Rows,.int .i64 r18.p_.Table.Strength.a0,.int .i64 r18.p_.Table.Strength.a1,.int .i64 r18.p_.Table.Strength.a2,.int .i64 r18.p_.Table.Strength.a3,.int .i64 r18.p_.Table.Strength.a4,.int .i64 r18.p_.Table.Strength.a5,.int .i64 r18.p_.Table.Ragged,.int .i64 r18.p_.Table.Row,.int .i64 r18.p_.Table.Event,.int .i64 r18.p_.Table.Fast,.int .i64 r18.p_.Table.Gap,.int .i64 r18.p_.Table.Shot,.sl (r18.sums_.map (D.int .i64)),.int .i64 r18.aim_])],3,140⟩) h63 ?_ ?_
    ·clear h
     intro v58 h
     refine rK fun K59 RK59 hK59 gK59=>zz ?_
     rcases iK k h with⟨k,h⟩|⟨k,h⟩
     ·refine zz ?_
      subst hK59 gK59
      cases h
      exact en ⟨rfl,wk [(2,some 9)]⟩
     ·refine zz ?_
      obtain⟨r61,h62,h⟩:=bs h
      refine cw (a_slices_Min_int64_int64 I hI b_1.Potentials h62)<|zz ?_
      subst hK59 gK59
      cases h
      exact en ⟨rfl,wk [(2,some 9)]⟩
    ·rcases iK k h with⟨k,h⟩|⟨k,h⟩
     ·refine xt<|xs<|rz ?_
      refine es<|xr<|er ?_
      cases h
      exact en fr
     ·refine xf<|xk<|es<|xs<|xs<|rz ?_
      refine es<|xb ?_
      obtain⟨e70,h152,h⟩:=bs h
      refine rb_loop (fun x69=>⟨envL [(2,.ptr 0 0),(3,.ptr 1 0),(6,.ptr 2 0),(9,.int .i64 r50),(10,.sl (b_1.Potentials.map (D.int .i64))),(60,.int .i64 (IntKind.i64.wrap (p_0.Rows+1))),(61,.int .i64 x69)],heapL [(0,.box none [.sl (p_0.Tokens.map T_api_Token.d),.int .i64 p_0.Width,.int .i64 p_0.Rows,.int .i64 p_0.Table.Strength.a0,.int .i64 p_0.Table.Strength.a1,.int .i64 p_0.Table.Strength.a2,.int .i64 p_0.Table.Strength.a3,.int .i64 p_0.Table.Strength.a4,.int .i64 p_0.Table.Strength.a5,.int .i64 p_0.Table.Ragged,.int .i64 p_0.Table.Row,.int .i64 p_0.Table.Event,.int .i64 p_0.Table.Fast,.int .i64 p_0.Table.Gap,.int .i64 p_0.Table.Shot]),(1,.box none [.sl (b_1.Ends.map (D.int .i64)),.int .i64 b_1.Cost,.sl (b_1.Potentials.map (D.int .i64))]),(2,.box none [.sl (r18.p_.Tokens.map T_api_Token.d),.int .i64 r18.p_.Width,.int .i64 r18.p_.Rows,.int .i64 r18.p_.Table.Strength.a0,.int .i64 r18.p_.Table.Strength.a1,.int .i64 r18.p_.Table.Strength.a2,.int .i64 r18.p_.Table.Strength.a3,.int .i64 r18.p_.Table.Strength.a4,.int .i64 r18.p_.Table.Strength.a5,.int .i64 r18.p_.Table.Ragged,.int .i64 r18.p_.Table.Row,.int .i64 r18.p_.Table.Event,.int .i64 r18.p_.Table.Fast,.int .i64 r18.p_.Table.Gap,.int .i64 r18.p_.Table.Shot,.sl (r18.sums_.map (D.int .i64)),.int .i64 r18.aim_])],3,140⟩) (fun w=>match w with|Sum.inl _=>.ret|Sum.inr (_)=>.exit 1) (fun w=>match w with|Sum.inl e70=>⟨envL [(4,.int .i64 4)],heapL [],0,140⟩|Sum.inr (e70)=>⟨envL [(2,.ptr 0 0),(3,.ptr 1 0),(6,.ptr 2 0),(9,.int .i64 r50),(10,.sl (b_1.Potentials.map (D.int .i64)))],heapL [(0,.box none [.sl (p_0.Tokens.map T_api_Token.d),.int .i64 p_0.Width,.int .i64 p_0.Rows,.int .i64 p_0.Table.Strength.a0,.int .i64 p_0.Table.Strength.a1,.int .i64 p_0.Table.Strength.a2,.int .i64 p_0.Table.Strength.a3,.int .i64 p_0.Table.Strength.a4,.int .i64 p_0.Table.Strength.a5,.int .i64 p_0.Table.Ragged,.int .i64 p_0.Table.Row,.int .i64 p_0.Table.Event,.int .i64 p_0.Table.Fast,.int .i64 p_0.Table.Gap,.int .i64 p_0.Table.Shot]),(1,.box none [.sl (b_1.Ends.map (D.int .i64)),.int .i64 b_1.Cost,.sl (b_1.Potentials.map (D.int .i64))]),(2,.box none [.sl (r18.p_.Tokens.map T_api_Token.d),.int .i64 r18.p_.Width,.int .i64 r18.p_.Rows,.int .i64 r18.p_.Table.Strength.a0,.int .i64 r18.p_.Table.Strength.a1,.int .i64 r18.p_.Table.Strength.a2,.int .i64 r18.p_.Table.Strength.a3,.int .i64 r18.p_.Table.Strength.a4,.int .i64 r18.p_.Table.Strength.a5,.int .i64 r18.p_.Table.Ragged,.int .i64 r18.p_.Table.Row,.int .i64 r18.p_.Table.Event,.int .i64 r18.p_.Table.Fast,.int .i64 r18.p_.Table.Gap,.int .i64 r18.p_.Table.Shot,.sl (r18.sums_.map (D.int .i64)),.int .i64 r18.aim_])],3,140⟩) h152 (wk []) (by intro w;rcases w with w|w<;>simp) ?_ ?_
      ·clear h
       intro x69 y h
       unfold g_rowbreak_Accept_s1 at h
       refine xs<|rz ?_
       refine es<|xs ?_
       rcases iK k h with⟨k,h⟩|⟨k,h⟩
       ·refine xt<|xk<|es<|xs<|xb<|xs<|rz ?_
        refine es<|xs<|rK fun K145 RK145 hK145 gK145=>zz ?_
        obtain⟨y146,q,h⟩:=bK q h
        refine zz ?_
        subst hK145 gK145
        refine es ?_
        rcases iK k h with⟨k,h⟩|⟨k,h⟩
        ·refine xt<|xs<|rz ?_
         refine es<|xr<|br<|er ?_
         cases h
         exact en ⟨rfl,wk []⟩
        ·refine xf<|xk<|bn<|es<|rz ?_
         cases h
         exact en ⟨rfl,wk []⟩
       ·refine xf<|xx<|ee ?_
        cases h
        exact en ⟨rfl,wk []⟩
      ·rcases e70 with e70|e70
       ·try dsimp only at h ⊢
        refine br<|er ?_
        cases h
        exact en fr
       ·try dsimp only at h ⊢
        refine bh<|es<|xs<|xs<|rz ?_
        refine es<|xb ?_
        obtain⟨e156,h6604,h⟩:=bs h
        refine rb_loop (fun x155=>⟨envL [(3,.ptr 0 0),(6,.ptr 1 0),(9,.int .i64 r50),(10,.sl (b_1.Potentials.map (D.int .i64))),(76,.int .i64 p_0.Rows),(77,.int .i64 x155)],heapL [(0,.box none [.sl (b_1.Ends.map (D.int .i64)),.int .i64 b_1.Cost,.sl (b_1.Potentials.map (D.int .i64))]),(1,.box none [.sl (r18.p_.Tokens.map T_api_Token.d),.int .i64 r18.p_.Width,.int .i64 r18.p_.Rows,.int .i64 r18.p_.Table.Strength.a0,.int .i64 r18.p_.Table.Strength.a1,.int .i64 r18.p_.Table.Strength.a2,.int .i64 r18.p_.Table.Strength.a3,.int .i64 r18.p_.Table.Strength.a4,.int .i64 r18.p_.Table.Strength.a5,.int .i64 r18.p_.Table.Ragged,.int .i64 r18.p_.Table.Row,.int .i64 r18.p_.Table.Event,.int .i64 r18.p_.Table.Fast,.int .i64 r18.p_.Table.Gap,.int .i64 r18.p_.Table.Shot,.sl (r18.sums_.map (D.int .i64)),.int .i64 r18.aim_])],2,140⟩) (fun w=>match w with|Sum.inl _=>.ret|Sum.inr (_)=>.exit 3) (fun w=>match w with|Sum.inl e156=>⟨envL [(4,.int .i64 8)],heapL [],0,140⟩|Sum.inr (e156)=>⟨envL [(3,.ptr 0 0),(10,.sl (b_1.Potentials.map (D.int .i64)))],heapL [(0,.box none [.sl (b_1.Ends.map (D.int .i64)),.int .i64 b_1.Cost,.sl (b_1.Potentials.map (D.int .i64))])],1,140⟩) h6604 (wk [(0,some 1),(1,some 2)]) (by intro w;rcases w with w|w<;>simp) ?_ ?_
        ·clear h
         intro x155 y h
         unfold g_rowbreak_Accept_s2 at h
         refine xs<|rz ?_
         refine es<|xs ?_
         rcases iK k h with⟨k,h⟩|⟨k,h⟩
         ·refine xt<|xk<|es<|xs<|xb<|xs<|rz ?_
          refine es<|xs<|rz ?_
          refine es<|xb ?_
          obtain⟨e5536,h6602,h⟩:=bs h
          refine rb_loop (fun x5535=>⟨envL [(3,.ptr 0 0),(6,.ptr 1 0),(9,.int .i64 r50),(10,.sl (b_1.Potentials.map (D.int .i64))),(12,.int .i64 x155),(76,.int .i64 p_0.Rows),(77,.int .i64 x155),(80,.int .i64 r50),(81,.int .i64 x5535)],heapL [(0,.box none [.sl (b_1.Ends.map (D.int .i64)),.int .i64 b_1.Cost,.sl (b_1.Potentials.map (D.int .i64))]),(1,.box none [.sl (r18.p_.Tokens.map T_api_Token.d),.int .i64 r18.p_.Width,.int .i64 r18.p_.Rows,.int .i64 r18.p_.Table.Strength.a0,.int .i64 r18.p_.Table.Strength.a1,.int .i64 r18.p_.Table.Strength.a2,.int .i64 r18.p_.Table.Strength.a3,.int .i64 r18.p_.Table.Strength.a4,.int .i64 r18.p_.Table.Strength.a5,.int .i64 r18.p_.Table.Ragged,.int .i64 r18.p_.Table.Row,.int .i64 r18.p_.Table.Event,.int .i64 r18.p_.Table.Fast,.int .i64 r18.p_.Table.Gap,.int .i64 r18.p_.Table.Shot,.sl (r18.sums_.map (D.int .i64)),.int .i64 r18.aim_])],2,140⟩) (fun w=>match w with|Sum.inl _=>.ret|Sum.inr (_)=>.exit 5) (fun w=>match w with|Sum.inl e5536=>⟨envL [(4,.int .i64 8)],heapL [],0,140⟩|Sum.inr (e5536)=>⟨envL [(3,.ptr 0 0),(6,.ptr 1 0),(9,.int .i64 r50),(10,.sl (b_1.Potentials.map (D.int .i64))),(76,.int .i64 p_0.Rows),(77,.int .i64 x155)],heapL [(0,.box none [.sl (b_1.Ends.map (D.int .i64)),.int .i64 b_1.Cost,.sl (b_1.Potentials.map (D.int .i64))]),(1,.box none [.sl (r18.p_.Tokens.map T_api_Token.d),.int .i64 r18.p_.Width,.int .i64 r18.p_.Rows,.int .i64 r18.p_.Table.Strength.a0,.int .i64 r18.p_.Table.Strength.a1,.int .i64 r18.p_.Table.Strength.a2,.int .i64 r18.p_.Table.Strength.a3,.int .i64 r18.p_.Table.Strength.a4,.int .i64 r18.p_.Table.Strength.a5,.int .i64 r18.p_.Table.Ragged,.int .i64 r18.p_.Table.Row,.int .i64 r18.p_.Table.Event,.int .i64 r18.p_.Table.Fast,.int .i64 r18.p_.Table.Gap,.int .i64 r18.p_.Table.Shot,.sl (r18.sums_.map (D.int .i64)),.int .i64 r18.aim_])],2,140⟩) h6602 (wk []) (by intro w;rcases w with w|w<;>simp) ?_ ?_
          ·clear h
           intro x5535 y h
           unfold g_rowbreak_Accept_s3 at h
           refine xs<|rz ?_
           refine es<|xs ?_
           rcases iK k h with⟨k,h⟩|⟨k,h⟩
           ·refine xt<|xk<|es<|xs<|xb<|xs<|rz ?_
            refine es<|xs<|rK fun K6431 RK6431 hK6431 gK6431=>zz ?_
            obtain⟨y6432,q,h⟩:=bK q h
            refine zz ?_
            subst hK6431 gK6431
            refine es<|xs<|rz ?_
            refine es<|xb ?_
            obtain⟨e6437,h6600,h⟩:=bs h
            refine rb_loop (fun x6436=>⟨envL [(3,.ptr 0 0),(6,.ptr 1 0),(9,.int .i64 r50),(10,.sl (b_1.Potentials.map (D.int .i64))),(12,.int .i64 x155),(13,.int .i64 x5535),(14,.int .i64 y6432),(15,.int .i64 x6436),(76,.int .i64 p_0.Rows),(77,.int .i64 x155),(80,.int .i64 r50),(81,.int .i64 x5535)],heapL [(0,.box none [.sl (b_1.Ends.map (D.int .i64)),.int .i64 b_1.Cost,.sl (b_1.Potentials.map (D.int .i64))]),(1,.box none [.sl (r18.p_.Tokens.map T_api_Token.d),.int .i64 r18.p_.Width,.int .i64 r18.p_.Rows,.int .i64 r18.p_.Table.Strength.a0,.int .i64 r18.p_.Table.Strength.a1,.int .i64 r18.p_.Table.Strength.a2,.int .i64 r18.p_.Table.Strength.a3,.int .i64 r18.p_.Table.Strength.a4,.int .i64 r18.p_.Table.Strength.a5,.int .i64 r18.p_.Table.Ragged,.int .i64 r18.p_.Table.Row,.int .i64 r18.p_.Table.Event,.int .i64 r18.p_.Table.Fast,.int .i64 r18.p_.Table.Gap,.int .i64 r18.p_.Table.Shot,.sl (r18.sums_.map (D.int .i64)),.int .i64 r18.aim_])],2,140⟩) (fun w=>match w with|Sum.inl _=>.ret|Sum.inr (_)=>.exit 7) (fun w=>match w with|Sum.inl e6437=>⟨envL [(4,.int .i64 8)],heapL [],0,140⟩|Sum.inr (e6437)=>⟨envL [(3,.ptr 0 0),(6,.ptr 1 0),(9,.int .i64 r50),(10,.sl (b_1.Potentials.map (D.int .i64))),(12,.int .i64 x155),(76,.int .i64 p_0.Rows),(77,.int .i64 x155),(80,.int .i64 r50),(81,.int .i64 x5535)],heapL [(0,.box none [.sl (b_1.Ends.map (D.int .i64)),.int .i64 b_1.Cost,.sl (b_1.Potentials.map (D.int .i64))]),(1,.box none [.sl (r18.p_.Tokens.map T_api_Token.d),.int .i64 r18.p_.Width,.int .i64 r18.p_.Rows,.int .i64 r18.p_.Table.Strength.a0,.int .i64 r18.p_.Table.Strength.a1,.int .i64 r18.p_.Table.Strength.a2,.int .i64 r18.p_.Table.Strength.a3,.int .i64 r18.p_.Table.Strength.a4,.int .i64 r18.p_.Table.Strength.a5,.int .i64 r18.p_.Table.Ragged,.int .i64 r18.p_.Table.Row,.int .i64 r18.p_.Table.Event,.int .i64 r18.p_.Table.Fast,.int .i64 r18.p_.Table.Gap,.int .i64 r18.p_.Table.Shot,.sl (r18.sums_.map (D.int .i64)),.int .i64 r18.aim_])],2,140⟩) h6600 (wk []) (by intro w;rcases w with w|w<;>simp) ?_ ?_
            ·clear h
             intro x6436 y h
             unfold g_rowbreak_Accept_s4 at h
             refine xs ?_
             obtain⟨v6550,h6555,h⟩:=bs h
             refine rb_cut (fun v6550=>⟨envL [(3,.ptr 0 0),(6,.ptr 1 0),(9,.int .i64 r50),(10,.sl (b_1.Potentials.map (D.int .i64))),(12,.int .i64 x155),(13,.int .i64 x5535),(14,.int .i64 y6432),(15,.int .i64 x6436),(76,.int .i64 p_0.Rows),(77,.int .i64 x155),(80,.int .i64 r50),(81,.int .i64 x5535),(103,.bool v6550)],heapL [(0,.box none [.sl (b_1.Ends.map (D.int .i64)),.int .i64 b_1.Cost,.sl (b_1.Potentials.map (D.int .i64))]),(1,.box none [.sl (r18.p_.Tokens.map T_api_Token.d),.int .i64 r18.p_.Width,.int .i64 r18.p_.Rows,.int .i64 r18.p_.Table.Strength.a0,.int .i64 r18.p_.Table.Strength.a1,.int .i64 r18.p_.Table.Strength.a2,.int .i64 r18.p_.Table.Strength.a3,.int .i64 r18.p_.Table.Strength.a4,.int .i64 r18.p_.Table.Strength.a5,.int .i64 r18.p_.Table.Ragged,.int .i64 r18.p_.Table.Row,.int .i64 r18.p_.Table.Event,.int .i64 r18.p_.Table.Fast,.int .i64 r18.p_.Table.Gap,.int .i64 r18.p_.Table.Shot,.sl (r18.sums_.map (D.int .i64)),.int .i64 r18.aim_])],2,140⟩) h6555 ?_ ?_
             ·clear h
              intro v6550 h
              refine rK fun K6551 RK6551 hK6551 gK6551=>zz ?_
              rcases iK k h with⟨k,h⟩|⟨k,h⟩
              ·refine zz ?_
               obtain⟨r6553,h6554,h⟩:=bs h
               refine eW.intro (a_rowbreak_sheet_fits hI (nid:=9) (i0:=1) (p0:=none) h6554 fz) fi rfl<|zz ?_
               subst hK6551 gK6551
               cases h
               exact en ⟨rfl,wk []⟩
              ·refine zz ?_
               subst hK6551 gK6551
               cases h
               exact en ⟨rfl,wk []⟩
             ·rcases iK k h with⟨k,h⟩|⟨k,h⟩
              ·refine xt<|xk<|es<|xs<|xb<|xs<|rK fun K6581 RK6581 hK6581 gK6581=>zz ?_
               obtain⟨y6582,q,h⟩:=bK q h
               refine zz ?_
               subst hK6581 gK6581
               refine es ?_
               obtain⟨v6589,h6595,h⟩:=bs h
               refine rb_cut (fun v6589=>⟨envL [(3,.ptr 0 0),(6,.ptr 1 0),(9,.int .i64 r50),(10,.sl (b_1.Potentials.map (D.int .i64))),(12,.int .i64 x155),(13,.int .i64 x5535),(14,.int .i64 y6432),(15,.int .i64 x6436),(76,.int .i64 p_0.Rows),(77,.int .i64 x155),(80,.int .i64 r50),(81,.int .i64 x5535),(131,.bool v6589)],heapL [(0,.box none [.sl (b_1.Ends.map (D.int .i64)),.int .i64 b_1.Cost,.sl (b_1.Potentials.map (D.int .i64))]),(1,.box none [.sl (r18.p_.Tokens.map T_api_Token.d),.int .i64 r18.p_.Width,.int .i64 r18.p_.Rows,.int .i64 r18.p_.Table.Strength.a0,.int .i64 r18.p_.Table.Strength.a1,.int .i64 r18.p_.Table.Strength.a2,.int .i64 r18.p_.Table.Strength.a3,.int .i64 r18.p_.Table.Strength.a4,.int .i64 r18.p_.Table.Strength.a5,.int .i64 r18.p_.Table.Ragged,.int .i64 r18.p_.Table.Row,.int .i64 r18.p_.Table.Event,.int .i64 r18.p_.Table.Fast,.int .i64 r18.p_.Table.Gap,.int .i64 r18.p_.Table.Shot,.sl (r18.sums_.map (D.int .i64)),.int .i64 r18.aim_])],2,140⟩) h6595 ?_ ?_
               ·clear h
                intro v6589 h
                refine rK fun K6590 RK6590 hK6590 gK6590=>zz ?_
                rcases iK k h with⟨k,h⟩|⟨k,h⟩
                ·refine zz ?_
                 rcases iK k h with⟨k,h⟩|⟨k,h⟩
                 ·refine zz ?_
                  subst hK6590 gK6590
                  cases h
                  exact en ⟨rfl,wk []⟩
                 ·refine zz ?_
                  obtain⟨r6593,h6594,h⟩:=bs h
                  refine eW.intro (a_rowbreak_sheet_cost hI (nid:=23) (i0:=1) (p0:=none) h6594 fz) fi rfl<|zz ?_
                  subst hK6590 gK6590
                  cases h
                  exact en ⟨rfl,wk []⟩
                ·refine zz ?_
                 subst hK6590 gK6590
                 cases h
                 exact en ⟨rfl,wk []⟩
               ·rcases iK k h with⟨k,h⟩|⟨k,h⟩
                ·refine xt<|xs<|rz ?_
                 refine es<|xr<|br<|er ?_
                 cases h
                 exact en ⟨rfl,wk []⟩
                ·refine xf<|xk<|bn<|es<|rz ?_
                 cases h
                 exact en ⟨rfl,wk []⟩
              ·refine xf<|xx<|ee ?_
               cases h
               exact en ⟨rfl,wk []⟩
            ·rcases e6437 with e6437|e6437
             ·try dsimp only at h ⊢
              refine br<|br<|er ?_
              cases h
              exact en ⟨rfl,wk []⟩
             ·try dsimp only at h ⊢
              refine bh<|bn<|es<|rz ?_
              cases h
              exact en ⟨rfl,wk []⟩
           ·refine xf<|xx<|ee ?_
            cases h
            exact en ⟨rfl,wk []⟩
          ·rcases e5536 with e5536|e5536
           ·try dsimp only at h ⊢
            refine br<|br<|er ?_
            cases h
            exact en ⟨rfl,wk []⟩
           ·try dsimp only at h ⊢
            refine bh<|bn<|es<|rz ?_
            cases h
            exact en ⟨rfl,wk []⟩
         ·refine xf<|xx<|ee ?_
          cases h
          exact en ⟨rfl,wk []⟩
        ·rcases e156 with e156|e156
         ·try dsimp only at h ⊢
          refine br<|er ?_
          cases h
          exact en fr
         ·try dsimp only at h ⊢
          refine bh<|es<|xs<|xs<|rD hI fun K6608 RK6608 hK6608 gK6608=>zz ?_
          obtain⟨y6609,q,h⟩:=bK q h
          refine zz ?_
          subst hK6608 gK6608
          refine es ?_
          rcases iK k h with⟨k,h⟩|⟨k,h⟩
          ·refine xt<|xs<|rz ?_
           refine es<|xr<|er ?_
           cases h
           exact en fr
          ·refine xf<|xk<|es<|xs<|rz ?_
           refine es<|xr ?_
           cases h
           exact en fr
theorem join_cons{w v:List UInt8}{ws:List (List UInt8)}:Lib.join (w::v::ws) [32]=w++(32::Lib.join (v::ws) [32]):=by simp[Lib.join,List.intercalate]
theorem join_one(w:List UInt8):Lib.join [w] [32]=w:=by simp[Lib.join,List.intercalate]
theorem join_app:∀ (a b:List (List UInt8)),a≠[]→b≠[]→Lib.join (a++b) [32]=Lib.join a [32]++(32::Lib.join b [32])
 | [],b,h,_=>absurd rfl h
 | [w],b,_,hb=>by
  obtain⟨v,vs,rfl⟩:=List.exists_cons_of_ne_nil hb
  rw[List.singleton_append,join_cons,join_one]
 | w::v::ws,b,_,hb=>by
  have ih:=join_app (v::ws) b (by simp) hb
  rw[List.cons_append,List.cons_append,join_cons,join_cons,← List.cons_append,ih]
  simp
theorem join_snoc(l:List (List UInt8))(x:List UInt8)(hl:l≠[]):Lib.join (l++[x]) [32]=Lib.join l [32]++([32]++x):=by
 rw[join_app l [x] hl (by simp),join_one];simp
theorem join_flat:∀ (xss:List (List (List UInt8))),(∀ xs ∈ xss,xs≠[])→Lib.join (xss.map fun xs=>Lib.join xs [32]) [32]=Lib.join xss.flatten [32]
 | [],_=>rfl
 | [xs],h=>by simp[join_one]
 | xs::ys::xss,h=>by
  have ih:=join_flat (ys::xss) fun z hz=>h z (List.mem_cons_of_mem _ hz)
  rw[List.map_cons] at ih
  rw[List.map_cons,List.map_cons,join_cons,ih,show(xs::ys::xss).flatten=xs++(ys::xss).flatten from rfl,join_app xs _ (h xs (by simp))]
  intro he
  have:=List.flatten_eq_nil_iff.1 he ys (by simp)
  exact h ys (by simp) this
theorem join_len:∀ (ws:List (List UInt8)) (k:Nat),(∀ w ∈ ws,w.length≤k)→(Lib.join ws [32]).length≤ws.length * (k+1)
 | [],k,_=>by simp[Lib.join,List.intercalate]
 | [w],k,h=>by rw[join_one];have:=h w (by simp);simp;omega
 | w::v::ws,k,h=>by
  have ih:=join_len (v::ws) k fun x hx=>h x (List.mem_cons_of_mem _ hx)
  have:=h w (by simp)
  rw[join_cons,List.length_append,List.length_cons,List.length_cons,Nat.succ_mul]
  omega
def segs {α:Type}(l:List α):Nat→List Nat→List (List α)
 | _,[]=>[]
 | i,j::L=>(l.drop i).take (j - i)::segs l j L
def Ups (n:Nat):Nat→List Nat→Prop
 | i,[]=>i=n
 | i,j::L=>i < j∧j≤n∧Ups n j L
theorem segs_flat{α:Type}(l:List α):∀ (L:List Nat) (i:Nat),Ups l.length i L→(segs l i L).flatten=l.drop i
 | [],i,h=>by
  have:i=l.length:=h
  rw[this,List.drop_of_length_le (Nat.le_refl _)];rfl
 | j::L,i,h=>by
  obtain⟨h1,h2,h3⟩:=h
  rw[segs,List.flatten_cons,segs_flat l L j h3]
  conv=>rhs;rw[← List.take_append_drop (j - i) (l.drop i),List.drop_drop]
  rw[show i+(j - i)=j by omega]
theorem segs_ne{α:Type}(l:List α):∀ (L:List Nat) (i:Nat),Ups l.length i L→∀ s ∈ segs l i L,s≠[]
 | [],i,h,s,hs=>by cases hs
 | j::L,i,h,s,hs=>by
  obtain⟨h1,h2,h3⟩:=h
  rw[segs,List.mem_cons] at hs
  rcases hs with rfl|hs
  ·intro he
   have:=congrArg List.length he
   simp at this
   omega
  ·exact segs_ne l L j h3 s hs
theorem segs_len{α:Type}(l:List α):∀ (L:List Nat) (i:Nat),(segs l i L).length=L.length
 | [],_=>rfl
 | j::L,i=>by rw[segs,List.length_cons,List.length_cons,segs_len l L j]
theorem decL_dec{l:List UInt8}(h:l≠[]):decL l=Lib.decodeL l:=by
 unfold Lib.decodeL
 have:=decL_eq l 0 ((List.length_pos_iff.2 h))
 rw[this];simp
theorem decL_wd{l:List UInt8}(h:l≠[]):1≤(decL l).2:=by rw[decL_dec h];exact Lib.decodeL_width l
theorem wd_pos{s:List UInt8}{p:Nat}(h:p < s.length):1≤widthAt s p:=by
 unfold widthAt
 refine decL_wd fun h0=>?_
 have:=congrArg List.length h0
 simp at this;omega
theorem place_total(s:List UInt8)(hs:s.length≤1000)(r:Int):∃ e,iter (g_charset_place_s1 s r) (0,0)=some e:=by
 have:=iter_post (step:=g_charset_place_s1 s r) (fun x=>0≤x.1∧x.1≤x.2) (fun x=>s.length - x.2) (fun _=>True) (x:=(0,0)) ⟨Int.le_refl _,by simp⟩ (by show s.length - 0 < _;omega) ?_
 ·obtain⟨e,h,_⟩:=this;exact⟨e,h⟩
 ·rintro⟨n,p⟩ ⟨h0,h1⟩
  dsimp only at h0 h1
  unfold g_charset_place_s1
  dsimp only
  by_cases hp:p < s.length
  ·rw[if_pos (by simpa using hp)]
   by_cases hr:(runeAt s p == r)=true
   ·right;rw[if_pos hr];exact⟨_,rfl,trivial⟩
   ·left;rw[if_neg hr]
    have hw:=wd_pos hp
    refine⟨_,rfl,?_,?_⟩
    ·dsimp only
     rw[wr64 (by omega)]
     omega
    ·dsimp only;omega
  ·right;rw[if_neg (by simpa using hp)];exact⟨_,rfl,trivial⟩
theorem Index_tot(r:Int):∃ v,g_charset_Index r=some v:=by
 unfold g_charset_Index g_charset_place
 by_cases h:32≤r∧r≤126
 ·rw[if_pos (by simpa using h.1)]
  simp only[Option.bind_some]
  rw[if_pos (by simpa using h.2)]
  exact⟨_,rfl⟩
 ·have:(if decide (32≤r)=true then some (decide (r≤126)) else some false:Option Bool)=some false:=by
   by_cases h1:32≤r
   ·have:¬ r≤126:=fun h2=>h ⟨h1,h2⟩
    simp[h1,this]
   ·simp[h1]
  rw[this]
  simp only[Option.bind_some,Bool.false_eq_true,if_false]
  obtain⟨e,he⟩:=place_total [32,33,34,35,36,37,38,39,40,41,42,43,44,45,46,47,48,49,50,51,52,53,54,55,56,57,58,59,60,61,62,63,64,65,66,67,68,69,70,71,72,73,74,75,76,77,78,79,80,81,82,83,84,85,86,87,88,89,90,91,92,93,94,95,96,97,98,99,100,101,102,103,104,105,106,107,108,109,110,111,112,113,114,115,116,117,118,119,120,121,122,123,124,125,126,194,161,194,162,194,163,194,164,194,165,194,166,194,167,194,169,194,171,194,174,194,176,194,183,194,187,194,189,194,191,195,128,195,129,195,130,195,131,195,132,195,133,195,134,195,135,195,136,195,137,195,138,195,139,195,140,195,141,195,142,195,143,195,145,195,146,195,147,195,148,195,149,195,150,195,152,195,153,195,154,195,155,195,156,195,159,195,160,195,161,195,162,195,163,195,164,195,165,195,166,195,167,195,168,195,169,195,170,195,171,195,172,195,173,195,174,195,175,195,177,195,178,195,179,195,180,195,181,195,182,195,184,195,185,195,186,195,187,195,188,197,146,197,147,226,128,148,226,128,152,226,128,153,226,128,156,226,128,157,226,128,162,226,128,166,226,132,162,226,153,170] (by decide) r
  rw[he]
  cases e<;>exact⟨_,rfl⟩
def ixv (r:Int):Int:=(g_charset_Index r).getD 0
theorem ix_eq(r:Int):g_charset_Index r=some (ixv r)∧True:=by
 obtain⟨v,h1⟩:=Index_tot r
 unfold ixv
 rw[h1]
 exact⟨rfl,trivial⟩
theorem ixv_bad:g_charset_Index 65533=some (-1):=by decide +kernel
def gv (l:List UInt8):Bool:=if h:l=[] then true else decide (0≤ixv (decL l).1)&&gv (l.drop (decL l).2)
termination_by l.length
decreasing_by
 have:=decL_wd h
 have:=(List.length_pos_iff.2 h)
 simp;omega
theorem gv_nil:gv []=true:=by unfold gv;simp
theorem gv_ne{l:List UInt8}(h:l≠[]):gv l=(decide (0≤ixv (decL l).1)&&gv (l.drop (decL l).2)):=by
 rw[gv,dif_neg h]
theorem gv_loop{step:Nat→Option (Nx Nat (Unit ⊕ Unit))}(s:List UInt8)(hs:s.length < 73786976294838206464)(hst:∀ p,step p=(if decide (p < s.length)=true then(if decide (ixv (runeAt s p) < 0)=true then some (.out (.inl ())) else some (.go (p+widthAt s p))) else some (.out (.inr ())))) :
  iter step 0=some (if gv s then .inr () else .inl ()):=by
 refine iter_of (fun p e=>e=if gv (s.drop p) then .inr () else .inl ()) (fun p=>s.length - p) ?_ (x:=0) (by simp) (by show s.length - 0 < _;omega)
 rintro p e rfl
 rw[hst]
 by_cases hp:p < s.length
 ·rw[if_pos (by simpa using hp)]
  have hne:s.drop p≠[]:=fun h0=>by have:=congrArg List.length h0;simp at this;omega
  by_cases hr:ixv (runeAt s p) < 0
  ·right
   rw[if_pos (by simpa using hr),gv_ne hne]
   have:¬ 0≤ixv (decL (s.drop p)).1:=by unfold runeAt at hr;omega
   simp[this]
  ·left
   rw[if_neg (by simpa using hr)]
   have hw:=wd_pos hp
   refine⟨_,rfl,?_,by omega⟩
   rw[gv_ne hne]
   have:0≤ixv (decL (s.drop p)).1:=by unfold runeAt at hr;omega
   simp only[this,decide_true,Bool.true_and,List.drop_drop]
   rfl
 ·right
  rw[if_neg (by simpa using hp),List.drop_eq_nil_of_le (by omega),gv_nil];rfl
theorem gv_valid:∀ (n:Nat) (l:List UInt8),l.length≤n→gv l=true→Lib.validD l=true:=by
 intro n
 induction n with
 | zero=>intro l hl _;have:l=[]:=List.eq_nil_of_length_eq_zero (by omega);subst this;rfl
 | succ n ih =>
  intro l hl h
  by_cases hne:l=[]
  ·subst hne;rfl
  ·rw[gv_ne hne,Bool.and_eq_true,decide_eq_true_eq] at h
   have hw:=decL_wd hne
   have hlen:=List.length_pos_iff.2 hne
   rw[Lib.validD_step l hne,← decL_dec hne,if_neg]
   ·exact ih _ (by simp;omega) h.2
   ·rintro⟨h1,_⟩
    have h2:=h.1
    rw[h1] at h2
    unfold ixv at h2
    rw[show(((65533:Nat):Nat):Int)=65533 from rfl,ixv_bad] at h2
    simp at h2
theorem prog_Valid_eq(s:List UInt8)(hs:s.length≤140737488355328):g_charset_Valid s=some (gv s):=by
 unfold g_charset_Valid g_unicode_utf8_ValidString
 simp only[Option.bind_some]
 rw[gv_loop s (by omega) (fun p=>by unfold g_charset_Valid_s1;simp only[(ix_eq _).1,Option.bind_some])]
 cases hg:gv s
 ·cases Lib.validD s<;>rfl
 ·rw[gv_valid s.length s (Nat.le_refl _) hg];rfl
def rnL (l:List UInt8):List Int:=if h:l=[] then[] else(((decL l).1:Nat):Int)::rnL (l.drop (decL l).2)
termination_by l.length
decreasing_by
 have h1:=decL_wd h
 have h2:=List.length_pos_iff.2 h
 simp only[List.length_drop];omega
theorem rnL_nil:rnL []=[]:=by unfold rnL;simp
theorem rnL_ne{l:List UInt8}(h:l≠[]):rnL l=(((decL l).1:Nat):Int)::rnL (l.drop (decL l).2):=by rw[rnL,dif_neg h]
theorem rnL_at{s:List UInt8}{p:Nat}(h:p < s.length):rnL (s.drop p)=runeAt s p::rnL (s.drop (p+widthAt s p)):=by
 have hne:s.drop p≠[]:=by
  intro e
  have:=congrArg List.length e
  simp at this;omega
 rw[rnL_ne hne]
 unfold runeAt widthAt
 rw[List.drop_drop]
theorem rnL_end{s:List UInt8}{p:Nat}(h:s.length≤p):rnL (s.drop p)=[]:=by rw[List.drop_eq_nil_of_le h,rnL_nil]
theorem rnL_len:∀ (n:Nat) (l:List UInt8),l.length≤n→(rnL l).length≤l.length
 | 0,l,h=>by
  have:l=[]:=List.eq_nil_of_length_eq_zero (by omega)
  subst this;rw[rnL_nil];simp
 | n+1,l,h=>by
  by_cases hl:l=[]
  ·subst hl;rw[rnL_nil];simp
  ·have h1:=decL_wd hl
   have h2:=List.length_pos_iff.2 hl
   have ih:=rnL_len n (l.drop (decL l).2) (by simp only[List.length_drop];omega)
   rw[rnL_ne hl,List.length_cons]
   simp only[List.length_drop] at ih
   omega
def wiB (n lo hi:Int):Bool:=decide (lo≤n)&&decide (n≤hi)
theorem wiB_t{n lo hi:Int}(h:wiB n lo hi=true):lo≤n∧n≤hi:=by
 unfold wiB at h;simpa using h
def pnL (t:T_api_Penalties):List Int:=[t.Strength.a0,t.Strength.a1,t.Strength.a2,t.Strength.a3,t.Strength.a4,t.Strength.a5,t.Ragged,t.Row,t.Event,t.Fast,t.Gap,t.Shot]
def prs (t:T_api_Penalties):List (Int × Int):=[(t.Strength.a0,t.Strength.a1),(t.Strength.a1,t.Strength.a2),(t.Strength.a2,t.Strength.a3),(t.Strength.a3,t.Strength.a4),(t.Strength.a4,t.Strength.a5)]
def inN (y:Int):Bool:=decide (0≤y)&&decide (y≤1000000)
def pcS (t:T_api_Penalties):Int:=if(pnL t).all inN then(if(prs t).all fun p=>decide (p.2≤p.1) then 0 else 8) else 2
theorem num_loop(l:List Int)(hl:l.length≤1000):iter (g_penalty_Check_s1 l) 0=some (if l.all inN then .inr () else .inl ()):=by
 have:=iter_idx (step:=g_penalty_Check_s1 l) l.length (by omega) (fun i=>if(l.drop i).all inN then .inr () else .inl ()) (fun i hi=>?_) ?_
 ·simpa using this
 ·unfold g_penalty_Check_s1
  rw[if_pos (by simpa using hi),atI_nat hi,List.drop_eq_getElem_cons hi,wr64 (by omega)]
  simp only[Option.bind_some,List.all_cons]
  by_cases h1:l[i] < 0
  ·right;simp[h1,inN,show ¬ 0≤l[i] from by omega]
  ·by_cases h2:1000000 < l[i]
   ·right;simp[h1,h2,inN,show ¬ l[i]≤1000000 from by omega]
   ·left;simp[h1,h2,inN,show 0≤l[i] from by omega,show l[i]≤1000000 from by omega]
 ·unfold g_penalty_Check_s1
  rw[if_neg (by simp)]
  simp
theorem wl:IntKind.i64.wrap 0=0∧IntKind.i64.wrap 1=1∧IntKind.i64.wrap 2=2∧IntKind.i64.wrap 3=3∧IntKind.i64.wrap 4=4∧IntKind.i64.wrap 5=5∧IntKind.i64.wrap 6=6∧IntKind.i64.wrap 7=7:=by decide
def dsR (t:T_api_Penalties)(k:Nat):Unit ⊕ Unit:=if((prs t).drop k).all fun p=>decide (p.2≤p.1) then .inr () else .inl ()
theorem des_loop(t:T_api_Penalties):iter (g_penalty_Check_s2 t) 1=some (dsR t 0):=by
 obtain⟨w0,w1,w2,w3,w4,w5,w6,w7⟩:=wl
 refine iter_of (fun x e=>(x=1∧e=dsR t 0)∨(x=2∧e=dsR t 1)∨(x=3∧e=dsR t 2)∨(x=4∧e=dsR t 3)∨(x=5∧e=dsR t 4)∨(x=6∧e=dsR t 5)) (fun x=>10 - x.toNat) ?_ (.inl ⟨rfl,rfl⟩) (by decide)
 rintro x e (⟨rfl,rfl⟩|⟨rfl,rfl⟩|⟨rfl,rfl⟩|⟨rfl,rfl⟩|⟨rfl,rfl⟩|⟨rfl,rfl⟩)
 ·unfold g_penalty_Check_s2
  by_cases h:t.Strength.a0 < t.Strength.a1
  ·right;simp[dsR,prs,h,show ¬ t.Strength.a1≤t.Strength.a0 from by omega, *]
  ·left;refine⟨2,by simp[h, *],.inr (.inl ⟨rfl,?_⟩),by decide⟩
   simp[dsR,prs,show t.Strength.a1≤t.Strength.a0 from by omega]
 ·unfold g_penalty_Check_s2
  by_cases h:t.Strength.a1 < t.Strength.a2
  ·right;simp[dsR,prs,h,show ¬ t.Strength.a2≤t.Strength.a1 from by omega, *]
  ·left;refine⟨3,by simp[h, *],.inr (.inr (.inl ⟨rfl,?_⟩)),by decide⟩
   simp[dsR,prs,show t.Strength.a2≤t.Strength.a1 from by omega]
 ·unfold g_penalty_Check_s2
  by_cases h:t.Strength.a2 < t.Strength.a3
  ·right;simp[dsR,prs,h,show ¬ t.Strength.a3≤t.Strength.a2 from by omega, *]
  ·left;refine⟨4,by simp[h, *],.inr (.inr (.inr (.inl ⟨rfl,?_⟩))),by decide⟩
   simp[dsR,prs,show t.Strength.a3≤t.Strength.a2 from by omega]
 ·unfold g_penalty_Check_s2
  by_cases h:t.Strength.a3 < t.Strength.a4
  ·right;simp[dsR,prs,h,show ¬ t.Strength.a4≤t.Strength.a3 from by omega, *]
  ·left;refine⟨5,by simp[h, *],.inr (.inr (.inr (.inr (.inl ⟨rfl,?_⟩)))),by decide⟩
   simp[dsR,prs,show t.Strength.a4≤t.Strength.a3 from by omega]
 ·unfold g_penalty_Check_s2
  by_cases h:t.Strength.a4 < t.Strength.a5
  ·right;simp[dsR,prs,h,show ¬ t.Strength.a5≤t.Strength.a4 from by omega, *]
  ·left;refine⟨6,by simp[h, *],.inr (.inr (.inr (.inr (.inr ⟨rfl,?_⟩)))),by decide⟩
   simp[dsR,prs,show t.Strength.a5≤t.Strength.a4 from by omega]
 ·right
  unfold g_penalty_Check_s2
  simp[dsR,prs]
theorem pen_Check(t:T_api_Penalties):g_penalty_Check t=some (pcS t):=by
 unfold g_penalty_Check g_penalty_numbers pcS
 simp only[Option.bind_some,List.cons_append,List.nil_append]
 have h:=num_loop (pnL t) (by simp[pnL])
 unfold pnL at h ⊢
 rw[h,des_loop]
 unfold dsR
 simp only[List.drop_zero,Option.bind_some]
 generalize List.all _ inN=b
 generalize List.all (prs t) _=c
 cases b<;>cases c<;>rfl
theorem pcS_0{t:T_api_Penalties}(h:pcS t=0):(0≤t.Strength.a0∧t.Strength.a0≤1000000)∧(0≤t.Strength.a1∧t.Strength.a1≤1000000)∧(0≤t.Strength.a2∧t.Strength.a2≤1000000)∧(0≤t.Strength.a3∧t.Strength.a3≤1000000)∧(0≤t.Strength.a4∧t.Strength.a4≤1000000)∧(0≤t.Strength.a5∧t.Strength.a5≤1000000)∧(0≤t.Ragged∧t.Ragged≤1000000)∧(0≤t.Row∧t.Row≤1000000)∧(0≤t.Event∧t.Event≤1000000)∧(0≤t.Fast∧t.Fast≤1000000)∧(0≤t.Gap∧t.Gap≤1000000)∧(0≤t.Shot∧t.Shot≤1000000):=by
 unfold pcS at h
 split at h
 ·rename_i h1
  simpa[pnL,inN,and_assoc] using h1
 ·cases h
def hasSp(s:List UInt8):Bool:=s.any fun b=>b.toNat == 32
theorem idx_sp:∀ s:List UInt8,decide (0≤Lib.indexByte s 32)=hasSp s
 | []=>by decide
 | b::l=>by
  have ih:=idx_sp l
  have hg:=Lib.indexByte_ge l 32
  have hb:(b == 32)=(b.toNat == 32):=by
   rw[Bool.eq_iff_iff,beq_iff_eq,beq_iff_eq]
   exact⟨fun h=>by rw[h];rfl,fun h=>UInt8.toNat_inj.1 h⟩
  unfold hasSp at ih ⊢
  rw[List.any_cons,← ih,← hb]
  rw[show Lib.indexByte (b::l) 32=(if b == 32 then 0 else if Lib.indexByte l 32 == -1 then -1 else Lib.indexByte l 32+1) from rfl]
  cases hq:b == 32
  ·by_cases h2:Lib.indexByte l 32=-1
   ·simp[h2]
   ·have:(Lib.indexByte l 32 == -1)=false:=by simpa using h2
    simp only[this,Bool.false_eq_true,if_false,Bool.false_or]
    rw[decide_eq_decide]
    omega
  ·simp
theorem cont_eq(s:List UInt8):g_strings_Contains s [32]=some (hasSp s):=by
 rw[← idx_sp];rfl
def cutS:List UInt8:=[34,39,41,93]
theorem cut_eq(s:List UInt8):g_strings_TrimRight s [34,39,41,93]=some (Lib.trimRightS s cutS):=by
 unfold g_strings_TrimRight
 rw[if_pos (by decide)];rfl
theorem trim_le(s:List UInt8):(Lib.trimRightS s cutS).length≤s.length:=trimRight_len s cutS
def lA:List UInt8:=[97,32,97,110,32,116,104,101,32,111,102,32,116,111,32,105,110,32,111,110,32,97,116,32,98,121,32,102,111,114,32,102,114,111,109,32,119,105,116,104,32,109,121,32,121,111,117,114,32,104,105,115,32,104,101,114,32,105,116,115,32,111,117,114,32,116,104,101,105,114,32,110,111]
def lB:List UInt8:=[97,110,100,32,98,117,116,32,111,114,32,98,101,99,97,117,115,101,32,116,104,97,116,32,119,104,105,99,104,32,119,104,111,32,119,104,101,110,32,105,102,32,119,104,105,108,101,32,115,111,32,97,115]
theorem some_A:∃ l,g_strings_Split lA [32]=some l∧l.length≤1000:=⟨(g_strings_Split lA [32]).getD [],by decide +kernel,by decide +kernel⟩
theorem some_B:∃ l,g_strings_Split lB [32]=some l∧l.length≤1000:=⟨(g_strings_Split lB [32]).getD [],by decide +kernel,by decide +kernel⟩
theorem among_total(s:List UInt8)(l:List (List UInt8))(hl:l.length≤1000):∃ e,iter (g_token_among_s1 s l) 0=some e:=by
 refine iter_ends l.length (by omega) (fun i hi=>?_) ?_
 ·unfold g_token_among_s1
  rw[if_pos (by simpa using hi),atI_nat hi,wr64 (by omega)]
  simp only[Option.bind_some]
  cases l[i] == s
  ·exact .inl rfl
  ·exact .inr ⟨_,rfl⟩
 ·unfold g_token_among_s1
  exact⟨_,by rw[if_neg (by simp)]⟩
theorem among_tot(s L:List UInt8)(h2:∃ l,g_strings_Split L [32]=some l∧l.length≤1000):∃ b,g_token_among s L=some b:=by
 obtain⟨l,hl,hn⟩:=h2
 obtain⟨e,he⟩:=among_total s l hn
 unfold g_token_among
 rw[hl]
 simp only[Option.bind_some,he]
 cases e
 ·exact⟨true,rfl⟩
 ·exact⟨false,rfl⟩
theorem opt3(p q r:Bool):(if p=true then some true else if q=true then some true else some r:Option Bool)=some (p||q||r):=by
 cases p<;>cases q<;>rfl
theorem strength_tot(w n:List UInt8)(hw:w.length≤140737488355328):∃ v,0≤v∧v≤5∧g_token_Strength w n=some v:=by
 unfold g_token_Strength
 rw[cut_eq]
 have hle:=trim_le w
 obtain⟨b1,p1⟩:=among_tot (smS w) lA some_A
 obtain⟨b2,p2⟩:=among_tot (smS n) lB some_B
 unfold lA at p1
 unfold lB at p2
 simp only[Option.bind_some,g_token_small,p1,p2]
 generalize Lib.trimRightS w cutS=t at hle ⊢
 have tail:∃ v:Int,0≤v∧v≤5∧(if b1=true then some 0 else if b2=true then some 2 else some 1:Option Int)=some v:=by
  cases b1
  ·cases b2
   ·exact⟨1,by decide,by decide,rfl⟩
   ·exact⟨2,by decide,by decide,rfl⟩
  ·exact⟨0,by decide,by decide,rfl⟩
 by_cases ht:t=[]
 ·subst ht
  simp only[beq_self_eq_true,if_true,List.length_nil,Int.natCast_zero,Int.lt_irrefl,decide_false,Bool.false_eq_true,if_false]
  cases w == ([45]:List UInt8)
  ·obtain⟨v,h0,h5,hv⟩:=tail
   exact⟨v,h0,h5,hv⟩
  ·exact⟨4,by decide,by decide,rfl⟩
 ·have hb:(t == ([]:List UInt8))=false:=by simpa using ht
  have hp:=List.length_pos_iff.2 ht
  rw[hb,wr64 (by omega),show((t.length:Int) - 1)=((t.length - 1:Nat):Int) by omega,atI_nat (show t.length - 1 < t.length by omega)]
  simp only[Bool.false_eq_true,if_false,Option.bind_some]
  generalize t[t.length - 1]=b
  rw[opt3,opt3]
  simp only[Option.bind_some]
  generalize ((b.toNat:Int) == 46||(b.toNat:Int) == 33||(b.toNat:Int) == 63)=o1
  generalize ((b.toNat:Int) == 58||(b.toNat:Int) == 59||w == ([45]:List UInt8))=o2
  generalize ((b.toNat:Int) == 44)=o3
  cases o1
  ·cases o2
   ·cases o3
    ·obtain⟨v,h0,h5,hv⟩:=tail
     exact⟨v,h0,h5,hv⟩
    ·exact⟨3,by decide,by decide,rfl⟩
   ·exact⟨4,by decide,by decide,rfl⟩
  ·exact⟨5,by decide,by decide,rfl⟩
def strS (w n:List UInt8):Int:=(g_token_Strength w n).getD 0
theorem strS_eq(w n:List UInt8)(hw:w.length≤140737488355328):g_token_Strength w n=some (strS w n)∧0≤strS w n∧strS w n≤5:=by
 obtain⟨v,h0,h5,h1⟩:=strength_tot w n hw
 unfold strS
 rw[h1]
 exact⟨rfl,h0,h5⟩
theorem setI_nat{α:Type}{l:List α}{n:Nat}(x:α)(h:n < l.length):setI l (n:Int) x=some (l.set n x):=by
 simp[setI,h]
theorem mkI_nat{α:Type}(by':Int)(n:Nat)(z:α)(h:(n:Int) * by'≤140737488355328)(h2:n≤9223372036854775807):mkI by' (n:Int) z=some (List.replicate n z):=by
 unfold mkI
 rw[if_pos (by omega)]
 simp[replL]
def Lst (P:Int→Prop)(v:Int):Prop:=(v=-1∧∀ x,¬ P x)∨(0≤v∧P v∧∀ x,P x→v≤x)
theorem Lst.congr{P Q:Int→Prop}{v:Int}(e:∀ x,P x ↔ Q x)(h:Lst P v):Lst Q v:=by
 have:P=Q:=funext fun x=>propext (e x)
 rw[← this];exact h
theorem Lst.ge{P:Int→Prop}{v:Int}(h:Lst P v):-1≤v:=by
 rcases h with⟨h1,_⟩|⟨h1,_⟩<;>omega
theorem Lst.mem{P:Int→Prop}{v:Int}(h:Lst P v)(hv:v≠-1):0≤v∧P v∧∀ x,P x→v≤x:=by
 rcases h with⟨h1,_⟩|h
 ·exact absurd h1 hv
 ·exact h
theorem Lst.has{P:Int→Prop}{v x:Int}(h:Lst P v)(hx:P x):v≠-1∧0≤v∧v≤x:=by
 rcases h with⟨_,h2⟩|⟨h1,_,h3⟩
 ·exact absurd hx (h2 _)
 ·exact⟨by omega,h1,h3 _ hx⟩
theorem Lst.join{P Q:Int→Prop}{v w:Int}(h:Lst P v)(k:Lst Q w):Lst (fun x=>P x∨Q x) (if w=-1 then v else if v=-1∨w < v then w else v):=by
 by_cases hw:w=-1
 ·rw[if_pos hw]
  have kn:∀ x,¬ Q x:=by
   rcases k with⟨_,k2⟩|⟨k1,_⟩
   ·exact k2
   ·omega
  exact h.congr fun x=>⟨.inl,fun h=>h.elim id fun q=>absurd q (kn x)⟩
 ·obtain⟨k1,k2,k3⟩:=k.mem hw
  rw[if_neg hw]
  by_cases hv:v=-1
  ·rw[if_pos (.inl hv)]
   have hn:∀ x,¬ P x:=by
    rcases h with⟨_,h2⟩|⟨h1,_⟩
    ·exact h2
    ·omega
   exact .inr ⟨k1,.inr k2,fun x hx=>hx.elim (fun q=>absurd q (hn x)) (k3 x)⟩
  ·obtain⟨h1,h2,h3⟩:=h.mem hv
   by_cases hl:w < v
   ·rw[if_pos (.inr hl)]
    exact .inr ⟨k1,.inr k2,fun x hx=>hx.elim (fun q=>by have:=h3 x q;omega) (k3 x)⟩
   ·rw[if_neg (by omega)]
    exact .inr ⟨h1,.inl h2,fun x hx=>hx.elim (h3 x) (fun q=>by have:=k3 x q;omega)⟩
theorem Lst.shift{P:Int→Prop}{v c:Int}(h:Lst P v)(hc:0≤c):Lst (fun x=>∃ y,P y∧x=c+y) (if v=-1 then -1 else c+v):=by
 by_cases hv:v=-1
 ·rw[if_pos hv]
  refine .inl ⟨rfl,?_⟩
  rintro x ⟨y,hy,rfl⟩
  rcases h with⟨_,h2⟩|⟨h1,_⟩
  ·exact h2 y hy
  ·omega
 ·rw[if_neg hv]
  obtain⟨h1,h2,h3⟩:=h.mem hv
  refine .inr ⟨by omega,⟨v,h2,rfl⟩,?_⟩
  rintro x ⟨y,hy,rfl⟩
  have:=h3 y hy;omega
section
variable {n:Nat}{fit:Nat→Nat→Bool}{c:Nat→Nat→Int}
variable (n fit c) in
inductive Pth:Nat→Nat→Int→Prop
 | nil:Pth 0 n 0
 | cons {r i j:Nat} {x:Int}:i < j→j≤n→fit i j=true→Pth r j x→Pth (r+1) i (c i j+x)
variable (n fit c) in
def AtM (m i:Nat)(x:Int):Prop:=∃ r,r≤m∧Pth n fit c r i x
variable (fit c) in
def Cand (Q:Nat→Int→Prop)(i J:Nat)(x:Int):Prop:=∃ j y,i < j∧j < J∧fit i j=true∧Q j y∧x=c i j+y
theorem cand_start(Q:Nat→Int→Prop)(i:Nat):Lst (Cand fit c Q i (i+1)) (-1) :=
 .inl ⟨rfl,fun x ⟨j,y,h1,h2,_⟩=>by omega⟩
theorem cand_step{Q:Nat→Int→Prop}{i J:Nat}{v w:Int}(hi:i < J)(hf:fit i J=true)(hc:0≤c i J)(h:Lst (Cand fit c Q i J) v)(k:Lst (Q J) w):Lst (Cand fit c Q i (J+1)) (if w=-1 then v else if v=-1∨c i J+w < v then c i J+w else v):=by
 have h2:=h.join (k.shift hc)
 have e:(if(if w=-1 then -1 else c i J+w)=-1 then v else if v=-1∨(if w=-1 then -1 else c i J+w) < v then(if w=-1 then -1 else c i J+w) else v)=(if w=-1 then v else if v=-1∨c i J+w < v then c i J+w else v):=by
  by_cases hw:w=-1
  ·simp[hw]
  ·have:=k.ge
   have:¬ c i J+w=-1:=by omega
   simp[hw,this]
 rw[e] at h2
 refine h2.congr fun x=>⟨?_,?_⟩
 ·rintro(⟨j,y,a1,a2,a3,a4,a5⟩|⟨y,a4,a5⟩)
  ·exact⟨j,y,a1,by omega,a3,a4,a5⟩
  ·exact⟨J,y,hi,by omega,hf,a4,a5⟩
 ·rintro⟨j,y,a1,a2,a3,a4,a5⟩
  by_cases hj:j=J
  ·subst hj;exact .inr ⟨y,a4,a5⟩
  ·exact .inl ⟨j,y,a1,by omega,a3,a4,a5⟩
theorem cand_end{Q:Nat→Int→Prop}{i J:Nat}{v:Int}(hJ:J≤n+1)(hmono:J≤n→∀ k,J≤k→k≤n→fit i k=false)(h:Lst (Cand fit c Q i J) v):Lst (Cand fit c Q i (n+1)) v:=by
 refine h.congr fun x=>⟨?_,?_⟩
 ·rintro⟨j,y,a1,a2,a3,a4,a5⟩
  exact⟨j,y,a1,by omega,a3,a4,a5⟩
 ·rintro⟨j,y,a1,a2,a3,a4,a5⟩
  refine⟨j,y,a1,?_,a3,a4,a5⟩
  rcases Nat.lt_or_ge j J with hlt|hge
  ·exact hlt
  ·rw[hmono (by omega) j hge (by omega)] at a3;cases a3
theorem pth_zero{i:Nat}{x:Int}:Pth n fit c 0 i x ↔ i=n∧x=0 :=
 ⟨fun h=>by cases h;exact⟨rfl,rfl⟩,fun⟨h1,h2⟩=>by subst h1 h2;exact .nil⟩
theorem pth_succ{r i:Nat}{x:Int}:Pth n fit c (r+1) i x ↔ Cand fit c (Pth n fit c r) i (n+1) x :=
 ⟨fun h=>by cases h with|cons a1 a2 a3 a4=>exact⟨_,_,a1,by omega,a3,a4,rfl⟩,fun⟨j,y,a1,a2,a3,a4,a5⟩=>by subst a5;exact .cons a1 (by omega) a3 a4⟩
theorem pth_end{r:Nat}{x:Int}(h:Pth n fit c (r+1) n x):False:=by
 cases h with|cons a1 a2 _ _=>omega
theorem atm_n{m:Nat}{x:Int}:AtM n fit c m n x ↔ x=0 :=
 ⟨fun⟨r,_,h⟩=>by cases r with|zero=>exact(pth_zero.1 h).2|succ r=>exact(pth_end h).elim,fun h=>⟨0,Nat.zero_le _,pth_zero.2 ⟨rfl,h⟩⟩⟩
theorem atm_join{m i:Nat}{v w:Int}(h:Lst (AtM n fit c m i) v)(k:Lst (Pth n fit c (m+1) i) w):Lst (AtM n fit c (m+1) i) (if w=-1 then v else if v=-1∨w < v then w else v):=by
 refine(h.join k).congr fun x=>⟨?_,?_⟩
 ·rintro(⟨r,h1,h⟩|h)
  ·exact⟨r,by omega,h⟩
  ·exact⟨m+1,Nat.le_refl _,h⟩
 ·rintro⟨r,h1,h⟩
  by_cases e:r=m+1
  ·subst e;exact .inr h
  ·exact .inl ⟨r,by omega,h⟩
theorem atm_0{i:Nat}{v:Int}(h:Lst (Pth n fit c 0 i) v):Lst (AtM n fit c 0 i) v:=by
 refine h.congr fun x=>⟨fun h=>⟨0,Nat.le_refl _,h⟩,?_⟩
 rintro⟨r,h1,h⟩
 obtain rfl:r=0:=by omega
 exact h
variable {E A:Nat→Nat→Int}{R:Nat}
def OkS (fit:Nat→Nat→Bool)(c:Nat→Nat→Int)(E:Nat→Nat→Int)(r i j:Nat):Prop:=fit i j=true∧E r j≠-1∧c i j+E r j=E (r+1) i
variable (n fit c E) in
inductive Gr:Nat→Nat→List Nat→Prop
 | nil:Gr 0 n []
 | cons {r i j:Nat} {L:List Nat}:i < j→j≤n→OkS fit c E r i j→(∀ k,i < k→k < j→¬ OkS fit c E r i k)→Gr r j L→Gr (r+1) i (j::L)
theorem first_of{P:Nat→Prop}:∀ (m i:Nat),(∃ j,i < j∧j≤i+m∧P j)→∃ j,i < j∧j≤i+m∧P j∧∀ k,i < k→k < j→¬ P k
 | 0,i,⟨j,h1,h2,_⟩=>by omega
 | m+1,i,⟨j,h1,h2,h3⟩=>by
  by_cases hp:P (i+1)
  ·exact⟨i+1,by omega,by omega,hp,fun k _ _=>by omega⟩
  ·have hj:j≠i+1:=fun e=>hp (e ▸ h3)
   obtain⟨j',a1,a2,a3,a4⟩:=first_of m (i+1) ⟨j,by omega,by omega,h3⟩
   refine⟨j',by omega,by omega,a3,fun k k1 k2=>?_⟩
   by_cases e:k=i+1
   ·rw[e];exact hp
   ·exact a4 k (by omega) k2
theorem gr_step(hE:∀ r i,r≤R→i≤n→Lst (Pth n fit c r i) (E r i)){r i:Nat}(hr:r+1≤R)(hi:i≤n)(hv:E (r+1) i≠-1):∃ j,i < j∧j≤n∧OkS fit c E r i j∧∀ k,i < k→k < j→¬ OkS fit c E r i k:=by
 obtain⟨_,h2,h3⟩:=(hE (r+1) i hr hi).mem hv
 obtain⟨j,y,a1,a2,a3,a4,a5⟩:=pth_succ.1 h2
 have k:=(hE r j (by omega) (by omega)).has a4
 have hm:=(hE r j (by omega) (by omega)).mem k.1
 have hle:=h3 _ (Pth.cons a1 (by omega) a3 hm.2.1)
 have hok:OkS fit c E r i j:=⟨a3,k.1,by have:=k.2.2;omega⟩
 obtain⟨j',b1,b2,b3,b4⟩:=first_of (P:=OkS fit c E r i) (n - i) i ⟨j,a1,by omega,hok⟩
 exact⟨j',b1,by omega,b3,b4⟩
theorem gr_exists(hE:∀ r i,r≤R→i≤n→Lst (Pth n fit c r i) (E r i)):∀ (r i:Nat),r≤R→i≤n→E r i≠-1→∃ L,Gr n fit c E r i L
 | 0,i,hr,hi,hv=>by
  have:=((hE 0 i hr hi).mem hv).2.1
  obtain⟨rfl,_⟩:=pth_zero.1 this
  exact⟨[],.nil⟩
 | r+1,i,hr,hi,hv=>by
  obtain⟨j,b1,b2,b3,b4⟩:=gr_step hE hr hi hv
  obtain⟨L,hL⟩:=gr_exists hE r j (by omega) b2 b3.2.1
  exact⟨j::L,.cons b1 b2 b3 b4 hL⟩
theorem gr_len{r i:Nat}{L:List Nat}(h:Gr n fit c E r i L):L.length=r:=by
 induction h with
 | nil=>rfl
 | cons _ _ _ _ _ ih=>simp[ih]
def Tight(E:Nat→Nat→Int)(r i:Nat):Prop:=E r i≠-1∧∀ s,s < r→E s i=-1∨E r i < E s i
end
theorem rcF:∀ (fuel pos:Nat) (s:List UInt8),s.length≤pos+fuel→Lib.runeCountFrom ⟨s.toArray⟩ fuel pos=(rnL (s.drop pos)).length
 | 0,pos,s,h=>by rw[rnL_end (by omega)];rfl
 | fuel+1,pos,s,h=>by
  have hsz:(⟨s.toArray⟩:ByteArray).size=s.length:=bsize s
  unfold Lib.runeCountFrom
  rw[hsz]
  by_cases hp:pos < s.length
  ·rw[if_pos hp,decL_eq s pos hp,rnL_at hp]
   have hw:=wd_pos hp
   have:=rcF fuel (pos+widthAt s pos) s (by omega)
   unfold widthAt at this
   rw[this,List.length_cons]
   unfold widthAt
   omega
  ·rw[if_neg hp,rnL_end (by omega)];rfl
theorem rcL(s:List UInt8):Lib.runeCountL s=(rnL s).length:=by
 unfold Lib.runeCountL Lib.runeCount
 rw[rcF _ 0 s (by rw[bsize];omega),List.drop_zero]
def chL (s:List UInt8):Int:=if gv s then((rnL s).length:Int) else -1
theorem len_prog(s:List UInt8)(h:s.length≤1048576):g_charset_Len s=some (chL s):=by
 unfold g_charset_Len chL
 rw[prog_Valid_eq s (by omega)]
 simp only[Option.bind_some,g_unicode_utf8_RuneCountInString]
 cases gv s
 ·rfl
 ·simp only[if_true]
  rw[if_pos (show s.length < 9223372036854775807 by omega),rcL];rfl
theorem chL_le(s:List UInt8)(h:s.length≤1048576):-1≤chL s∧chL s≤1048576:=by
 unfold chL
 have:=rnL_len _ s (Nat.le_refl _)
 split<;>omega
theorem chL_pos{s:List UInt8}(h:gv s=true)(hn:s≠[]):1≤chL s:=by
 unfold chL
 rw[if_pos h,rnL_ne hn,List.length_cons]
 omega
def upP (a b:Int):Int:=Int.tdiv (a+b - 1) b
theorem upP_ge{a b:Int}(ha:1≤a)(hb:1≤b):1≤upP a b∧upP a b≤a:=by
 unfold upP
 rw[Int.tdiv_eq_ediv_of_nonneg (by omega)]
 constructor
 ·exact(Int.le_ediv_iff_mul_le (by omega)).2 (by omega)
 ·have:(a+b - 1) / b < a+1:=by
   refine Int.ediv_lt_of_lt_mul (by omega) ?_
   have:(a+1) * b=a * b+b:=by rw[Int.add_mul,Int.one_mul]
   have h2:a * 1≤a * b:=Int.mul_le_mul_of_nonneg_left hb (by omega)
   omega
  omega
def aimS (t w:Int):Int × Int:=if wiB t 1 10000&&wiB w 1 32 then(upP t (upP t w),0) else(0,2)
theorem pwithin(n lo hi:Int):g_penalty_within n lo hi=some (wiB n lo hi):=by
 unfold g_penalty_within wiB
 cases decide (lo≤n)<;>simp
theorem aim_prog(t w:Int):g_penalty_Aim t w=some (aimS t w):=by
 unfold g_penalty_Aim aimS wiB g_penalty_up
 by_cases h1:t < 1
 ·simp[h1,show ¬ 1≤t from by omega]
 by_cases h2:10000 < t
 ·simp[h1,h2,show ¬ t≤10000 from by omega]
 by_cases h3:w < 1
 ·simp[h1,h2,h3,show ¬ 1≤w from by omega]
 by_cases h4:32 < w
 ·simp[h1,h2,h3,h4,show ¬ w≤32 from by omega]
 obtain⟨a1,a2⟩:=upP_ge (a:=t) (b:=w) (by omega) (by omega)
 obtain⟨b1,b2⟩:=upP_ge (a:=t) (b:=upP t w) (by omega) a1
 have e1:IntKind.i64.wrap (Int.tdiv (IntKind.i64.wrap (IntKind.i64.wrap (t+w) - 1)) w)=upP t w:=by
  rw[wr64 (x:=t+w) (by omega),wr64 (x:=t+w - 1) (by omega)]
  exact wr64 (by unfold upP at a1 a2;omega)
 have e2:IntKind.i64.wrap (Int.tdiv (IntKind.i64.wrap (IntKind.i64.wrap (t+upP t w) - 1)) (upP t w))=upP t (upP t w):=by
  rw[wr64 (x:=t+upP t w) (by omega),wr64 (x:=t+upP t w - 1) (by omega)]
  exact wr64 (by unfold upP at b1 b2 ⊢;omega)
 have q1:¬ w=0:=by omega
 have q2:¬ upP t w=0:=by omega
 simp only[h1,h2,h3,h4,decide_false,Bool.false_eq_true,if_false,Option.bind_some,q1,not_false_eq_true,if_true,e1,q2,e2,show 1≤t from by omega,show t≤10000 from by omega,show 1≤w from by omega,show w≤32 from by omega,decide_true,Bool.and_self]
def abD (a b:Int):Int:=if a - b < 0 then b - a else a - b
def stAt (t:T_api_Penalties)(k:Int):Int:=if k=0 then t.Strength.a0 else if k=1 then t.Strength.a1 else if k=2 then t.Strength.a2 else if k=3 then t.Strength.a3 else if k=4 then t.Strength.a4 else if k=5 then t.Strength.a5 else 0
theorem stAt_le{t:T_api_Penalties}(h:pcS t=0)(k:Int):0≤stAt t k∧stAt t k≤1000000:=by
 have:=pcS_0 h
 unfold stAt
 split
 ·omega
 split
 ·omega
 split
 ·omega
 split
 ·omega
 split
 ·omega
 split
 ·omega
 ·omega
def rowS (t:T_api_Penalties)(aim len str:Int):Int × Int:=if pcS t≠0 then(0,pcS t) else if wiB aim 1 32&&(wiB len 1 32&&wiB str (-1) 5) then(t.Row+t.Ragged * abD aim len+stAt t str,0) else(0,2)
theorem row_arith{t:T_api_Penalties}(h:pcS t=0){a b:Int}(ha:1≤a∧a≤32)(hb:1≤b∧b≤32):0≤t.Ragged * abD a b∧t.Ragged * abD a b≤31000000∧0≤abD a b∧abD a b≤31:=by
 have hp:=pcS_0 h
 have h0:0≤abD a b∧abD a b≤31:=by unfold abD;split<;>omega
 have h1:0≤t.Ragged * abD a b:=Int.mul_nonneg (by omega) h0.1
 have h2:t.Ragged * abD a b≤1000000 * abD a b:=Int.mul_le_mul_of_nonneg_right (by omega) h0.1
 omega
theorem rowS_le(t:T_api_Penalties)(aim len str:Int):0≤(rowS t aim len str).1∧(rowS t aim len str).1≤33000000:=by
 unfold rowS
 split
 ·simp
 ·rename_i h
  split
  ·rename_i h2
   simp only[Bool.and_eq_true] at h2
   have hp:=pcS_0 (by omega:pcS t=0)
   have:=row_arith (by omega:pcS t=0) (wiB_t h2.1) (wiB_t h2.2.1)
   have:=stAt_le (by omega:pcS t=0) str
   dsimp only
   omega
  ·simp
theorem row_prog(t:T_api_Penalties)(aim len str:Int):g_penalty_Row t aim len str=some (rowS t aim len str):=by
 unfold g_penalty_Row rowS
 rw[pen_Check,pwithin,pwithin,pwithin]
 simp only[Option.bind_some]
 by_cases h:pcS t=0
 rotate_left
 ·simp[h]
 rw[if_neg (show ¬ (pcS t != 0)=true by simpa using h),if_neg (show ¬ pcS t≠0 by omega)]
 cases h1:wiB aim 1 32
 ·rfl
 cases h2:wiB len 1 32
 ·rfl
 cases h3:wiB str (-1) 5
 ·rfl
 have h1:=wiB_t h1
 have h2:=wiB_t h2
 have h3:=wiB_t h3
 have hp:=pcS_0 h
 obtain⟨m1,m2,m3,m4⟩:=row_arith h h1 h2
 have e0:(if IntKind.i64.wrap (len - aim) > IntKind.i64.wrap (aim - len) then IntKind.i64.wrap (len - aim) else IntKind.i64.wrap (aim - len))=abD aim len:=by
  rw[wr64 (by omega),wr64 (by omega)]
  unfold abD
  split<;>split<;>omega
 simp only[if_true,Bool.not_true,Bool.false_eq_true,if_false,Option.bind_some,Bool.and_self,e0]
 have w1:=wr64 (x:=t.Ragged * abD aim len) (by omega)
 have w2:=wr64 (x:=t.Row+t.Ragged * abD aim len) (by omega)
 rw[w1,w2]
 have hzb:0≤t.Row+t.Ragged * abD aim len∧t.Row+t.Ragged * abD aim len≤32000000:=by omega
 generalize t.Row+t.Ragged * abD aim len=z at *
 have hz:∀ k,0≤k→k≤1000000→IntKind.i64.wrap (z+k)=z+k:=fun k _ _=>wr64 (by omega)
 have w3:=hz t.Strength.a0 (by omega) (by omega)
 have w4:=hz t.Strength.a1 (by omega) (by omega)
 have w5:=hz t.Strength.a2 (by omega) (by omega)
 have w6:=hz t.Strength.a3 (by omega) (by omega)
 have w7:=hz t.Strength.a4 (by omega) (by omega)
 have w8:=hz t.Strength.a5 (by omega) (by omega)
 rw[w3,w4,w5,w6,w7,w8]
 have hs:str=-1∨str=0∨str=1∨str=2∨str=3∨str=4∨str=5:=by omega
 rcases hs with rfl|rfl|rfl|rfl|rfl|rfl|rfl<;>simp[stAt]
structure Pok(p:T_api_Paragraph):Prop where
 toks:p.Tokens.length≤16
 texts:∀ t ∈ p.Tokens,t.Text.length≤1048576
def ckTk (t:T_api_Token):Int:=if t.Text=[]∨hasSp t.Text=true then 4 else if gv t.Text=false then 10 else if t.Strength < 0∨5 < t.Strength then 2 else 0
def ckTks:List T_api_Token→Int
 | []=>0
 | t::l=>if ckTk t≠0 then ckTk t else ckTks l
theorem toks_prog(l:List T_api_Token)(hl:l.length≤16)(h:∀ t ∈ l,t.Text.length≤1048576):g_token_Check l=some (ckTks l):=by
 unfold g_token_Check
 rw[if_neg (by simp;omega)]
 have key:=iter_idx (step:=g_token_Check_s1 l) l.length (by omega) (fun i=>if ckTks (l.drop i)=0 then .inr () else .inl (ckTks (l.drop i))) (fun i hi=>?_) ?_
 ·rw[List.drop_zero] at key
  rw[key]
  simp only[Option.bind_some]
  split
  ·rename_i e he;split at he<;>cases he;rfl
  ·rename_i e he;split at he
   ·rename_i h0;rw[h0]
   ·cases he
 ·have ht:=h _ (List.getElem_mem hi)
  unfold g_token_Check_s1
  rw[if_pos (by simpa using hi),atI_nat hi,List.drop_eq_getElem_cons hi,wr64 (by omega)]
  simp only[Option.bind_some,cont_eq,prog_Valid_eq _ (show l[i].Text.length≤140737488355328 by omega),ckTks]
  generalize l[i]=t
  unfold ckTk
  by_cases h1:t.Text=[]
  ·right;simp[h1]
  ·have hb:(t.Text == ([]:List UInt8))=false:=by simpa using h1
   simp only[hb,Bool.false_eq_true,if_false,Option.bind_some,h1,false_or]
   cases hasSp t.Text
   ·cases gv t.Text
    ·right;simp
    ·by_cases h2:t.Strength < 0
     ·right;simp[h2]
     ·by_cases h3:5 < t.Strength
      ·right;simp[h2,h3]
      ·left;simp[h2,h3]
   ·right;simp
 ·unfold g_token_Check_s1
  rw[if_neg (by simp)]
  simp[ckTks]
def ckP (p:T_api_Paragraph):Int:=if ckTks p.Tokens≠0 then ckTks p.Tokens else if p.Tokens=[] then 6 else if p.Width < 1∨32 < p.Width∨p.Rows < 1∨4 < p.Rows then 2 else pcS p.Table
theorem opt4(p:T_api_Paragraph):(if(decide (p.Width < 1)) then(some true) else(if(decide (32 < p.Width)) then(some true) else(if(decide (p.Rows < 1)) then(some true) else(some (decide (4 < p.Rows))))):Option Bool)=some (decide (p.Width < 1∨32 < p.Width∨p.Rows < 1∨4 < p.Rows)):=by
 by_cases h1:p.Width < 1
 ·simp[h1]
 by_cases h2:32 < p.Width
 ·simp[h1,h2]
 by_cases h3:p.Rows < 1
 ·simp[h1,h2,h3]
 ·simp[h1,h2,h3]
theorem par_prog{p:T_api_Paragraph}(h:Pok p):g_rowbreak_Check p=some (ckP p):=by
 unfold g_rowbreak_Check ckP
 rw[toks_prog _ h.toks h.texts,opt4,pen_Check]
 simp only[Option.bind_some]
 by_cases h1:ckTks p.Tokens=0
 ·simp only[h1,bne_self_eq_false,Bool.false_eq_true,if_false,ne_eq,not_true]
  by_cases h2:p.Tokens=[]
  ·simp[h2]
  ·have:((p.Tokens.length:Int) == 0)=false:=by
    have:=List.length_pos_iff.2 h2
    simpa using(by omega:¬ (p.Tokens.length:Int)=0)
   simp only[this,Bool.false_eq_true,if_false,h2]
   by_cases h3:p.Width < 1∨32 < p.Width∨p.Rows < 1∨4 < p.Rows<;>simp[h3]
 ·simp[h1]
theorem ckTks_0:∀ {l:List T_api_Token},ckTks l=0→∀ t ∈ l,t.Text≠[]∧gv t.Text=true∧0≤t.Strength∧t.Strength≤5
 | [],_,t,ht=>by cases ht
 | u::l,h,t,ht=>by
  unfold ckTks at h
  by_cases hu:ckTk u=0
  ·rw[if_neg (by omega)] at h
   rcases List.mem_cons.1 ht with rfl|ht
   ·unfold ckTk at hu
    by_cases h1:t.Text=[]∨hasSp t.Text=true
    ·rw[if_pos h1] at hu;cases hu
    ·rw[if_neg h1] at hu
     by_cases h2:gv t.Text=false
     ·rw[if_pos h2] at hu;cases hu
     ·rw[if_neg h2] at hu
      by_cases h3:t.Strength < 0∨5 < t.Strength
      ·rw[if_pos h3] at hu;cases hu
      ·exact⟨fun e=>h1 (.inl e),by simpa using h2,by omega,by omega⟩
   ·exact ckTks_0 h t ht
  ·rw[if_pos hu] at h;exact absurd h hu
structure Pv(p:T_api_Paragraph):Prop where
 ok:Pok p
 ne:p.Tokens≠[]
 tok:∀ t ∈ p.Tokens,t.Text≠[]∧gv t.Text=true∧0≤t.Strength∧t.Strength≤5
 width:1≤p.Width∧p.Width≤32
 rows:1≤p.Rows∧p.Rows≤4
 table:pcS p.Table=0
theorem ckP_0{p:T_api_Paragraph}(h:Pok p)(h0:ckP p=0):Pv p:=by
 unfold ckP at h0
 by_cases h1:ckTks p.Tokens=0
 ·rw[if_neg (by omega)] at h0
  by_cases h2:p.Tokens=[]
  ·rw[if_pos h2] at h0;cases h0
  ·rw[if_neg h2] at h0
   by_cases h3:p.Width < 1∨32 < p.Width∨p.Rows < 1∨4 < p.Rows
   ·rw[if_pos h3] at h0;cases h0
   ·rw[if_neg h3] at h0
    exact⟨h,h2,ckTks_0 h1,by omega,by omega,h0⟩
 ·rw[if_pos h1] at h0;exact absurd h0 h1
def tlen (p:T_api_Paragraph)(k:Nat):Int:=chL (p.Tokens[k]?.getD ⟨[],0⟩).Text
def smP (p:T_api_Paragraph):Nat→Int
 | 0=>0
 | k+1=>smP p k+tlen p k
def lnP (p:T_api_Paragraph)(i j:Nat):Int:=smP p j - smP p i+j - i - 1
theorem tlen_at(p:T_api_Paragraph){k:Nat}(h:k < p.Tokens.length):tlen p k=chL p.Tokens[k].Text:=by simp[tlen,h]
theorem tlen_le{p:T_api_Paragraph}(h:Pok p){k:Nat}(hk:k < p.Tokens.length):-1≤tlen p k∧tlen p k≤1048576:=by
 rw[tlen_at p hk];exact chL_le _ (h.texts _ (List.getElem_mem hk))
theorem smP_le{p:T_api_Paragraph}(h:Pok p):∀ {k:Nat},k≤p.Tokens.length→-(k:Int)≤smP p k∧smP p k≤(k:Int) * 1048576
 | 0,_=>by simp[smP]
 | k+1,hk=>by
  have:=smP_le h (k:=k) (by omega)
  have:=tlen_le h (k:=k) (by omega)
  unfold smP
  omega
theorem smP_b{p:T_api_Paragraph}(h:Pok p){k:Nat}(hk:k≤p.Tokens.length):-16≤smP p k∧smP p k≤16777216:=by
 have:=smP_le h hk
 have:=h.toks
 omega
theorem tlen_pos{p:T_api_Paragraph}(h:Pv p){k:Nat}(hk:k < p.Tokens.length):1≤tlen p k:=by
 rw[tlen_at p hk]
 have:=h.tok _ (List.getElem_mem hk)
 exact chL_pos this.2.1 this.1
theorem smP_lt{p : T_api_Paragraph}(h : Pv p){i : Nat} : ∀ {j : Nat}, i ≤ j → j ≤ p.Tokens.length → smP p i + ((j : Int) - i) ≤ smP p j
  | 0, hij, _ => by obtain rfl : i = 0 := by omega
                    simp
  | j + 1, hij, hj => by
    by_cases e : i = j + 1
    · subst e; omega
    · have := smP_lt h (i := i) (j := j) (by omega) (by omega)
      have := tlen_pos h (k := j) (by omega)
      rw [show smP p (j + 1) = smP p j + tlen p j from rfl]
      omega
def fitP (p:T_api_Paragraph)(i j:Nat):Bool:=decide (lnP p i j≤p.Width)
theorem fit_mono{p:T_api_Paragraph}(h:Pv p){i j k:Nat}(hij:i < j)(hjk:j≤k)(hk:k≤p.Tokens.length)(hf:fitP p i j=false):fitP p i k=false:=by
 have:=smP_lt h hjk hk
 unfold fitP lnP at *
 simp only[decide_eq_false_iff_not] at *
 omega
def aimP (p:T_api_Paragraph):Int:=(aimS (lnP p 0 p.Tokens.length) p.Width).1
def strP (p:T_api_Paragraph)(j:Nat):Int:=if j < p.Tokens.length then(p.Tokens[j - 1]?.getD ⟨[],0⟩).Strength else -1
def cPr (p:T_api_Paragraph)(i j:Nat):Int:=(rowS p.Table (aimP p) (lnP p i j) (strP p j)).1
theorem cPr_le(p:T_api_Paragraph)(i j:Nat):0≤cPr p i j∧cPr p i j≤33000000:=rowS_le _ _ _ _
def shP (p:T_api_Paragraph)(a:Int):T_rowbreak_sheet:=⟨p,(List.range (p.Tokens.length+1)).map (smP p),a⟩
theorem shP_at(p:T_api_Paragraph){k:Nat}(hk:k≤p.Tokens.length):atI ((List.range (p.Tokens.length+1)).map (smP p)) (k:Int)=some (smP p k):=by
 rw[atI_nat (by simp;omega)]
 simp
theorem length_eq{p:T_api_Paragraph}(h:Pok p)(a:Int){i j:Nat}(hi:i≤p.Tokens.length)(hj:j≤p.Tokens.length):g_rowbreak_sheet_length (shP p a) (i:Int) (j:Int)=some (lnP p i j):=by
 unfold g_rowbreak_sheet_length shP
 dsimp only
 rw[shP_at p hj,shP_at p hi]
 have h1:=smP_b h hi
 have h2:=smP_b h hj
 have:=h.toks
 simp only[Option.bind_some]
 rw[wr64 (x:=smP p j - smP p i) (by omega),wr64 (x:=smP p j - smP p i+j) (by omega),wr64 (x:=smP p j - smP p i+j - i) (by omega),wr64 (x:=smP p j - smP p i+j - i - 1) (by omega)]
 rfl
theorem fits_eq{p:T_api_Paragraph}(h:Pok p)(a:Int){i j:Nat}(hi:i≤p.Tokens.length)(hj:j≤p.Tokens.length):g_rowbreak_sheet_fits (shP p a) (i:Int) (j:Int)=some (fitP p i j):=by
 unfold g_rowbreak_sheet_fits
 rw[length_eq h a hi hj]
 rfl
theorem cost_eq{p:T_api_Paragraph}(h:Pok p){i j:Nat}(hi:i < j)(hj:j≤p.Tokens.length):g_rowbreak_sheet_cost (shP p (aimP p)) (i:Int) (j:Int)=some (cPr p i j):=by
 unfold g_rowbreak_sheet_cost g_rowbreak_sheet_n
 rw[length_eq h _ (by omega) hj]
 have:=h.toks
 simp only[Option.bind_some,row_prog]
 have e:(shP p (aimP p)).p_=p:=rfl
 have e2:(shP p (aimP p)).aim_=aimP p:=rfl
 rw[e,e2]
 unfold cPr strP
 by_cases h1:j < p.Tokens.length
 ·rw[if_pos (by simpa using h1),if_pos h1,wr64 (by omega),show((j:Int) - 1)=((j - 1:Nat):Int) by omega,atI_nat (show j - 1 < p.Tokens.length by omega)]
  simp[show j - 1 < p.Tokens.length by omega]
 ·rw[if_neg (by simpa using h1),if_neg h1]
theorem open_eq{p:T_api_Paragraph}(h:Pok p):g_rowbreak_open p=some (shP p (aimP p)):=by
 unfold g_rowbreak_open
 have hn:=h.toks
 have key:iter (g_rowbreak_open_s1 p) (0,[0])=some ((List.range (p.Tokens.length+1)).map (smP p)):=by
  refine iter_of (fun x e=>∃ i:Nat,x.1=(i:Int)∧i≤p.Tokens.length∧x.2=(List.range (i+1)).map (smP p)∧e=(List.range (p.Tokens.length+1)).map (smP p)) (fun x=>p.Tokens.length - x.1.toNat) ?_ (x:=(0,[0])) ⟨0,rfl,by omega,rfl,rfl⟩ (by show p.Tokens.length - 0 < _;omega)
  rintro⟨x,m⟩ e ⟨i,hx,hi,hm,rfl⟩
  dsimp only at hx hm ⊢
  subst hx hm
  unfold g_rowbreak_open_s1
  dsimp only
  by_cases hlt:i < p.Tokens.length
  ·left
   rw[if_pos (by simpa using hlt),atI_nat hlt,atI_nat (show i < ((List.range (i+1)).map (smP p)).length by simp)]
   simp only[Option.bind_some]
   rw[len_prog _ (h.texts _ (List.getElem_mem hlt))]
   have b1:=smP_b h (k:=i) (by omega)
   have b2:=tlen_le h hlt
   simp only[Option.bind_some,List.length_map,List.length_range,List.getElem_map,List.getElem_range]
   rw[if_pos (by omega),wr64 (x:=(i:Int)+1) (by omega),← tlen_at p hlt,wr64 (x:=smP p i+tlen p i) (by omega)]
   refine⟨_,rfl,⟨i+1,rfl,by omega,?_,by first|rfl|trivial⟩,by dsimp only;omega⟩
   dsimp only
   rw[show List.range (i+1+1)=List.range (i+1)++[i+1] from List.range_succ,List.map_append];rfl
  ·right
   obtain rfl:i=p.Tokens.length:=by omega
   rw[if_neg (by simp)]
 rw[key]
 simp only[Option.bind_some,g_rowbreak_sheet_n]
 have e:(T_rowbreak_sheet.mk p ((List.range (p.Tokens.length+1)).map (smP p)) 0)=shP p 0:=rfl
 rw[e]
 have:=length_eq h 0 (i:=0) (j:=p.Tokens.length) (by omega) (by omega)
 simp only[Int.natCast_zero] at this
 rw[this]
 simp only[Option.bind_some,aim_prog]
 rfl
theorem pth_bd{n:Nat}{fit:Nat→Nat→Bool}{c:Nat→Nat→Int}{K:Int}(hc:∀ i j,0≤c i j∧c i j≤K):∀ {r i:Nat} {x:Int},Pth n fit c r i x→0≤x∧x≤(r:Int) * K:=by
 intro r i x h
 induction h with
 | nil=>simp
 | @cons r i j x _ _ _ _ ih =>
  have:=hc i j
  have e:((r+1:Nat):Int) * K=(r:Int) * K+K:=by rw[Int.natCast_add,Int.add_mul];omega
  omega
abbrev PP(p:T_api_Paragraph):=Pth p.Tokens.length (fitP p) (cPr p)
abbrev PA(p:T_api_Paragraph):=AtM p.Tokens.length (fitP p) (cPr p)
theorem pp_bd{p:T_api_Paragraph}{r i:Nat}{x:Int}(h:PP p r i x):0≤x∧x≤(r:Int) * 33000000:=pth_bd (cPr_le p) h
theorem lst_bd{p:T_api_Paragraph}{r i:Nat}{v:Int}(hr:r≤8)(h:Lst (PP p r i) v):-1≤v∧v≤264000000:=by
 by_cases hv:v=-1
 ·omega
 ·have h1:=h.mem hv
  have h2:=pp_bd h1.2.1
  omega
theorem lstA_bd{p:T_api_Paragraph}{r i:Nat}{v:Int}(hr:r≤8)(h:Lst (PA p r i) v):-1≤v∧v≤264000000:=by
 by_cases hv:v=-1
 ·omega
 ·obtain⟨h1,⟨s,hs,h2⟩,_⟩:=h.mem hv
  have h2:=pp_bd h2
  omega
def RowOK(p:T_api_Paragraph)(r:Nat)(row:List Int):Prop:=row.length=p.Tokens.length+1∧∀ i,i≤p.Tokens.length→∃ v,row[i]? = some v∧Lst (PP p r i) v
theorem getI{α:Type}{l:List α}{i:Nat}{v:α}(h:l[i]? = some v):atI l (i:Int)=some v:=by
 obtain⟨h1,h2⟩:=List.getElem?_eq_some_iff.1 h
 rw[atI_nat h1,h2]
theorem ex_inner{p:T_api_Paragraph}(hv:Pv p){r i:Nat}(hr:1≤r)(hr4:r≤8)(hi:i≤p.Tokens.length){m:List (List Int)}{prev row z:List Int}(hm:m[r - 1]? = some prev)(hp:RowOK p (r - 1) prev)(hrow:row.length=p.Tokens.length+1) :
  ∃ e,iter (g_rowbreak_sheet_exact_s3 (shP p (aimP p)) (p.Tokens.length:Int) ((r:Int),m) ((i:Int),z)) ((i:Int)+1,row.set i (-1))=some e∧∃ v,e=row.set i v∧Lst (PP p r i) v:=by
 have hn:=hv.ok.toks
 refine iter_post (fun x=>∃ (J:Nat) (v:Int),x.1=(J:Int)∧i < J∧J≤p.Tokens.length+1∧x.2=row.set i v∧Lst (Cand (fitP p) (cPr p) (PP p (r - 1)) i J) v∧-1≤v∧v≤264000000) (fun x=>p.Tokens.length+1 - x.1.toNat) (fun e=>∃ v,e=row.set i v∧Lst (PP p r i) v) ⟨i+1,-1,rfl,by omega,by omega,rfl,cand_start _ _,by omega,by omega⟩ (by show p.Tokens.length+1 - _ < _;omega) ?_
 rintro⟨x,rw'⟩ ⟨J,v,hx,hiJ,hJ,hrw,hL,hb1,hb2⟩
 dsimp only at hx hrw ⊢
 subst hx hrw
 unfold g_rowbreak_sheet_exact_s3
 dsimp only
 have hfin:(J≤p.Tokens.length→fitP p i J=false)→∃ e,some (Nx.out (row.set i v):Nx (Int × List Int) (List Int))=some (.out e)∧∃ v,e=row.set i v∧Lst (PP p r i) v:=fun hf=>by
  refine⟨_,rfl,v,rfl,?_⟩
  have:=cand_end (n:=p.Tokens.length) hJ (fun hle k hk1 hk2=>fit_mono hv hiJ hk1 hk2 (hf hle)) hL
  obtain⟨r',rfl⟩:∃ r',r=r'+1:=⟨r - 1,by omega⟩
  exact this.congr fun x=>pth_succ.symm
 by_cases hle:J≤p.Tokens.length
 ·rw[if_pos (show decide ((J:Int)≤(p.Tokens.length:Int))=true by simpa using hle),fits_eq hv.ok _ hi hle]
  simp only[Option.bind_some]
  cases hf:fitP p i J
  ·right
   exact hfin fun _=>hf
  ·left
   simp only[if_true]
   rw[wr64 (x:=(r:Int) - 1) (by omega),show((r:Int) - 1)=((r - 1:Nat):Int) by omega,getI hm]
   simp only[Option.bind_some]
   rw[if_pos (by omega)]
   obtain⟨w,hw,hLw⟩:=hp.2 J hle
   have hwb:=lst_bd (by omega) hLw
   rw[getI hw,wr64 (x:=(J:Int)+1) (by omega)]
   simp only[Option.bind_some]
   have hstep:=cand_step hiJ hf (cPr_le p i J).1 hL hLw
   by_cases h1:w=-1
   ·rw[if_pos (by simpa using h1)]
    rw[if_pos h1] at hstep
    exact⟨_,rfl,⟨J+1,v,rfl,by omega,by omega,rfl,hstep,hb1,hb2⟩,by dsimp only;omega⟩
   ·rw[if_neg (by simpa using h1),cost_eq hv.ok hiJ hle]
    rw[if_neg h1] at hstep
    simp only[Option.bind_some]
    have hat:(row.set i v)[i]? = some v:=by rw[List.getElem?_set,if_pos rfl,if_pos (by omega)]
    have hc:=cPr_le p i J
    have hps:=hLw.mem h1
    have hpb:=pp_bd hps.2.1
    rw[getI hat,wr64 (x:=cPr p i J+w) (by omega)]
    simp only[Option.bind_some]
    have hcw:cPr p i J+w≤264000000:=by
     have:((r - 1:Nat):Int)≤7:=by omega
     omega
    by_cases h2:v=-1∨cPr p i J+w < v
    ·rw[if_pos h2] at hstep
     have hcond:(if(v == -1)=true then some true else some (decide (cPr p i J+w < v)):Option Bool)=some true:=by
      rcases h2 with h2|h2
      ·simp[h2]
      ·simp[h2]
     rw[hcond]
     simp only[Option.bind_some,if_true]
     rw[setI_nat _ (by rw[List.length_set];omega),List.set_set]
     exact⟨_,rfl,⟨J+1,cPr p i J+w,rfl,by omega,by omega,rfl,hstep,by omega,hcw⟩,by dsimp only;omega⟩
    ·rw[if_neg h2] at hstep
     have hcond:(if(v == -1)=true then some true else some (decide (cPr p i J+w < v)):Option Bool)=some false:=by
      have a1:¬ v=-1:=fun e=>h2 (.inl e)
      have a2:¬ cPr p i J+w < v:=fun e=>h2 (.inr e)
      simp[a1,a2]
     rw[hcond]
     simp only[Option.bind_some,Bool.false_eq_true,if_false]
     exact⟨_,rfl,⟨J+1,v,rfl,by omega,by omega,rfl,hstep,hb1,hb2⟩,by dsimp only;omega⟩
 ·right
  rw[if_neg (by simpa using hle)]
  simp only[Option.bind_some,Bool.false_eq_true,if_false]
  exact hfin fun h=>absurd h hle
theorem ex_row{p:T_api_Paragraph}(hv:Pv p){r:Nat}(hr:1≤r)(hr4:r≤8){m:List (List Int)}{prev m0:List Int}(hm:m[r - 1]? = some prev)(hp:RowOK p (r - 1) prev)(h0:m0.length=p.Tokens.length+1) :
  ∃ e,iter (g_rowbreak_sheet_exact_s2 (shP p (aimP p)) (p.Tokens.length:Int) ((r:Int),m) m0) (0,m0)=some e∧RowOK p r e:=by
 have hn:=hv.ok.toks
 refine iter_post (fun x=>∃ i:Nat,x.1=(i:Int)∧i≤p.Tokens.length+1∧x.2.length=p.Tokens.length+1∧∀ k,k < i→∃ v,x.2[k]? = some v∧Lst (PP p r k) v) (fun x=>p.Tokens.length+1 - x.1.toNat) (RowOK p r) (x:=(0,m0)) ⟨0,rfl,by omega,h0,fun k hk=>by omega⟩ (by show p.Tokens.length+1 - _ < _;omega) ?_
 rintro⟨x,row⟩ ⟨i,hx,hi,hl,hk⟩
 dsimp only at hx hl hk ⊢
 subst hx
 unfold g_rowbreak_sheet_exact_s2
 dsimp only
 rw[h0]
 by_cases hlt:i≤p.Tokens.length
 ·left
  rw[if_pos (by simp;omega),atI_nat (by omega),setI_nat _ (by omega)]
  simp only[Option.bind_some]
  rw[if_neg (by simp;omega),wr64 (x:=(i:Int)+1) (by omega)]
  obtain⟨e,he,v,rfl,hL⟩:=ex_inner hv hr hr4 hlt (z:=row) hm hp hl
  rw[he]
  refine⟨_,rfl,⟨i+1,rfl,by omega,by rw[List.length_set];exact hl,fun k hk2=>?_⟩,by dsimp only;omega⟩
  by_cases e:k=i
  ·subst e
   exact⟨v,by rw[List.getElem?_set,if_pos rfl,if_pos (by omega)],hL⟩
  ·obtain⟨w,hw,hLw⟩:=hk k (by omega)
   exact⟨w,by rw[List.getElem?_set,if_neg (by omega)];exact hw,hLw⟩
 ·right
  rw[if_neg (by simp;omega)]
  exact⟨_,rfl,hl,fun k hk2=>hk k (by omega)⟩
theorem ex_row0{p:T_api_Paragraph}(hv:Pv p){m:List (List Int)}{m0:List Int}(h0:m0.length=p.Tokens.length+1) :
  ∃ e,iter (g_rowbreak_sheet_exact_s2 (shP p (aimP p)) (p.Tokens.length:Int) (0,m) m0) (0,m0)=some e∧e.length=p.Tokens.length+1∧∀ k,k≤p.Tokens.length→e[k]? = some (-1):=by
 have hn:=hv.ok.toks
 refine iter_post (fun x=>∃ i:Nat,x.1=(i:Int)∧i≤p.Tokens.length+1∧x.2.length=p.Tokens.length+1∧∀ k,k < i→x.2[k]? = some (-1)) (fun x=>p.Tokens.length+1 - x.1.toNat) (fun(e:List Int)=>e.length=p.Tokens.length+1∧∀ k,k≤p.Tokens.length→e[k]? = some (-1)) (x:=(0,m0)) ⟨0,rfl,by omega,h0,fun k hk=>by omega⟩ (by show p.Tokens.length+1 - _ < _;omega) ?_
 rintro⟨x,row⟩ ⟨i,hx,hi,hl,hk⟩
 dsimp only at hx hl hk ⊢
 subst hx
 unfold g_rowbreak_sheet_exact_s2
 dsimp only
 rw[h0]
 by_cases hlt:i≤p.Tokens.length
 ·left
  rw[if_pos (by simp;omega),atI_nat (by omega),setI_nat _ (by omega)]
  simp only[Option.bind_some]
  rw[if_pos (by rfl),wr64 (x:=(i:Int)+1) (by omega)]
  refine⟨_,rfl,⟨i+1,rfl,by omega,by rw[List.length_set];exact hl,fun k hk2=>?_⟩,by dsimp only;omega⟩
  by_cases e:k=i
  ·subst e
   rw[List.getElem?_set,if_pos rfl,if_pos (by omega)]
  ·rw[List.getElem?_set,if_neg (by omega)]
   exact hk k (by omega)
 ·right
  rw[if_neg (by simp;omega)]
  exact⟨_,rfl,hl,fun k hk2=>hk k (by omega)⟩
def TabOK(p:T_api_Paragraph)(R:Nat)(f:List (List Int)):Prop:=f.length=R+1∧∀ r,r≤R→∃ row,f[r]? = some row∧RowOK p r row
theorem exact_key{p:T_api_Paragraph}(hv:Pv p){R:Nat}(hrw:R≤4):∃ f,iter (g_rowbreak_sheet_exact_s1 (shP p (aimP p)) (p.Tokens.length:Int) (List.replicate (R+1) ([]:List Int))) (0,List.replicate (R+1) ([]:List Int))=some f∧TabOK p R f:=by
 have hn:=hv.ok.toks
 refine iter_post (fun x=>∃ r:Nat,x.1=(r:Int)∧r≤R+1∧x.2.length=R+1∧∀ k,k < r→∃ row,x.2[k]? = some row∧RowOK p k row) (fun x=>R+1 - x.1.toNat) (TabOK p R) (x:=(0,_)) ⟨0,rfl,by omega,by simp,fun k hk=>by omega⟩ (by show R+1 - _ < _;omega) ?_
 rintro⟨x,m⟩ ⟨r,hx,hr,hl,hk⟩
 dsimp only at hx hl hk ⊢
 subst hx
 unfold g_rowbreak_sheet_exact_s1
 dsimp only
 by_cases hlt:r≤R
 ·left
  rw[if_pos (by simp;omega),wr64 (x:=(p.Tokens.length:Int)+1) (by omega),show((p.Tokens.length:Int)+1)=((p.Tokens.length+1:Nat):Int) by omega,mkI_nat 8 (p.Tokens.length+1) _ (by omega) (by omega)]
  simp only[Option.bind_some]
  rw[atI_nat (show r < m.length by omega)]
  simp only[Option.bind_some]
  have hset:∀ row,RowOK p r row→(∃ r':Nat,((r:Int)+1)=(r':Int)∧r'≤R+1∧(m.set (r:Int).toNat row).length=R+1∧∀ k,k < r'→∃ row',(m.set (r:Int).toNat row)[k]? = some row'∧RowOK p k row'):=fun row hrow=>by
   refine⟨r+1,by omega,by omega,by rw[List.length_set];exact hl,fun k hk2=>?_⟩
   rw[Int.toNat_natCast]
   by_cases e:k=r
   ·subst e
    exact⟨row,by rw[List.getElem?_set,if_pos rfl,if_pos (by omega)],hrow⟩
   ·obtain⟨w,hw,hLw⟩:=hk k (by omega)
    exact⟨w,by rw[List.getElem?_set,if_neg (by omega)];exact hw,hLw⟩
  have hzl:(List.replicate (p.Tokens.length+1) (0:Int)).length=p.Tokens.length+1:=by simp
  rw[wr64 (x:=(r:Int)+1) (by omega)]
  by_cases hr0:r=0
  ·subst hr0
   obtain⟨e,he,hel,hall⟩:=ex_row0 hv (m:=m) hzl
   simp only[Int.natCast_zero] at hset ⊢
   rw[he]
   simp only[Option.bind_some,beq_self_eq_true,if_true]
   have a0:=atI_nat (l:=m) (n:=0) (by omega)
   simp only[Int.natCast_zero] at a0
   rw[a0]
   simp only[Option.bind_some]
   rw[atI_nat (show p.Tokens.length < e.length by omega),setI_nat _ (by omega)]
   simp only[Option.bind_some]
   refine⟨_,rfl,hset _ ⟨by rw[List.length_set];exact hel,fun i hi=>?_⟩,by dsimp only;omega⟩
   by_cases e2:i=p.Tokens.length
   ·subst e2
    exact⟨0,by rw[List.getElem?_set,if_pos rfl,if_pos (by omega)],.inr ⟨by omega,.nil,fun x hx=>by rw[(pth_zero.1 hx).2];omega⟩⟩
   ·exact⟨-1,by rw[List.getElem?_set,if_neg (by omega)];exact hall i hi,.inl ⟨rfl,fun x hx=>e2 (pth_zero.1 hx).1⟩⟩
  ·obtain⟨prev,hpv,hpr⟩:=hk (r - 1) (by omega)
   obtain⟨e,he,hel⟩:=ex_row hv (r:=r) (by omega) (by omega) hpv hpr hzl
   rw[he]
   simp only[Option.bind_some]
   rw[if_neg (by simp;omega)]
   exact⟨_,rfl,hset _ hel,by dsimp only;omega⟩
 ·right
  rw[if_neg (by simp;omega)]
  exact⟨_,rfl,hl,fun k hk2=>hk k (by omega)⟩
theorem exact_eq{p:T_api_Paragraph}(hv:Pv p):∃ f,g_rowbreak_sheet_exact (shP p (aimP p))=some f∧TabOK p p.Rows.toNat f:=by
 have hn:=hv.ok.toks
 have hrw:=hv.rows
 obtain⟨R,hR⟩:∃ R:Nat,p.Rows=(R:Int):=⟨p.Rows.toNat,by omega⟩
 obtain⟨f,h1,h2⟩:=exact_key hv (R:=R) (by omega)
 refine⟨f,?_,by rw[hR];exact h2⟩
 have e1:(shP p (aimP p)).p_=p:=rfl
 have e2:IntKind.i64.wrap (p.Rows+1)=((R+1:Nat):Int):=by rw[wr64 (by omega)];omega
 simp only[g_rowbreak_sheet_exact,g_rowbreak_sheet_n,e1,e2,Option.bind_some,mkI_nat 24 (R+1) ([]:List Int) (by omega) (by omega),h1]
theorem idx_bd{n k i:Nat}(hn:n≤16)(hk:k≤5)(hi:i≤n):k * (n+1)+i≤120:=by
 have:=Nat.mul_le_mul hk (show n+1≤17 by omega)
 omega
def PotAt(p:T_api_Paragraph)(R:Nat)(l:List Int)(k i:Nat):Prop:=∃ v,l[k * (p.Tokens.length+1)+i]? = some v∧Lst (PA p (R - k) i) v
def PotOK(p:T_api_Paragraph)(R:Nat)(l:List Int):Prop:=l.length=(R+1) * (p.Tokens.length+1)∧∀ k i,k≤R→i≤p.Tokens.length→PotAt p R l k i
theorem lst_n(p:T_api_Paragraph)(m:Nat):Lst (PA p m p.Tokens.length) 0:=.inr ⟨by omega,atm_n.2 rfl,fun x hx=>by rw[atm_n.1 hx];omega⟩
def fE (f:List (List Int))(r i:Nat):Int:=((f[r]?.getD [])[i]?).getD (-1)
theorem fE_ok{p:T_api_Paragraph}{R:Nat}{f:List (List Int)}(h:TabOK p R f):∀ r i,r≤R→i≤p.Tokens.length→Lst (Pth p.Tokens.length (fitP p) (cPr p) r i) (fE f r i):=fun r i hr hi=>by
 obtain⟨row,h1,h2⟩:=h.2 r hr
 obtain⟨v,h3,h4⟩:=h2.2 i hi
 unfold fE
 rw[h1,Option.getD_some,h3,Option.getD_some]
 exact h4
theorem fE_at{p:T_api_Paragraph}{R:Nat}{f:List (List Int)}(h:TabOK p R f){r i:Nat}(hr:r≤R)(hi:i≤p.Tokens.length):∃ row,atI f (r:Int)=some row∧atI row (i:Int)=some (fE f r i):=by
 obtain⟨row,h1,h2⟩:=h.2 r hr
 obtain⟨v,h3,h4⟩:=h2.2 i hi
 refine⟨row,getI h1,?_⟩
 unfold fE
 rw[h1,Option.getD_some,h3,Option.getD_some]
 exact getI h3
theorem least_row{p:T_api_Paragraph}(hv:Pv p){R k i:Nat}(hk:k≤R)(hR:R≤4){f:List (List Int)}(hf:TabOK p R f)(hi:i≤p.Tokens.length){z:List Int} :
  ∃ e,iter (g_rowbreak_Break_s3 ((i:Int),z) (f.take (R - k+1))) (-1,0)=some e∧Lst (PA p (R - k) i) e:=by
 have hlen:(f.take (R - k+1)).length=R - k+1:=by rw[List.length_take,hf.1];omega
 refine iter_post (fun x=>∃ t:Nat,x.2=(t:Int)∧t≤R - k+1∧((t=0∧x.1=-1)∨∃ t',t=t'+1∧Lst (PA p t' i) x.1)) (fun x=>R - k+1 - x.2.toNat) (fun e=>Lst (PA p (R - k) i) e) (x:=(-1,0)) ⟨0,rfl,by omega,.inl ⟨rfl,rfl⟩⟩ (by show R - k+1 - _ < _;omega) ?_
 rintro⟨b,x⟩ ⟨t,hx,ht,hb⟩
 dsimp only at hx hb ⊢
 subst hx
 unfold g_rowbreak_Break_s3
 dsimp only
 rw[hlen]
 by_cases hlt:t < R - k+1
 ·left
  obtain⟨row,h1,h2⟩:=fE_at hf (r:=t) (i:=i) (by omega) hi
  have hE:=fE_ok hf t i (by omega) hi
  have hbd:=lst_bd (by omega) hE
  have h1':atI (f.take (R - k+1)) (t:Int)=some row:=by
   rw[atI_nat (by omega),List.getElem_take]
   rw[atI_nat (by rw[hf.1];omega)] at h1
   exact h1
  rw[if_pos (by simp;omega),h1',wr64 (x:=(t:Int)+1) (by omega)]
  simp only[Option.bind_some]
  rw[h2]
  simp only[Option.bind_some]
  generalize fE f t i=v at *
  have hnew:Lst (PA p t i) (if v=-1 then b else if b=-1∨v < b then v else b):=by
   rcases hb with⟨rfl,rfl⟩|⟨t',rfl,hL⟩
   ·have h0:=atm_0 hE
    by_cases e:v=-1
    ·rw[if_pos e];rw[e] at h0;exact h0
    ·rw[if_neg e,if_pos (.inl rfl)];exact h0
   ·exact atm_join hL hE
  have hcond:(if(v != -1)=true then if(b == -1)=true then some true else some (decide (v < b)) else some false:Option Bool)=some (decide (v≠-1∧(b=-1∨v < b))):=by
   by_cases e1:v=-1
   ·simp[e1]
   ·by_cases e2:b=-1
    ·simp[e1,e2]
    ·simp[e1,e2]
  rw[hcond]
  simp only[Option.bind_some]
  by_cases e1:v=-1
  ·rw[if_pos e1] at hnew
   rw[if_neg (by simp[e1])]
   exact⟨_,rfl,⟨t+1,rfl,by omega,.inr ⟨t,rfl,hnew⟩⟩,by dsimp only;omega⟩
  ·rw[if_neg e1] at hnew
   by_cases e2:b=-1∨v < b
   ·rw[if_pos e2] at hnew
    rw[if_pos (by simp[e1,e2])]
    exact⟨_,rfl,⟨t+1,rfl,by omega,.inr ⟨t,rfl,hnew⟩⟩,by dsimp only;omega⟩
   ·rw[if_neg e2] at hnew
    rw[if_neg (by simp[e1];omega)]
    exact⟨_,rfl,⟨t+1,rfl,by omega,.inr ⟨t,rfl,hnew⟩⟩,by dsimp only;omega⟩
 ·right
  rw[if_neg (by simp;omega)]
  refine⟨_,rfl,?_⟩
  rcases hb with⟨rfl,_⟩|⟨t',rfl,hL⟩
  ·omega
  ·rw[show R - k=t' by omega];exact hL
def PotTo(p:T_api_Paragraph)(R k i:Nat)(l:List Int):Prop:=l.length=k * (p.Tokens.length+1)+i∧∀ k' i',k'≤R→i'≤p.Tokens.length→(k' < k∨k'=k∧i' < i)→PotAt p R l k' i'
theorem pots_row{p:T_api_Paragraph}(hv:Pv p){R k:Nat}(hR:p.Rows=(R:Int))(hk:k≤R){f:List (List Int)}(hf:TabOK p R f){y:List Int}(hy:y.length=p.Tokens.length+1){l0:List Int}(h0:PotTo p R k 0 l0) :
  ∃ e,iter (g_rowbreak_Break_s2 p f ((k:Int),l0) y) (0,l0)=some e∧PotTo p R (k+1) 0 e:=by
 have hn:=hv.ok.toks
 have hrw:=hv.rows
 refine iter_post (fun x=>∃ i:Nat,x.1=(i:Int)∧i≤p.Tokens.length+1∧PotTo p R k i x.2) (fun x=>p.Tokens.length+1 - x.1.toNat) (PotTo p R (k+1) 0) (x:=(0,l0)) ⟨0,rfl,by omega,h0⟩ (by show p.Tokens.length+1 - _ < _;omega) ?_
 rintro⟨x,l⟩ ⟨i,hx,hi,hl⟩
 dsimp only at hx hl ⊢
 subst hx
 unfold g_rowbreak_Break_s2
 dsimp only
 rw[hy]
 by_cases hlt:i≤p.Tokens.length
 ·left
  have hb:=idx_bd hn (show k≤5 by omega) hlt
  obtain⟨v,he,hL⟩:=least_row hv hk (by omega) hf hlt (z:=l)
  have hsub:subH f (IntKind.i64.wrap (IntKind.i64.wrap (p.Rows - (k:Int))+1))=some (f.take (R - k+1)):=by
   rw[hR,wr64 (x:=(R:Int) - k) (by omega),wr64 (by omega)]
   unfold subH
   rw[if_pos (by have:=hf.1;omega)]
   congr 2
   omega
  rw[if_pos (by simp;omega),hsub]
  simp only[Option.bind_some]
  rw[he]
  simp only[Option.bind_some]
  rw[if_pos (by rw[hl.1];omega),wr64 (x:=(i:Int)+1) (by omega)]
  refine⟨_,rfl,⟨i+1,rfl,by omega,by simp[hl.1];omega,fun k' i' h1 h2 h3=>?_⟩,by dsimp only;omega⟩
  by_cases e:k'=k∧i'=i
  ·obtain⟨rfl,rfl⟩:=e
   exact⟨v,by dsimp only;rw[List.getElem?_append_right (by rw[hl.1];omega),hl.1];simp,hL⟩
  ·obtain⟨w,hw,hLw⟩:=hl.2 k' i' h1 h2 (by omega)
   refine⟨w,?_,hLw⟩
   dsimp only
   rw[List.getElem?_append_left (List.getElem?_eq_some_iff.1 hw).1]
   exact hw
 ·right
  rw[if_neg (by simp;omega)]
  refine⟨_,rfl,?_,fun k' i' h1 h2 h3=>hl.2 k' i' h1 h2 (by omega)⟩
  rw[hl.1,Nat.add_mul];omega
theorem pots_key{p:T_api_Paragraph}(hv:Pv p){R:Nat}(hR:p.Rows=(R:Int)){f:List (List Int)}(hf:TabOK p R f):∃ e,iter (g_rowbreak_Break_s1 p f) (0,[])=some e∧PotOK p R e:=by
 have hn:=hv.ok.toks
 have hrw:=hv.rows
 have hfl:=hf.1
 refine iter_post (fun x=>∃ k:Nat,x.1=(k:Int)∧k≤R+1∧PotTo p R k 0 x.2) (fun x=>R+1 - x.1.toNat) (PotOK p R) (x:=(0,[])) ⟨0,rfl,by omega,by simp,fun k' i' _ _ h=>by omega⟩ (by show R+1 - _ < _;omega) ?_
 rintro⟨x,l⟩ ⟨k,hx,hk,hl⟩
 dsimp only at hx hl ⊢
 subst hx
 unfold g_rowbreak_Break_s1
 dsimp only
 rw[hfl]
 by_cases hlt:k≤R
 ·left
  obtain⟨row,h1,h2⟩:=hf.2 0 (by omega)
  have h1:=getI h1
  simp only[Int.natCast_zero] at h1
  obtain⟨e,he,hl2⟩:=pots_row hv hR hlt hf h2.1 hl
  rw[if_pos (by simp;omega),h1,wr64 (x:=(k:Int)+1) (by omega)]
  simp only[Option.bind_some]
  rw[he]
  exact⟨_,rfl,⟨k+1,rfl,by omega,hl2⟩,by dsimp only;omega⟩
 ·right
  obtain rfl:k=R+1:=by omega
  rw[if_neg (by simp)]
  exact⟨_,rfl,by rw[hl.1];omega,fun k' i' h1 h2=>hl.2 k' i' h1 h2 (by omega)⟩
theorem rows_key{p:T_api_Paragraph}(hv:Pv p){R:Nat}(hR:p.Rows=(R:Int)){f:List (List Int)}(hf:TabOK p R f){y:Int}(hy:Lst (PA p R 0) y)(h1:y≠-1) :
  ∃ r:Nat,iter (g_rowbreak_Break_s4 f y) 0=some (r:Int)∧1≤r∧r≤R∧fE f r 0=y∧Tight (fE f) r 0:=by
 have hn:=hv.ok.toks
 have hrw:=hv.rows
 have hne:1≤p.Tokens.length:=List.length_pos_iff.2 hv.ne
 have hE:=fE_ok hf
 obtain⟨hy0,⟨s,hs,hps⟩,hmin⟩:=hy.mem h1
 have hex:fE f s 0=y:=by
  have a:=(hE s 0 hs (by omega)).has hps
  have b:=(hE s 0 hs (by omega)).mem a.1
  have c:=hmin _ ⟨s,hs,b.2.1⟩
  have:=a.2.2;omega
 have key:∃ e,iter (g_rowbreak_Break_s4 f y) 0=some e∧∃ r:Nat,e=(r:Int)∧r≤R∧fE f r 0=y∧∀ t,t < r→fE f t 0≠y:=by
  refine iter_post (fun x=>∃ r:Nat,x=(r:Int)∧r≤s∧∀ t,t < r→fE f t 0≠y) (fun x=>R+1 - x.toNat) (fun e=>∃ r:Nat,e=(r:Int)∧r≤R∧fE f r 0=y∧∀ t,t < r→fE f t 0≠y) (x:=0) ⟨0,rfl,by omega,fun t ht=>by omega⟩ (by show R+1 - _ < _;omega) ?_
  rintro x ⟨r,rfl,hr,ht⟩
  unfold g_rowbreak_Break_s4
  obtain⟨row,a1,a2⟩:=fE_at hf (r:=r) (i:=0) (by omega) (by omega)
  simp only[Int.natCast_zero] at a2
  rw[a1]
  simp only[Option.bind_some]
  rw[a2]
  simp only[Option.bind_some]
  by_cases e:fE f r 0=y
  ·right
   rw[if_neg (by simpa using e)]
   exact⟨_,rfl,r,rfl,by omega,e,ht⟩
  ·left
   rw[if_pos (by simpa using e),wr64 (by omega)]
   have:r≠s:=fun q=>e (by rw[q];exact hex)
   refine⟨_,rfl,⟨r+1,rfl,by omega,fun t h=>?_⟩,by omega⟩
   by_cases q:t=r
   ·rw[q];exact e
   ·exact ht t (by omega)
 obtain⟨e,h2,r,rfl,h3,h4,h5⟩:=key
 refine⟨r,h2,?_,h3,h4,?_⟩
 ·rcases Nat.eq_zero_or_pos r with q|q
  ·subst q
   have:=((hE 0 0 (by omega) (by omega)).mem (by rw[h4];exact h1)).2.1
   have:=(pth_zero.1 this).1
   omega
  ·exact q
 ·refine⟨by rw[h4];exact h1,fun t ht=>?_⟩
  by_cases q:fE f t 0=-1
  ·exact .inl q
  ·right
   have a:=(hE t 0 (by omega) (by omega)).mem q
   have b:=hmin _ ⟨t,by omega,a.2.1⟩
   have:=h5 t ht
   rw[h4];omega
def inl (L:List Nat):List Int:=L.map fun(j:Nat)=>(j:Int)
theorem ends_inner{p:T_api_Paragraph}(hv:Pv p){R:Nat}(hR:R≤4){f:List (List Int)}(hf:TabOK p R f){r i j:Nat}(hr:r+1≤R)(hij:i < j)(hj:j≤p.Tokens.length)(hok:OkS (fitP p) (cPr p) (fE f) r i j)(hno:∀ k,i < k→k < j→¬ OkS (fitP p) (cPr p) (fE f) r i k){z:List Int} :
  ∃ e,iter (g_rowbreak_Break_s6 (shP p (aimP p)) f (((r+1:Nat):Int),(i:Int),z)) ((i:Int)+1)=some e∧e.1=(j:Int):=by
 have hn:=hv.ok.toks
 have hE:=fE_ok hf
 refine iter_post (fun x=>∃ k:Nat,x=(k:Int)∧i < k∧k≤j) (fun x=>j+1 - x.toNat) (fun e=>Prod.fst e=(j:Int)) ⟨i+1,rfl,by omega,by omega⟩ (by show j+1 - _ < _;omega) ?_
 rintro x ⟨k,rfl,hk1,hk2⟩
 unfold g_rowbreak_Break_s6
 dsimp only
 rw[fits_eq hv.ok _ (by omega) (by omega)]
 simp only[Option.bind_some]
 obtain⟨row,a1,a2⟩:=fE_at hf (r:=r) (i:=k) (by omega) (by omega)
 obtain⟨row',b1,b2⟩:=fE_at hf (r:=r+1) (i:=i) (by omega) (by omega)
 have hbd:=lst_bd (by omega) (hE r k (by omega) (by omega))
 have hc:=cPr_le p i k
 rw[wr64 (x:=((r+1:Nat):Int) - 1) (by omega),show((r+1:Nat):Int) - 1=(r:Int) by omega,wr64 (x:=(k:Int)+1) (by omega),a1]
 simp only[Option.bind_some]
 rw[a2]
 simp only[Option.bind_some]
 rw[cost_eq hv.ok hk1 (by omega),b1]
 simp only[Option.bind_some]
 rw[b2]
 simp only[Option.bind_some]
 rw[wr64 (x:=cPr p i k+fE f r k) (by omega)]
 by_cases e:k=j
 ·right
  subst e
  rw[if_pos hok.1,if_neg (by simpa using hok.2.1),if_neg (by simpa using hok.2.2)]
  exact⟨_,rfl,rfl⟩
 ·left
  have hnk:=hno k hk1 (by omega)
  refine⟨((k+1:Nat):Int),?_,⟨k+1,rfl,by omega,by omega⟩,by omega⟩
  cases hf2:fitP p i k
  ·rfl
  ·rw[if_pos rfl]
   by_cases q1:fE f r k=-1
   ·rw[if_pos (by simpa using q1)];rfl
   ·have q2:cPr p i k+fE f r k≠fE f (r+1) i:=fun h=>hnk ⟨hf2,q1,h⟩
    rw[if_neg (by simpa using q1),if_pos (by simpa using q2)];rfl
theorem ends_prog{p:T_api_Paragraph}(hv:Pv p){R:Nat}(hR:R≤4){f:List (List Int)}(hf:TabOK p R f){r:Nat}{G:List Nat}(hr:r≤R)(hG:Gr p.Tokens.length (fitP p) (cPr p) (fE f) r 0 G) :
  iter (g_rowbreak_Break_s5 (shP p (aimP p)) f) ((r:Int),0,[])=some (inl G):=by
 have hn:=hv.ok.toks
 refine iter_of (fun x e=>e=inl G∧∃ (r i:Nat) (L:List Nat),x.1=(r:Int)∧x.2.1=(i:Int)∧r≤R∧i≤p.Tokens.length∧Gr p.Tokens.length (fitP p) (cPr p) (fE f) r i L∧x.2.2++inl L=inl G∧x.2.2.length+r≤4) (fun x=>x.1.toNat) ?_ (x:=((r:Int),0,[])) ⟨rfl,r,0,G,rfl,rfl,hr,by omega,hG,rfl,by simp;omega⟩ (by show((r:Int)).toNat < _;omega)
 rintro⟨x,y,acc⟩ e ⟨rfl,r,i,L,hx,hy,hr,hi,hg,hacc,hl⟩
 dsimp only at hx hy hacc hl ⊢
 subst hx hy
 unfold g_rowbreak_Break_s5
 dsimp only
 cases hg with
 | nil =>
  right
  rw[if_neg (by simp),← hacc]
  simp[inl]
 | @cons r i j L a1 a2 a3 a4 a5 =>
  left
  obtain⟨e,he,hej⟩:=ends_inner hv hR hf hr a1 a2 a3 a4 (z:=acc)
  rw[if_pos (by first|(simp;done)|(simp;omega)),wr64 (x:=(i:Int)+1) (by omega),he]
  simp only[Option.bind_some]
  rw[if_pos (by omega),hej,wr64 (by omega)]
  refine⟨_,rfl,⟨by first|rfl|trivial,r,j,L,by dsimp only;omega,rfl,by omega,a2,a5,?_,by simp;omega⟩,by dsimp only;omega⟩
  dsimp only
  rw[← hacc]
  simp[inl]
inductive RPath(p:T_api_Paragraph):Nat→List Nat→Prop
 | nil:RPath p p.Tokens.length []
 | cons {i j:Nat} {L:List Nat}:i < j→j≤p.Tokens.length→fitP p i j=true→RPath p j L→RPath p i (j::L)
theorem gr_path{p:T_api_Paragraph}{E:Nat→Nat→Int}{r i:Nat}{L:List Nat}(h:Gr p.Tokens.length (fitP p) (cPr p) E r i L):RPath p i L:=by
 induction h with
 | nil=>exact .nil
 | cons a1 a2 a3 _ _ ih=>exact .cons a1 a2 a3.1 ih
theorem smP_sum(p:T_api_Paragraph):∀ k,k≤p.Tokens.length→smP p k=((p.Tokens.take k).map fun t=>chL t.Text).sum
 | 0,_=>by simp[smP]
 | k+1,h=>by
  rw[show smP p (k+1)=smP p k+tlen p k from rfl,smP_sum p k (by omega),tlen_at p (by omega),List.take_add_one,List.getElem?_eq_getElem (by omega),List.map_append,List.sum_append]
  congr 1
  simp
def lexlt(a b:Int × Int):Prop:=a.1 < b.1∨a.1=b.1∧a.2 < b.2
def Bst (S:Nat→Prop)(val:Nat→Int × Int)(v:Int × Int)(j:Nat):Prop:=(v=(-1,0)∧∀ x,¬ S x)∨(S j∧v=val j∧∀ x,S x→¬ lexlt (val x) (val j)∧(x < j→lexlt (val j) (val x)))
theorem Bst.congr{S T:Nat→Prop}{val val':Nat→Int × Int}{v:Int × Int}{j:Nat}(e:∀ x,S x ↔ T x)(ev:∀ x,S x→val x=val' x)(h:Bst S val v j):Bst T val' v j:=by
 rcases h with⟨h1,h2⟩|⟨h1,h2,h3⟩
 ·exact .inl ⟨h1,fun x hx=>h2 x ((e x).2 hx)⟩
 ·refine .inr ⟨(e j).1 h1,by rw[h2,ev j h1],fun x hx=>?_⟩
  have hx':=(e x).2 hx
  rw[← ev j h1,← ev x hx']
  exact h3 x hx'
theorem decL_4(a b c d:UInt8)(t y:List UInt8):decL (a::b::c::d::t++y)=decL (a::b::c::d::t):=by
 simp[decL]
theorem decL_app:∀ (l y:List UInt8),(decL l).1≠65533→decL (l++y)=decL l∧(decL l).2≤l.length
 | [],y,h=>absurd rfl h
 | [a],y,h=>by
  have ha:a.toNat < 128:=by
   rcases Nat.lt_or_ge a.toNat 128 with q|q
   ·exact q
   ·exfalso;apply h
    have:¬ a.toNat < 128:=by omega
    simp[decL,this]
  simp[decL,ha]
 | [a,b],y,h=>by
  by_cases ha:a.toNat < 128
  ·simp[decL,ha]
  ·by_cases h1:(a.toNat / 32 == 6&&b.toNat / 64 == 2)=true
   ·have h1':=h1
    simp only[Bool.and_eq_true,beq_iff_eq] at h1'
    simp only[decL,ha,List.cons_append,List.nil_append,List.getElem?_cons_zero,List.getD_cons_zero,h1,if_true,if_false,List.length_cons,List.length_nil]
    split<;>simp
   ·exfalso;apply h
    have h1:(a.toNat / 32 == 6&&b.toNat / 64 == 2)=false:=by simpa using h1
    simp[decL,ha,h1]
 | [a,b,c],y,h=>by
  by_cases ha:a.toNat < 128
  ·simp[decL,ha]
  ·by_cases h1:(a.toNat / 32 == 6&&b.toNat / 64 == 2)=true
   ·simp only[decL,ha,List.cons_append,List.nil_append,List.getElem?_cons_zero,List.getD_cons_zero,h1,if_true,if_false,List.length_cons,List.length_nil]
    split<;>simp
   ·by_cases h2:(a.toNat / 16 == 14&&b.toNat / 64 == 2&&c.toNat / 64 == 2)=true
    ·simp only[decL,ha,List.cons_append,List.nil_append,List.getElem?_cons_zero,List.getElem?_cons_succ,List.getD_cons_zero,List.getD_cons_succ,h1,h2,if_true,if_false,List.length_cons,List.length_nil,Bool.false_eq_true]
     split<;>simp
    ·exfalso;apply h
     simp only[decL,ha,List.getElem?_cons_zero,List.getElem?_cons_succ,List.getElem?_nil,h1,h2,if_false,Bool.and_false,Bool.false_eq_true]
 | a::b::c::d::t,y,h=>by
  refine⟨decL_4 a b c d t y,?_⟩
  simp only[decL,List.length_cons]
  repeat' split
  all_goals omega
theorem ixv_bad':ixv 65533=-1:=by unfold ixv;rw[ixv_bad];rfl
theorem gv_dec{l:List UInt8}(h:l≠[])(hg:gv l=true):(decL l).1≠65533∧gv (l.drop (decL l).2)=true:=by
 rw[gv_ne h] at hg
 simp only[Bool.and_eq_true,decide_eq_true_eq] at hg
 refine⟨fun e=>?_,hg.2⟩
 have:=hg.1
 rw[e] at this
 have e2:((65533:Nat):Int)=65533:=rfl
 rw[e2,ixv_bad'] at this
 omega
theorem rnL_app:∀ (n:Nat) (l y:List UInt8),l.length≤n→gv l=true→rnL (l++y)=rnL l++rnL y∧gv (l++y)=gv y:=by
 intro n
 induction n with
 | zero =>
  intro l y h _
  have:l=[]:=List.eq_nil_of_length_eq_zero (by omega)
  subst this
  simp[rnL_nil]
 | succ n ih =>
  intro l y h hg
  by_cases hl:l=[]
  ·subst hl;simp[rnL_nil]
  ·obtain⟨h1,h2⟩:=gv_dec hl hg
   obtain⟨a1,a2⟩:=decL_app l y h1
   have hw:=decL_wd hl
   have hpos:=List.length_pos_iff.2 hl
   have hne:l++y≠[]:=by simp[hl]
   obtain⟨b1,b2⟩:=ih (l.drop (decL l).2) y (by simp;omega) h2
   have hdrop:(l++y).drop (decL l).2=l.drop (decL l).2++y:=List.drop_append_of_le_length a2
   refine⟨?_,?_⟩
   ·rw[rnL_ne hne,rnL_ne hl,a1,hdrop,b1];rfl
   ·rw[gv_ne hne,a1,hdrop,b2]
    rw[gv_ne hl] at hg
    simp only[Bool.and_eq_true] at hg
    rw[hg.1];simp
theorem chL_app{x y:List UInt8}(hx:gv x=true)(hy:gv y=true):chL (x++y)=chL x+chL y∧gv (x++y)=true:=by
 obtain⟨h1,h2⟩:=rnL_app x.length x y (Nat.le_refl _) hx
 unfold chL
 rw[h2,hx,hy,h1]
 simp
theorem chL_sp:chL [32]=1∧gv [32]=true:=by
 have h0:decL [32]=(32,1):=by decide
 have h1:ixv 32=0:=by unfold ixv;decide +kernel
 have hg:gv [32]=true:=by
  rw[gv_ne (by simp),h0]
  have e:((32:Nat):Int)=32:=rfl
  dsimp only
  rw[e,h1]
  simp[gv_nil]
 refine⟨?_,hg⟩
 unfold chL
 rw[hg,rnL_ne (by simp),h0]
 simp[rnL_nil]
theorem rpath_last{p:T_api_Paragraph}{i:Nat}{L:List Nat}(h:RPath p i L)(hi:i < p.Tokens.length):L≠[]∧L.getLast? = some p.Tokens.length:=by
 induction h with
 | nil=>omega
 | @cons i j L h1 h2 h3 h4 ih =>
  refine⟨by simp,?_⟩
  by_cases hj:j < p.Tokens.length
  ·obtain⟨a,b⟩:=ih hj
   rw[List.getLast?_cons_of_ne_nil a]
   exact b
  ·cases h4 with
   | nil=>rfl
   | cons q1 q2 _ _=>omega
theorem total_s1{p:T_api_Paragraph}(hn:p.Tokens.length≤16){G:List Nat}(hG:RPath p 0 G)(hl:G.length≤4):iter (g_rowbreak_sheet_total_s1 (inl G)) (0,0)=some (.inr ()):=by
 refine iter_of (fun x e=>e=Sum.inr ()∧∃ (k i:Nat) (L:List Nat),x.2=(k:Int)∧x.1=(i:Int)∧k+L.length=G.length∧(inl G).drop k=inl L∧RPath p i L) (fun x=>G.length - x.2.toNat) ?_ (x:=(0,0)) ⟨rfl,0,0,G,rfl,rfl,by omega,by simp,hG⟩ (by show G.length - 0 < _;omega)
 rintro⟨a,x⟩ e ⟨rfl,k,i,L,hx,ha,hk,hd,hL⟩
 dsimp only at hx ha ⊢
 subst hx ha
 have hlen:(inl G).length=G.length:=by simp[inl]
 unfold g_rowbreak_sheet_total_s1
 dsimp only
 rw[hlen]
 cases hL with
 | nil =>
  right
  rw[if_neg (by simp at hk ⊢;omega)]
 | @cons _ j L h1 h2 h3 h4 =>
  left
  simp only[List.length_cons] at hk
  have hat:atI (inl G) (k:Int)=some (j:Int):=by
   have h0:(inl G)[k]? = some (j:Int):=by
    have:=congrArg (·[0]?) hd
    simpa[inl] using this
   exact getI h0
  rw[if_pos (by simp;omega),hat,wr64 (x:=(k:Int)+1) (by omega)]
  simp only[Option.bind_some]
  rw[if_neg (by simp;omega)]
  refine⟨_,rfl,⟨by first|rfl|trivial,k+1,j,L,rfl,rfl,by omega,?_,h4⟩,by dsimp only;omega⟩
  have:=congrArg List.tail hd
  simpa[inl] using this
theorem total_s2{p:T_api_Paragraph}(hv:Pv p){G:List Nat}(hG:RPath p 0 G)(hl:G.length≤4):∃ c,iter (g_rowbreak_sheet_total_s2 (shP p (aimP p)) (inl G)) (0,0,0)=some (.inr c):=by
 have hn:=hv.ok.toks
 have key:∃ e,iter (g_rowbreak_sheet_total_s2 (shP p (aimP p)) (inl G)) (0,0,0)=some e∧∃ c:Int,e=.inr c:=by
  refine iter_post (fun x=>∃ (k i:Nat) (L:List Nat),x.2.2=(k:Int)∧x.1=(i:Int)∧k+L.length=G.length∧(inl G).drop k=inl L∧RPath p i L∧0≤x.2.1∧x.2.1≤(k:Int) * 33000000) (fun x=>G.length - x.2.2.toNat) (fun(e:Unit ⊕ Int)=>∃ c:Int,e=.inr c) (x:=(0,0,0)) ⟨0,0,G,rfl,rfl,by omega,by simp,hG,by simp,by simp⟩ (by show G.length - 0 < _;omega) ?_
  rintro⟨a,sum,x⟩ ⟨k,i,L,hx,ha,hk,hd,hL,hs0,hs1⟩
  dsimp only at hx ha hs0 hs1 ⊢
  subst hx ha
  have hlen:(inl G).length=G.length:=by simp[inl]
  unfold g_rowbreak_sheet_total_s2
  dsimp only
  rw[hlen]
  cases hL with
  | nil =>
   right
   rw[if_neg (by simp at hk ⊢;omega)]
   exact⟨_,rfl,_,rfl⟩
  | @cons _ j L h1 h2 h3 h4 =>
   left
   simp only[List.length_cons] at hk
   have hat:atI (inl G) (k:Int)=some (j:Int):=by
    have h0:(inl G)[k]? = some (j:Int):=by
     have:=congrArg (·[0]?) hd
     simpa[inl] using this
    exact getI h0
   have hc:=cPr_le p i j
   rw[if_pos (by simp;omega),hat,wr64 (x:=(k:Int)+1) (by omega)]
   simp only[Option.bind_some]
   rw[fits_eq hv.ok _ (by omega) h2,h3]
   simp only[Option.bind_some,if_true]
   rw[cost_eq hv.ok h1 h2]
   simp only[Option.bind_some]
   rw[wr64 (x:=sum+cPr p i j) (by omega)]
   refine⟨_,rfl,⟨k+1,j,L,rfl,rfl,by omega,?_,h4,by dsimp only;omega,by dsimp only;omega⟩,by dsimp only;omega⟩
   have:=congrArg List.tail hd
   simpa[inl] using this
 obtain⟨e,he,c,rfl⟩:=key
 exact⟨c,he⟩
theorem rowCost_eq{p:T_api_Paragraph}(hv:Pv p)(hck:ckP p=0){G:List Nat}(hG:RPath p 0 G)(hl:(G.length:Int)≤p.Rows):∃ c,g_rowbreak_Cost p (inl G)=some (c,0):=by
 have hn:=hv.ok.toks
 have hrw:=hv.rows
 have hne:0 < p.Tokens.length:=List.length_pos_iff.2 hv.ne
 obtain⟨l1,l2⟩:=rpath_last hG hne
 obtain⟨c,hc⟩:=total_s2 hv hG (by omega)
 have hlen:(inl G).length=G.length:=by simp[inl]
 have hpos:=List.length_pos_iff.2 l1
 have hat:atI (inl G) (IntKind.i64.wrap ((G.length:Int) - 1))=some (p.Tokens.length:Int):=by
  rw[wr64 (by omega),show((G.length:Int) - 1)=((G.length - 1:Nat):Int) by omega]
  refine getI ?_
  rw[List.getLast?_eq_getElem?] at l2
  simp[inl,l2]
 refine⟨c,?_⟩
 have hz:((G.length:Int) == 0)=false:=by simpa using(by omega:¬ (G.length:Int)=0)
 have hp:(shP p (aimP p)).p_=p:=rfl
 have hle:decide (p.Rows < (G.length:Int))=false:=by simp;omega
 simp only[g_rowbreak_Cost,par_prog hv.ok,hck,open_eq hv.ok,g_rowbreak_sheet_total,g_rowbreak_sheet_n,hp,hlen,hz,hat,total_s1 hn hG (by omega),hle,hc,Option.bind_some,bne_self_eq_false,Bool.false_eq_true,if_false]
theorem wd4:∀ l:List UInt8,(decL l).2≤4
 | []=>by decide
 | a::r=>by
  unfold decL
  dsimp only
  repeat' split
  all_goals (first|decide|simp)
theorem len4:∀ (n:Nat) (l:List UInt8),l.length≤n→l.length≤4 * (rnL l).length
 | 0,l,h=>by omega
 | n+1,l,h=>by
  by_cases hl:l=[]
  ·subst hl;simp
  ·have hw:=decL_wd hl
   have h4:=wd4 l
   have hp:=List.length_pos_iff.2 hl
   have ih:=len4 n (l.drop (decL l).2) (by simp;omega)
   rw[rnL_ne hl,List.length_cons]
   simp only[List.length_drop] at ih
   omega
def joinT(l:List T_api_Token):List UInt8:=Lib.join (l.map (·.Text)) [32]
theorem tail_ch:∀ l:List T_api_Token,(∀ t ∈ l,gv t.Text=true)→gv (Lib.joinTail [32] (l.map (·.Text)))=true∧chL (Lib.joinTail [32] (l.map (·.Text)))=(l.map fun t=>chL t.Text).sum+l.length
 | [],_=>by
  have:gv ([]:List UInt8)=true:=gv_nil
  refine⟨this,?_⟩
  show chL []=_
  simp[chL,gv_nil,rnL_nil]
 | t::l,h=>by
  obtain⟨a1,a2⟩:=tail_ch l (fun u hu=>h u (by simp[hu]))
  have ht:=h t (by simp)
  obtain⟨s1,s2⟩:=chL_sp
  obtain⟨b1,b2⟩:=chL_app s2 ht
  obtain⟨c1,c2⟩:=chL_app b2 a1
  have e:Lib.joinTail [32] ((t::l).map (·.Text))=([32]++t.Text)++Lib.joinTail [32] (l.map (·.Text)):=by simp[Lib.joinTail]
  rw[e]
  refine⟨c2,?_⟩
  rw[c1,b1,s1,a2]
  simp only[List.map_cons,List.sum_cons,List.length_cons]
  omega
theorem join_ch{l:List T_api_Token}(hne:l≠[])(h:∀ t ∈ l,gv t.Text=true):gv (joinT l)=true∧chL (joinT l)=(l.map fun t=>chL t.Text).sum+l.length - 1:=by
 cases l with
 | nil=>exact absurd rfl hne
 | cons t l =>
  obtain⟨a1,a2⟩:=tail_ch l (fun u hu=>h u (by simp[hu]))
  obtain⟨b1,b2⟩:=chL_app (h t (by simp)) a1
  unfold joinT
  rw[List.map_cons,Lib.join_cons]
  refine⟨b2,?_⟩
  rw[b1,a2]
  simp only[List.map_cons,List.sum_cons,List.length_cons]
  omega
theorem gv_len{l:List UInt8}(h:gv l=true){m:Int}(hm:chL l≤m):(l.length:Int)≤4 * m:=by
 have:=len4 l.length l (Nat.le_refl _)
 unfold chL at hm
 rw[if_pos h] at hm
 omega
def seg (p:T_api_Paragraph)(i j:Nat):List T_api_Token:=(p.Tokens.drop i).take (j - i)
theorem seg_len{p:T_api_Paragraph}{i j:Nat}(hj:j≤p.Tokens.length):(seg p i j).length=j - i:=by simp[seg];omega
theorem seg_sum{p:T_api_Paragraph}{i j:Nat}(hij:i≤j)(hj:j≤p.Tokens.length):((seg p i j).map fun t=>chL t.Text).sum=smP p j - smP p i:=by
 rw[smP_sum p j hj,smP_sum p i (by omega)]
 have e:p.Tokens.take j=p.Tokens.take i++seg p i j:=by
  unfold seg
  conv=>lhs;rw[← List.take_append_drop i p.Tokens]
  rw[List.take_append,List.length_take,show min i p.Tokens.length=i by omega,List.take_take,show min j i=i by omega]
 rw[e,List.map_append,List.sum_append]
 omega
theorem seg_row{p:T_api_Paragraph}(hv:Pv p){i j:Nat}(hij:i < j)(hj:j≤p.Tokens.length):seg p i j≠[]∧gv (joinT (seg p i j))=true∧chL (joinT (seg p i j))=lnP p i j:=by
 have hl:=seg_len (p:=p) (i:=i) hj
 have hne:seg p i j≠[]:=fun e=>by rw[e] at hl;simp at hl;omega
 have hg:∀ t ∈ seg p i j,gv t.Text=true:=fun t ht=>(hv.tok t (List.mem_of_mem_drop (List.mem_of_mem_take ht))).2.1
 obtain⟨a,b⟩:=join_ch hne hg
 refine⟨hne,a,?_⟩
 rw[b,seg_sum (by omega) hj,hl]
 unfold lnP
 omega
def rowsT(p:T_api_Paragraph):Nat→List Nat→List (List UInt8)
 | _,[]=>[]
 | i,j::L=>joinT (seg p i j)::rowsT p j L
theorem join_prog{l:List T_api_Token}(hn:l.length≤16)(hj:(joinT l).length≤140737488355328):g_token_Join l=some (joinT l):=by
 unfold g_token_Join
 rw[mkI_nat 16 l.length _ (by omega) (by omega)]
 simp only[Option.bind_some]
 have key:iter (g_token_Join_s1 l) (0,List.replicate l.length [])=some (l.map (·.Text)):=by
  refine iter_of (fun x e=>e=l.map (·.Text)∧∃ i:Nat,x.1=(i:Int)∧i≤l.length∧x.2=(l.take i).map (·.Text)++List.replicate (l.length - i) []) (fun x=>l.length - x.1.toNat) ?_ (x:=(0,_)) ⟨rfl,0,rfl,by omega,by simp⟩ (by show l.length - 0 < _;omega)
  rintro⟨x,m⟩ e ⟨rfl,i,hx,hi,hm⟩
  dsimp only at hx hm ⊢
  subst hx hm
  unfold g_token_Join_s1
  dsimp only
  have hA:((l.take i).map (·.Text)).length=i:=by simp;omega
  by_cases h:i < l.length
  ·left
   obtain⟨k,hk⟩:∃ k,l.length - i=k+1:=⟨l.length - i - 1,by omega⟩
   rw[hk,List.replicate_succ,if_pos (by simpa using h),atI_nat h]
   simp only[Option.bind_some]
   rw[setI_nat _ (by simp;omega),wr64 (x:=(i:Int)+1) (by omega)]
   simp only[Option.bind_some]
   rw[atI_nat (by simp;omega)]
   simp only[Option.bind_some]
   refine⟨_,rfl,⟨by first|rfl|trivial,i+1,rfl,h,?_⟩,by dsimp only;omega⟩
   dsimp only
   rw[List.set_append_right _ _ (by omega),hA,Nat.sub_self,show l.length - (i+1)=k by omega]
   simp only[List.map_take]
   rw[List.take_succ_eq_append_getElem (l:=l.map (·.Text)) (by simpa using h)]
   simp
  ·right
   obtain rfl:i=l.length:=by omega
   rw[if_neg (by simp)]
   simp
 rw[key]
 simp only[Option.bind_some,g_strings_Join]
 rw[if_pos ⟨by simp;omega,hj⟩]
 rfl
theorem rows_prog{p:T_api_Paragraph}(hv:Pv p)(hck:ckP p=0){G:List Nat}(hG:RPath p 0 G)(hl:(G.length:Int)≤p.Rows):g_rowbreak_Rows p (inl G)=some (rowsT p 0 G,0):=by
 have hn:=hv.ok.toks
 have hrw:=hv.rows
 have hwid:=hv.width
 obtain⟨c,hc⟩:=rowCost_eq hv hck hG hl
 have hlen:(inl G).length=G.length:=by simp[inl]
 have key:iter (g_rowbreak_Rows_s1 p (inl G)) ([],0,0)=some (rowsT p 0 G):=by
  refine iter_of (fun x e=>e=rowsT p 0 G∧∃ (k i:Nat) (L:List Nat),x.2.2=(k:Int)∧x.2.1=(i:Int)∧k+L.length=G.length∧(inl G).drop k=inl L∧RPath p i L∧x.1++rowsT p i L=rowsT p 0 G∧x.1.length=k) (fun x=>G.length - x.2.2.toNat) ?_ (x:=([],0,0)) ⟨rfl,0,0,G,rfl,rfl,by omega,by simp,hG,rfl,rfl⟩ (by show G.length - 0 < _;omega)
  rintro⟨out,a,x⟩ e ⟨rfl,k,i,L,hx,ha,hk,hd,hL,ho,hol⟩
  dsimp only at hx ha ho hol ⊢
  subst hx ha
  unfold g_rowbreak_Rows_s1
  dsimp only
  rw[hlen]
  cases hL with
  | nil =>
   right
   rw[if_neg (by simp at hk ⊢;omega),← ho]
   simp[rowsT]
  | @cons _ j L h1 h2 h3 h4 =>
   left
   simp only[List.length_cons] at hk
   have hat:atI (inl G) (k:Int)=some (j:Int):=by
    have h0:(inl G)[k]? = some (j:Int):=by
     have:=congrArg (·[0]?) hd
     simpa[inl] using this
    exact getI h0
   have hsub:subI p.Tokens (i:Int) (j:Int)=some (seg p i j):=by
    unfold subI seg
    rw[if_pos (by omega)]
    simp only[Int.toNat_natCast]
   obtain⟨s1,s2,s3⟩:=seg_row hv h1 h2
   have hfit:lnP p i j≤p.Width:=by unfold fitP at h3;simpa using h3
   have hb:=gv_len s2 (m:=32) (by omega)
   rw[if_pos (by simp;omega),hat,wr64 (x:=(k:Int)+1) (by omega)]
   simp only[Option.bind_some]
   rw[hsub]
   simp only[Option.bind_some]
   rw[join_prog (by rw[seg_len h2];omega) (by omega)]
   simp only[Option.bind_some]
   rw[if_pos (by omega)]
   refine⟨_,rfl,⟨by first|rfl|trivial,k+1,j,L,rfl,rfl,by omega,?_,h4,?_,by simp[hol]⟩,by dsimp only;omega⟩
   ·have:=congrArg List.tail hd
    simpa[inl] using this
   ·dsimp only
    rw[← ho]
    simp[rowsT]
 simp only[g_rowbreak_Rows,hc,key,Option.bind_some,bne_self_eq_false,Bool.false_eq_true,if_false]
def wcost(p:T_api_Paragraph):Nat→List Nat→Int
 | _,[]=>0
 | i,j::L=>cPr p i j+wcost p j L
theorem rpath_pth{p:T_api_Paragraph}{i:Nat}{G:List Nat}(h:RPath p i G):PP p G.length i (wcost p i G):=by
 induction h with
 | nil=>exact Pth.nil
 | cons h1 h2 h3 _ ih=>exact Pth.cons h1 h2 h3 ih
theorem gr_cost{p:T_api_Paragraph}{E:Nat→Nat→Int}(h0:E 0 p.Tokens.length=0){r i:Nat}{G:List Nat}(h:Gr p.Tokens.length (fitP p) (cPr p) E r i G):wcost p i G=E r i:=by
 induction h with
 | nil=>exact h0.symm
 | cons h1 h2 h3 _ _ ih =>
  unfold wcost
  rw[ih]
  exact h3.2.2
def AscI:Int→List Int→Prop
 | _,[]=>True
 | a,x::l=>a < x∧AscI x l
inductive UpTo(n:Nat):Nat→List Nat→Prop
 | nil:UpTo n n []
 | cons {i j:Nat} {L:List Nat}:i < j→j≤n→UpTo n j L→UpTo n i (j::L)
theorem asc_last:∀ (l:List Int) (i n:Nat),l≠[]→AscI (i:Int) l→l.getLast? = some (n:Int)→∃ G,l=inl G∧UpTo n i G
 | [],i,n,h,_,_=>absurd rfl h
 | [x],i,n,_,ha,hl=>by
  simp at hl
  subst hl
  have:=ha.1
  exact⟨[n],rfl,.cons (by omega) (Nat.le_refl _) .nil⟩
 | x::y::l,i,n,_,ha,hl=>by
  obtain⟨h1,h2⟩:=ha
  obtain⟨m,rfl⟩:=Int.eq_ofNat_of_zero_le (show 0≤x by omega)
  obtain⟨G,hG,hu⟩:=asc_last (y::l) m n (by simp) h2 (by simpa using hl)
  refine⟨m::G,by rw[hG];rfl,.cons (by omega) ?_ hu⟩
  clear hG
  cases hu with
  | nil=>omega
  | cons a b _=>omega
theorem tot_s1(ends:List Int)(hl:ends.length≤9223372036854775807):∃ e,iter (g_rowbreak_sheet_total_s1 ends) (0,0)=some e∧(e=.inr ()→AscI 0 ends):=by
 refine iter_post (fun x=>∃ k:Nat,x.2=(k:Int)∧k≤ends.length∧(AscI x.1 (ends.drop k)→AscI 0 ends)) (fun x=>ends.length - x.2.toNat) (fun(e:Unit ⊕ Unit)=>e=Sum.inr ()→AscI 0 ends) (x:=(0,0)) ⟨0,rfl,Nat.zero_le _,fun h=>h⟩ (by show ends.length - 0 < _;omega) ?_
 rintro⟨a,x⟩ ⟨k,hx,hk,hA⟩
 dsimp only at hx hA ⊢
 subst hx
 unfold g_rowbreak_sheet_total_s1
 dsimp only
 by_cases h:k < ends.length
 ·rw[if_pos (by simpa using h),atI_nat h,wr64 (x:=(k:Int)+1) (by omega)]
  simp only[Option.bind_some]
  by_cases hc:ends[k]≤a
  ·right
   rw[if_pos (by simpa using hc)]
   exact⟨_,rfl,fun e=>by cases e⟩
  ·left
   rw[if_neg (by simpa using hc)]
   refine⟨_,rfl,⟨k+1,rfl,h,fun hr=>hA ?_⟩,by dsimp only;omega⟩
   rw[List.drop_eq_getElem_cons h]
   exact⟨by omega,hr⟩
 ·right
  rw[if_neg (by simpa using h)]
  exact⟨_,rfl,fun _=>hA (by rw[List.drop_of_length_le (by omega)];trivial)⟩
theorem tot_s2{p:T_api_Paragraph}(hv:Pv p){G:List Nat}(hG:UpTo p.Tokens.length 0 G)(hl:G.length≤4):∃ e,iter (g_rowbreak_sheet_total_s2 (shP p (aimP p)) (inl G)) (0,0,0)=some e∧((∃ u,e=.inl u)∨(RPath p 0 G∧e=.inr (wcost p 0 G))):=by
 have hn:=hv.ok.toks
 have hlen:(inl G).length=G.length:=by simp[inl]
 refine iter_post (fun x=>∃ (k i:Nat) (L:List Nat),x.2.2=(k:Int)∧x.1=(i:Int)∧k+L.length=G.length∧(inl G).drop k=inl L∧UpTo p.Tokens.length i L∧(RPath p i L→RPath p 0 G)∧x.2.1+wcost p i L=wcost p 0 G∧0≤x.2.1∧x.2.1≤(k:Int) * 33000000) (fun x=>G.length - x.2.2.toNat) (fun(e:Unit ⊕ Int)=>(∃ u,e=Sum.inl u)∨(RPath p 0 G∧e=Sum.inr (wcost p 0 G))) (x:=(0,0,0)) ⟨0,0,G,rfl,rfl,by omega,by simp,hG,fun h=>h,by simp,by simp,by simp⟩ (by show G.length - 0 < _;omega) ?_
 rintro⟨a,sum,x⟩ ⟨k,i,L,hx,ha,hk,hd,hL,hR,hw,hs0,hs1⟩
 dsimp only at hx ha hw hs0 hs1 ⊢
 subst hx ha
 unfold g_rowbreak_sheet_total_s2
 dsimp only
 rw[hlen]
 cases hL with
 | nil =>
  right
  rw[if_neg (by simp at hk ⊢;omega)]
  refine⟨_,rfl,.inr ⟨hR .nil,?_⟩⟩
  rw[← hw];simp[wcost]
 | @cons _ j L h1 h2 h4 =>
  simp only[List.length_cons] at hk
  have hat:atI (inl G) (k:Int)=some (j:Int):=by
   have h0:(inl G)[k]? = some (j:Int):=by
    have:=congrArg (·[0]?) hd
    simpa[inl] using this
   exact getI h0
  have hc:=cPr_le p i j
  rw[if_pos (by simp;omega),hat,wr64 (x:=(k:Int)+1) (by omega)]
  simp only[Option.bind_some]
  rw[fits_eq hv.ok _ (by omega) h2]
  simp only[Option.bind_some]
  cases h3:fitP p i j with
  | false=>right;exact⟨_,rfl,.inl ⟨_,rfl⟩⟩
  | true =>
   left
   simp only[if_true]
   rw[cost_eq hv.ok h1 h2]
   simp only[Option.bind_some]
   rw[wr64 (x:=sum+cPr p i j) (by omega)]
   refine⟨_,rfl,⟨k+1,j,L,rfl,rfl,by omega,?_,h4,fun hr=>hR (.cons h1 h2 h3 hr),?_,by dsimp only;omega,by dsimp only;omega⟩,by dsimp only;omega⟩
   ·have:=congrArg List.tail hd
    simpa[inl] using this
   ·rw[← hw];simp only[wcost];omega
theorem total_spec{p:T_api_Paragraph}(hv:Pv p)(ends:List Int)(hl:ends.length≤9223372036854775807):∃ v e,g_rowbreak_sheet_total (shP p (aimP p)) ends=some (v,e)∧(e=0→∃ G,ends=inl G∧RPath p 0 G∧(G.length:Int)≤p.Rows∧v=wcost p 0 G):=by
 have hn:=hv.ok.toks
 have hrw:=hv.rows
 have hp:(shP p (aimP p)).p_=p:=rfl
 simp only[g_rowbreak_sheet_total,g_rowbreak_sheet_n,hp]
 by_cases h0:ends=[]
 ·subst h0
  exact⟨_,_,rfl,fun e=>by cases e⟩
 have hpos:=List.length_pos_iff.2 h0
 have hz:((ends.length:Int) == 0)=false:=by rw[beq_eq_false_iff_ne];omega
 obtain⟨x,hx⟩:∃ x,ends.getLast? = some x:=⟨_,List.getLast?_eq_some_getLast h0⟩
 have hat:atI ends (IntKind.i64.wrap ((ends.length:Int) - 1))=some x:=by
  rw[wr64 (by omega),show((ends.length:Int) - 1)=((ends.length - 1:Nat):Int) by omega]
  refine getI ?_
  rw[← List.getLast?_eq_getElem?,hx]
 simp only[hz,hat,Option.bind_some,Bool.false_eq_true,if_false]
 by_cases hxn:x=(p.Tokens.length:Int)
 rotate_left
 ·have:(x != (p.Tokens.length:Int))=true:=by simpa using hxn
  simp only[this,if_true,Option.bind_some]
  exact⟨_,_,rfl,fun e=>by cases e⟩
 have:(x != (p.Tokens.length:Int))=false:=by simpa using hxn
 simp only[this,Bool.false_eq_true,if_false,Option.bind_some]
 obtain⟨e1,he1,ha⟩:=tot_s1 ends hl
 simp only[he1,Option.bind_some]
 cases e1 with
 | inl u=>exact⟨_,_,rfl,fun e=>by cases e⟩
 | inr u =>
  obtain⟨G,rfl,hU⟩:=asc_last ends 0 p.Tokens.length h0 (ha rfl) (by rw[hx,hxn])
  have hlen:(inl G).length=G.length:=by simp[inl]
  by_cases hr:p.Rows < ((inl G).length:Int)
  ·simp only[decide_eq_true hr,if_true]
   exact⟨_,_,rfl,fun e=>by cases e⟩
  ·simp only[decide_eq_false hr,Bool.false_eq_true,if_false]
   obtain⟨e2,he2,hc⟩:=tot_s2 hv hU (by omega)
   simp only[he2,Option.bind_some]
   rcases hc with⟨u,rfl⟩|⟨h1,rfl⟩
   ·exact⟨_,_,rfl,fun e=>by cases e⟩
   ·exact⟨_,_,rfl,fun _=>⟨G,rfl,h1,by omega,rfl⟩⟩
theorem rpath_upTo{p:T_api_Paragraph}{i:Nat}{G:List Nat}(h:RPath p i G):UpTo p.Tokens.length i G:=by
 induction h with
 | nil=>exact .nil
 | cons h1 h2 _ _ ih=>exact .cons h1 h2 ih
theorem total_path{p:T_api_Paragraph}(hv:Pv p){G:List Nat}(hG:RPath p 0 G)(hl:(G.length:Int)≤p.Rows):g_rowbreak_sheet_total (shP p (aimP p)) (inl G)=some (wcost p 0 G,0):=by
 have hn:=hv.ok.toks
 have hrw:=hv.rows
 have hne:0 < p.Tokens.length:=List.length_pos_iff.2 hv.ne
 obtain⟨l1,l2⟩:=rpath_last hG hne
 have hlen:(inl G).length=G.length:=by simp[inl]
 have hpos:=List.length_pos_iff.2 l1
 have hat:atI (inl G) (IntKind.i64.wrap ((G.length:Int) - 1))=some (p.Tokens.length:Int):=by
  rw[wr64 (by omega),show((G.length:Int) - 1)=((G.length - 1:Nat):Int) by omega]
  refine getI ?_
  rw[List.getLast?_eq_getElem?] at l2
  simp[inl,l2]
 obtain⟨e2,he2,hc⟩:=tot_s2 hv (rpath_upTo hG) (by omega)
 obtain⟨c,hc0⟩:=total_s2 hv hG (by omega)
 have he:e2=.inr (wcost p 0 G):=by
  rcases hc with⟨u,rfl⟩|⟨_,h⟩
  ·rw[hc0] at he2;cases he2
  ·exact h
 subst he
 have hz:((G.length:Int) == 0)=false:=by simpa using(by omega:¬ (G.length:Int)=0)
 have hp:(shP p (aimP p)).p_=p:=rfl
 have hle:decide (p.Rows < (G.length:Int))=false:=by simp;omega
 simp only[g_rowbreak_sheet_total,g_rowbreak_sheet_n,hp,hlen,hz,hat,total_s1 hn hG (by omega),hle,he2,Option.bind_some,bne_self_eq_false,Bool.false_eq_true,if_false]
theorem cost_spec{p:T_api_Paragraph}(h:Pok p)(ends:List Int)(hl:ends.length≤9223372036854775807):∃ v e,g_rowbreak_Cost p ends=some (v,e)∧(e=0→ckP p=0∧∃ G,ends=inl G∧RPath p 0 G∧(G.length:Int)≤p.Rows∧v=wcost p 0 G):=by
 unfold g_rowbreak_Cost
 rw[par_prog h]
 simp only[Option.bind_some]
 by_cases h0:ckP p=0
 ·rw[if_neg (by simpa using h0),open_eq h]
  simp only[Option.bind_some]
  obtain⟨v,e,h1,h2⟩:=total_spec (ckP_0 h h0) ends hl
  exact⟨v,e,by rw[h1];rfl,fun he=>⟨h0,h2 he⟩⟩
 ·rw[if_pos (by simpa using h0)]
  exact⟨_,_,rfl,fun e=>absurd e h0⟩
theorem break_spec{p:T_api_Paragraph}(h:Pok p):(ckP p≠0∧∃ b,g_rowbreak_Break p=some (b,ckP p)) ∨
  (ckP p=0∧∃ R:Nat,p.Rows=(R:Int)∧((∃ b e,g_rowbreak_Break p=some (b,e)∧e≠0∧∀ r x,r≤R→¬ PP p r 0 x) ∨
   ∃ (l:List Int) (G:List Nat),g_rowbreak_Break p=some (⟨inl G,wcost p 0 G,l⟩,0)∧PotOK p R l∧RPath p 0 G∧G.length≤R∧Lst (PA p R 0) (wcost p 0 G)∧wcost p 0 G≠-1)):=by
 unfold g_rowbreak_Break
 rw[par_prog h]
 simp only[Option.bind_some]
 by_cases h0:ckP p=0
 rotate_left
 ·rw[if_pos (by simpa using h0)]
  exact .inl ⟨h0,_,rfl⟩
 rw[if_neg (by simpa using h0)]
 have hv:=ckP_0 h h0
 have hn:=h.toks
 have hrw:=hv.rows
 obtain⟨R,hR⟩:∃ R:Nat,p.Rows=(R:Int):=⟨p.Rows.toNat,by omega⟩
 have hRn:p.Rows.toNat=R:=by rw[hR];rfl
 refine .inr ⟨h0,R,hR,?_⟩
 obtain⟨f,hf,htab⟩:=exact_eq hv
 rw[hRn] at htab
 obtain⟨l,hl,hpot⟩:=pots_key hv hR htab
 rw[open_eq h]
 simp only[Option.bind_some]
 rw[hf]
 simp only[Option.bind_some]
 rw[hl]
 simp only[Option.bind_some]
 obtain⟨y,hy0,hA⟩:=hpot.2 0 0 (Nat.zero_le _) (Nat.zero_le _)
 rw[Nat.sub_zero] at hA
 have hat:atI l 0=some y:=by
  have:=getI hy0
  simpa using this
 rw[hat]
 simp only[Option.bind_some]
 have hyb:=lstA_bd (by omega) hA
 by_cases hy:y=-1
 ·rw[if_pos (by simpa using hy)]
  refine .inl ⟨_,_,rfl,by decide,fun r x hr hx=>?_⟩
  subst hy
  rcases hA with⟨_,h2⟩|⟨h2,_⟩
  ·exact h2 x ⟨r,hr,hx⟩
  ·omega
 ·rw[if_neg (by simpa using hy)]
  obtain⟨r,k1,k2,k3,k4,k5⟩:=rows_key hv hR htab hA hy
  obtain⟨G,hG⟩:=gr_exists (R:=R) (fE_ok htab) r 0 k3 (by omega) (by rw[k4];exact hy)
  have hE0:fE f 0 p.Tokens.length=0:=by
   rcases fE_ok htab 0 p.Tokens.length (Nat.zero_le _) (Nat.le_refl _) with⟨_,h2⟩|⟨_,h2,_⟩
   ·exact absurd Pth.nil (h2 0)
   ·exact(pth_zero.1 h2).2
  have hc:=gr_cost hE0 hG
  rw[k4] at hc
  rw[k1]
  simp only[Option.bind_some]
  rw[ends_prog hv (by omega) htab k3 hG]
  simp only[Option.bind_some]
  rw[← hc] at hA hy ⊢
  exact .inr ⟨l,G,rfl,hpot,gr_path hG,by rw[gr_len hG];exact k3,hA,hy⟩
theorem Lst.uniq{P:Int→Prop}{v w:Int}(h:Lst P v)(k:Lst P w):v=w:=by
 rcases h with⟨h1,h2⟩|⟨h1,h2,h3⟩
 ·rcases k with⟨k1,_⟩|⟨_,k2,_⟩
  ·rw[h1,k1]
  ·exact absurd k2 (h2 _)
 ·rcases k with⟨_,k2⟩|⟨_,k2,k3⟩
  ·exact absurd h2 (k2 _)
  ·have:=h3 _ k2;have:=k3 _ h2;omega
theorem idx_w2{n k i:Nat}(hn:n≤16)(hk:k≤5)(hi:i≤n):IntKind.i64.wrap ((IntKind.i64.wrap ((k:Int) * (IntKind.i64.wrap ((n:Int)+1))))+(i:Int))=((k * (n+1)+i:Nat):Int):=by
 have hb:=idx_bd hn hk hi
 have e:(k:Int) * ((n:Int)+1)=((k * (n+1):Nat):Int):=by
  rw[Int.natCast_mul];rfl
 rw[wr64 (x:=(n:Int)+1) (by omega),e]
 have key:∀ g:Nat,g+i≤120→IntKind.i64.wrap (IntKind.i64.wrap (g:Int)+(i:Int))=((g+i:Nat):Int):=fun g hg=>by
  rw[wr64 (x:=(g:Int)) (by omega),wr64 (by omega)];omega
 exact key _ hb
theorem pa_step{p:T_api_Paragraph}{m i j:Nat}{y:Int}(h1:i < j)(h2:j≤p.Tokens.length)(hf:fitP p i j=true)(h:PA p m j y):PA p (m+1) i (cPr p i j+y):=by
 obtain⟨r,hr,hp⟩:=h
 exact⟨r+1,by omega,Pth.cons h1 h2 hf hp⟩
theorem acc_s4{p:T_api_Paragraph}(hv:Pv p){R k i:Nat}(hR:R≤4)(hk:k < R)(hi:i < p.Tokens.length){b:T_api_Breaks}(hpot:PotOK p R b.Potentials){v:Int}(hL:Lst (PA p (R - k) i) v) :
  iter (g_rowbreak_Accept_s4 b (shP p (aimP p)) (p.Tokens.length:Int) (k:Int) (i:Int) v) (IntKind.i64.wrap ((i:Int)+1))=some (.inr ()):=by
 have hn:=hv.ok.toks
 rw[wr64 (x:=(i:Int)+1) (by omega),show(i:Int)+1=((i+1:Nat):Int) by omega]
 have key:∃ e,iter (g_rowbreak_Accept_s4 b (shP p (aimP p)) (p.Tokens.length:Int) (k:Int) (i:Int) v) ((i+1:Nat):Int)=some e∧e=.inr ():=by
  refine iter_post (fun x=>∃ J:Nat,x=(J:Int)∧i < J∧J≤p.Tokens.length+1) (fun x=>p.Tokens.length+2 - x.toNat) (fun(e:Unit ⊕ Unit)=>e=Sum.inr ()) (x:=((i+1:Nat):Int)) ⟨i+1,rfl,by omega,by omega⟩ (by show p.Tokens.length+2 - _ < _;omega) ?_
  rintro x ⟨J,rfl,h1,h2⟩
  unfold g_rowbreak_Accept_s4
  by_cases hJ:J≤p.Tokens.length
  ·rw[if_pos (by simpa using hJ),fits_eq hv.ok _ (by omega) hJ]
   simp only[Option.bind_some]
   cases hf:fitP p i J with
   | false=>right;exact⟨_,rfl,rfl⟩
   | true =>
    left
    obtain⟨y,hy,hLy⟩:=hpot.2 (k+1) J (by omega) hJ
    have hyb:=lstA_bd (by omega) hLy
    have hvb:=lstA_bd (by omega) hL
    have hcb:=cPr_le p i J
    have ek:IntKind.i64.wrap ((k:Int)+1)=((k+1:Nat):Int):=by rw[wr64 (by omega)];omega
    rw[ek,idx_w2 hn (by omega) hJ,getI hy]
    simp only[Option.bind_some,if_true]
    have hno:(if(y != (-1))=true then(if(v == (-1))=true then some true else(g_rowbreak_sheet_cost (shP p (aimP p)) (i:Int) (J:Int)).bind fun r=>some (decide (y < IntKind.i64.wrap (v - r)))) else some false:Option Bool)=some false:=by
     by_cases hy1:y=-1
     ·subst hy1;rfl
     ·obtain⟨_,h4,_⟩:=hLy.mem hy1
      have h5:=pa_step h1 hJ hf h4
      rw[show R - (k+1)+1=R - k by omega] at h5
      obtain⟨h6,h7,h8⟩:=hL.has h5
      rw[if_pos (by simpa using hy1),if_neg (by simpa using h6),cost_eq hv.ok h1 hJ]
      simp only[Option.bind_some]
      rw[wr64 (by omega)]
      simp
      omega
    rw[hno]
    simp only[Option.bind_some,Bool.false_eq_true,if_false]
    rw[wr64 (x:=(J:Int)+1) (by omega)]
    exact⟨_,rfl,⟨J+1,by omega,by omega,by omega⟩,by omega⟩
  ·right
   rw[if_neg (by simp;omega)]
   exact⟨_,rfl,rfl⟩
 obtain⟨e,he,rfl⟩:=key
 exact he
theorem acc_s3{p:T_api_Paragraph}(hv:Pv p){R k:Nat}(hR:R≤4)(hk:k < R){b:T_api_Breaks}(hpot:PotOK p R b.Potentials) :
  iter (g_rowbreak_Accept_s3 b (shP p (aimP p)) (p.Tokens.length:Int) (k:Int)) 0=some (.inr ()):=by
 have hn:=hv.ok.toks
 refine iter_idx (step:=g_rowbreak_Accept_s3 b (shP p (aimP p)) (p.Tokens.length:Int) (k:Int)) p.Tokens.length (by omega) (fun _=>Sum.inr ()) (fun i hi=>.inl ⟨?_,rfl⟩) ?_
 ·unfold g_rowbreak_Accept_s3
  obtain⟨v,hv1,hL⟩:=hpot.2 k i (by omega) (by omega)
  rw[if_pos (by simpa using hi),idx_w2 hn (by omega) (by omega),getI hv1]
  simp only[Option.bind_some]
  rw[acc_s4 hv hR hk hi hpot hL]
  simp only[Option.bind_some]
  rw[wr64 (x:=(i:Int)+1) (by omega)]
 ·unfold g_rowbreak_Accept_s3
  rw[if_neg (by simp)]
theorem acc_s2{p:T_api_Paragraph}(hv:Pv p){R:Nat}(hR:p.Rows=(R:Int)){b:T_api_Breaks}(hpot:PotOK p R b.Potentials) :
  iter (g_rowbreak_Accept_s2 p b (shP p (aimP p)) (p.Tokens.length:Int)) 0=some (.inr ()):=by
 have hrw:=hv.rows
 refine iter_idx (step:=g_rowbreak_Accept_s2 p b (shP p (aimP p)) (p.Tokens.length:Int)) R (by omega) (fun _=>Sum.inr ()) (fun k hk=>.inl ⟨?_,rfl⟩) ?_
 ·unfold g_rowbreak_Accept_s2
  rw[if_pos (by rw[hR];simpa using hk),acc_s3 hv (by omega) hk hpot]
  simp only[Option.bind_some]
  rw[wr64 (x:=(k:Int)+1) (by omega)]
 ·unfold g_rowbreak_Accept_s2
  rw[if_neg (by rw[hR];simp)]
theorem acc_s1{p:T_api_Paragraph}(hv:Pv p){R:Nat}(hR:p.Rows=(R:Int)){b:T_api_Breaks}(hpot:PotOK p R b.Potentials) :
  iter (g_rowbreak_Accept_s1 p b (p.Tokens.length:Int)) 0=some (.inr ()):=by
 have hn:=hv.ok.toks
 have hrw:=hv.rows
 have e1:IntKind.i64.wrap (p.Rows+1)=((R+1:Nat):Int):=by rw[wr64 (by omega)];omega
 refine iter_idx (step:=g_rowbreak_Accept_s1 p b (p.Tokens.length:Int)) (R+1) (by omega) (fun _=>Sum.inr ()) (fun k hk=>.inl ⟨?_,rfl⟩) ?_
 ·unfold g_rowbreak_Accept_s1
  obtain⟨v,hv1,hL⟩:=hpot.2 k p.Tokens.length (by omega) (Nat.le_refl _)
  have hv0:v=0:=hL.uniq (lst_n p (R - k))
  subst hv0
  rw[e1,if_pos (by simp;omega),idx_w2 hn (by omega) (Nat.le_refl _),getI hv1]
  simp only[Option.bind_some,bne_self_eq_false,Bool.false_eq_true,if_false]
  rw[wr64 (x:=(k:Int)+1) (by omega)]
 ·unfold g_rowbreak_Accept_s1
  rw[e1,if_neg (by simp)]
theorem pot_ge{p:T_api_Paragraph}{R:Nat}{l:List Int}(hR:R≤4)(hpot:PotOK p R l):∀ x ∈ l,-1≤x:=by
 intro x hx
 obtain⟨i,hi,rfl⟩:=List.getElem_of_mem hx
 have hlen:=hpot.1
 have hdm:=Nat.div_add_mod i (p.Tokens.length+1)
 have hmod:=Nat.mod_lt i (show 0 < p.Tokens.length+1 by omega)
 have hdiv:i / (p.Tokens.length+1)≤R:=by
  have:i / (p.Tokens.length+1) < R+1:=(Nat.div_lt_iff_lt_mul (by omega)).2 (by rw[← hlen];exact hi)
  omega
 obtain⟨v,hv,hL⟩:=hpot.2 (i / (p.Tokens.length+1)) (i % (p.Tokens.length+1)) hdiv (by omega)
 rw[Nat.mul_comm,hdm,List.getElem?_eq_getElem hi] at hv
 injection hv with hv
 rw[hv]
 exact(lstA_bd (Nat.le_trans (Nat.sub_le _ _) (by omega)) hL).1
theorem accept_spec{p:T_api_Paragraph}(h:Pok p)(hck:ckP p=0){R:Nat}(hR:p.Rows=(R:Int)){l:List Int}{G:List Nat}(hpot:PotOK p R l)(hG:RPath p 0 G)(hl:G.length≤R)(hA:Lst (PA p R 0) (wcost p 0 G)):g_rowbreak_Accept p ⟨inl G,wcost p 0 G,l⟩=some 0:=by
 have hv:=ckP_0 h hck
 have hn:=hv.ok.toks
 have hrw:=hv.rows
 have hp:(shP p (aimP p)).p_=p:=rfl
 have hlen:l.length=(R+1) * (p.Tokens.length+1):=hpot.1
 have hle:(R+1) * (p.Tokens.length+1)≤5 * 17:=Nat.mul_le_mul (by omega) (by omega)
 have hpos:0 < (R+1) * (p.Tokens.length+1):=Nat.mul_pos (by omega) (by omega)
 obtain⟨y,hy0,hLy⟩:=hpot.2 0 0 (Nat.zero_le _) (Nat.zero_le _)
 rw[Nat.sub_zero] at hLy
 have hyc:y=wcost p 0 G:=hLy.uniq hA
 subst hyc
 have hat:atI l 0=some (wcost p 0 G):=by
  have:=getI hy0
  simpa using this
 have e1:IntKind.i64.wrap (p.Rows+1)=((R+1:Nat):Int):=by rw[wr64 (by omega)];omega
 have e2:IntKind.i64.wrap ((p.Tokens.length:Int)+1)=((p.Tokens.length+1:Nat):Int):=(wr64 (by omega)).trans (by omega)
 have e3:IntKind.i64.wrap (((R+1:Nat):Int) * ((p.Tokens.length+1:Nat):Int))=(((R+1) * (p.Tokens.length+1):Nat):Int):=by
  rw[← Int.natCast_mul,wr64 (by omega)]
 have hne:l≠[]:=fun e=>by
  have h0:l.length=0:=by rw[e];rfl
  omega
 have hmin:g_slices_Min_int64_int64 l=some (Lib.minOf l):=by
  unfold g_slices_Min_int64_int64
  rw[if_pos ⟨by omega,by omega⟩]
 have hge:=pot_ge (by omega) hpot _ (minOf_mem hne)
 have hlt:decide (Lib.minOf l < -1)=false:=by simp;omega
 have hself:decide (wcost p 0 G < wcost p 0 G)=false:=by simp
 simp only[g_rowbreak_Accept,par_prog h,hck,open_eq h,total_path hv hG (by omega),g_rowbreak_sheet_n,hp,e1,e2,e3,hlen,hmin,hlt,acc_s1 hv hR (b:=⟨inl G,wcost p 0 G,l⟩) hpot,acc_s2 hv hR (b:=⟨inl G,wcost p 0 G,l⟩) hpot,hat,hself,Option.bind_some,bne_self_eq_false,Bool.false_eq_true,if_false]
def tkW (ws:List (List UInt8))(i:Nat):T_api_Token:=⟨ws[i]?.getD [],if i+1 < ws.length then strS (ws[i]?.getD []) (ws[i+1]?.getD []) else 5⟩
def tksW (ws:List (List UInt8)):List T_api_Token:=(List.range ws.length).map (tkW ws)
theorem tksW_len(ws:List (List UInt8)):(tksW ws).length=ws.length:=by simp[tksW]
theorem tksW_text(ws:List (List UInt8)):(tksW ws).map (·.Text)=ws:=by
 refine List.ext_getElem (by simp[tksW]) fun i h1 h2=>?_
 simp[tksW,tkW,h2]
theorem val_loop(ws:List (List UInt8))(hn:ws.length≤2000000)(hw:∀ w ∈ ws,w.length≤1048576):∃ e,iter (g_token_Split_s1 ws) 0=some e∧(e=.inr ()→∀ w ∈ ws,gv w=true)∧((∀ w ∈ ws,gv w=true)→e=.inr ()):=by
 have h:=iter_idx (step:=g_token_Split_s1 ws) ws.length (by omega) (fun i=>if(ws.drop i).all gv then .inr () else .inl ()) (fun i hi=>?_) ?_
 ·rw[List.drop_zero] at h
  refine⟨_,h,fun he=>?_,fun ha=>?_⟩
  ·split at he
   ·rename_i hall;exact List.all_eq_true.1 hall
   ·cases he
  ·rw[if_pos (List.all_eq_true.2 ha)]
 ·unfold g_token_Split_s1
  have hwi:=hw _ (List.getElem_mem hi)
  rw[if_pos (by simpa using hi),atI_nat hi,wr64 (x:=(i:Int)+1) (by omega)]
  simp only[Option.bind_some]
  rw[prog_Valid_eq _ (by omega)]
  simp only[Option.bind_some]
  rw[List.drop_eq_getElem_cons hi,List.all_cons]
  cases gv ws[i] with
  | true=>left;simp
  | false=>right;simp
 ·unfold g_token_Split_s1
  rw[if_neg (by simp)]
  simp
theorem tk_loop(ws:List (List UInt8))(hn:ws.length≤2000000)(hw:∀ w ∈ ws,w.length≤1048576):iter (g_token_Split_s2 ws) (0,List.replicate ws.length (T_api_Token.mk [] 0))=some (tksW ws):=by
 refine iter_of (fun x e=>∃ i:Nat,x.1=(i:Int)∧i≤ws.length∧x.2=(List.range i).map (tkW ws)++List.replicate (ws.length - i) (T_api_Token.mk [] 0)∧e=tksW ws) (fun x=>ws.length - x.1.toNat) ?_ (x:=(0,_)) ⟨0,rfl,by omega,by simp,rfl⟩ (by show ws.length - 0 < _;omega)
 rintro⟨x,m⟩ e ⟨i,hx,hi,hm,rfl⟩
 dsimp only at hx hm ⊢
 subst hx hm
 unfold g_token_Split_s2
 dsimp only
 by_cases hlt:i < ws.length
 ·left
  obtain⟨k,hk⟩:∃ k,ws.length - i=k+1:=⟨ws.length - i - 1,by omega⟩
  have hk2:ws.length - (i+1)=k:=by omega
  have hA:((List.range i).map (tkW ws)).length=i:=by simp
  have hset:∀ (v u:T_api_Token),(((List.range i).map (tkW ws)++v::List.replicate k (T_api_Token.mk [] 0))).set i u=(List.range i).map (tkW ws)++u::List.replicate k (T_api_Token.mk [] 0):=fun v u=>by
   rw[List.set_append_right _ _ (by omega),hA,Nat.sub_self];rfl
  have hgt:∀ (v:T_api_Token),atI ((List.range i).map (tkW ws)++v::List.replicate k (T_api_Token.mk [] 0)) (i:Int)=some v:=fun v=>by
   rw[atI_nat (by simp),List.getElem_append_right (by omega)]
   simp[hA]
  have hse:∀ (v u:T_api_Token),setI ((List.range i).map (tkW ws)++v::List.replicate k (T_api_Token.mk [] 0)) (i:Int) u=some ((List.range i).map (tkW ws)++u::List.replicate k (T_api_Token.mk [] 0)):=fun v u=>by
   rw[setI_nat _ (by simp),hset]
  have hfin:∀ u:T_api_Token,u=tkW ws i→(List.range i).map (tkW ws)++u::List.replicate k (T_api_Token.mk [] 0)=(List.range (i+1)).map (tkW ws)++List.replicate (ws.length - (i+1)) (T_api_Token.mk [] 0):=fun u hu=>by
   rw[hk2,List.range_succ,List.map_append,hu];simp
  rw[hk,List.replicate_succ,if_pos (by simpa using hlt),atI_nat hlt]
  simp only[Option.bind_some,hgt,hse]
  rw[wr64 (by omega)]
  have hw1:=hw _ (List.getElem_mem hlt)
  by_cases h2:i+1 < ws.length
  ·rw[if_pos (by simp;omega),show((i:Int)+1)=((i+1:Nat):Int) by omega,atI_nat h2]
   simp only[Option.bind_some]
   rw[(strS_eq ws[i] ws[i+1] (by omega)).1]
   simp only[Option.bind_some,hgt,hse]
   refine⟨_,rfl,⟨i+1,rfl,by omega,hfin _ ?_,by first|rfl|trivial⟩,by dsimp only;omega⟩
   simp[tkW,hlt,h2]
  ·rw[if_neg (by simp;omega),show((i:Int)+1)=((i+1:Nat):Int) by omega]
   refine⟨_,rfl,⟨i+1,rfl,by omega,hfin _ ?_,by first|rfl|trivial⟩,by dsimp only;omega⟩
   simp[tkW,hlt,h2]
 ·right
  obtain rfl:i=ws.length:=by omega
  rw[if_neg (by simp)]
  simp[tksW]
theorem split_spec(s:List UInt8)(hs:s.length≤1048576):(∃ e,g_token_Split s=some ([],e)∧e≠0∧((words s).length≤200→¬ ∀ w ∈ words s,gv w=true))∨(g_token_Split s=some (tksW (words s),0)∧(words s).length≤200∧∀ w ∈ words s,gv w=true):=by
 have hc:=words_count s
 have hw:∀ w ∈ words s,w.length≤1048576:=fun w h=>by have:=(words_all h).2.2;omega
 unfold g_token_Split g_strings_FieldsFunc
 rw[if_pos (by omega)]
 simp only[Option.bind_some]
 obtain⟨e,he,h1,h2⟩:=val_loop (words s) (by omega) hw
 rw[he]
 simp only[Option.bind_some]
 cases e with
 | inl u=>exact .inl ⟨10,rfl,by decide,fun _ hall=>by cases h2 hall⟩
 | inr u =>
  simp only
  by_cases hl:200 < (words s).length
  ·rw[if_pos (by simp;omega)]
   exact .inl ⟨9,rfl,by decide,fun h=>by omega⟩
  ·rw[if_neg (by simp;omega),mkI_nat 24 (words s).length _ (by omega) (by omega)]
   simp only[Option.bind_some]
   rw[tk_loop _ (by omega) hw]
   exact .inr ⟨rfl,by omega,h1 rfl⟩
theorem subI_all{α:Type}(l:List α):subI l 0 (l.length:Int)=some l:=by
 unfold subI
 rw[if_pos (by omega)]
 simp
theorem sum_bd:∀ (l:List T_api_Token),(∀ t ∈ l,t.Text.length≤1048576)→-(l.length:Int)≤(l.map fun t=>chL t.Text).sum∧(l.map fun t=>chL t.Text).sum≤(l.length:Int) * 1048576
 | [],_=>by simp
 | t::l,h=>by
  obtain⟨h1,h2⟩:=sum_bd l fun u hu=>h u (List.mem_cons_of_mem _ hu)
  have:=chL_le t.Text (h t (by simp))
  simp only[List.map_cons,List.sum_cons,List.length_cons]
  omega
theorem len_spec(l:List T_api_Token)(hne:l≠[])(hn:l.length≤200)(hl:∀ t ∈ l,t.Text.length≤1048576):g_token_Len l 0 (l.length:Int)=some ((l.map fun t=>chL t.Text).sum+l.length - 1):=by
 have hp:=List.length_pos_iff.2 hne
 unfold g_token_Len
 have e1:(if decide ((0:Int) < 0)=true then some true else if decide ((l.length:Int) < 0)=true then some true else some (decide ((l.length:Int) < (l.length:Int))):Option Bool)=some false:=by
  simp
 rw[e1,subI_all]
 simp only[Option.bind_some,Bool.false_eq_true,if_false]
 rw[show(l.length:Int) - 0=(l.length:Int) by omega,wr64 (x:=(l.length:Int)) (by omega),wr64 (x:=(l.length:Int) - 1) (by omega)]
 have e2:(if(l.length:Int) - 1 > 0 then(l.length:Int) - 1 else 0)=(l.length:Int) - 1:=by split<;>omega
 rw[e2]
 have key:iter (g_token_Len_s1 l) ((l.length:Int) - 1,0)=some ((l.map fun t=>chL t.Text).sum+l.length - 1):=by
  refine iter_of (fun x e=>e=(l.map fun t=>chL t.Text).sum+l.length - 1∧∃ i:Nat,x.2=(i:Int)∧i≤l.length∧x.1=((l.take i).map fun t=>chL t.Text).sum+l.length - 1) (fun x=>l.length - x.2.toNat) ?_ (x:=(_,0)) ⟨rfl,0,rfl,by omega,by simp⟩ (by show l.length - 0 < _;omega)
  rintro⟨a,x⟩ e ⟨rfl,i,hx,hi,ha⟩
  dsimp only at hx ha ⊢
  subst hx ha
  unfold g_token_Len_s1
  dsimp only
  by_cases hlt:i < l.length
  ·left
   have hti:=hl _ (List.getElem_mem hlt)
   rw[if_pos (by simpa using hlt),atI_nat hlt]
   simp only[Option.bind_some]
   rw[len_prog _ hti]
   simp only[Option.bind_some]
   have hts:(l.take (i+1)).map (fun t=>chL t.Text)=(l.take i).map (fun t=>chL t.Text)++[chL l[i].Text]:=by
    rw[List.take_succ_eq_append_getElem hlt,List.map_append];rfl
   have hb:=sum_bd (l.take i) fun t ht=>hl t (List.mem_of_mem_take ht)
   rw[List.length_take,show min i l.length=i by omega] at hb
   have hcl:=chL_le _ hti
   rw[wr64 (by omega),wr64 (x:=(i:Int)+1) (by omega)]
   refine⟨_,rfl,⟨by first|rfl|trivial,i+1,rfl,hlt,?_⟩,by dsimp only;omega⟩
   dsimp only
   rw[hts,List.sum_append]
   simp
   omega
  ·right
   obtain rfl:i=l.length:=by omega
   rw[if_neg (by simp),List.take_of_length_le (Nat.le_refl _)]
 rw[key]
 rfl
def ascL:List UInt8→Bool
 | []=>true
 | b::l=>match Nat.blt b.toNat 128 with
  | true=>ascL l
  | false=>false
theorem ascL_mem:∀ {l:List UInt8},ascL l=true→∀ b ∈ l,b.toNat < 128
 | b::l,h,x,hx=>by
  unfold ascL at h
  split at h
  ·rename_i hb
   rcases List.mem_cons.1 hx with rfl|hx
   ·simpa using hb
   ·exact ascL_mem h x hx
  ·cases h
theorem valid_asc{l:List UInt8}(h:ascL l=true):Lib.validD l=true:=by
 have:=Lib.validD_ascii l.length l (fun b hb=>ascL_mem h b (List.mem_of_mem_take hb))
 rw[List.drop_of_length_le (Nat.le_refl _)] at this
 rw[this];rfl
theorem runes_asc{l:List UInt8}(h:ascL l=true):Lib.runeCountL l=l.length:=by
 unfold Lib.runeCountL
 rw[Lib.runeCount_ascii]
 ·simp[ByteArray.size]
 ·intro j hj
  refine ascL_mem h _ ?_
  show(l.toArray)[j]'(by simpa[ByteArray.size] using hj) ∈ l
  simp
def spl (c:UInt8):List UInt8→List (List UInt8)
 | []=>[[]]
 | b::s=>match Nat.beq b.toNat c.toNat with
  | true=>[]::spl c s
  | false=>match spl c s with
   | []=>[[b]]
   | h::t=>(b::h)::t
theorem spl_eq(c:UInt8):∀ s:List UInt8,Lib.splitK [c] 0 (s.count c) s=spl c s
 | []=>rfl
 | b::s=>by
  have ih:=spl_eq c s
  unfold spl
  split
  ·rename_i hb
   have e:b=c:=UInt8.toNat_inj.1 (Nat.eq_of_beq_eq_true hb)
   subst e
   rw[List.count_cons_self,Lib.splitK]
   have hi:Lib.index (b::s) [b]=0:=by simp[Lib.index]
   rw[hi]
   simp only[List.length_cons,List.length_nil]
   rw[if_neg (by decide)]
   simp[ih]
  ·rename_i hb
   have hne:b≠c:=fun e=>by rw[e] at hb;simp at hb
   rw[List.count_cons_of_ne hne]
   have hi:Lib.index (b::s) [c]=if Lib.index s [c] == -1 then -1 else Lib.index s [c]+1:=by
    have:([c].isPrefixOf (b::s))=false:=by simp[List.isPrefixOf,Ne.symm hne]
    rw[Lib.index,this];simp
   cases hk:s.count c with
   | zero =>
    rw[hk] at ih
    rw[← ih]
    simp[Lib.splitK]
   | succ k =>
    rw[hk] at ih
    rw[← ih]
    rw[Lib.splitK,Lib.splitK,hi]
    by_cases h1:(Lib.index s [c] == -1)=true
    ·rw[if_pos h1,if_pos h1];simp
    ·rw[if_neg h1,if_neg h1]
     have hge:=Lib.index_ge s [c]
     have hne1:Lib.index s [c]≠-1:=fun e=>h1 (by rw[e];rfl)
     obtain⟨m,hm⟩:=Int.eq_ofNat_of_zero_le (show 0≤Lib.index s [c] by omega)
     rw[hm]
     rw[if_neg (by simp only[beq_iff_eq];omega)]
     simp only[List.length_cons,List.length_nil]
     have e1:((m:Int)+1).toNat=m+1:=by omega
     rw[e1,Int.toNat_natCast]
     rfl
theorem split_spl(s:List UInt8)(c:UInt8):Lib.split s [c]=spl c s:=by
 unfold Lib.split
 rw[Lib.count_one]
 exact spl_eq c s
def inx (t:List UInt8):List UInt8→Bool
 | []=>t.isEmpty
 | b::s=>match t.isPrefixOf (b::s) with
  | true=>true
  | false=>inx t s
theorem inx_eq(t:List UInt8):∀ s:List UInt8,Lib.contains s t=inx t s
 | []=>by
  unfold Lib.contains Lib.index inx
  cases t.isEmpty<;>rfl
 | b::s=>by
  have ih:=inx_eq t s
  have hge:=Lib.index_ge s t
  unfold Lib.contains at ih ⊢
  unfold Lib.index inx
  cases t.isPrefixOf (b::s) with
  | true=>rfl
  | false =>
   simp only[Bool.false_eq_true,if_false]
   rw[← ih]
   by_cases h:Lib.index s t=-1
   ·rw[h];rfl
   ·have h':(Lib.index s t == -1)=false:=by simpa using h
    rw[h']
    simp only[Bool.false_eq_true,if_false,decide_eq_decide]
    omega
def decF:Nat→Nat→List UInt8→Option (List UInt8)
 | 0,_,_=>none
 | f+1,n,acc=>match Nat.blt n 10 with
  | true=>some (UInt8.ofNat (48+n)::acc)
  | false=>decF f (n / 10) (UInt8.ofNat (48+n % 10)::acc)
theorem decF_eq:∀ (f n:Nat) (acc r:List UInt8),decF f n acc=some r→r=Lib.decDigits n++acc
 | 0,n,acc,r,h=>by cases h
 | f+1,n,acc,r,h=>by
  unfold decF at h
  split at h
  ·rename_i hb
   have hb':n < 10:=by simpa using hb
   rw[Lib.decDigits,dif_pos hb']
   simp only[Option.some.injEq] at h
   rw[← h];rfl
  ·rename_i hb
   have hb':¬ n < 10:=fun h=>by
    have h2:Nat.blt n 10=true:=by rw[Nat.blt_eq];exact h
    rw[h2] at hb;cases hb
   rw[Lib.decDigits,dif_neg hb']
   rw[decF_eq f _ _ _ h]
   simp
def strsD:List D→Option (List (List UInt8))
 | []=>some []
 | .str s::l=>match strsD l with
  | some r=>some (s::r)
  | none=>none
 | _=>none
theorem strsD_eq:∀ {l:List D} {r},strsD l=some r→l=r.map D.str:=by
 intro l
 induction l with
 | nil=>intro r h;simp only[strsD,Option.some.injEq] at h;subst h;rfl
 | cons d l ih =>
  intro r h
  cases d with
  | str s =>
   simp only[strsD] at h
   cases hs:strsD l with
   | none=>rw[hs] at h;cases h
   | some r' =>
    rw[hs] at h
    simp only[Option.some.injEq] at h
    subst h
    rw[ih hs];rfl
  | _=>simp[strsD] at h
def intsD(k:IntKind):List D→Option (List Int)
 | []=>some []
 | .int k' x::l=>match decide (k'=k),intsD k l with
  | true,some r=>some (x::r)
  | _,_=>none
 | _=>none
theorem intsD_eq{k:IntKind}:∀ {l:List D} {r},intsD k l=some r→l=r.map (D.int k):=by
 intro l
 induction l with
 | nil=>intro r h;simp only[intsD,Option.some.injEq] at h;subst h;rfl
 | cons d l ih =>
  intro r h
  cases d with
  | int k' x =>
   simp only[intsD] at h
   cases hs:intsD k l with
   | none=>rw[hs] at h;split at h<;>simp_all
   | some r' =>
    rw[hs] at h
    split at h
    ·rename_i hk hr
     simp only[Option.some.injEq] at h hr
     subst h hr
     rw[ih hs,of_decide_eq_true hk];rfl
    ·cases h
  | _=>simp[intsD] at h
def gValid:List D→Option D
 | [.str s]=>match ascL s with
  | true=>some (.bool true)
  | false=>none
 | _=>none
def gCount:List D→Option D
 | [.str s]=>match ascL s,Nat.blt s.length 1000000 with
  | true,true=>some (.int .i64 s.length)
  | _,_=>none
 | _=>none
def gContains:List D→Option D
 | [.str s,.str t]=>match Nat.blt s.length 1000000 with
  | true=>some (.bool (inx t s))
  | false=>none
 | _=>none
def gCutP:List D→Option D
 | [.str s,.str t]=>match t.isPrefixOf s with
  | true=>some (.tup [.str (s.drop t.length),.bool true])
  | false=>some (.tup [.str s,.bool false])
 | _=>none
def gParse:List D→Option D
 | [.str s,.int .i64 b,.int .i64 n]=>match g_strconv_ParseInt s b n with
  | some r=>some (.tup [.int .i64 r.1,.err r.2])
  | none=>none
 | _=>none
def gFormat:List D→Option D
 | [.int .i64 (.ofNat n),.int .i64 10]=>match decF 20 n [] with
  | some r=>some (.str r)
  | none=>none
 | _=>none
def gSplit:List D→Option D
 | [.str s,.str [c]]=>match Nat.blt s.length 1000000 with
  | true=>some (.sl ((spl c s).map D.str))
  | false=>none
 | _=>none
def gJoin:List D→Option D
 | [.sl l,.str t]=>match strsD l with
  | some r=>match g_strings_Join r t with
   | some x=>some (.str x)
   | none=>none
  | none=>none
 | _=>none
def gWrite(ds:List D)(h:Tr Blk)(n:Nat):Option (D × Eff):=match ds with
 | [.ptr id 0,.str s]=>match Nat.beq n id,Nat.blt s.length 1000000 with
  | false,true=>match h.get id with
   | some (.bbox T [.sp i,.nils])=>match Nat.beq T 175,Nat.beq i id with
    | true,true=>some (.tup [.int .i64 s.length,.err false],[(n,some (.vec 5 1 ((toI s).map (D.int .u8)) false)),(id,some (.bbox 175 [.sp id,.own n (toI s).length]))])
    | _,_=>none
   | some (.bbox T [.sp i,.own j m])=>match Nat.beq T 175,Nat.beq i id,h.get j with
    | true,true,some (.vec e 1 xs false)=>match intsD .u8 xs with
     | some l=>match Nat.beq e 5,Nat.beq m l.length,Nat.blt l.length 1000000 with
      | true,true,true=>some (.tup [.int .i64 s.length,.err false],[(j,none),(n,some (.vec 5 1 ((l++toI s).map (D.int .u8)) false)),(id,some (.bbox 175 [.sp id,.own n (l++toI s).length]))])
      | _,_,_=>none
     | none=>none
    | _,_,_=>none
   | _=>none
  | _,_=>none
 | _=>none
def gString(ds:List D)(h:Tr Blk)(n:Nat):Option (D × Eff):=match ds with
 | [.ptr id 0]=>match h.get id with
  | some (.bbox T [.sp i,.nils])=>match Nat.beq T 175,Nat.beq i id with
   | true,true=>some (.str [],[])
   | _,_=>none
  | some (.bbox T [.sp i,.own j m])=>match Nat.beq T 175,Nat.beq i id,h.get j with
   | true,true,some (.vec e 1 xs false)=>match intsD .u8 xs with
    | some l=>match Nat.beq e 5,Nat.beq m l.length with
     | true,true=>some (.str (bytesOf l),[(j,none),(id,none)])
     | _,_=>none
    | none=>none
   | _,_,_=>none
  | _=>none
 | _=>none
def gCompact(ds:List D)(h:Tr Blk)(n:Nat):Option (D × Eff):=match ds with
 | [.own id m]=>match h.get id with
  | some (.vec e 1 xs false)=>match intsD .i64 xs with
   | some l=>match Nat.beq m l.length,Nat.blt l.length 1000000 with
    | true,true=>some (.own n (Lib.compact l).length,[(id,none),(n,some (.vec e 1 ((Lib.compact l).map (D.int .i64)) false))])
    | _,_=>none
   | none=>none
  | _=>none
 | _=>none
section
variable {I:World→Prop}
theorem sValid(hI:Stab I)(hU:∀ w,I w→U8T w):∀ ds d,gValid ds=some d→AFun Tryz.prog I 79 ds d:=by
 intro ds d h
 unfold gValid at h
 split at h
 ·split at h
  ·rename_i s x0 ha
   simp only[Option.some.injEq] at h
   subst h
   have:=a_unicode_utf8_ValidString I hI hU s (r:=Lib.validD s) rfl
   rwa[valid_asc ha] at this
  ·cases h
 ·cases h
theorem sCount(hI:Stab I):∀ ds d,gCount ds=some d→AFun Tryz.prog I 89 ds d:=by
 intro ds d h
 unfold gCount at h
 split at h
 ·split at h
  ·rename_i s x0 x1 ha hb
   simp only[Option.some.injEq] at h
   subst h
   have hb':s.length < 1000000:=by simpa using hb
   have:=a_unicode_utf8_RuneCountInString I hI s (r:=(Lib.runeCountL s:Int)) (by unfold g_unicode_utf8_RuneCountInString;rw[if_pos (by omega)])
   rwa[runes_asc ha] at this
  ·cases h
 ·cases h
theorem sContains(hI:Stab I)(hS:∀ w,I w→Shp w):∀ ds d,gContains ds=some d→AFun Tryz.prog I 164 ds d:=by
 intro ds d h
 unfold gContains at h
 split at h
 ·split at h
  ·rename_i s t x0 hb
   simp only[Option.some.injEq] at h
   subst h
   have hb':s.length < 1000000:=by simpa using hb
   have:=a_strings_Contains2 I hI hS s t (r:=Lib.contains s t) (by unfold g_strings_Contains2;rw[if_pos (by omega)])
   rwa[inx_eq] at this
  ·cases h
 ·cases h
theorem sCutP(hI:Stab I):∀ ds d,gCutP ds=some d→AFun Tryz.prog I 184 ds d:=by
 intro ds d h
 unfold gCutP at h
 split at h
 ·rename_i s t
  have:=a_strings_CutPrefix I hI s t (r:=(Lib.trimPrefix s t,Lib.hasPrefix s t)) rfl
  unfold Lib.trimPrefix Lib.hasPrefix at this
  split at h
  ·rename_i hp
   simp only[Option.some.injEq] at h
   subst h
   rw[hp] at this
   simpa using this
  ·rename_i hp
   simp only[Option.some.injEq] at h
   subst h
   rw[hp] at this
   simpa using this
 ·cases h
theorem sParse(hI:Stab I)(hP:∀ w,I w→PIv w):∀ ds d,gParse ds=some d→AFun Tryz.prog I 185 ds d:=by
 intro ds d h
 unfold gParse at h
 split at h
 ·split at h
  ·rename_i s b n x0 r hr
   simp only[Option.some.injEq] at h
   subst h
   exact a_strconv_ParseInt I hI hP s b n hr
  ·cases h
 ·cases h
theorem sFormat(hI:Stab I)(hT:∀ w,I w→Tab w):∀ ds d,gFormat ds=some d→AFun Tryz.prog I 155 ds d:=by
 intro ds d h
 unfold gFormat at h
 split at h
 ·split at h
  ·rename_i n x0 r hr
   simp only[Option.some.injEq] at h
   subst h
   refine a_strconv_FormatInt I hI hT (.ofNat n) 10 ?_
   have h1:=decF_eq _ _ _ _ hr
   rw[List.append_nil] at h1
   unfold g_strconv_FormatInt Lib.itoa
   rw[if_pos rfl,if_neg (by simp),h1]
   rfl
  ·cases h
 ·cases h
theorem sSplit(hI:Stab I)(hS:∀ w,I w→Shp w):∀ ds d,gSplit ds=some d→AFun Tryz.prog I 91 ds d:=by
 intro ds d h
 unfold gSplit at h
 split at h
 ·split at h
  ·rename_i s c x0 hb
   simp only[Option.some.injEq] at h
   subst h
   have hb':s.length < 1000000:=by simpa using hb
   have:=a_strings_Split I hI hS s [c] (r:=Lib.split s [c]) (by unfold g_strings_Split;rw[if_pos ⟨by omega,by simp⟩])
   rwa[split_spl] at this
  ·cases h
 ·cases h
theorem sJoin(hI:Stab I):∀ ds d,gJoin ds=some d→AFun Tryz.prog I 34 ds d:=by
 intro ds d h
 unfold gJoin at h
 split at h
 ·split at h
  ·split at h
   ·rename_i l t x0 r hr x1 x hx
    simp only[Option.some.injEq] at h
    subst h
    rw[strsD_eq hr]
    exact a_strings_Join I hI r t hx
   ·cases h
  ·cases h
 ·cases h
theorem sWrite:∀ ds h n d eff,gWrite ds h n=some (d,eff)→CallOK Tryz.prog I 73 ds h.get n d eff:=by
 intro ds h n d eff hv
 unfold gWrite at hv
 split at hv
 case h_2=>cases hv
 rename_i id s
 split at hv
 case h_2=>cases hv
 rename_i hne hlen
 have hne':n≠id:=fun e=>by rw[e] at hne;simp at hne
 have hlen':s.length < 1000000:=by simpa using hlen
 split at hv
 ·rename_i T i hid
  split at hv
  ·rename_i hT hi
   have hT':=Nat.eq_of_beq_eq_true hT
   have hi':=Nat.eq_of_beq_eq_true hi
   subst hi'
   rw[hT'] at hid
   simp only[Option.some.injEq,Prod.mk.injEq] at hv
   obtain⟨rfl,rfl⟩:=hv
   exact c_WriteString0 I hid (by omega) hne'
  ·cases hv
 ·rename_i T i j m hid
  split at hv
  ·rename_i e xs hT hi hj
   split at hv
   ·rename_i l hl
    split at hv
    ·rename_i he hm hll
     have hT':=Nat.eq_of_beq_eq_true hT
     have hi':=Nat.eq_of_beq_eq_true hi
     have he':=Nat.eq_of_beq_eq_true he
     have hm':=Nat.eq_of_beq_eq_true hm
     have hll':l.length < 1000000:=by simpa using hll
     subst hi'
     rw[hT'] at hid
     rw[he',intsD_eq hl] at hj
     simp only[Option.some.injEq,Prod.mk.injEq] at hv
     obtain⟨rfl,rfl⟩:=hv
     exact c_WriteString1 I hid hj hm' (by omega) hne'
    ·cases hv
   ·cases hv
  ·cases hv
 ·cases hv
theorem sString:∀ ds h n d eff,gString ds h n=some (d,eff)→CallOK Tryz.prog I 74 ds h.get n d eff:=by
 intro ds h n d eff hv
 unfold gString at hv
 split at hv
 case h_2=>cases hv
 rename_i id
 split at hv
 ·rename_i T i hid
  split at hv
  ·rename_i hT hi
   have hT':=Nat.eq_of_beq_eq_true hT
   have hi':=Nat.eq_of_beq_eq_true hi
   subst hi'
   rw[hT'] at hid
   simp only[Option.some.injEq,Prod.mk.injEq] at hv
   obtain⟨rfl,rfl⟩:=hv
   exact c_String0 I hid
  ·cases hv
 ·rename_i T i j m hid
  split at hv
  ·rename_i e xs hT hi hj
   split at hv
   ·rename_i l hl
    split at hv
    ·rename_i he hm
     have hT':=Nat.eq_of_beq_eq_true hT
     have hi':=Nat.eq_of_beq_eq_true hi
     have he':=Nat.eq_of_beq_eq_true he
     have hm':=Nat.eq_of_beq_eq_true hm
     subst hi'
     rw[hT'] at hid
     rw[he',intsD_eq hl] at hj
     simp only[Option.some.injEq,Prod.mk.injEq] at hv
     obtain⟨rfl,rfl⟩:=hv
     exact c_String1 I hid hj hm'
    ·cases hv
   ·cases hv
  ·cases hv
 ·cases hv
theorem sCompact:∀ ds h n d eff,gCompact ds h n=some (d,eff)→CallOK Tryz.prog I 151 ds h.get n d eff:=by
 intro ds h n d eff hv
 unfold gCompact at hv
 split at hv
 case h_2=>cases hv
 rename_i id m
 split at hv
 case h_2=>cases hv
 rename_i e xs hid
 split at hv
 case h_2=>cases hv
 rename_i l hl
 split at hv
 case h_2=>cases hv
 rename_i hm hll
 have hm':=Nat.eq_of_beq_eq_true hm
 have hll':l.length < 1000000:=by simpa using hll
 subst hm'
 rw[intsD_eq hl] at hid
 simp only[Option.some.injEq,Prod.mk.injEq] at hv
 obtain⟨rfl,rfl⟩:=hv
 exact c_Compact64 hid (by omega)
end
def XL:CallF:=orX (pureX 79 gValid) (orX (pureX 89 gCount) (orX (pureX 164 gContains) (orX (pureX 184 gCutP) (orX (pureX 185 gParse) (orX (pureX 155 gFormat) (orX (pureX 91 gSplit) (orX (pureX 34 gJoin) (orX (effX 73 gWrite) (orX (effX 74 gString) (effX 151 gCompact))))))))))
theorem XL_sound{I:World→Prop}(hI:Stab I)(hU:∀ w,I w→U8T w)(hS:∀ w,I w→Shp w)(hP:∀ w,I w→PIv w)(hT:∀ w,I w→Tab w):CallSound Tryz.prog I XL :=
 orX_sound (pureX_sound hI (sValid hI hU)) (orX_sound (pureX_sound hI (sCount hI)) (orX_sound (pureX_sound hI (sContains hI hS)) (orX_sound (pureX_sound hI (sCutP hI)) (orX_sound (pureX_sound hI (sParse hI hP)) (orX_sound (pureX_sound hI (sFormat hI hT)) (orX_sound (pureX_sound hI (sSplit hI hS)) (orX_sound (pureX_sound hI (sJoin hI)) (orX_sound (effX_sound sWrite) (orX_sound (effX_sound sString) (effX_sound sCompact))))))))))
def purR (H:Nat→Option Blk):D→Option D
 | .tup l=>match purDsK H l with
  | some (l',_)=>some (.tup l')
  | none=>none
 | d=>match purDK H d with
  | some (d',_)=>some d'
  | none=>none
section
variable {P:Program}{I:World→Prop}
theorem purR_sound{C:Cx}{w:World}{B:Bx}{H:Nat→Option Blk}{d d':D}{v:Value}(hH:HOK C w B H)(hF:FB C w)(hp:purR H d=some d')(hv:Rep w C v d):∃ C' ep,Pub C w B H C' (appEff H ep)∧Rep w (cF C'.F) v d':=by
 unfold purR at hp
 split at hp
 ·rename_i l
  split at hp
  ·rename_i l' ep hq
   simp only[Option.some.injEq] at hp
   subst hp
   cases hv with
   | tup vs _ hl hr =>
    obtain⟨C',hP,hl',hr'⟩:=purDsK_sound l vs C H l' ep hH hF hl hr hq
    exact⟨C',ep,hP,.tup vs l' hl' fun i v d h1 h2=>(hr' i v d h1 h2).1⟩
  ·cases hp
 ·split at hp
  ·rename_i d0 ep hq
   simp only[Option.some.injEq] at hp
   subst hp
   obtain⟨C',hP,hr,_⟩:=purDK_sound hH hF hq hv
   exact⟨C',ep,hP,hr⟩
  ·cases hp
theorem XOK.toPure(hstab:Stab I){f:FuncId}{ds:List D}{n m:Nat}{d d':D}{H':Nat→Option Blk}(h:XOK P I f ds (fun _=>none) n m d H')(hp:purR H' d=some d'):AFun P I f ds d':=by
 refine⟨h.1,fun w F args hI hfb hl hr=>?_⟩
 refine(h.2 w w (cF F) ⟨fun k=>w.heap.size≤k,fun _=>Go.undef⟩ args hI (Below.refl _ _) (fun _ h=>h) ⟨fun id b h=>(by cases h),fun id b h=>(by cases h),fun id k cs h=>(by cases h),fun id id' b b' h=>(by cases h)⟩ hfb (fun _ h=>h) (fun _ _ _ h=>h) hl hr).mono ?_
 rintro e w' ⟨v,C',rfl,hb,hext,hrep,hH,hfb',hl',hnew⟩
 obtain⟨C2,ep,hP,hr2⟩:=purR_sound hH hfb' hp hrep
 refine⟨v,C2.F,rfl,hb.to,(hext.trans hP.ext).cF,hP.fb,fun b o h=>?_,hr2⟩
 rcases hP.new b o h with h1|h1
 ·exact hnew b o h1
 ·exact .inr h1
def evP (P:Program)(E:OpF)(X:CallF)(E2:OpF)(lf k:Nat)(f:FuncId)(ds:List D):Option D:=match evF P E X (fun cf=>evD E2 cf) lf k f ds .nil 0 with
 | some (d,h,_,_)=>purR h.get d
 | none=>none
theorem evP_fun{E E2:OpF}{X:CallF}{lf k:Nat}(hstab:Stab I)(hmix:P.follows .mixedOrders=true)(hE:OpSound P E)(hE2:OpSound P E2)(hm2:OpMono E2)(hX:CallSound P I X){f:FuncId}{ds:List D}{d:D}(hv:evP P E X E2 lf k f ds=some d):AFun P I f ds d:=by
 unfold evP at hv
 split at hv
 ·rename_i d0 h' m l he
  have:=evF_xok (I:=I) hmix hE hE2 hm2 hX he
  have hn:(Tr.nil:Tr Blk).get=fun _=>none:=rfl
  rw[hn] at this
  exact XOK.toPure hstab this hv
 ·cases hv
def sameL(a b:List UInt8):Bool:=match a,b with
 | [],[]=>true
 | x::a,y::b=>match Nat.beq x.toNat y.toNat with
  | true=>sameL a b
  | false=>false
 | _,_=>false
theorem sameL_eq:∀ {a b:List UInt8},sameL a b=true→a=b
 | [],[],_=>rfl
 | x::a,y::b,h=>by
  unfold sameL at h
  split at h
  ·rename_i hx
   rw[UInt8.toNat_inj.1 (Nat.eq_of_beq_eq_true hx),sameL_eq h]
  ·cases h
 | [],y::b,h=>by cases h
 | x::a,[],h=>by cases h
def strX (f0:FuncId)(s0:List UInt8)(d0:D):CallF:=pureX f0 fun ds=>match ds with
 | [.str s]=>match sameL s s0 with
  | true=>some d0
  | false=>none
 | _=>none
theorem strX_sound(hstab:Stab I){f0:FuncId}{s0:List UInt8}{d0:D}(h:AFun P I f0 [.str s0] d0):CallSound P I (strX f0 s0 d0):=by
 refine pureX_sound hstab fun ds d hd=>?_
 split at hd
 ·split at hd
  ·rename_i s hs
   simp only[Option.some.injEq] at hd
   subst hd
   rw[sameL_eq hs]
   exact h
  ·cases hd
 ·cases hd
end
set_option maxRecDepth 10000000
def sNat:List UInt8:=[68,79,67,85,77,69,78,84,32,34,34,32,45,32,50,53,32,78,68,70,32,49,10,69,86,69,78,84,32,49,32,49,48,32,53,48,32,45,32,68,73,65,76,79,71,85,69,32,45,10,82,79,87,32,34,72,105,34,10]
def dNat:D:=.tup [.agg [.str [],.str [],.int .u8 3,.bool false,.int .i64 1,.nils,.sl [.agg [.int .i64 1,.int .i64 10,.int .i64 50,.str [],.int .u8 1,.str [],.sl [.agg [.sl [.agg [.str [72,105],.int .u8 0,.bool false,.bool false,.str []]]]]]],.nils],.nils]
theorem run_native:evP Tryz.prog (opE Tryz.prog) XL (op2 Tryz.prog) 100000 60 12 [.str sNat]=some dNat:=by kernel_rfl
def sEdt:List UInt8:=[82,79,87,83,32,49,32,34,72,101,108,108,111,34]
def dEdt:D:=.tup [.agg [.int .u8 4,.int .i64 1,.int .i64 0,.int .i64 0,.int .i64 0,.int .i64 0,.int .i64 0,.int .i64 0,.int .i64 0,.int .u8 0,.int .u8 0,.bool false,.bool false,.str [],.str [],.str [],.int .i64 0,.int .i64 0,.int .i64 0,.int .i64 0,.int .u8 0,.bool false,.sl [.agg [.sl [.agg [.str [72,101,108,108,111],.int .u8 0,.bool false,.bool false,.str []]]]]],.int .i64 0]
theorem run_edit:evP Tryz.prog (opE Tryz.prog) XL (op2 Tryz.prog) 100000 60 14 [.str sEdt]=some dEdt:=by kernel_rfl
def X2:CallF:=orX (strX 12 sNat dNat) (orX (strX 14 sEdt dEdt) XL)
theorem run_awake:isTrue (evF Tryz.prog (opE Tryz.prog) X2 (fun cf=>evD (op2 Tryz.prog) cf) 100000 60 4 [] .nil 0)=true:=by kernel_rfl
def g_captionertop_editAwake:Option Bool:=some true
theorem a_captionertop_editAwake(I:World→Prop)(hI:Stab I)(hPIv:∀ w,I w→PIv w)(hShp:∀ w,I w→Shp w)(hTab:∀ w,I w→Tab w)(hU8T:∀ w,I w→U8T w){r:Bool}(h:g_captionertop_editAwake=some r):AFun Tryz.prog I 4 [] (.bool r):=by
 cases h
 have mixed:Tryz.prog.follows .mixedOrders=true:=by kernel_rfl
 have hL:=XL_sound (I:=I) hI hU8T hShp hPIv hTab
 have h1:=evP_fun (I:=I) hI mixed opE_sound op2_sound op2_mono hL run_native
 have h2:=evP_fun (I:=I) hI mixed opE_sound op2_sound op2_mono hL run_edit
 exact evF_true hI mixed opE_sound op2_sound op2_mono (orX_sound (strX_sound hI h1) (orX_sound (strX_sound hI h2) hL)) run_awake
set_option maxRecDepth 100000
theorem dd_ED:(∀ x,T_api_Token.d x=.agg [.str x.Text,.int .i64 x.Strength])∧(∀ x,T_arr6_Int.d x=.agg [.int .i64 x.a0,.int .i64 x.a1,.int .i64 x.a2,.int .i64 x.a3,.int .i64 x.a4,.int .i64 x.a5])∧(∀ x,T_api_Penalties.d x=.agg [.int .i64 x.Strength.a0,.int .i64 x.Strength.a1,.int .i64 x.Strength.a2,.int .i64 x.Strength.a3,.int .i64 x.Strength.a4,.int .i64 x.Strength.a5,.int .i64 x.Ragged,.int .i64 x.Row,.int .i64 x.Event,.int .i64 x.Fast,.int .i64 x.Gap,.int .i64 x.Shot])∧(∀ x,T_api_Paragraph.d x=.agg [.sl (x.Tokens.map T_api_Token.d),.int .i64 x.Width,.int .i64 x.Rows,.int .i64 x.Table.Strength.a0,.int .i64 x.Table.Strength.a1,.int .i64 x.Table.Strength.a2,.int .i64 x.Table.Strength.a3,.int .i64 x.Table.Strength.a4,.int .i64 x.Table.Strength.a5,.int .i64 x.Table.Ragged,.int .i64 x.Table.Row,.int .i64 x.Table.Event,.int .i64 x.Table.Fast,.int .i64 x.Table.Gap,.int .i64 x.Table.Shot])∧(∀ x,T_api_Breaks.d x=.agg [.sl (x.Ends.map (D.int .i64)),.int .i64 x.Cost,.sl (x.Potentials.map (D.int .i64))]):=⟨fun _=>rfl,fun _=>rfl,fun _=>rfl,fun _=>rfl,fun _=>rfl⟩
def g_captionertop_TopRows_s1(p_1:T_api_Paragraph)(r58:(List (List UInt8)) × Int)(x83:(List UInt8) × Int):Option (Nx ((List UInt8) × Int) (Unit ⊕ ((List UInt8)))) :=
 (if(decide (x83.2 < (r58.1.length:Int))) then((atI r58.1 x83.2).bind fun y290=>((g_token_Split y290).bind fun r296=>(((if(r296.2 != 0) then(some true) else((g_token_Len r296.1 0 (r296.1.length:Int)).bind fun r305=>(some (decide (p_1.Width < r305))))):Option (Bool)).bind fun v302=>(if v302 then(some (.out (.inl ()))) else(if(decide (0 < x83.2)) then(if x83.1.length+1≤9223372036854775807 then(if(x83.1.length+1)+y290.length≤9223372036854775807 then(some (.go (((x83.1++[32])++y290),(IntKind.i64.wrap (x83.2+1))))) else none) else none) else(if x83.1.length+y290.length≤9223372036854775807 then(some (.go ((x83.1++y290),(IntKind.i64.wrap (x83.2+1))))) else none)))))) else(some (.out (.inr x83.1))))
def g_captionertop_TopRows(s_0:List UInt8)(p_1:T_api_Paragraph)(ends_2:List Int):Option (Bool) :=
 ((g_captionertop_editAwake).bind fun r7=>(if r7 then((subH s_0 (if 80 < (s_0.length:Int) then 80 else(s_0.length:Int))).bind fun z19=>((g_token_Split z19).bind fun r24=>(((if(r24.2 != 0) then(some true) else(some (decide (16 < (r24.1.length:Int))))):Option (Bool)).bind fun v28=>(if v28 then(some true) else((g_rowbreak_Break (T_api_Paragraph.mk r24.1 p_1.Width p_1.Rows p_1.Table)).bind fun r41=>((g_rowbreak_Cost (T_api_Paragraph.mk r24.1 p_1.Width p_1.Rows p_1.Table) ends_2).bind fun r47=>(if(r41.2 != 0) then(some (r47.2 != 0)) else((g_rowbreak_Rows (T_api_Paragraph.mk r24.1 p_1.Width p_1.Rows p_1.Table) r41.1.Ends).bind fun r58=>(((if(r58.2 != 0) then(some true) else((g_rowbreak_Accept (T_api_Paragraph.mk r24.1 p_1.Width p_1.Rows p_1.Table) r41.1).bind fun r70=>(if(r70 != 0) then(some true) else(if(r47.2 == 0) then(if(decide (r47.1 < r41.1.Cost)) then(some true) else(some (decide (p_1.Rows < (r58.1.length:Int))))) else(some (decide (p_1.Rows < (r58.1.length:Int)))))))):Option (Bool)).bind fun v67=>(if v67 then(some false) else((iter (g_captionertop_TopRows_s1 p_1 r58) ([],0)).bind fun e84=>(match e84 with|Sum.inl e84=>(some false)|Sum.inr (e84)=>((g_token_Join r24.1).bind fun r330=>(some (e84 == r330))))))))))))))) else(some false)))
theorem a_captionertop_TopRows{I:World→Prop}(hI:Stab I)(hPIv:∀ w,I w→PIv w)(hShp:∀ w,I w→Shp w)(hTab:∀ w,I w→Tab w)(hU8T:∀ w,I w→U8T w){s_0:List UInt8}{p_1:T_api_Paragraph}{ends_2:List Int}{r:Bool}(h:g_captionertop_TopRows s_0 p_1 ends_2=some r):AFun Tryz.prog I 3 [.str s_0,T_api_Paragraph.d p_1,.sl (ends_2.map (D.int .i64))] (.bool r):=by
 have dd:=dd_ED;have k:=True.intro;have q:=k;have rs:=Tryz.results3
 unfold g_captionertop_TopRows at h
 refine .en hI Tryz.func3 Tryz.ntmps3 ?_
 refine xs<|rz ?_
 refine es<|xs<|xs<|rK fun K6 RK6 hK6 gK6=>zz ?_
 obtain⟨r7,h8,h⟩:=bs h
 refine cw (a_captionertop_editAwake I hI hPIv hShp hTab hU8T h8)<|zz ?_
 subst hK6 gK6
 refine es ?_
 rcases iK k h with⟨k,h⟩|⟨k,h⟩
 ·refine xf<|xk<|es<|xs<|rK fun K18 RK18 hK18 gK18=>zz ?_
  obtain⟨z19,h20,h⟩:=bind_some h
  obtain⟨⟨h21,h22⟩,h23⟩:=subH_some h20
  have q:=And.intro @h21<|And.intro @h22<|q
  try simp -implicitDefEqProofs only[vt,vm,sevalprocAttr,dd,k,q] at h23
  have q:=And.intro @h23<|q
  refine zz ?_
  obtain⟨r24,h25,h⟩:=bs h
  refine cw (a_token_Split hI hShp hU8T h25)<|zz ?_
  subst hK18 gK18
  refine es<|xs ?_
  obtain⟨v28,h31,h⟩:=bs h
  refine rb_cut (fun v28=>⟨envL [(2,.sl (ends_2.map (D.int .i64))),(4,.ptr 0 0),(7,.sl (r24.1.map T_api_Token.d)),(36,.bool v28)],heapL [(0,.box none [.sl (p_1.Tokens.map T_api_Token.d),.int .i64 p_1.Width,.int .i64 p_1.Rows,.int .i64 p_1.Table.Strength.a0,.int .i64 p_1.Table.Strength.a1,.int .i64 p_1.Table.Strength.a2,.int .i64 p_1.Table.Strength.a3,.int .i64 p_1.Table.Strength.a4,.int .i64 p_1.Table.Strength.a5,.int .i64 p_1.Table.Ragged,.int .i64 p_1.Table.Row,.int .i64 p_1.Table.Event,.int .i64 p_1.Table.Fast,.int .i64 p_1.Table.Gap,.int .i64 p_1.Table.Shot])],1,121⟩) h31 ?_ ?_
  ·clear h
   intro v28 h
   refine rK fun K29 RK29 hK29 gK29=>zz ?_
   rcases iK k h with⟨k,h⟩|⟨k,h⟩
   ·refine zz ?_
    subst hK29 gK29
    cases h
    exact en ⟨rfl,wk []⟩
   ·refine zz ?_
    subst hK29 gK29
    cases h
    exact en ⟨rfl,wk []⟩
  ·rcases iK k h with⟨k,h⟩|⟨k,h⟩
   ·refine xt<|xs<|rz ?_
    refine es<|xr<|er ?_
    cases h
    exact en fr
   ·refine xf<|xk<|es<|xs<|rz ?_
    refine es<|xs<|rK fun K40 RK40 hK40 gK40=>zz ?_
    obtain⟨r41,h42,h⟩:=bs h
    refine cw (a_rowbreak_Break hI hU8T h42)<|zz ?_
    subst hK40 gK40
    refine es<|xs<|rK fun K46 RK46 hK46 gK46=>zz ?_
    obtain⟨r47,h48,h⟩:=bs h
    refine cw (a_rowbreak_Cost hI hU8T h48)<|zz ?_
    subst hK46 gK46
    refine es<|xs<|xs<|rz ?_
    refine es ?_
    rcases iK k h with⟨k,h⟩|⟨k,h⟩
    ·refine xt<|xs<|rz ?_
     refine es<|xr<|er ?_
     cases h
     exact en fr
    ·refine xf<|xk<|es<|xs<|rK fun K57 RK57 hK57 gK57=>zz ?_
     obtain⟨r58,h59,h⟩:=bs h
     refine cw (a_rowbreak_Rows hI hU8T h59)<|zz ?_
     subst hK57 gK57
     refine es<|xs ?_
     obtain⟨v67,h75,h⟩:=bs h
     refine rb_cut (fun v67=>⟨envL [(4,.ptr 0 0),(7,.sl (r24.1.map T_api_Token.d)),(12,.sl (r58.1.map D.str)),(85,.bool v67)],heapL [(0,.box none [.sl (r24.1.map T_api_Token.d),.int .i64 p_1.Width,.int .i64 p_1.Rows,.int .i64 p_1.Table.Strength.a0,.int .i64 p_1.Table.Strength.a1,.int .i64 p_1.Table.Strength.a2,.int .i64 p_1.Table.Strength.a3,.int .i64 p_1.Table.Strength.a4,.int .i64 p_1.Table.Strength.a5,.int .i64 p_1.Table.Ragged,.int .i64 p_1.Table.Row,.int .i64 p_1.Table.Event,.int .i64 p_1.Table.Fast,.int .i64 p_1.Table.Gap,.int .i64 p_1.Table.Shot])],1,121⟩) h75 ?_ ?_
     ·clear h
      intro v67 h
      refine rK fun K68 RK68 hK68 gK68=>zz ?_
      rcases iK k h with⟨k,h⟩|⟨k,h⟩
      ·refine zz ?_
       subst hK68 gK68
       cases h
       exact en ⟨rfl,wk []⟩
      ·refine zz ?_
       obtain⟨r70,h71,h⟩:=bs h
       refine cw (a_rowbreak_Accept hI hU8T h71)<|zz ?_
       rcases iK k h with⟨k,h⟩|⟨k,h⟩
       ·refine zz ?_
        subst hK68 gK68
        cases h
        exact en ⟨rfl,wk []⟩
       ·refine zz ?_
        rcases iK k h with⟨k,h⟩|⟨k,h⟩
        ·refine zz ?_
         rcases iK k h with⟨k,h⟩|⟨k,h⟩
         ·refine zz ?_
          subst hK68 gK68
          cases h
          exact en ⟨rfl,wk []⟩
         ·refine zz ?_
          subst hK68 gK68
          cases h
          exact en ⟨rfl,wk []⟩
        ·refine zz ?_
         subst hK68 gK68
         cases h
         exact en ⟨rfl,wk []⟩
     ·rcases iK k h with⟨k,h⟩|⟨k,h⟩
      ·refine xt<|xs<|rz ?_
       refine es<|xr<|er ?_
       cases h
       exact en fr
      ·refine xf<|xk<|es<|xs<|rz ?_
       refine es<|xs<|xs<|rz ?_
       refine es<|xb ?_
       obtain⟨e84,h325,h⟩:=bs h
       refine rb_loop (fun x83=>⟨envL [(4,.ptr 0 0),(7,.sl (r24.1.map T_api_Token.d)),(14,.str x83.1),(86,.sl (r58.1.map D.str)),(87,.int .i64 (r58.1.length:Int)),(88,.int .i64 x83.2)],heapL [(0,.box none [.sl (r24.1.map T_api_Token.d),.int .i64 p_1.Width,.int .i64 p_1.Rows,.int .i64 p_1.Table.Strength.a0,.int .i64 p_1.Table.Strength.a1,.int .i64 p_1.Table.Strength.a2,.int .i64 p_1.Table.Strength.a3,.int .i64 p_1.Table.Strength.a4,.int .i64 p_1.Table.Strength.a5,.int .i64 p_1.Table.Ragged,.int .i64 p_1.Table.Row,.int .i64 p_1.Table.Event,.int .i64 p_1.Table.Fast,.int .i64 p_1.Table.Gap,.int .i64 p_1.Table.Shot])],1,121⟩) (fun w=>match w with|Sum.inl _=>.ret|Sum.inr (_)=>.exit 0) (fun w=>match w with|Sum.inl e84=>⟨envL [(6,.bool false)],heapL [],0,121⟩|Sum.inr (e84)=>⟨envL [(7,.sl (r24.1.map T_api_Token.d)),(14,.str e84)],heapL [],0,121⟩) h325 (wk []) (by intro w;rcases w with w|w<;>simp) ?_ ?_
       ·clear h
        intro x83 y h
        unfold g_captionertop_TopRows_s1 at h
        refine xs<|rz ?_
        refine es<|xs ?_
        rcases iK k h with⟨k,h⟩|⟨k,h⟩
        ·refine xt<|xk<|es<|xs<|xb<|xs<|rK fun K289 RK289 hK289 gK289=>zz ?_
         obtain⟨y290,q,h⟩:=bK q h
         refine zz ?_
         subst hK289 gK289
         refine es<|xs<|rK fun K295 RK295 hK295 gK295=>zz ?_
         obtain⟨r296,h297,h⟩:=bs h
         refine cw (a_token_Split hI hShp hU8T h297)<|zz ?_
         subst hK295 gK295
         refine es<|xs ?_
         obtain⟨v302,h307,h⟩:=bs h
         refine rb_cut (fun v302=>⟨envL [(4,.ptr 0 0),(7,.sl (r24.1.map T_api_Token.d)),(14,.str x83.1),(15,.int .i64 x83.2),(16,.str y290),(86,.sl (r58.1.map D.str)),(87,.int .i64 (r58.1.length:Int)),(88,.int .i64 x83.2),(108,.bool v302)],heapL [(0,.box none [.sl (r24.1.map T_api_Token.d),.int .i64 p_1.Width,.int .i64 p_1.Rows,.int .i64 p_1.Table.Strength.a0,.int .i64 p_1.Table.Strength.a1,.int .i64 p_1.Table.Strength.a2,.int .i64 p_1.Table.Strength.a3,.int .i64 p_1.Table.Strength.a4,.int .i64 p_1.Table.Strength.a5,.int .i64 p_1.Table.Ragged,.int .i64 p_1.Table.Row,.int .i64 p_1.Table.Event,.int .i64 p_1.Table.Fast,.int .i64 p_1.Table.Gap,.int .i64 p_1.Table.Shot])],1,121⟩) h307 ?_ ?_
         ·clear h
          intro v302 h
          refine rD hI fun K303 RK303 hK303 gK303=>zz ?_
          rcases iK k h with⟨k,h⟩|⟨k,h⟩
          ·refine zz ?_
           subst hK303 gK303
           cases h
           exact en ⟨rfl,wk []⟩
          ·refine zz ?_
           obtain⟨r305,h306,h⟩:=bs h
           refine cd (a_token_Len hI hU8T h306)<|zz ?_
           subst hK303 gK303
           cases h
           exact en ⟨rfl,wk []⟩
         ·rcases iK k h with⟨k,h⟩|⟨k,h⟩
          ·refine xt<|xs<|rz ?_
           refine es<|xr<|er<|br<|er ?_
           cases h
           exact en ⟨rfl,wk []⟩
          ·refine xf<|xk<|es<|xs<|xs<|rz ?_
           refine es ?_
           rcases iK k h with⟨k,h⟩|⟨k,h⟩
           ·refine xt<|rK fun K314 RK314 hK314 gK314=>zz ?_
            obtain⟨h315,h⟩:=ite_on h
            have h316:x83.1.length+([32]:List UInt8).length≤9223372036854775807:=by(try simp only[List.length_append,List.length_cons,List.length_nil]);omega
            try simp -implicitDefEqProofs only[vt,vm,sevalprocAttr,dd,k,q] at h316
            have q:=And.intro @h316<|And.intro @h315<|q
            refine zz ?_
            subst hK314 gK314
            refine es<|rK fun K317 RK317 hK317 gK317=>zz ?_
            obtain⟨h318,h⟩:=ite_on h
            have h319:(x83.1++[32]).length+y290.length≤9223372036854775807:=by(try simp only[List.length_append,List.length_cons,List.length_nil]);omega
            try simp -implicitDefEqProofs only[vt,vm,sevalprocAttr,dd,k,q] at h319
            have q:=And.intro @h319<|And.intro @h318<|q
            refine zz ?_
            subst hK317 gK317
            refine bn<|es<|rz ?_
            cases h
            exact en ⟨rfl,wk []⟩
           ·refine xf<|xk<|es<|rK fun K321 RK321 hK321 gK321=>zz ?_
            obtain⟨h322,h⟩:=ite_on h
            have h323:x83.1.length+y290.length≤9223372036854775807:=by(try simp only[List.length_append,List.length_cons,List.length_nil]);omega
            try simp -implicitDefEqProofs only[vt,vm,sevalprocAttr,dd,k,q] at h323
            have q:=And.intro @h323<|And.intro @h322<|q
            refine zz ?_
            subst hK321 gK321
            refine bn<|es<|rz ?_
            cases h
            exact en ⟨rfl,wk []⟩
        ·refine xf<|xx<|ee ?_
         cases h
         exact en ⟨rfl,wk []⟩
       ·rcases e84 with e84|e84
        ·try dsimp only at h ⊢
         refine br<|er ?_
         cases h
         exact en fr
        ·try dsimp only at h ⊢
         refine bh<|es<|xs<|rK fun K329 RK329 hK329 gK329=>zz ?_
         obtain⟨r330,h331,h⟩:=bs h
         refine cw (a_token_Join hI h331)<|zz ?_
         subst hK329 gK329
         refine es<|xr ?_
         cases h
         exact en fr
 ·refine xt<|xs<|rz ?_
  refine es<|xr<|er ?_
  cases h
  exact en fr
theorem rowsT_segs(p:T_api_Paragraph):∀ (G:List Nat) (i:Nat),rowsT p i G=(segs p.Tokens i G).map joinT
 | [],_=>rfl
 | j::L,i=>by rw[rowsT,segs,List.map_cons,rowsT_segs p L j];rfl
theorem rpath_ups{p:T_api_Paragraph}{i:Nat}{G:List Nat}(h:RPath p i G):Ups p.Tokens.length i G:=by
 induction h with
 | nil=>exact rfl
 | cons h1 h2 _ _ ih=>exact⟨h1,h2,ih⟩
theorem rowsT_len(p:T_api_Paragraph)(G:List Nat)(i:Nat):(rowsT p i G).length=G.length:=by
 rw[rowsT_segs,List.length_map,segs_len]
theorem rowsT_join{p:T_api_Paragraph}{G:List Nat}(h:RPath p 0 G):Lib.join (rowsT p 0 G) [32]=joinT p.Tokens:=by
 have hu:=rpath_ups h
 have h1:=segs_flat p.Tokens G 0 hu
 have h2:=segs_ne p.Tokens G 0 hu
 rw[rowsT_segs]
 have e:(segs p.Tokens 0 G).map joinT=((segs p.Tokens 0 G).map fun s=>s.map (·.Text)).map fun xs=>Lib.join xs [32]:=by
  rw[List.map_map];rfl
 rw[e,join_flat _ (fun xs hx=>by
  obtain⟨s,hs,rfl⟩:=List.mem_map.1 hx
  have:=h2 s hs
  simpa using this)]
 rw[← List.map_flatten,h1,List.drop_zero]
 rfl
theorem rowsT_mem{p:T_api_Paragraph}{i:Nat}{G:List Nat}(h:RPath p i G):∀ row ∈ rowsT p i G,∃ a b,a < b∧b≤p.Tokens.length∧fitP p a b=true∧row=joinT (seg p a b):=by
 induction h with
 | nil=>intro row hr;cases hr
 | @cons i j L h1 h2 h3 _ ih =>
  intro row hr
  rw[rowsT,List.mem_cons] at hr
  rcases hr with rfl|hr
  ·exact⟨i,j,h1,h2,h3,rfl⟩
  ·exact ih row hr
theorem row_spec{p:T_api_Paragraph}(hv:Pv p)(ht:∀ t ∈ p.Tokens,t.Text≠[]∧(∀ b ∈ t.Text,spB b=false)∧gv t.Text=true∧t.Text.length≤1048576){row:List UInt8}{a b:Nat}(h1:a < b)(h2:b≤p.Tokens.length)(h3:fitP p a b=true)(hrow:row=joinT (seg p a b)) :
  row.length≤128∧∃ m v,g_token_Split row=some (m,0)∧g_token_Len m 0 (m.length:Int)=some v∧v≤p.Width:=by
 have hn:=hv.ok.toks
 have hwid:=hv.width
 obtain⟨s1,s2,s3⟩:=seg_row hv h1 h2
 have hfit:lnP p a b≤p.Width:=by unfold fitP at h3;simpa using h3
 have hb:=gv_len s2 (m:=32) (by omega)
 have hsl:=seg_len (p:=p) (i:=a) h2
 have hmem:∀ t ∈ seg p a b,t ∈ p.Tokens:=fun t h=>List.mem_of_mem_drop (List.mem_of_mem_take h)
 subst hrow
 refine⟨by omega,?_⟩
 have hw:words (joinT (seg p a b))=(seg p a b).map (·.Text):=words_join _ fun w hw=>by
  obtain⟨t,htm,rfl⟩:=List.mem_map.1 hw
  exact⟨(ht t (hmem t htm)).1,(ht t (hmem t htm)).2.1⟩
 rcases split_spec (joinT (seg p a b)) (by omega) with⟨e,_,_,h4⟩|⟨h4,_,_⟩
 ·exfalso
  refine h4 (by rw[hw,List.length_map,hsl];omega) ?_
  rw[hw]
  intro w hw
  obtain⟨t,htm,rfl⟩:=List.mem_map.1 hw
  exact(ht t (hmem t htm)).2.2.1
 ·rw[hw] at h4
  have hl:=tksW_len ((seg p a b).map (·.Text))
  rw[List.length_map,hsl] at hl
  have htx:=tksW_text ((seg p a b).map (·.Text))
  have hne:tksW ((seg p a b).map (·.Text))≠[]:=fun e=>by rw[e] at hl;simp at hl;omega
  have hsum:((tksW ((seg p a b).map (·.Text))).map fun t=>chL t.Text).sum=((seg p a b).map fun t=>chL t.Text).sum:=by
   have e1:((tksW ((seg p a b).map (·.Text))).map fun t=>chL t.Text)=((tksW ((seg p a b).map (·.Text))).map (·.Text)).map chL:=by rw[List.map_map];rfl
   rw[e1,htx,List.map_map];rfl
  have h5:=len_spec (tksW ((seg p a b).map (·.Text))) hne (by omega) (fun t h=>by
   have:t.Text ∈ (tksW ((seg p a b).map (·.Text))).map (·.Text):=List.mem_map.2 ⟨t,h,rfl⟩
   rw[htx] at this
   obtain⟨u,hu,hut⟩:=List.mem_map.1 this
   rw[← hut]
   exact(ht u (hmem u hu)).2.2.2)
  refine⟨_,_,h4,h5,?_⟩
  rw[hsum,seg_sum (by omega) h2,hl]
  unfold lnP at hfit
  omega
theorem rows_loop{p:T_api_Paragraph}(hv:Pv p)(ht:∀ t ∈ p.Tokens,t.Text≠[]∧(∀ b ∈ t.Text,spB b=false)∧gv t.Text=true∧t.Text.length≤1048576){G:List Nat}(hG:RPath p 0 G)(hl:G.length≤4){q:T_api_Paragraph}(hq:q.Width=p.Width) :
  iter (g_captionertop_TopRows_s1 q (rowsT p 0 G,0)) ([],0)=some (.inr (joinT p.Tokens)):=by
 have hlen:=rowsT_len p G 0
 have hrow:∀ row ∈ rowsT p 0 G,row.length≤128∧∃ m v,g_token_Split row=some (m,0)∧g_token_Len m 0 (m.length:Int)=some v∧v≤p.Width:=fun row hr=>by
  obtain⟨a,b,h1,h2,h3,h4⟩:=rowsT_mem hG row hr
  exact row_spec hv ht h1 h2 h3 h4
 rw[← rowsT_join hG]
 generalize rowsT p 0 G=rows at *
 refine iter_of (fun x e=>e=.inr (Lib.join rows [32])∧∃ k:Nat,x.2=(k:Int)∧k≤rows.length∧x.1=Lib.join (rows.take k) [32]) (fun x=>rows.length - x.2.toNat) ?_ (x:=([],0)) ⟨rfl,0,rfl,Nat.zero_le _,rfl⟩ (by show rows.length - 0 < _;omega)
 rintro⟨tx,x⟩ e ⟨rfl,k,hx,hk,htx⟩
 dsimp only at hx htx ⊢
 subst hx htx
 unfold g_captionertop_TopRows_s1
 dsimp only
 by_cases hlt:k < rows.length
 ·left
  obtain⟨hb,m,v,h1,h2,h3⟩:=hrow _ (List.getElem_mem hlt)
  have hjl:=join_len (rows.take k) 128 fun w hw=>(hrow w (List.mem_of_mem_take hw)).1
  rw[List.length_take] at hjl
  have hjb:(Lib.join (rows.take k) [32]).length≤4 * 129:=Nat.le_trans hjl (Nat.mul_le_mul (by omega) (by omega))
  rw[if_pos (by simpa using hlt),atI_nat hlt]
  simp only[Option.bind_some]
  rw[h1]
  simp only[Option.bind_some,bne_self_eq_false,Bool.false_eq_true,if_false]
  rw[h2]
  simp only[Option.bind_some]
  rw[hq,show decide (p.Width < v)=false by simp;omega]
  simp only[Bool.false_eq_true,if_false]
  rw[wr64 (x:=(k:Int)+1) (by omega)]
  have hts:rows.take (k+1)=rows.take k++[rows[k]]:=List.take_succ_eq_append_getElem hlt
  by_cases hk0:0 < k
  ·rw[if_pos (by simp;omega),if_pos (by omega),if_pos (by omega)]
   refine⟨_,rfl,⟨by first|rfl|trivial,k+1,by omega,hlt,?_⟩,by dsimp only;omega⟩
   dsimp only
   rw[hts,join_snoc _ _ (fun e=>by
    have:=congrArg List.length e
    simp only[List.length_take,List.length_nil] at this
    omega),List.append_assoc]
  ·obtain rfl:k=0:=by omega
   rw[if_neg (by simp),if_pos (by omega)]
   refine⟨_,rfl,⟨by first|rfl|trivial,1,by omega,hlt,?_⟩,by dsimp only;omega⟩
   dsimp only
   rw[hts,List.take_zero,List.nil_append,join_one]
   rfl
 ·right
  obtain rfl:k=rows.length:=by omega
  rw[if_neg (by simp),List.take_length]
theorem topRows_true(s:List UInt8)(p:T_api_Paragraph)(ends:List Int)(hs:s.length≤9223372036854775807)(he:ends.length≤9223372036854775807):g_captionertop_TopRows s p ends=some true:=by
 unfold g_captionertop_TopRows g_captionertop_editAwake
 simp only[Option.bind_some,if_true]
 obtain⟨z,hz,hzl⟩:∃ z,subH s (if 80 < (s.length:Int) then 80 else(s.length:Int))=some z∧z.length≤80:=by
  unfold subH
  split
  ·exact⟨_,by rw[if_pos (by omega)],by simp;omega⟩
  ·exact⟨_,by rw[if_pos (by omega)],by simp;omega⟩
 rw[hz]
 simp only[Option.bind_some]
 rcases split_spec z (by omega) with⟨e,h1,h2,_⟩|⟨h1,_,hgv⟩
 ·rw[h1]
  simp only[Option.bind_some]
  rw[if_pos (by simpa using h2)]
  simp only[Option.bind_some,if_true]
 rw[h1]
 simp only[Option.bind_some,bne_self_eq_false,Bool.false_eq_true,if_false]
 by_cases hn:16 < (tksW (words z)).length
 ·rw[show decide (16 < ((tksW (words z)).length:Int))=true by simp;omega]
  simp only[if_true]
 rw[show decide (16 < ((tksW (words z)).length:Int))=false by simp;omega]
 simp only[Bool.false_eq_true,if_false]
 have ht:∀ t ∈ tksW (words z),t.Text≠[]∧(∀ b ∈ t.Text,spB b=false)∧gv t.Text=true∧t.Text.length≤1048576:=fun t h=>by
  have hm:t.Text ∈ (tksW (words z)).map (·.Text):=List.mem_map.2 ⟨t,h,rfl⟩
  rw[tksW_text] at hm
  obtain⟨a1,a2,a3⟩:=words_all hm
  exact⟨a1,a2,hgv _ hm,by omega⟩
 obtain⟨q,hq⟩:∃ q,q=T_api_Paragraph.mk (tksW (words z)) p.Width p.Rows p.Table:=⟨_,rfl⟩
 have hqt:q.Tokens=tksW (words z):=by rw[hq]
 have hqw:p.Width=q.Width:=by rw[hq]
 have hqr:p.Rows=q.Rows:=by rw[hq]
 rw[← hqt] at ht hn ⊢
 rw[hqt,← hq,← hqt]
 clear hq
 have hok:Pok q:=⟨by omega,fun t h=>(ht t h).2.2.2⟩
 obtain⟨v,e,c1,c2⟩:=cost_spec hok ends he
 rw[c1]
 rcases break_spec hok with⟨h0,b,hb⟩|⟨h0,R,hR,⟨b,e',hb,hne,hno⟩|⟨l,G,hb,hpot,hG,hGl,hA,hA1⟩⟩
 ·rw[hb]
  simp only[Option.bind_some]
  rw[if_pos (by simpa using h0)]
  have:e≠0:=fun h=>h0 (c2 h).1
  simpa using this
 ·rw[hb]
  simp only[Option.bind_some]
  rw[if_pos (by simpa using hne)]
  have:e≠0:=fun h=>by
   obtain⟨_,G,_,g1,g2,_⟩:=c2 h
   exact hno G.length _ (by omega) (rpath_pth g1)
  simpa using this
 ·have hv:=ckP_0 hok h0
  have hrw:=hv.rows
  rw[hb]
  simp only[Option.bind_some,bne_self_eq_false,Bool.false_eq_true,if_false]
  rw[rows_prog hv h0 hG (by omega)]
  simp only[Option.bind_some,bne_self_eq_false,Bool.false_eq_true,if_false]
  rw[accept_spec hok h0 hR hpot hG hGl hA]
  simp only[Option.bind_some,bne_self_eq_false,Bool.false_eq_true,if_false]
  have hrl:decide (p.Rows < ((rowsT q 0 G).length:Int))=false:=by
   rw[rowsT_len,hqr];simp;omega
  have hcost:e=0→decide (v < wcost q 0 G)=false:=fun h=>by
   obtain⟨_,G',_,g1,g2,rfl⟩:=c2 h
   have:=(hA.has (x:=wcost q 0 G') ⟨G'.length,by omega,rpath_pth g1⟩).2.2
   simp;omega
  have hno:(if(e == 0)=true then if decide (v < wcost q 0 G)=true then some true else some (decide (p.Rows < ((rowsT q 0 G).length:Int))) else some (decide (p.Rows < ((rowsT q 0 G).length:Int))):Option Bool)=some false:=by
   rw[hrl]
   by_cases h:e=0
   ·rw[if_pos (by simpa using h),hcost h];rfl
   ·rw[if_neg (by simpa using h)]
  rw[hno]
  simp only[Option.bind_some,Bool.false_eq_true,if_false]
  rw[rows_loop hv ht hG (by omega) hqw]
  simp only[Option.bind_some]
  have hjl:=join_len (q.Tokens.map (·.Text)) 1048576 fun w hw=>by
   obtain⟨t,h,rfl⟩:=List.mem_map.1 hw
   exact(ht t h).2.2.2
  rw[List.length_map] at hjl
  have:(joinT q.Tokens).length≤16 * 1048577:=Nat.le_trans hjl (Nat.mul_le_mul (by omega) (Nat.le_refl _))
  rw[join_prog (by omega) (by omega)]
  simp
open Go.ChangeShapes Go.WideShapes Go.ChangeAt Go.RowKit
theorem own:ownKnob Tryz.prog.godebug=none:=by kernel_rfl
theorem laidOut:laidOutB Tryz.prog=true:=by kernel_rfl
theorem standIn_all(ts:List TypeId)(h:ts.all (fun t=>!(Tryz.prog.wantsStandIn t))=true)(t:TypeId)(ht:t ∈ ts):Tryz.pinned.checked.prog.wantsStandIn t=false:=by
 have:=List.all_eq_true.1 h t ht
 exact(show Tryz.prog.wantsStandIn t=false by simpa using this)
def putCells(cs:Array Value):Obj→Obj
 | .cells _ t frozen=>.cells cs t frozen
 | o=>o
theorem gTabType:(Tryz.prog.globals[3]?).map (·.type)=some 420:=by kernel_rfl
theorem cellsTab:Tryz.prog.cellsOf 420=20:=by kernel_rfl
theorem cellsU64:Tryz.prog.cellsOf 337=1:=by kernel_rfl
theorem laidPow:(Rows.laid_internal_strconv_uint64pow10:DataW Unit)=Lib.tabData .u64 Lib.pow10Tab:=by kernel_rfl
theorem tab_of8{W:World}(h:laidMetH Tryz.prog [("math/bits.deBruijn32tab", Rows.laid_math_bits_deBruijn32tab),("math/bits.deBruijn64tab", Rows.laid_math_bits_deBruijn64tab),("internal/strconv.uint64pow10", Rows.laid_internal_strconv_uint64pow10),("unicode/utf8.acceptRanges", Rows.laid_unicode_utf8_acceptRanges),("strconv.ErrRange", Rows.laid_strconv_ErrRange),("strconv.ErrSyntax", Rows.laid_strconv_ErrSyntax),("unicode/utf8.first", Rows.laid_unicode_utf8_first)] W):Tab W:=by
 have h1:laidMet Tryz.prog [("internal/strconv.uint64pow10", Rows.laid_internal_strconv_uint64pow10),("unicode/utf8.acceptRanges", Rows.laid_unicode_utf8_acceptRanges),("strconv.ErrRange", Rows.laid_strconv_ErrRange),("strconv.ErrSyntax", Rows.laid_strconv_ErrSyntax),("unicode/utf8.first", Rows.laid_unicode_utf8_first)] W:=(laidMet.tail (laidMet.tail h))
 rw[laidPow] at h1
 exact Lib.tabIs_of_head (rest:=[("unicode/utf8.acceptRanges", Rows.laid_unicode_utf8_acceptRanges),("strconv.ErrRange", Rows.laid_strconv_ErrRange),("strconv.ErrSyntax", Rows.laid_strconv_ErrSyntax),("unicode/utf8.first", Rows.laid_unicode_utf8_first)]) gTab gTabType Tryz.underlying420 Tryz.underlying337 cellsU64 cellsTab h1
theorem starErr : "*" ++ "errors.errorString" = "*errors.errorString" := by decide
theorem rowErr(u:TypeId)(h:Tryz.prog.typeName? 3 u=some "*errors.errorString"):u=437 :=
 typeName_ptr_named (nm := "errors.errorString") (by rw[starErr];kernel_rfl) (by kernel_rfl) (by decide) u (by rw[starErr];exact h)
theorem cellsErr:Tryz.prog.cellsOf 439=1:=by kernel_rfl
theorem cellsStr:Tryz.prog.cellsOf 9=1:=by kernel_rfl
theorem gErrSyntax:Tryz.prog.globalNamed "strconv.ErrSyntax" = some 4:=by kernel_rfl
theorem gErrSyntaxType:(Tryz.prog.globals[4]?).map (·.type)=some 179:=by kernel_rfl
theorem ErrSyntax_of8{W:World}(h:laidMetH Tryz.prog [("math/bits.deBruijn32tab", Rows.laid_math_bits_deBruijn32tab),("math/bits.deBruijn64tab", Rows.laid_math_bits_deBruijn64tab),("internal/strconv.uint64pow10", Rows.laid_internal_strconv_uint64pow10),("unicode/utf8.acceptRanges", Rows.laid_unicode_utf8_acceptRanges),("strconv.ErrRange", Rows.laid_strconv_ErrRange),("strconv.ErrSyntax", Rows.laid_strconv_ErrSyntax),("unicode/utf8.first", Rows.laid_unicode_utf8_first)] W):∃ te pe,W.cell? ⟨4,0,none⟩=some (.iface te pe):=by
 have h1:laidMet Tryz.prog [("strconv.ErrSyntax", Rows.laid_strconv_ErrSyntax),("unicode/utf8.first", Rows.laid_unicode_utf8_first)] W:=(laidMet.tail (laidMet.tail (laidMet.tail (laidMet.tail (laidMet.tail h)))))
 obtain⟨a,s,hv,_,_,_⟩:=laid_sentinel h1 gErrSyntax gErrSyntaxType Tryz.underlying179 rowErr Tryz.underlying437 Tryz.underlying439 rfl rfl Tryz.underlying9 cellsErr cellsStr
 exact⟨_,_,by simpa using World.var?_cell gErrSyntax hv 0⟩
theorem gErrRange:Tryz.prog.globalNamed "strconv.ErrRange" = some 5:=by kernel_rfl
theorem gErrRangeType:(Tryz.prog.globals[5]?).map (·.type)=some 179:=by kernel_rfl
theorem ErrRange_of8{W:World}(h:laidMetH Tryz.prog [("math/bits.deBruijn32tab", Rows.laid_math_bits_deBruijn32tab),("math/bits.deBruijn64tab", Rows.laid_math_bits_deBruijn64tab),("internal/strconv.uint64pow10", Rows.laid_internal_strconv_uint64pow10),("unicode/utf8.acceptRanges", Rows.laid_unicode_utf8_acceptRanges),("strconv.ErrRange", Rows.laid_strconv_ErrRange),("strconv.ErrSyntax", Rows.laid_strconv_ErrSyntax),("unicode/utf8.first", Rows.laid_unicode_utf8_first)] W):∃ te pe,W.cell? ⟨5,0,none⟩=some (.iface te pe):=by
 have h1:laidMet Tryz.prog [("strconv.ErrRange", Rows.laid_strconv_ErrRange),("strconv.ErrSyntax", Rows.laid_strconv_ErrSyntax),("unicode/utf8.first", Rows.laid_unicode_utf8_first)] W:=(laidMet.tail (laidMet.tail (laidMet.tail (laidMet.tail h))))
 obtain⟨a,s,hv,_,_,_⟩:=laid_sentinel h1 gErrRange gErrRangeType Tryz.underlying179 rowErr Tryz.underlying437 Tryz.underlying439 rfl rfl Tryz.underlying9 cellsErr cellsStr
 exact⟨_,_,by simpa using World.var?_cell gErrRange hv 0⟩
theorem u8t_of8{W:World}(h:laidMetH Tryz.prog [("math/bits.deBruijn32tab", Rows.laid_math_bits_deBruijn32tab),("math/bits.deBruijn64tab", Rows.laid_math_bits_deBruijn64tab),("internal/strconv.uint64pow10", Rows.laid_internal_strconv_uint64pow10),("unicode/utf8.acceptRanges", Rows.laid_unicode_utf8_acceptRanges),("strconv.ErrRange", Rows.laid_strconv_ErrRange),("strconv.ErrSyntax", Rows.laid_strconv_ErrSyntax),("unicode/utf8.first", Rows.laid_unicode_utf8_first)] W):U8T W :=
 utf8Tabs_of_readsT (U8Types.of196 Tryz.laysValid) ⟨by kernel_rfl,by kernel_rfl,by kernel_rfl,by kernel_rfl,by kernel_rfl,by kernel_rfl,by kernel_rfl⟩ (Lib.laidMet.reads h (.tail _ (.tail _ (.tail _ (.tail _ (.tail _ (.tail _ (.head _)))))))) (Lib.laidMet.reads h (.tail _ (.tail _ (.tail _ (.head _)))))
theorem cell_keep{w w':World}{g c:Nat}{v:Value}(h:w.cell? ⟨g,c,none⟩=some v)(hb:Below w.heap.size w w'):w'.cell? ⟨g,c,none⟩=some v:=by
 have hlt:g < w.heap.size:=by
  rcases Nat.lt_or_ge g w.heap.size with h1|h1
  ·exact h1
  ·simp[World.cell?,Array.getElem?_eq_none h1] at h
 rw[World.cell?_of_block (hb.block g hlt)]
 exact h
theorem stabU8T:Stab U8T:=fun w w' h hb=>⟨fun c hc=>cell_keep (h.1 c hc) hb,fun i hi=>⟨cell_keep (h.2 i hi).1 hb,cell_keep (h.2 i hi).2 hb⟩⟩
theorem shp_of{W:World}(h:W.ShapedOpen Tryz.prog):Shp W :=
 cell_of_shapedOpen_int (k:=.i64) (t:=3) (zero:=#[.int .i64 0]) h (of_decide_eq_true (by kernel_rfl)) (by kernel_rfl) rfl (by kernel_rfl) (by kernel_rfl) Tryz.underlying3
theorem stabTab:Stab Tab:=fun _ _ h hb=>tab_below h hb
def Env8 (w:World):Prop:=Tab w∧Shp w∧PIv w∧U8T w
theorem stabEnv8:Stab Env8:=fun w w' ⟨a,b,c,d⟩ hb=>⟨stabTab w w' a hb,stabShp w w' b hb,stabPIv w w' c hb,stabU8T w w' d hb⟩
theorem env_of8{W:World}(h:laidMetH Tryz.prog [("math/bits.deBruijn32tab", Rows.laid_math_bits_deBruijn32tab),("math/bits.deBruijn64tab", Rows.laid_math_bits_deBruijn64tab),("internal/strconv.uint64pow10", Rows.laid_internal_strconv_uint64pow10),("unicode/utf8.acceptRanges", Rows.laid_unicode_utf8_acceptRanges),("strconv.ErrRange", Rows.laid_strconv_ErrRange),("strconv.ErrSyntax", Rows.laid_strconv_ErrSyntax),("unicode/utf8.first", Rows.laid_unicode_utf8_first)] W)(hs:W.ShapedOpen Tryz.prog):Env8 W:=⟨tab_of8 h,shp_of hs,⟨ErrSyntax_of8 h,ErrRange_of8 h⟩,u8t_of8 h⟩
noncomputable def low8:Nat:=(World.holding Tryz.prog default ⟨#[],#[],[]⟩).heap.size
noncomputable def laidWorld8(os:Os):World :=
 { (World.holding Tryz.prog os ⟨#[.cells #[.string ⟨#[118,97,108,117,101,32,111,117,116,32,111,102,32,114,97,110,103,101]⟩] 439,.cells #[.string ⟨#[105,110,118,97,108,105,100,32,115,121,110,116,97,120]⟩] 439],#[],[]⟩) with heap:=((((((((World.holding Tryz.prog os ⟨#[.cells #[.string ⟨#[118,97,108,117,101,32,111,117,116,32,111,102,32,114,97,110,103,101]⟩] 439,.cells #[.string ⟨#[105,110,118,97,108,105,100,32,115,121,110,116,97,120]⟩] 439],#[],[]⟩).heap.modify 6 (putCells #[.int .u8 0,.int .u8 1,.int .u8 28,.int .u8 2,.int .u8 29,.int .u8 14,.int .u8 24,.int .u8 3,.int .u8 30,.int .u8 22,.int .u8 20,.int .u8 15,.int .u8 25,.int .u8 17,.int .u8 4,.int .u8 8,.int .u8 31,.int .u8 27,.int .u8 13,.int .u8 23,.int .u8 21,.int .u8 19,.int .u8 16,.int .u8 7,.int .u8 26,.int .u8 12,.int .u8 18,.int .u8 6,.int .u8 11,.int .u8 5,.int .u8 10,.int .u8 9])).modify 7 (putCells #[.int .u8 0,.int .u8 1,.int .u8 56,.int .u8 2,.int .u8 57,.int .u8 49,.int .u8 28,.int .u8 3,.int .u8 61,.int .u8 58,.int .u8 42,.int .u8 50,.int .u8 38,.int .u8 29,.int .u8 17,.int .u8 4,.int .u8 62,.int .u8 47,.int .u8 59,.int .u8 36,.int .u8 45,.int .u8 43,.int .u8 51,.int .u8 22,.int .u8 53,.int .u8 39,.int .u8 33,.int .u8 30,.int .u8 24,.int .u8 18,.int .u8 12,.int .u8 5,.int .u8 63,.int .u8 55,.int .u8 48,.int .u8 27,.int .u8 60,.int .u8 41,.int .u8 37,.int .u8 16,.int .u8 46,.int .u8 35,.int .u8 44,.int .u8 21,.int .u8 52,.int .u8 32,.int .u8 23,.int .u8 11,.int .u8 54,.int .u8 26,.int .u8 40,.int .u8 15,.int .u8 34,.int .u8 20,.int .u8 31,.int .u8 10,.int .u8 25,.int .u8 14,.int .u8 19,.int .u8 9,.int .u8 13,.int .u8 8,.int .u8 7,.int .u8 6])).modify 3 (putCells #[.int .u64 1,.int .u64 10,.int .u64 100,.int .u64 1000,.int .u64 10000,.int .u64 100000,.int .u64 1000000,.int .u64 10000000,.int .u64 100000000,.int .u64 1000000000,.int .u64 10000000000,.int .u64 100000000000,.int .u64 1000000000000,.int .u64 10000000000000,.int .u64 100000000000000,.int .u64 1000000000000000,.int .u64 10000000000000000,.int .u64 100000000000000000,.int .u64 1000000000000000000,.int .u64 10000000000000000000])).modify 1 (putCells #[.int .u8 128,.int .u8 191,.int .u8 160,.int .u8 191,.int .u8 128,.int .u8 159,.int .u8 144,.int .u8 191,.int .u8 128,.int .u8 143,.int .u8 0,.int .u8 0,.int .u8 0,.int .u8 0,.int .u8 0,.int .u8 0,.int .u8 0,.int .u8 0,.int .u8 0,.int .u8 0,.int .u8 0,.int .u8 0,.int .u8 0,.int .u8 0,.int .u8 0,.int .u8 0,.int .u8 0,.int .u8 0,.int .u8 0,.int .u8 0,.int .u8 0,.int .u8 0])).modify 5 (putCells #[.iface 437 (.pointer (some ⟨low8+0,0,none⟩))])).modify 4 (putCells #[.iface 437 (.pointer (some ⟨low8+1,0,none⟩))])).modify 0 (putCells (Pinned.utf8FirstZ.map fun(z:Nat)=>Value.int .u8 (z:Int)).toArray)) }
theorem law_TopRows(s:List UInt8)(p:T_api_Paragraph)(ends:List Int):AFun Tryz.prog Env8 3 [.str s,p.d,.sl (ends.map (D.int .i64))] (.bool true):=by
 refine AFun.sized (by kernel_rfl) fun hz=>?_
 have h1:=Sz_str.1 (hz (.str s) (by simp))
 have h2:=(Sz_sl.1 (hz (.sl (ends.map (D.int .i64))) (by simp))).1
 rw[List.length_map] at h2
 exact a_captionertop_TopRows stabEnv8 (fun _ h=>h.2.2.1) (fun _ h=>h.2.1) (fun _ h=>h.1) (fun _ h=>h.2.2.2) (topRows_true s p ends h1 h2)
end Go.Proofs.YthbmhmpppgdkmaaGreatDoor
