/- Texts of one proof, put together (GCl, GSm, ED, GDl, EE). No condition but those that each theorem states. -/
import Derived.Test.YtejeinnfompgpaaGreatDoorX4
import Derived.Lib.Walk
import Derived.Lib.SliceRun
import Derived.Shelf.RegionOpenPlain
import Derived.Deep.RegionLaw
set_option linter.unusedSimpArgs false
set_option linter.unusedVariables false
namespace Go.Proofs.YtejeinnfompgpaaGreatDoor
open Go.RowKit
set_option maxRecDepth 100000
set_option maxHeartbeats 4000000
theorem sl_cells{w:World}{C:Cx}{v:Value}{xs:List D}{k:Nat}(h:Rep w C v (.sl xs))(hne:xs≠[])(hk:∀ x ∈ xs,x.cells.length=k) :
  ∃ b off c vals,v=.slice (some ⟨b,off,none⟩) xs.length c∧vals.length=xs.length * k∧(∀ u ∈ vals,u.oneCell'=true)∧(∀ j u,vals[j]? = some u→w.cell? ((⟨b,off,none⟩:Addr).add j)=some u)∧RepL (cF C.F) w vals (xs.flatMap D.cells)∧xs.length≤maxLen:=by
 cases h with
 | sl0 A c hm=>exact absurd rfl hne
 | sl b off k' c _ vals hc hm hk' hlv hone hF hcell hrep =>
  refine⟨b,off,c,vals,rfl,?_,hone,fun j u hj=>?_,⟨hlv,hone,hrep⟩,Nat.le_trans hc hm⟩
  ·rw[hlv]
   have:∀ (l:List D),(∀ x ∈ l,x.cells.length=k)→(l.flatMap D.cells).length=l.length * k:=by
    intro l
    induction l with
    | nil=>intro _;simp
    | cons x l ih=>intro hl;rw[List.flatMap_cons,List.length_append,hl x (by simp),ih (fun y hy=>hl y (by simp[hy])),List.length_cons,Nat.succ_mul];omega
   exact this xs hk
  ·rw[Addr.add_lit];exact hcell j u hj
theorem info_Region:(Tryz.prog.info? 71).map (fun i=>(i.zero,i.size,i.bytes))=some (some (Value.agg #[Value.string ⟨#[]⟩,Value.int .i64 0,Value.int .i64 0,Value.int .i64 0,Value.int .i64 0,Value.int .u8 0,Value.bool false]),7,56):=by kernel_rfl
theorem run_Clone_Region(ad:Addr)(n c:Nat)(vals:List Value)(w:World)(hl:vals.length=n * 7)(hone:∀ u ∈ vals,u.oneCell'=true)(hcell:∀ j u,vals[j]? = some u→w.cell? (ad.add j)=some u)(hn:n≤maxLen)(hbig:n * 56≤140737488355328) :
  Calls Tryz.prog 110 #[.slice (some ad) n c] w fun e w'=>∃ v',e=.returned v'∧w'.ownsRow w.heap.size 71 7 v' n vals∧Below w.heap.size w w':=by
 obtain⟨i0,hi,hz0,hz1,hz2⟩:=info_parts info_Region
 have tS:Tryz.prog.underlying 23=some (.slice 71):=Tryz.underlying23
 have qS:∀ (w:World) (a:Option Addr) (n c n' c':Nat),(binOp .eql 23 (.slice a n c) (.slice none n' c')).run Tryz.prog w=.ok (.bool a.isNone) w:=fun w a n c n' c'=>Lib.run_eql_slice_nil w _ _ a n c n' c' tS
 have uS:∀ w,Sem.run Tryz.prog (underlying 23) w=.ok (TypeDesc.slice 71) w:=run_underlying tS
 have A1:Aside (∀ j u,vals[j]? = some u→w.cell? (ad.add j)=some u):=hcell
 have A2:Aside (∀ u ∈ vals,u.oneCell'=true):=hone
 have A3:Aside (vals.length=n * 7):=hl
 clear hcell hone hl
 go_enter Tryz.func110,Tryz.ntmps110
 go_wp2_with (at_builtin;refine wpList_append_own _ rfl _ _ 23 rfl w.heap.size 71 i0 (Value.agg #[Value.string ⟨#[]⟩,Value.int .i64 0,Value.int .i64 0,Value.int .i64 0,Value.int .i64 0,Value.int .u8 0,Value.bool false]) 7 56 tS hi hz0 hz1 hz2 rfl (by decide) _ _ _ rfl (World.ownsRow_made w #[] 0 (Nat.le_refl _) (Nat.zero_le _) rfl) ad n c vals rfl A3.out ?qc2 A2.out (by omega) (by omega) (by simp) ?_)
 case qc2 =>
  intro j u hj
  exact Lib.cell?_alloc_some _ (A1.out j u hj)
 intro v' w1 hown hgrow hnil
 go_wp2
 go_ret
 exact⟨v',rfl,by simpa using hown,((Below.refl _ w).alloc (Nat.le_refl _) _).grown hgrow (by simp) (by intro k hk;simp[Value.ownBlock] at hk;omega)⟩
theorem run_Clone0_Region(n c:Nat)(w:World):Calls Tryz.prog 110 #[.slice none n c] w fun e w'=>e=.returned (.slice none 0 0)∧w'=w:=by
 have tS:Tryz.prog.underlying 23=some (.slice 71):=Tryz.underlying23;have qS:∀ (w:World) (a:Option Addr) (n c n' c':Nat),(binOp .eql 23 (.slice a n c) (.slice none n' c')).run Tryz.prog w=.ok (.bool a.isNone) w:=fun w a n c n' c'=>Lib.run_eql_slice_nil w _ _ a n c n' c' tS;go_enter Tryz.func110,Tryz.ntmps110;go_wp2;go_ret;exact⟨rfl,rfl⟩
def g_slices_Clone_api_Region_api_Region(s:List T_api_Region):Option (List T_api_Region):=if s.length * 56≤140737488355328 then some s else none
def g_slices_Clone_api_Region_api_Region_nw(s:List T_api_Region):Option (List T_api_Region):=if s.isEmpty then none else g_slices_Clone_api_Region_api_Region s
theorem a_slices_Clone_api_Region_api_Region_nw{I:World→Prop}(hI:Stab I){H:Nat→Option Blk}{nid:Nat}{s r:List T_api_Region}(h:g_slices_Clone_api_Region_api_Region_nw s=some r):CallOK Tryz.prog I 110 [.sl (s.map T_api_Region.d)] H nid (.own nid r.length) [(nid,some (.vec 71 7 (r.map T_api_Region.d) false))]:=by
 unfold g_slices_Clone_api_Region_api_Region_nw at h
 split at h
 ·cases h
 rename_i hne
 unfold g_slices_Clone_api_Region_api_Region at h
 obtain⟨hb,h⟩:=ite_on h
 cases h
 have hne':s.map T_api_Region.d≠[]:=by simpa using hne
 have hk:∀ x ∈ s.map T_api_Region.d,x.cells.length=7:=fun x hx=>by obtain⟨y,_,rfl⟩:=List.mem_map.1 hx;rfl
 have hm:(s.map T_api_Region.d).length≤maxLen:=by rw[List.length_map];unfold maxLen;omega
 have:=CallOK.of_run (P:=Tryz.prog) (I:=I) (f:=110) (ds:=[.sl (s.map T_api_Region.d)]) (e:=71) (k:=7) (xs:=s.map T_api_Region.d) (v0:=fun _=>True) (H:=H) (nid:=nid) (by kernel_rfl) hk hm (fun w F args hIw hfb hl hr=>?_) (fun d hd=>by
  simp only[List.mem_singleton] at hd
  subst hd
  exact⟨_,rfl,rfl⟩) hI
 ·simpa using this
 ·match args,hl with
  | [v],_ =>
   obtain⟨b,off,c,vals,rfl,h1,h2,h3,h4,h5⟩:=sl_cells (hr 0 v _ rfl rfl) hne' hk
   refine⟨vals,h4,?_⟩
   refine run_Clone_Region ⟨b,off,none⟩ _ c vals w h1 h2 h3 h5 (by rw[List.length_map];exact hb)
theorem a_slices_Clone_api_Region_api_Region{I:World→Prop}(hI:Stab I){s r:List T_api_Region}(h:g_slices_Clone_api_Region_api_Region s=some r):AFun Tryz.prog I 110 [.sl (s.map T_api_Region.d)] (.sl (r.map T_api_Region.d)):=by
 by_cases hs:s=[]
 ·subst hs
  cases h
  refine⟨by kernel_rfl,fun w F args hIw hfb hl hr=>?_⟩
  match args,hl with
  | [v],_ =>
   have key:∃ A c,v=.slice A 0 c:=by
    have hv:=hr 0 v _ rfl rfl
    generalize hx:([]:List T_api_Region).map T_api_Region.d=xs at hv
    simp at hx
    subst hx
    cases hv with
    | sl0 A c hm=>exact⟨A,c,rfl⟩
    | sl b off k' c _ vals hc hm hk' hlv hone hF hcell hrep=>exact⟨_,c,rfl⟩
   obtain⟨A,c,rfl⟩:=key
   cases A with
   | none =>
    refine(run_Clone0_Region 0 c w).mono ?_
    rintro e w' ⟨rfl,rfl⟩
    exact⟨_,F,rfl,Below.refl _ _,Ext.refl _ _,hfb,fun _ _ h=>.inl h,.sl0 none 0 (Nat.zero_le _)⟩
   | some ad =>
    refine(run_Clone_Region ad 0 c [] w rfl (by simp) (by simp) (Nat.zero_le _) (by omega)).mono ?_
    rintro e w' ⟨v',rfl,hown,hb⟩
    have hx:∃ A c,v'=.slice A 0 c∧c≤maxLen:=by
     rcases hown.2 with⟨h0,_⟩|⟨g',cap,cur,hv,_,_,_,h5,_⟩
     ·exact⟨none,0,h0,Nat.zero_le _⟩
     ·exact⟨_,cap,hv,h5⟩
    obtain⟨A',c',rfl,hc'⟩:=hx
    exact⟨_,F,rfl,hb,⟨fun _ _ h=>h,fun b o h=>hb.block b (hfb b o h),fun _ h=>h.elim,fun _ h=>h.elim⟩,fun b o h=>Nat.lt_of_lt_of_le (hfb b o h) hb.size,fun _ _ h=>.inl h,.sl0 A' c' hc'⟩
 ·have hw:g_slices_Clone_api_Region_api_Region_nw s=some r:=by
   unfold g_slices_Clone_api_Region_api_Region_nw
   rw[if_neg (by simpa using hs)]
   exact h
  refine AFun.of_own (e:=71) (k:=7) fun H nid=>?_
  have:=a_slices_Clone_api_Region_api_Region_nw (I:=I) hI (H:=H) (nid:=nid) hw
  simpa using this
theorem info_Comment:(Tryz.prog.info? 162).map (fun i=>(i.zero,i.size,i.bytes))=some (some (Value.agg #[Value.int .i64 0,Value.int .i64 0,Value.int .i64 0,Value.int .i64 0,Value.string ⟨#[]⟩,Value.string ⟨#[]⟩,Value.bool false,Value.bool false]),8,72):=by kernel_rfl
theorem run_Clone_Comment(ad:Addr)(n c:Nat)(vals:List Value)(w:World)(hl:vals.length=n * 8)(hone:∀ u ∈ vals,u.oneCell'=true)(hcell:∀ j u,vals[j]? = some u→w.cell? (ad.add j)=some u)(hn:n≤maxLen)(hbig:n * 72≤140737488355328) :
  Calls Tryz.prog 111 #[.slice (some ad) n c] w fun e w'=>∃ v',e=.returned v'∧w'.ownsRow w.heap.size 162 8 v' n vals∧Below w.heap.size w w':=by
 obtain⟨i0,hi,hz0,hz1,hz2⟩:=info_parts info_Comment
 have tS:Tryz.prog.underlying 25=some (.slice 162):=Tryz.underlying25
 have qS:∀ (w:World) (a:Option Addr) (n c n' c':Nat),(binOp .eql 25 (.slice a n c) (.slice none n' c')).run Tryz.prog w=.ok (.bool a.isNone) w:=fun w a n c n' c'=>Lib.run_eql_slice_nil w _ _ a n c n' c' tS
 have uS:∀ w,Sem.run Tryz.prog (underlying 25) w=.ok (TypeDesc.slice 162) w:=run_underlying tS
 have A1:Aside (∀ j u,vals[j]? = some u→w.cell? (ad.add j)=some u):=hcell
 have A2:Aside (∀ u ∈ vals,u.oneCell'=true):=hone
 have A3:Aside (vals.length=n * 8):=hl
 clear hcell hone hl
 go_enter Tryz.func111,Tryz.ntmps111
 go_wp2_with (at_builtin;refine wpList_append_own _ rfl _ _ 25 rfl w.heap.size 162 i0 (Value.agg #[Value.int .i64 0,Value.int .i64 0,Value.int .i64 0,Value.int .i64 0,Value.string ⟨#[]⟩,Value.string ⟨#[]⟩,Value.bool false,Value.bool false]) 8 72 tS hi hz0 hz1 hz2 rfl (by decide) _ _ _ rfl (World.ownsRow_made w #[] 0 (Nat.le_refl _) (Nat.zero_le _) rfl) ad n c vals rfl A3.out ?qc2 A2.out (by omega) (by omega) (by simp) ?_)
 case qc2 =>
  intro j u hj
  exact Lib.cell?_alloc_some _ (A1.out j u hj)
 intro v' w1 hown hgrow hnil
 go_wp2
 go_ret
 exact⟨v',rfl,by simpa using hown,((Below.refl _ w).alloc (Nat.le_refl _) _).grown hgrow (by simp) (by intro k hk;simp[Value.ownBlock] at hk;omega)⟩
theorem run_Clone0_Comment(n c:Nat)(w:World):Calls Tryz.prog 111 #[.slice none n c] w fun e w'=>e=.returned (.slice none 0 0)∧w'=w:=by
 have tS:Tryz.prog.underlying 25=some (.slice 162):=Tryz.underlying25;have qS:∀ (w:World) (a:Option Addr) (n c n' c':Nat),(binOp .eql 25 (.slice a n c) (.slice none n' c')).run Tryz.prog w=.ok (.bool a.isNone) w:=fun w a n c n' c'=>Lib.run_eql_slice_nil w _ _ a n c n' c' tS;go_enter Tryz.func111,Tryz.ntmps111;go_wp2;go_ret;exact⟨rfl,rfl⟩
def g_slices_Clone_api_Comment_api_Comment(s:List T_api_Comment):Option (List T_api_Comment):=if s.length * 72≤140737488355328 then some s else none
def g_slices_Clone_api_Comment_api_Comment_nw(s:List T_api_Comment):Option (List T_api_Comment):=if s.isEmpty then none else g_slices_Clone_api_Comment_api_Comment s
theorem a_slices_Clone_api_Comment_api_Comment_nw{I:World→Prop}(hI:Stab I){H:Nat→Option Blk}{nid:Nat}{s r:List T_api_Comment}(h:g_slices_Clone_api_Comment_api_Comment_nw s=some r):CallOK Tryz.prog I 111 [.sl (s.map T_api_Comment.d)] H nid (.own nid r.length) [(nid,some (.vec 162 8 (r.map T_api_Comment.d) false))]:=by
 unfold g_slices_Clone_api_Comment_api_Comment_nw at h
 split at h
 ·cases h
 rename_i hne
 unfold g_slices_Clone_api_Comment_api_Comment at h
 obtain⟨hb,h⟩:=ite_on h
 cases h
 have hne':s.map T_api_Comment.d≠[]:=by simpa using hne
 have hk:∀ x ∈ s.map T_api_Comment.d,x.cells.length=8:=fun x hx=>by obtain⟨y,_,rfl⟩:=List.mem_map.1 hx;rfl
 have hm:(s.map T_api_Comment.d).length≤maxLen:=by rw[List.length_map];unfold maxLen;omega
 have:=CallOK.of_run (P:=Tryz.prog) (I:=I) (f:=111) (ds:=[.sl (s.map T_api_Comment.d)]) (e:=162) (k:=8) (xs:=s.map T_api_Comment.d) (v0:=fun _=>True) (H:=H) (nid:=nid) (by kernel_rfl) hk hm (fun w F args hIw hfb hl hr=>?_) (fun d hd=>by
  simp only[List.mem_singleton] at hd
  subst hd
  exact⟨_,rfl,rfl⟩) hI
 ·simpa using this
 ·match args,hl with
  | [v],_ =>
   obtain⟨b,off,c,vals,rfl,h1,h2,h3,h4,h5⟩:=sl_cells (hr 0 v _ rfl rfl) hne' hk
   refine⟨vals,h4,?_⟩
   refine run_Clone_Comment ⟨b,off,none⟩ _ c vals w h1 h2 h3 h5 (by rw[List.length_map];exact hb)
theorem a_slices_Clone_api_Comment_api_Comment{I:World→Prop}(hI:Stab I){s r:List T_api_Comment}(h:g_slices_Clone_api_Comment_api_Comment s=some r):AFun Tryz.prog I 111 [.sl (s.map T_api_Comment.d)] (.sl (r.map T_api_Comment.d)):=by
 by_cases hs:s=[]
 ·subst hs
  cases h
  refine⟨by kernel_rfl,fun w F args hIw hfb hl hr=>?_⟩
  match args,hl with
  | [v],_ =>
   have key:∃ A c,v=.slice A 0 c:=by
    have hv:=hr 0 v _ rfl rfl
    generalize hx:([]:List T_api_Comment).map T_api_Comment.d=xs at hv
    simp at hx
    subst hx
    cases hv with
    | sl0 A c hm=>exact⟨A,c,rfl⟩
    | sl b off k' c _ vals hc hm hk' hlv hone hF hcell hrep=>exact⟨_,c,rfl⟩
   obtain⟨A,c,rfl⟩:=key
   cases A with
   | none =>
    refine(run_Clone0_Comment 0 c w).mono ?_
    rintro e w' ⟨rfl,rfl⟩
    exact⟨_,F,rfl,Below.refl _ _,Ext.refl _ _,hfb,fun _ _ h=>.inl h,.sl0 none 0 (Nat.zero_le _)⟩
   | some ad =>
    refine(run_Clone_Comment ad 0 c [] w rfl (by simp) (by simp) (Nat.zero_le _) (by omega)).mono ?_
    rintro e w' ⟨v',rfl,hown,hb⟩
    have hx:∃ A c,v'=.slice A 0 c∧c≤maxLen:=by
     rcases hown.2 with⟨h0,_⟩|⟨g',cap,cur,hv,_,_,_,h5,_⟩
     ·exact⟨none,0,h0,Nat.zero_le _⟩
     ·exact⟨_,cap,hv,h5⟩
    obtain⟨A',c',rfl,hc'⟩:=hx
    exact⟨_,F,rfl,hb,⟨fun _ _ h=>h,fun b o h=>hb.block b (hfb b o h),fun _ h=>h.elim,fun _ h=>h.elim⟩,fun b o h=>Nat.lt_of_lt_of_le (hfb b o h) hb.size,fun _ _ h=>.inl h,.sl0 A' c' hc'⟩
 ·have hw:g_slices_Clone_api_Comment_api_Comment_nw s=some r:=by
   unfold g_slices_Clone_api_Comment_api_Comment_nw
   rw[if_neg (by simpa using hs)]
   exact h
  refine AFun.of_own (e:=162) (k:=8) fun H nid=>?_
  have:=a_slices_Clone_api_Comment_api_Comment_nw (I:=I) hI (H:=H) (nid:=nid) hw
  simpa using this
theorem info_Event:(Tryz.prog.info? 91).map (fun i=>(i.zero,i.size,i.bytes))=some (some (Value.agg #[Value.int .i64 0,Value.int .i64 0,Value.int .i64 0,Value.string ⟨#[]⟩,Value.int .u8 0,Value.string ⟨#[]⟩,Value.slice none 0 0]),7,88):=by kernel_rfl
theorem run_Clone_Event(ad:Addr)(n c:Nat)(vals:List Value)(w:World)(hl:vals.length=n * 7)(hone:∀ u ∈ vals,u.oneCell'=true)(hcell:∀ j u,vals[j]? = some u→w.cell? (ad.add j)=some u)(hn:n≤maxLen)(hbig:n * 88≤140737488355328) :
  Calls Tryz.prog 112 #[.slice (some ad) n c] w fun e w'=>∃ v',e=.returned v'∧w'.ownsRow w.heap.size 91 7 v' n vals∧Below w.heap.size w w':=by
 obtain⟨i0,hi,hz0,hz1,hz2⟩:=info_parts info_Event
 have tS:Tryz.prog.underlying 24=some (.slice 91):=Tryz.underlying24
 have qS:∀ (w:World) (a:Option Addr) (n c n' c':Nat),(binOp .eql 24 (.slice a n c) (.slice none n' c')).run Tryz.prog w=.ok (.bool a.isNone) w:=fun w a n c n' c'=>Lib.run_eql_slice_nil w _ _ a n c n' c' tS
 have uS:∀ w,Sem.run Tryz.prog (underlying 24) w=.ok (TypeDesc.slice 91) w:=run_underlying tS
 have A1:Aside (∀ j u,vals[j]? = some u→w.cell? (ad.add j)=some u):=hcell
 have A2:Aside (∀ u ∈ vals,u.oneCell'=true):=hone
 have A3:Aside (vals.length=n * 7):=hl
 clear hcell hone hl
 go_enter Tryz.func112,Tryz.ntmps112
 go_wp2_with (at_builtin;refine wpList_append_own _ rfl _ _ 24 rfl w.heap.size 91 i0 (Value.agg #[Value.int .i64 0,Value.int .i64 0,Value.int .i64 0,Value.string ⟨#[]⟩,Value.int .u8 0,Value.string ⟨#[]⟩,Value.slice none 0 0]) 7 88 tS hi hz0 hz1 hz2 rfl (by decide) _ _ _ rfl (World.ownsRow_made w #[] 0 (Nat.le_refl _) (Nat.zero_le _) rfl) ad n c vals rfl A3.out ?qc2 A2.out (by omega) (by omega) (by simp) ?_)
 case qc2 =>
  intro j u hj
  exact Lib.cell?_alloc_some _ (A1.out j u hj)
 intro v' w1 hown hgrow hnil
 go_wp2
 go_ret
 exact⟨v',rfl,by simpa using hown,((Below.refl _ w).alloc (Nat.le_refl _) _).grown hgrow (by simp) (by intro k hk;simp[Value.ownBlock] at hk;omega)⟩
theorem run_Clone0_Event(n c:Nat)(w:World):Calls Tryz.prog 112 #[.slice none n c] w fun e w'=>e=.returned (.slice none 0 0)∧w'=w:=by
 have tS:Tryz.prog.underlying 24=some (.slice 91):=Tryz.underlying24;have qS:∀ (w:World) (a:Option Addr) (n c n' c':Nat),(binOp .eql 24 (.slice a n c) (.slice none n' c')).run Tryz.prog w=.ok (.bool a.isNone) w:=fun w a n c n' c'=>Lib.run_eql_slice_nil w _ _ a n c n' c' tS;go_enter Tryz.func112,Tryz.ntmps112;go_wp2;go_ret;exact⟨rfl,rfl⟩
def g_slices_Clone_api_Event_api_Event(s:List T_api_Event):Option (List T_api_Event):=if s.length * 88≤140737488355328 then some s else none
def g_slices_Clone_api_Event_api_Event_nw(s:List T_api_Event):Option (List T_api_Event):=if s.isEmpty then none else g_slices_Clone_api_Event_api_Event s
theorem a_slices_Clone_api_Event_api_Event_nw{I:World→Prop}(hI:Stab I){H:Nat→Option Blk}{nid:Nat}{s r:List T_api_Event}(h:g_slices_Clone_api_Event_api_Event_nw s=some r):CallOK Tryz.prog I 112 [.sl (s.map T_api_Event.d)] H nid (.own nid r.length) [(nid,some (.vec 91 7 (r.map T_api_Event.d) false))]:=by
 unfold g_slices_Clone_api_Event_api_Event_nw at h
 split at h
 ·cases h
 rename_i hne
 unfold g_slices_Clone_api_Event_api_Event at h
 obtain⟨hb,h⟩:=ite_on h
 cases h
 have hne':s.map T_api_Event.d≠[]:=by simpa using hne
 have hk:∀ x ∈ s.map T_api_Event.d,x.cells.length=7:=fun x hx=>by obtain⟨y,_,rfl⟩:=List.mem_map.1 hx;rfl
 have hm:(s.map T_api_Event.d).length≤maxLen:=by rw[List.length_map];unfold maxLen;omega
 have:=CallOK.of_run (P:=Tryz.prog) (I:=I) (f:=112) (ds:=[.sl (s.map T_api_Event.d)]) (e:=91) (k:=7) (xs:=s.map T_api_Event.d) (v0:=fun _=>True) (H:=H) (nid:=nid) (by kernel_rfl) hk hm (fun w F args hIw hfb hl hr=>?_) (fun d hd=>by
  simp only[List.mem_singleton] at hd
  subst hd
  exact⟨_,rfl,rfl⟩) hI
 ·simpa using this
 ·match args,hl with
  | [v],_ =>
   obtain⟨b,off,c,vals,rfl,h1,h2,h3,h4,h5⟩:=sl_cells (hr 0 v _ rfl rfl) hne' hk
   refine⟨vals,h4,?_⟩
   refine run_Clone_Event ⟨b,off,none⟩ _ c vals w h1 h2 h3 h5 (by rw[List.length_map];exact hb)
theorem a_slices_Clone_api_Event_api_Event{I:World→Prop}(hI:Stab I){s r:List T_api_Event}(h:g_slices_Clone_api_Event_api_Event s=some r):AFun Tryz.prog I 112 [.sl (s.map T_api_Event.d)] (.sl (r.map T_api_Event.d)):=by
 by_cases hs:s=[]
 ·subst hs
  cases h
  refine⟨by kernel_rfl,fun w F args hIw hfb hl hr=>?_⟩
  match args,hl with
  | [v],_ =>
   have key:∃ A c,v=.slice A 0 c:=by
    have hv:=hr 0 v _ rfl rfl
    generalize hx:([]:List T_api_Event).map T_api_Event.d=xs at hv
    simp at hx
    subst hx
    cases hv with
    | sl0 A c hm=>exact⟨A,c,rfl⟩
    | sl b off k' c _ vals hc hm hk' hlv hone hF hcell hrep=>exact⟨_,c,rfl⟩
   obtain⟨A,c,rfl⟩:=key
   cases A with
   | none =>
    refine(run_Clone0_Event 0 c w).mono ?_
    rintro e w' ⟨rfl,rfl⟩
    exact⟨_,F,rfl,Below.refl _ _,Ext.refl _ _,hfb,fun _ _ h=>.inl h,.sl0 none 0 (Nat.zero_le _)⟩
   | some ad =>
    refine(run_Clone_Event ad 0 c [] w rfl (by simp) (by simp) (Nat.zero_le _) (by omega)).mono ?_
    rintro e w' ⟨v',rfl,hown,hb⟩
    have hx:∃ A c,v'=.slice A 0 c∧c≤maxLen:=by
     rcases hown.2 with⟨h0,_⟩|⟨g',cap,cur,hv,_,_,_,h5,_⟩
     ·exact⟨none,0,h0,Nat.zero_le _⟩
     ·exact⟨_,cap,hv,h5⟩
    obtain⟨A',c',rfl,hc'⟩:=hx
    exact⟨_,F,rfl,hb,⟨fun _ _ h=>h,fun b o h=>hb.block b (hfb b o h),fun _ h=>h.elim,fun _ h=>h.elim⟩,fun b o h=>Nat.lt_of_lt_of_le (hfb b o h) hb.size,fun _ _ h=>.inl h,.sl0 A' c' hc'⟩
 ·have hw:g_slices_Clone_api_Event_api_Event_nw s=some r:=by
   unfold g_slices_Clone_api_Event_api_Event_nw
   rw[if_neg (by simpa using hs)]
   exact h
  refine AFun.of_own (e:=91) (k:=7) fun H nid=>?_
  have:=a_slices_Clone_api_Event_api_Event_nw (I:=I) hI (H:=H) (nid:=nid) hw
  simpa using this
theorem info_Row:(Tryz.prog.info? 149).map (fun i=>(i.zero,i.size,i.bytes))=some (some (Value.agg #[Value.slice none 0 0]),1,24):=by kernel_rfl
theorem run_Clone_Row(ad:Addr)(n c:Nat)(vals:List Value)(w:World)(hl:vals.length=n * 1)(hone:∀ u ∈ vals,u.oneCell'=true)(hcell:∀ j u,vals[j]? = some u→w.cell? (ad.add j)=some u)(hn:n≤maxLen)(hbig:n * 24≤140737488355328) :
  Calls Tryz.prog 225 #[.slice (some ad) n c] w fun e w'=>∃ v',e=.returned v'∧w'.ownsRow w.heap.size 149 1 v' n vals∧Below w.heap.size w w':=by
 obtain⟨i0,hi,hz0,hz1,hz2⟩:=info_parts info_Row
 have tS:Tryz.prog.underlying 72=some (.slice 149):=Tryz.underlying72
 have qS:∀ (w:World) (a:Option Addr) (n c n' c':Nat),(binOp .eql 72 (.slice a n c) (.slice none n' c')).run Tryz.prog w=.ok (.bool a.isNone) w:=fun w a n c n' c'=>Lib.run_eql_slice_nil w _ _ a n c n' c' tS
 have uS:∀ w,Sem.run Tryz.prog (underlying 72) w=.ok (TypeDesc.slice 149) w:=run_underlying tS
 have A1:Aside (∀ j u,vals[j]? = some u→w.cell? (ad.add j)=some u):=hcell
 have A2:Aside (∀ u ∈ vals,u.oneCell'=true):=hone
 have A3:Aside (vals.length=n * 1):=hl
 clear hcell hone hl
 go_enter Tryz.func225,Tryz.ntmps225
 go_wp2_with (at_builtin;refine wpList_append_own _ rfl _ _ 72 rfl w.heap.size 149 i0 (Value.agg #[Value.slice none 0 0]) 1 24 tS hi hz0 hz1 hz2 rfl (by decide) _ _ _ rfl (World.ownsRow_made w #[] 0 (Nat.le_refl _) (Nat.zero_le _) rfl) ad n c vals rfl A3.out ?qc2 A2.out (by omega) (by omega) (by simp) ?_)
 case qc2 =>
  intro j u hj
  exact Lib.cell?_alloc_some _ (A1.out j u hj)
 intro v' w1 hown hgrow hnil
 go_wp2
 go_ret
 exact⟨v',rfl,by simpa using hown,((Below.refl _ w).alloc (Nat.le_refl _) _).grown hgrow (by simp) (by intro k hk;simp[Value.ownBlock] at hk;omega)⟩
theorem run_Clone0_Row(n c:Nat)(w:World):Calls Tryz.prog 225 #[.slice none n c] w fun e w'=>e=.returned (.slice none 0 0)∧w'=w:=by
 have tS:Tryz.prog.underlying 72=some (.slice 149):=Tryz.underlying72;have qS:∀ (w:World) (a:Option Addr) (n c n' c':Nat),(binOp .eql 72 (.slice a n c) (.slice none n' c')).run Tryz.prog w=.ok (.bool a.isNone) w:=fun w a n c n' c'=>Lib.run_eql_slice_nil w _ _ a n c n' c' tS;go_enter Tryz.func225,Tryz.ntmps225;go_wp2;go_ret;exact⟨rfl,rfl⟩
def g_slices_Clone_api_Row_api_Row(s:List T_api_Row):Option (List T_api_Row):=if s.length * 24≤140737488355328 then some s else none
def g_slices_Clone_api_Row_api_Row_nw(s:List T_api_Row):Option (List T_api_Row):=if s.isEmpty then none else g_slices_Clone_api_Row_api_Row s
theorem a_slices_Clone_api_Row_api_Row_nw{I:World→Prop}(hI:Stab I){H:Nat→Option Blk}{nid:Nat}{s r:List T_api_Row}(h:g_slices_Clone_api_Row_api_Row_nw s=some r):CallOK Tryz.prog I 225 [.sl (s.map T_api_Row.d)] H nid (.own nid r.length) [(nid,some (.vec 149 1 (r.map T_api_Row.d) false))]:=by
 unfold g_slices_Clone_api_Row_api_Row_nw at h
 split at h
 ·cases h
 rename_i hne
 unfold g_slices_Clone_api_Row_api_Row at h
 obtain⟨hb,h⟩:=ite_on h
 cases h
 have hne':s.map T_api_Row.d≠[]:=by simpa using hne
 have hk:∀ x ∈ s.map T_api_Row.d,x.cells.length=1:=fun x hx=>by obtain⟨y,_,rfl⟩:=List.mem_map.1 hx;rfl
 have hm:(s.map T_api_Row.d).length≤maxLen:=by rw[List.length_map];unfold maxLen;omega
 have:=CallOK.of_run (P:=Tryz.prog) (I:=I) (f:=225) (ds:=[.sl (s.map T_api_Row.d)]) (e:=149) (k:=1) (xs:=s.map T_api_Row.d) (v0:=fun _=>True) (H:=H) (nid:=nid) (by kernel_rfl) hk hm (fun w F args hIw hfb hl hr=>?_) (fun d hd=>by
  simp only[List.mem_singleton] at hd
  subst hd
  exact⟨_,rfl,rfl⟩) hI
 ·simpa using this
 ·match args,hl with
  | [v],_ =>
   obtain⟨b,off,c,vals,rfl,h1,h2,h3,h4,h5⟩:=sl_cells (hr 0 v _ rfl rfl) hne' hk
   refine⟨vals,h4,?_⟩
   refine run_Clone_Row ⟨b,off,none⟩ _ c vals w h1 h2 h3 h5 (by rw[List.length_map];exact hb)
theorem a_slices_Clone_api_Row_api_Row{I:World→Prop}(hI:Stab I){s r:List T_api_Row}(h:g_slices_Clone_api_Row_api_Row s=some r):AFun Tryz.prog I 225 [.sl (s.map T_api_Row.d)] (.sl (r.map T_api_Row.d)):=by
 by_cases hs:s=[]
 ·subst hs
  cases h
  refine⟨by kernel_rfl,fun w F args hIw hfb hl hr=>?_⟩
  match args,hl with
  | [v],_ =>
   have key:∃ A c,v=.slice A 0 c:=by
    have hv:=hr 0 v _ rfl rfl
    generalize hx:([]:List T_api_Row).map T_api_Row.d=xs at hv
    simp at hx
    subst hx
    cases hv with
    | sl0 A c hm=>exact⟨A,c,rfl⟩
    | sl b off k' c _ vals hc hm hk' hlv hone hF hcell hrep=>exact⟨_,c,rfl⟩
   obtain⟨A,c,rfl⟩:=key
   cases A with
   | none =>
    refine(run_Clone0_Row 0 c w).mono ?_
    rintro e w' ⟨rfl,rfl⟩
    exact⟨_,F,rfl,Below.refl _ _,Ext.refl _ _,hfb,fun _ _ h=>.inl h,.sl0 none 0 (Nat.zero_le _)⟩
   | some ad =>
    refine(run_Clone_Row ad 0 c [] w rfl (by simp) (by simp) (Nat.zero_le _) (by omega)).mono ?_
    rintro e w' ⟨v',rfl,hown,hb⟩
    have hx:∃ A c,v'=.slice A 0 c∧c≤maxLen:=by
     rcases hown.2 with⟨h0,_⟩|⟨g',cap,cur,hv,_,_,_,h5,_⟩
     ·exact⟨none,0,h0,Nat.zero_le _⟩
     ·exact⟨_,cap,hv,h5⟩
    obtain⟨A',c',rfl,hc'⟩:=hx
    exact⟨_,F,rfl,hb,⟨fun _ _ h=>h,fun b o h=>hb.block b (hfb b o h),fun _ h=>h.elim,fun _ h=>h.elim⟩,fun b o h=>Nat.lt_of_lt_of_le (hfb b o h) hb.size,fun _ _ h=>.inl h,.sl0 A' c' hc'⟩
 ·have hw:g_slices_Clone_api_Row_api_Row_nw s=some r:=by
   unfold g_slices_Clone_api_Row_api_Row_nw
   rw[if_neg (by simpa using hs)]
   exact h
  refine AFun.of_own (e:=149) (k:=1) fun H nid=>?_
  have:=a_slices_Clone_api_Row_api_Row_nw (I:=I) hI (H:=H) (nid:=nid) hw
  simpa using this
theorem info_Run:(Tryz.prog.info? 233).map (fun i=>(i.zero,i.size,i.bytes))=some (some (Value.agg #[Value.string ⟨#[]⟩,Value.int .u8 0,Value.bool false,Value.bool false,Value.string ⟨#[]⟩]),5,40):=by kernel_rfl
theorem run_Clone_Run(ad:Addr)(n c:Nat)(vals:List Value)(w:World)(hl:vals.length=n * 5)(hone:∀ u ∈ vals,u.oneCell'=true)(hcell:∀ j u,vals[j]? = some u→w.cell? (ad.add j)=some u)(hn:n≤maxLen)(hbig:n * 40≤140737488355328) :
  Calls Tryz.prog 226 #[.slice (some ad) n c] w fun e w'=>∃ v',e=.returned v'∧w'.ownsRow w.heap.size 233 5 v' n vals∧Below w.heap.size w w':=by
 obtain⟨i0,hi,hz0,hz1,hz2⟩:=info_parts info_Run
 have tS:Tryz.prog.underlying 147=some (.slice 233):=Tryz.underlying147
 have qS:∀ (w:World) (a:Option Addr) (n c n' c':Nat),(binOp .eql 147 (.slice a n c) (.slice none n' c')).run Tryz.prog w=.ok (.bool a.isNone) w:=fun w a n c n' c'=>Lib.run_eql_slice_nil w _ _ a n c n' c' tS
 have uS:∀ w,Sem.run Tryz.prog (underlying 147) w=.ok (TypeDesc.slice 233) w:=run_underlying tS
 have A1:Aside (∀ j u,vals[j]? = some u→w.cell? (ad.add j)=some u):=hcell
 have A2:Aside (∀ u ∈ vals,u.oneCell'=true):=hone
 have A3:Aside (vals.length=n * 5):=hl
 clear hcell hone hl
 go_enter Tryz.func226,Tryz.ntmps226
 go_wp2_with (at_builtin;refine wpList_append_own _ rfl _ _ 147 rfl w.heap.size 233 i0 (Value.agg #[Value.string ⟨#[]⟩,Value.int .u8 0,Value.bool false,Value.bool false,Value.string ⟨#[]⟩]) 5 40 tS hi hz0 hz1 hz2 rfl (by decide) _ _ _ rfl (World.ownsRow_made w #[] 0 (Nat.le_refl _) (Nat.zero_le _) rfl) ad n c vals rfl A3.out ?qc2 A2.out (by omega) (by omega) (by simp) ?_)
 case qc2 =>
  intro j u hj
  exact Lib.cell?_alloc_some _ (A1.out j u hj)
 intro v' w1 hown hgrow hnil
 go_wp2
 go_ret
 exact⟨v',rfl,by simpa using hown,((Below.refl _ w).alloc (Nat.le_refl _) _).grown hgrow (by simp) (by intro k hk;simp[Value.ownBlock] at hk;omega)⟩
theorem run_Clone0_Run(n c:Nat)(w:World):Calls Tryz.prog 226 #[.slice none n c] w fun e w'=>e=.returned (.slice none 0 0)∧w'=w:=by
 have tS:Tryz.prog.underlying 147=some (.slice 233):=Tryz.underlying147;have qS:∀ (w:World) (a:Option Addr) (n c n' c':Nat),(binOp .eql 147 (.slice a n c) (.slice none n' c')).run Tryz.prog w=.ok (.bool a.isNone) w:=fun w a n c n' c'=>Lib.run_eql_slice_nil w _ _ a n c n' c' tS;go_enter Tryz.func226,Tryz.ntmps226;go_wp2;go_ret;exact⟨rfl,rfl⟩
def g_slices_Clone_api_Run_api_Run(s:List T_api_Run):Option (List T_api_Run):=if s.length * 40≤140737488355328 then some s else none
def g_slices_Clone_api_Run_api_Run_nw(s:List T_api_Run):Option (List T_api_Run):=if s.isEmpty then none else g_slices_Clone_api_Run_api_Run s
theorem a_slices_Clone_api_Run_api_Run_nw{I:World→Prop}(hI:Stab I){H:Nat→Option Blk}{nid:Nat}{s r:List T_api_Run}(h:g_slices_Clone_api_Run_api_Run_nw s=some r):CallOK Tryz.prog I 226 [.sl (s.map T_api_Run.d)] H nid (.own nid r.length) [(nid,some (.vec 233 5 (r.map T_api_Run.d) false))]:=by
 unfold g_slices_Clone_api_Run_api_Run_nw at h
 split at h
 ·cases h
 rename_i hne
 unfold g_slices_Clone_api_Run_api_Run at h
 obtain⟨hb,h⟩:=ite_on h
 cases h
 have hne':s.map T_api_Run.d≠[]:=by simpa using hne
 have hk:∀ x ∈ s.map T_api_Run.d,x.cells.length=5:=fun x hx=>by obtain⟨y,_,rfl⟩:=List.mem_map.1 hx;rfl
 have hm:(s.map T_api_Run.d).length≤maxLen:=by rw[List.length_map];unfold maxLen;omega
 have:=CallOK.of_run (P:=Tryz.prog) (I:=I) (f:=226) (ds:=[.sl (s.map T_api_Run.d)]) (e:=233) (k:=5) (xs:=s.map T_api_Run.d) (v0:=fun _=>True) (H:=H) (nid:=nid) (by kernel_rfl) hk hm (fun w F args hIw hfb hl hr=>?_) (fun d hd=>by
  simp only[List.mem_singleton] at hd
  subst hd
  exact⟨_,rfl,rfl⟩) hI
 ·simpa using this
 ·match args,hl with
  | [v],_ =>
   obtain⟨b,off,c,vals,rfl,h1,h2,h3,h4,h5⟩:=sl_cells (hr 0 v _ rfl rfl) hne' hk
   refine⟨vals,h4,?_⟩
   refine run_Clone_Run ⟨b,off,none⟩ _ c vals w h1 h2 h3 h5 (by rw[List.length_map];exact hb)
theorem a_slices_Clone_api_Run_api_Run{I:World→Prop}(hI:Stab I){s r:List T_api_Run}(h:g_slices_Clone_api_Run_api_Run s=some r):AFun Tryz.prog I 226 [.sl (s.map T_api_Run.d)] (.sl (r.map T_api_Run.d)):=by
 by_cases hs:s=[]
 ·subst hs
  cases h
  refine⟨by kernel_rfl,fun w F args hIw hfb hl hr=>?_⟩
  match args,hl with
  | [v],_ =>
   have key:∃ A c,v=.slice A 0 c:=by
    have hv:=hr 0 v _ rfl rfl
    generalize hx:([]:List T_api_Run).map T_api_Run.d=xs at hv
    simp at hx
    subst hx
    cases hv with
    | sl0 A c hm=>exact⟨A,c,rfl⟩
    | sl b off k' c _ vals hc hm hk' hlv hone hF hcell hrep=>exact⟨_,c,rfl⟩
   obtain⟨A,c,rfl⟩:=key
   cases A with
   | none =>
    refine(run_Clone0_Run 0 c w).mono ?_
    rintro e w' ⟨rfl,rfl⟩
    exact⟨_,F,rfl,Below.refl _ _,Ext.refl _ _,hfb,fun _ _ h=>.inl h,.sl0 none 0 (Nat.zero_le _)⟩
   | some ad =>
    refine(run_Clone_Run ad 0 c [] w rfl (by simp) (by simp) (Nat.zero_le _) (by omega)).mono ?_
    rintro e w' ⟨v',rfl,hown,hb⟩
    have hx:∃ A c,v'=.slice A 0 c∧c≤maxLen:=by
     rcases hown.2 with⟨h0,_⟩|⟨g',cap,cur,hv,_,_,_,h5,_⟩
     ·exact⟨none,0,h0,Nat.zero_le _⟩
     ·exact⟨_,cap,hv,h5⟩
    obtain⟨A',c',rfl,hc'⟩:=hx
    exact⟨_,F,rfl,hb,⟨fun _ _ h=>h,fun b o h=>hb.block b (hfb b o h),fun _ h=>h.elim,fun _ h=>h.elim⟩,fun b o h=>Nat.lt_of_lt_of_le (hfb b o h) hb.size,fun _ _ h=>.inl h,.sl0 A' c' hc'⟩
 ·have hw:g_slices_Clone_api_Run_api_Run_nw s=some r:=by
   unfold g_slices_Clone_api_Run_api_Run_nw
   rw[if_neg (by simpa using hs)]
   exact h
  refine AFun.of_own (e:=233) (k:=5) fun H nid=>?_
  have:=a_slices_Clone_api_Run_api_Run_nw (I:=I) hI (H:=H) (nid:=nid) hw
  simpa using this
theorem info_Bound:(Tryz.prog.info? 48).map (fun i=>(i.zero,i.size,i.bytes))=some (some (Value.agg #[Value.int .i64 0,Value.int .i64 0,Value.int .i64 0,Value.int .u8 0,Value.int .i64 0,Value.int .i64 0]),6,48):=by kernel_rfl
theorem run_Clone_Bound(ad:Addr)(n c:Nat)(vals:List Value)(w:World)(hl:vals.length=n * 6)(hone:∀ u ∈ vals,u.oneCell'=true)(hcell:∀ j u,vals[j]? = some u→w.cell? (ad.add j)=some u)(hn:n≤maxLen)(hbig:n * 48≤140737488355328) :
  Calls Tryz.prog 11 #[.slice (some ad) n c] w fun e w'=>∃ v',e=.returned v'∧w'.ownsRow w.heap.size 48 6 v' n vals∧Below w.heap.size w w':=by
 obtain⟨i0,hi,hz0,hz1,hz2⟩:=info_parts info_Bound
 have tS:Tryz.prog.underlying 37=some (.slice 48):=Tryz.underlying37
 have qS:∀ (w:World) (a:Option Addr) (n c n' c':Nat),(binOp .eql 37 (.slice a n c) (.slice none n' c')).run Tryz.prog w=.ok (.bool a.isNone) w:=fun w a n c n' c'=>Lib.run_eql_slice_nil w _ _ a n c n' c' tS
 have uS:∀ w,Sem.run Tryz.prog (underlying 37) w=.ok (TypeDesc.slice 48) w:=run_underlying tS
 have A1:Aside (∀ j u,vals[j]? = some u→w.cell? (ad.add j)=some u):=hcell
 have A2:Aside (∀ u ∈ vals,u.oneCell'=true):=hone
 have A3:Aside (vals.length=n * 6):=hl
 clear hcell hone hl
 go_enter Tryz.func11,Tryz.ntmps11
 go_wp2_with (at_builtin;refine wpList_append_own _ rfl _ _ 37 rfl w.heap.size 48 i0 (Value.agg #[Value.int .i64 0,Value.int .i64 0,Value.int .i64 0,Value.int .u8 0,Value.int .i64 0,Value.int .i64 0]) 6 48 tS hi hz0 hz1 hz2 rfl (by decide) _ _ _ rfl (World.ownsRow_made w #[] 0 (Nat.le_refl _) (Nat.zero_le _) rfl) ad n c vals rfl A3.out ?qc2 A2.out (by omega) (by omega) (by simp) ?_)
 case qc2 =>
  intro j u hj
  exact Lib.cell?_alloc_some _ (A1.out j u hj)
 intro v' w1 hown hgrow hnil
 go_wp2
 go_ret
 exact⟨v',rfl,by simpa using hown,((Below.refl _ w).alloc (Nat.le_refl _) _).grown hgrow (by simp) (by intro k hk;simp[Value.ownBlock] at hk;omega)⟩
theorem run_Clone0_Bound(n c:Nat)(w:World):Calls Tryz.prog 11 #[.slice none n c] w fun e w'=>e=.returned (.slice none 0 0)∧w'=w:=by
 have tS:Tryz.prog.underlying 37=some (.slice 48):=Tryz.underlying37;have qS:∀ (w:World) (a:Option Addr) (n c n' c':Nat),(binOp .eql 37 (.slice a n c) (.slice none n' c')).run Tryz.prog w=.ok (.bool a.isNone) w:=fun w a n c n' c'=>Lib.run_eql_slice_nil w _ _ a n c n' c' tS;go_enter Tryz.func11,Tryz.ntmps11;go_wp2;go_ret;exact⟨rfl,rfl⟩
def g_slices_Clone_api_Bound_api_Bound(s:List T_api_Bound):Option (List T_api_Bound):=if s.length * 48≤140737488355328 then some s else none
def g_slices_Clone_api_Bound_api_Bound_nw(s:List T_api_Bound):Option (List T_api_Bound):=if s.isEmpty then none else g_slices_Clone_api_Bound_api_Bound s
theorem a_slices_Clone_api_Bound_api_Bound_nw{I:World→Prop}(hI:Stab I){H:Nat→Option Blk}{nid:Nat}{s r:List T_api_Bound}(h:g_slices_Clone_api_Bound_api_Bound_nw s=some r):CallOK Tryz.prog I 11 [.sl (s.map T_api_Bound.d)] H nid (.own nid r.length) [(nid,some (.vec 48 6 (r.map T_api_Bound.d) false))]:=by
 unfold g_slices_Clone_api_Bound_api_Bound_nw at h
 split at h
 ·cases h
 rename_i hne
 unfold g_slices_Clone_api_Bound_api_Bound at h
 obtain⟨hb,h⟩:=ite_on h
 cases h
 have hne':s.map T_api_Bound.d≠[]:=by simpa using hne
 have hk:∀ x ∈ s.map T_api_Bound.d,x.cells.length=6:=fun x hx=>by obtain⟨y,_,rfl⟩:=List.mem_map.1 hx;rfl
 have hm:(s.map T_api_Bound.d).length≤maxLen:=by rw[List.length_map];unfold maxLen;omega
 have:=CallOK.of_run (P:=Tryz.prog) (I:=I) (f:=11) (ds:=[.sl (s.map T_api_Bound.d)]) (e:=48) (k:=6) (xs:=s.map T_api_Bound.d) (v0:=fun _=>True) (H:=H) (nid:=nid) (by kernel_rfl) hk hm (fun w F args hIw hfb hl hr=>?_) (fun d hd=>by
  simp only[List.mem_singleton] at hd
  subst hd
  exact⟨_,rfl,rfl⟩) hI
 ·simpa using this
 ·match args,hl with
  | [v],_ =>
   obtain⟨b,off,c,vals,rfl,h1,h2,h3,h4,h5⟩:=sl_cells (hr 0 v _ rfl rfl) hne' hk
   refine⟨vals,h4,?_⟩
   refine run_Clone_Bound ⟨b,off,none⟩ _ c vals w h1 h2 h3 h5 (by rw[List.length_map];exact hb)
theorem a_slices_Clone_api_Bound_api_Bound{I:World→Prop}(hI:Stab I){s r:List T_api_Bound}(h:g_slices_Clone_api_Bound_api_Bound s=some r):AFun Tryz.prog I 11 [.sl (s.map T_api_Bound.d)] (.sl (r.map T_api_Bound.d)):=by
 by_cases hs:s=[]
 ·subst hs
  cases h
  refine⟨by kernel_rfl,fun w F args hIw hfb hl hr=>?_⟩
  match args,hl with
  | [v],_ =>
   have key:∃ A c,v=.slice A 0 c:=by
    have hv:=hr 0 v _ rfl rfl
    generalize hx:([]:List T_api_Bound).map T_api_Bound.d=xs at hv
    simp at hx
    subst hx
    cases hv with
    | sl0 A c hm=>exact⟨A,c,rfl⟩
    | sl b off k' c _ vals hc hm hk' hlv hone hF hcell hrep=>exact⟨_,c,rfl⟩
   obtain⟨A,c,rfl⟩:=key
   cases A with
   | none =>
    refine(run_Clone0_Bound 0 c w).mono ?_
    rintro e w' ⟨rfl,rfl⟩
    exact⟨_,F,rfl,Below.refl _ _,Ext.refl _ _,hfb,fun _ _ h=>.inl h,.sl0 none 0 (Nat.zero_le _)⟩
   | some ad =>
    refine(run_Clone_Bound ad 0 c [] w rfl (by simp) (by simp) (Nat.zero_le _) (by omega)).mono ?_
    rintro e w' ⟨v',rfl,hown,hb⟩
    have hx:∃ A c,v'=.slice A 0 c∧c≤maxLen:=by
     rcases hown.2 with⟨h0,_⟩|⟨g',cap,cur,hv,_,_,_,h5,_⟩
     ·exact⟨none,0,h0,Nat.zero_le _⟩
     ·exact⟨_,cap,hv,h5⟩
    obtain⟨A',c',rfl,hc'⟩:=hx
    exact⟨_,F,rfl,hb,⟨fun _ _ h=>h,fun b o h=>hb.block b (hfb b o h),fun _ h=>h.elim,fun _ h=>h.elim⟩,fun b o h=>Nat.lt_of_lt_of_le (hfb b o h) hb.size,fun _ _ h=>.inl h,.sl0 A' c' hc'⟩
 ·have hw:g_slices_Clone_api_Bound_api_Bound_nw s=some r:=by
   unfold g_slices_Clone_api_Bound_api_Bound_nw
   rw[if_neg (by simpa using hs)]
   exact h
  refine AFun.of_own (e:=48) (k:=6) fun H nid=>?_
  have:=a_slices_Clone_api_Bound_api_Bound_nw (I:=I) hI (H:=H) (nid:=nid) hw
  simpa using this
def g_slices_symMergeCmpFunc_api_Event(data:List T_api_Event)(a m b:Int):Option (List T_api_Event):=none
theorem a_slices_symMergeCmpFunc_api_Event_len{data:List T_api_Event}{a m b:Int}{r:List T_api_Event}(h:g_slices_symMergeCmpFunc_api_Event data a m b=some r):data.length=r.length:=by cases h
theorem a_slices_symMergeCmpFunc_api_Event_l{I:World→Prop}(hI:Stab I){H:Nat→Option Blk}{nid i0:Nat}{u:Value}{data:List T_api_Event}{a m b:Int}{r:List T_api_Event}(h:g_slices_symMergeCmpFunc_api_Event data a m b=some r)(b0:H i0=some (.lrow u 91 7 (data.map T_api_Event.d))) :
  CallOK Tryz.prog I 291 [.own i0 data.length,.int .i64 a,.int .i64 m,.int .i64 b,.fn 166 []] H nid (.tup []) [(i0,some (.lrow u 91 7 (r.map T_api_Event.d)))]:=by cases h
set_option maxHeartbeats 10000000
structure T_api_Shift where
 ID:Int
 In:Int
 Out:Int
 deriving DecidableEq
def T_api_Shift.d(x:T_api_Shift):D:=.agg [.int .i64 x.ID,.int .i64 x.In,.int .i64 x.Out]
structure T_api_Repair where
 Doc:T_api_Document
 Shifts:List T_api_Shift
 Needed:Int
 Conflict:List T_api_Bound
 deriving DecidableEq
def T_api_Repair.d(x:T_api_Repair):D:=.agg [.str x.Doc.Title,.str x.Doc.Lang,.int .u8 x.Doc.Rate,.bool x.Doc.Drop,.int .i64 x.Doc.Last,.sl (x.Doc.Regions.map T_api_Region.d),.sl (x.Doc.Events.map T_api_Event.d),.sl (x.Doc.Comments.map T_api_Comment.d),.sl (x.Shifts.map T_api_Shift.d),.int .i64 x.Needed,.sl (x.Conflict.map T_api_Bound.d)]
theorem dd_ED:(∀ x,T_api_Region.d x=.agg [.str x.Name,.int .i64 x.Top,.int .i64 x.Height,.int .i64 x.Left,.int .i64 x.Width,.int .u8 x.Align,.bool x.Bottom])∧(∀ x,T_api_Comment.d x=.agg [.int .i64 x.ID,.int .i64 x.Event,.int .i64 x.From,.int .i64 x.To,.str x.Author,.str x.Text,.bool x.Done,.bool x.Lost])∧(∀ x,T_api_Span.d x=.agg [.int .i64 x.In,.int .i64 x.Out])∧(∀ x,T_api_Style.d x=.agg [.int .u8 x.Color,.bool x.Italic,.bool x.Underline])∧(∀ x,T_api_Run.d x=.agg [.str x.Text,.int .u8 x.Style.Color,.bool x.Style.Italic,.bool x.Style.Underline,.str x.Ruby])∧(∀ x,T_api_Row.d x=.agg [.sl (x.Runs.map T_api_Run.d)])∧(∀ x,T_api_Event.d x=.agg [.int .i64 x.ID,.int .i64 x.Span.In,.int .i64 x.Span.Out,.str x.Region,.int .u8 x.Kind,.str x.Speaker,.sl (x.Rows.map T_api_Row.d)])∧(∀ x,T_api_Bound.d x=.agg [.int .i64 x.I,.int .i64 x.J,.int .i64 x.C,.int .u8 x.Rule,.int .i64 x.ID,.int .i64 x.Other])∧(∀ x,T_api_Document.d x=.agg [.str x.Title,.str x.Lang,.int .u8 x.Rate,.bool x.Drop,.int .i64 x.Last,.sl (x.Regions.map T_api_Region.d),.sl (x.Events.map T_api_Event.d),.sl (x.Comments.map T_api_Comment.d)])∧(∀ x,T_api_Profile.d x=.agg [.str x.Name,.int .i64 x.Reading,.int .i64 x.MinFrames,.int .i64 x.MaxFrames,.int .i64 x.MinGap,.int .i64 x.ShotBefore,.int .i64 x.ShotAfter,.int .i64 x.Rows,.int .i64 x.Cols,.str x.Forbidden,.int .i64 x.SafeTop,.int .i64 x.SafeBottom,.int .i64 x.SafeLeft,.int .i64 x.SafeRight])∧(∀ x,T_api_Shift.d x=.agg [.int .i64 x.ID,.int .i64 x.In,.int .i64 x.Out])∧(∀ x,T_api_Repair.d x=.agg [.str x.Doc.Title,.str x.Doc.Lang,.int .u8 x.Doc.Rate,.bool x.Doc.Drop,.int .i64 x.Doc.Last,.sl (x.Doc.Regions.map T_api_Region.d),.sl (x.Doc.Events.map T_api_Event.d),.sl (x.Doc.Comments.map T_api_Comment.d),.sl (x.Shifts.map T_api_Shift.d),.int .i64 x.Needed,.sl (x.Conflict.map T_api_Bound.d)]):=⟨fun _=>rfl,fun _=>rfl,fun _=>rfl,fun _=>rfl,fun _=>rfl,fun _=>rfl,fun _=>rfl,fun _=>rfl,fun _=>rfl,fun _=>rfl,fun _=>rfl,fun _=>rfl⟩
def g_repair_Plan_1(t_0:Int)(a_1:T_api_Document)(a_2:T_api_Profile)(a_3:List Int)(a_4:Int):Option ((List Int) × Bool) :=
 ((g_repair_Bounds a_1 a_2 a_3 t_0).bind fun r7=>((g_diffcon_Solve a_4 r7.1).bind fun r0=>(some (r0.1,(r0.2.2 == 0)))))
theorem a_repair_Plan_1{I:World→Prop}(hI:Stab I)(hShp:∀ w,I w→Shp w)(hU8T:∀ w,I w→U8T w){t_0:Int}{a_1:T_api_Document}{a_2:T_api_Profile}{a_3:List Int}{a_4:Int}{r:(List Int) × Bool}(h:g_repair_Plan_1 t_0 a_1 a_2 a_3 a_4=some r):AFun Tryz.prog I 23 [.int .i64 t_0,.iptr [.str a_1.Title,.str a_1.Lang,.int .u8 a_1.Rate,.bool a_1.Drop,.int .i64 a_1.Last,.sl (a_1.Regions.map T_api_Region.d),.sl (a_1.Events.map T_api_Event.d),.sl (a_1.Comments.map T_api_Comment.d)],.iptr [.str a_2.Name,.int .i64 a_2.Reading,.int .i64 a_2.MinFrames,.int .i64 a_2.MaxFrames,.int .i64 a_2.MinGap,.int .i64 a_2.ShotBefore,.int .i64 a_2.ShotAfter,.int .i64 a_2.Rows,.int .i64 a_2.Cols,.str a_2.Forbidden,.int .i64 a_2.SafeTop,.int .i64 a_2.SafeBottom,.int .i64 a_2.SafeLeft,.int .i64 a_2.SafeRight],.iptr [.sl (a_3.map (D.int .i64))],.iptr [.int .i64 a_4]] (.tup [.sl (r.1.map (D.int .i64)),.bool r.2]):=by
 have dd:=dd_ED;have k:=True.intro;have q:=k;have rs:=Tryz.results23;unfold g_repair_Plan_1 at h;refine .en hI Tryz.func23 Tryz.ntmps23 ?_;refine xs<|rz ?_;refine es<|xs<|rK fun K _ E J=>zz ?_;obtain⟨r7,h8,h⟩:=bs h;refine cw (a_repair_Bounds hI hShp hU8T h8)<|zz ?_;subst E J;refine es<|xs<|rK fun K _ E J=>zz ?_;obtain⟨r0,h0,h⟩:=bs h;refine cw (a_diffcon_Solve hI h0)<|zz ?_;subst E J;refine es<|xs<|rz ?_;refine es<|xr ?_;cases h;exact en fr
def g_repair_Plan_2(t_0:Int)(a_1_0:T_api_Document)(a_1_1:T_api_Profile)(a_1_2:List Int)(a_1_3:Int):Option (Bool) :=
 ((g_repair_Plan_1 t_0 a_1_0 a_1_1 a_1_2 a_1_3).bind fun r9=>(some r9.2))
theorem a_repair_Plan_2{I:World→Prop}(hI:Stab I)(hShp:∀ w,I w→Shp w)(hU8T:∀ w,I w→U8T w){t_0:Int}{a_1_0:T_api_Document}{a_1_1:T_api_Profile}{a_1_2:List Int}{a_1_3:Int}{r:Bool}(h:g_repair_Plan_2 t_0 a_1_0 a_1_1 a_1_2 a_1_3=some r):AFun Tryz.prog I 25 [.int .i64 t_0,.iptr [.fn 23 [.iptr [.str a_1_0.Title,.str a_1_0.Lang,.int .u8 a_1_0.Rate,.bool a_1_0.Drop,.int .i64 a_1_0.Last,.sl (a_1_0.Regions.map T_api_Region.d),.sl (a_1_0.Events.map T_api_Event.d),.sl (a_1_0.Comments.map T_api_Comment.d)],.iptr [.str a_1_1.Name,.int .i64 a_1_1.Reading,.int .i64 a_1_1.MinFrames,.int .i64 a_1_1.MaxFrames,.int .i64 a_1_1.MinGap,.int .i64 a_1_1.ShotBefore,.int .i64 a_1_1.ShotAfter,.int .i64 a_1_1.Rows,.int .i64 a_1_1.Cols,.str a_1_1.Forbidden,.int .i64 a_1_1.SafeTop,.int .i64 a_1_1.SafeBottom,.int .i64 a_1_1.SafeLeft,.int .i64 a_1_1.SafeRight],.iptr [.sl (a_1_2.map (D.int .i64))],.iptr [.int .i64 a_1_3]]]] (.bool r):=by
 have dd:=dd_ED;have k:=True.intro;have q:=k;have rs:=Tryz.results25;unfold g_repair_Plan_2 at h;refine .en hI Tryz.func25 Tryz.ntmps25 ?_;refine xs<|rz ?_;refine es<|xs<|rK fun K _ E J=>zz ?_;have h8:=(show aggT Tryz.prog 86=some false by kernel_rfl);have q:=And.intro @h8<|q;refine zz ?_;obtain⟨r9,h0,h⟩:=bs h;refine cw (a_repair_Plan_1 hI hShp hU8T h0)<|zz ?_;subst E J;refine es<|xs<|rz ?_;refine es<|xr ?_;cases h;exact en fr
def g_sort_Search_s1(c1_0_0:T_api_Document)(c1_0_1:T_api_Profile)(c1_0_2:List Int)(c1_0_3:Int)(x0:Int × Int):Option (Nx (Int × Int) (Int)) :=
 (if(decide (x0.1 < x0.2)) then((g_repair_Plan_2 (IntKind.i64.wrap (Int.fdiv (IntKind.u64.wrap (IntKind.i64.wrap (x0.1+x0.2))) 2)) c1_0_0 c1_0_1 c1_0_2 c1_0_3).bind fun r0=>(if r0 then(some (.go (x0.1,(IntKind.i64.wrap (Int.fdiv (IntKind.u64.wrap (IntKind.i64.wrap (x0.1+x0.2))) 2))))) else(some (.go ((IntKind.i64.wrap ((IntKind.i64.wrap (Int.fdiv (IntKind.u64.wrap (IntKind.i64.wrap (x0.1+x0.2))) 2))+1)),x0.2))))) else(some (.out x0.1)))
def g_sort_Search(n_0:Int)(c1_0_0:T_api_Document)(c1_0_1:T_api_Profile)(c1_0_2:List Int)(c1_0_3:Int):Option (Int) :=
 ((iter (g_sort_Search_s1 c1_0_0 c1_0_1 c1_0_2 c1_0_3) (0,n_0)).bind fun e0=>(some e0))
theorem a_sort_Search{I:World→Prop}(hI:Stab I)(hShp:∀ w,I w→Shp w)(hU8T:∀ w,I w→U8T w){n_0:Int}{c1_0_0:T_api_Document}{c1_0_1:T_api_Profile}{c1_0_2:List Int}{c1_0_3:Int}{r:Int}(h:g_sort_Search n_0 c1_0_0 c1_0_1 c1_0_2 c1_0_3=some r):AFun Tryz.prog I 24 [.int .i64 n_0,.fn 25 [.iptr [.fn 23 [.iptr [.str c1_0_0.Title,.str c1_0_0.Lang,.int .u8 c1_0_0.Rate,.bool c1_0_0.Drop,.int .i64 c1_0_0.Last,.sl (c1_0_0.Regions.map T_api_Region.d),.sl (c1_0_0.Events.map T_api_Event.d),.sl (c1_0_0.Comments.map T_api_Comment.d)],.iptr [.str c1_0_1.Name,.int .i64 c1_0_1.Reading,.int .i64 c1_0_1.MinFrames,.int .i64 c1_0_1.MaxFrames,.int .i64 c1_0_1.MinGap,.int .i64 c1_0_1.ShotBefore,.int .i64 c1_0_1.ShotAfter,.int .i64 c1_0_1.Rows,.int .i64 c1_0_1.Cols,.str c1_0_1.Forbidden,.int .i64 c1_0_1.SafeTop,.int .i64 c1_0_1.SafeBottom,.int .i64 c1_0_1.SafeLeft,.int .i64 c1_0_1.SafeRight],.iptr [.sl (c1_0_2.map (D.int .i64))],.iptr [.int .i64 c1_0_3]]]]] (.int .i64 r):=by
 have dd:=dd_ED;have k:=True.intro;have q:=k;have rs:=Tryz.results24;unfold g_sort_Search at h;refine .en hI Tryz.func24 Tryz.ntmps24 ?_;refine xs<|rz ?_;refine es<|xs<|rz ?_;refine es<|xs<|xb ?_;obtain⟨e0,h0,h⟩:=bs h;refine rb_loop (fun x0=>⟨envL [(1,.fn 25 [.iptr [.fn 23 [.iptr [.str c1_0_0.Title,.str c1_0_0.Lang,.int .u8 c1_0_0.Rate,.bool c1_0_0.Drop,.int .i64 c1_0_0.Last,.sl (c1_0_0.Regions.map T_api_Region.d),.sl (c1_0_0.Events.map T_api_Event.d),.sl (c1_0_0.Comments.map T_api_Comment.d)],.iptr [.str c1_0_1.Name,.int .i64 c1_0_1.Reading,.int .i64 c1_0_1.MinFrames,.int .i64 c1_0_1.MaxFrames,.int .i64 c1_0_1.MinGap,.int .i64 c1_0_1.ShotBefore,.int .i64 c1_0_1.ShotAfter,.int .i64 c1_0_1.Rows,.int .i64 c1_0_1.Cols,.str c1_0_1.Forbidden,.int .i64 c1_0_1.SafeTop,.int .i64 c1_0_1.SafeBottom,.int .i64 c1_0_1.SafeLeft,.int .i64 c1_0_1.SafeRight],.iptr [.sl (c1_0_2.map (D.int .i64))],.iptr [.int .i64 c1_0_3]]]]),(5,.int .i64 x0.1),(6,.int .i64 x0.2)],heapL [],0,26⟩) (fun _=>.exit 0) (fun e0=>⟨envL [(5,.int .i64 e0)],heapL [],0,26⟩) h0 (wk []) (by intro w;simp) ?_ ?_
 ·clear h;intro x0 y h;unfold g_sort_Search_s1 at h;refine xs<|xs<|rz ?_;refine es ?_;obtain⟨k,h⟩|⟨k,h⟩:=iK k h
  ·refine xt<|xk<|es<|xb<|xs<|rz ?_;refine es<|xs<|rK fun K _ E J=>zz ?_;obtain⟨r0,h1,h⟩:=bs h;refine cw (a_repair_Plan_2 hI hShp hU8T h1)<|zz ?_;subst E J;refine es ?_;obtain⟨k,h⟩|⟨k,h⟩:=iK k h
   ·refine xf<|rz ?_;refine bn ?_;cases h;exact en ⟨rfl,wk []⟩
   refine xt<|rz ?_;refine bn ?_;cases h;exact en ⟨rfl,wk []⟩
  refine xf<|xx<|ee ?_;cases h;exact en ⟨rfl,wk []⟩
 refine bh<|es<|xs<|rz ?_;refine es<|xr ?_;cases h;exact en fr
def g_style_Clone_s1(r9:(List T_api_Row))(x0:Unit):Option (Nx (Unit) (Unit)) :=
 (if(decide (0 < (r9.length:Int))) then((atI r9 0).bind fun y0=>(if y0.Runs.isEmpty then((g_slices_Clone_api_Run_api_Run y0.Runs).bind fun r0=>none) else((g_slices_Clone_api_Run_api_Run_nw y0.Runs).bind fun r1=>none))) else(some (.out ())))
def g_style_Clone_s2(r0:(List T_api_Row))(x0:Int × (List T_api_Row)):Option (Nx (Int × (List T_api_Row)) ((List T_api_Row))) :=
 (if(decide (x0.1 < ((r0.length:Nat):Int))) then((atI x0.2 x0.1).bind fun y0=>(if y0.Runs.isEmpty then((g_slices_Clone_api_Run_api_Run y0.Runs).bind fun r1=>((setI x0.2 x0.1 (T_api_Row.mk r1)).bind fun m0=>(some (.go ((IntKind.i64.wrap (x0.1+1)),m0))))) else((g_slices_Clone_api_Run_api_Run_nw y0.Runs).bind fun r2=>((setI x0.2 x0.1 (T_api_Row.mk r2)).bind fun m1=>(some (.go ((IntKind.i64.wrap (x0.1+1)),m1))))))) else(some (.out x0.2)))
def g_style_Clone(rows_0:List T_api_Row):Option ((List T_api_Row)) :=
 (if rows_0.isEmpty then((g_slices_Clone_api_Row_api_Row rows_0).bind fun r9=>((iter (g_style_Clone_s1 r9) ()).bind fun e0=>(some r9))) else((g_slices_Clone_api_Row_api_Row_nw rows_0).bind fun r0=>((iter (g_style_Clone_s2 r0) (0,r0)).bind fun e1=>(some e1))))
theorem a_style_Clone{I:World→Prop}(hI:Stab I){rows_0:List T_api_Row}{r:(List T_api_Row)}(h:g_style_Clone rows_0=some r):AFun Tryz.prog I 158 [.sl (rows_0.map T_api_Row.d)] (.sl (r.map T_api_Row.d)):=by
 have dd:=dd_ED;have k:=True.intro;have q:=k;have rs:=Tryz.results158;unfold g_style_Clone at h;refine .en hI Tryz.func158 Tryz.ntmps158 ?_;refine xs<|rz ?_;refine es<|xs<|rK fun K _ E J=>zz ?_;obtain⟨k,h⟩|⟨k,h⟩:=iK k h
 ·obtain⟨r9,h0,h⟩:=bs h;refine cw (a_slices_Clone_api_Row_api_Row hI h0)<|zz ?_;subst E J;refine es<|xs<|xs<|rz ?_;refine es<|xb ?_;obtain⟨e0,h1,h⟩:=bs h;refine rb_loop (fun x0=>⟨envL [(3,.sl (r9.map T_api_Row.d)),(8,.int .i64 (r9.length:Int)),(9,.int .i64 0)],heapL [],0,24⟩) (fun _=>.exit 0) (fun e0=>⟨envL [(3,.sl (r9.map T_api_Row.d))],heapL [],0,24⟩) h1 (wk []) (by intro w;simp) ?_ ?_
  ·clear h;intro x0 y h;unfold g_style_Clone_s1 at h;refine xs<|rz ?_;refine es<|xs ?_;obtain⟨k,h⟩|⟨k,h⟩:=iK k h
   ·refine xt<|xk<|es<|xs<|xb<|xs<|rz ?_;refine es<|rK fun K _ E J=>zz ?_;obtain⟨y0,q,h⟩:=bK q h;refine zz ?_;obtain⟨k,h⟩|⟨k,h⟩:=iK k h
    ·obtain⟨r0,h2,h⟩:=bs h;refine cw (a_slices_Clone_api_Run_api_Run hI h2)<|zz ?_;cases h
    obtain⟨r1,h3,h⟩:=bs h;refine cW.introE (a_slices_Clone_api_Run_api_Run_nw hI (nid:=10) h3) fz rfl<|zz ?_;cases h
   refine xf<|xx<|ee ?_;cases h;exact en ⟨rfl,wk []⟩
  refine bh<|es<|xs<|rz ?_;refine es<|xr ?_;cases h;exact en fr
 obtain⟨r2,h4,h⟩:=bs h;refine cW.introE (a_slices_Clone_api_Row_api_Row_nw hI (nid:=2) h4) fz rfl<|zz ?_;subst E J;refine es<|xs<|xs<|rz ?_;refine es<|xb ?_;obtain⟨e1,h5,h⟩:=bs h;refine rb_loop (fun x1=>⟨envL [(3,.own 0 x1.2.length),(8,.int .i64 ((r2.length:Nat):Int)),(9,.int .i64 x1.1)],heapL [(0,.vec 149 1 (x1.2.map T_api_Row.d) false)],1,24⟩) (fun _=>.exit 0) (fun e1=>⟨envL [(3,.own 0 e1.length)],heapL [(0,.vec 149 1 (e1.map T_api_Row.d) false)],1,24⟩) h5 (wk [(0,some 2)]) (by intro w;simp) ?_ ?_
 ·clear h;intro x1 y h;unfold g_style_Clone_s2 at h;refine xs<|rz ?_;refine es<|xs ?_;obtain⟨k,h⟩|⟨k,h⟩:=iK k h
  ·refine xt<|xk<|es<|xs<|xb<|xs<|rz ?_;refine es<|rK fun K _ E J=>zz ?_;obtain⟨y1,q,h⟩:=oN q h;refine zz ?_;obtain⟨k,h⟩|⟨k,h⟩:=iK k h
   ·obtain⟨r3,h6,h⟩:=bs h;refine cw (a_slices_Clone_api_Run_api_Run hI h6)<|zz ?_;obtain⟨m0,h7,h⟩:=bind_some h;obtain⟨h8,h9,h11,h12⟩:=setI_some h7;have h12:=h12 T_api_Row.d;try simp only[sevalprocAttr,List.map_nil,dd] at h12
    have q:=And.intro @h8<|And.intro @h9<|And.intro @h11<|And.intro @h12<|q;refine zz ?_;subst E J;refine bn<|es<|rz ?_;cases h;exact en ⟨rfl,wk []⟩
   obtain⟨r4,h13,h⟩:=bs h;refine cW.introE (a_slices_Clone_api_Run_api_Run_nw hI (nid:=11) h13) fz rfl<|zz ?_;obtain⟨m1,h14,h⟩:=bind_some h;obtain⟨h15,h16,h17,h18⟩:=setI_some h14;have h18:=h18 T_api_Row.d;try simp only[sevalprocAttr,List.map_nil,dd] at h18
   have q:=And.intro @h15<|And.intro @h16<|And.intro @h17<|And.intro @h18<|q;refine zz ?_;subst E J;refine bn<|es<|rz ?_;cases h;exact en ⟨rfl,wk []⟩
  refine xf<|xx<|ee ?_;cases h;exact en ⟨rfl,wk []⟩
 refine bh<|es<|xs<|rz ?_;refine es<|xr ?_;cases h;exact en fr
def g_event_Clone(e_0:T_api_Event):Option (T_api_Event) :=
 ((g_style_Clone e_0.Rows).bind fun r7=>(some (T_api_Event.mk e_0.ID e_0.Span e_0.Region e_0.Kind e_0.Speaker r7)))
theorem a_event_Clone{I:World→Prop}(hI:Stab I){e_0:T_api_Event}{r:T_api_Event}(h:g_event_Clone e_0=some r):AFun Tryz.prog I 70 [T_api_Event.d e_0] (T_api_Event.d r):=by
 have dd:=dd_ED;have k:=True.intro;have q:=k;have rs:=Tryz.results70;unfold g_event_Clone at h;refine .en hI Tryz.func70 Tryz.ntmps70 ?_;refine xs<|rz ?_;refine es<|xs<|rK fun K _ E J=>zz ?_;obtain⟨r7,h8,h⟩:=bs h;refine cw (a_style_Clone hI h8)<|zz ?_;subst E J;refine es<|xs<|rz ?_;refine es<|xr ?_;cases h;exact en fr
def g_document_Clone_s1(r0:(List T_api_Event))(x0:Unit):Option (Nx (Unit) (Unit)) :=
 (if(decide (0 < (r0.length:Int))) then((atI r0 0).bind fun y0=>((g_event_Clone y0).bind fun r1=>none)) else(some (.out ())))
def g_document_Clone_s2(r0:(List T_api_Event))(x0:Int × (List T_api_Event)):Option (Nx (Int × (List T_api_Event)) ((List T_api_Event))) :=
 (if(decide (x0.1 < ((r0.length:Nat):Int))) then((atI x0.2 x0.1).bind fun y0=>((g_event_Clone y0).bind fun r1=>((setI x0.2 x0.1 r1).bind fun m0=>(some (.go ((IntKind.i64.wrap (x0.1+1)),m0)))))) else(some (.out x0.2)))
def g_document_Clone(d_0:T_api_Document):Option (T_api_Document) :=
 ((g_slices_Clone_api_Region_api_Region d_0.Regions).bind fun r9=>((g_slices_Clone_api_Comment_api_Comment d_0.Comments).bind fun r0=>(if d_0.Events.isEmpty then((g_slices_Clone_api_Event_api_Event d_0.Events).bind fun r1=>((iter (g_document_Clone_s1 r1) ()).bind fun e0=>(some (T_api_Document.mk d_0.Title d_0.Lang d_0.Rate d_0.Drop d_0.Last r9 r1 r0)))) else((g_slices_Clone_api_Event_api_Event_nw d_0.Events).bind fun r2=>((iter (g_document_Clone_s2 r2) (0,r2)).bind fun e1=>(some (T_api_Document.mk d_0.Title d_0.Lang d_0.Rate d_0.Drop d_0.Last r9 e1 r0)))))))
theorem a_document_Clone{I:World→Prop}(hI:Stab I){d_0:T_api_Document}{r:T_api_Document}(h:g_document_Clone d_0=some r):AFun Tryz.prog I 42 [T_api_Document.d d_0] (T_api_Document.d r):=by
 have dd:=dd_ED;have k:=True.intro;have q:=k;have rs:=Tryz.results42;unfold g_document_Clone at h;refine .en hI Tryz.func42 Tryz.ntmps42 ?_;refine xs<|rz ?_;refine es<|xs<|rD hI fun K _ E J=>zz ?_;obtain⟨r9,h0,h⟩:=bs h;refine cd (a_slices_Clone_api_Region_api_Region hI h0)<|zz ?_;obtain⟨r0,h1,h⟩:=bs h;refine cd (a_slices_Clone_api_Comment_api_Comment hI h1)<|zz ?_;refine hd<|zz ?_;refine hd<|zz ?_;subst E J;refine es<|xs<|rK fun K _ E J=>zz ?_;obtain⟨k,h⟩|⟨k,h⟩:=iK k h
 ·obtain⟨r1,h2,h⟩:=bs h;refine cw (a_slices_Clone_api_Event_api_Event hI h2)<|zz ?_;subst E J;refine es<|xs<|xs<|rz ?_;refine es<|xb ?_;obtain⟨e0,h3,h⟩:=bs h;refine rb_loop (fun x0=>⟨envL [(1,.ptr 0 0),(2,.ptr 1 0),(18,.sl (r1.map T_api_Event.d)),(19,.int .i64 (r1.length:Int)),(20,.int .i64 0)],heapL [(0,.box none [.str d_0.Title,.str d_0.Lang,.int .u8 d_0.Rate,.bool d_0.Drop,.int .i64 d_0.Last,.sl (r9.map T_api_Region.d),.sl (r1.map T_api_Event.d),.sl (r0.map T_api_Comment.d)]),(1,.box none [.str [],.str [],.int .u8 0,.bool false,.int .i64 0,.nils,.nils,.nils])],2,33⟩) (fun _=>.exit 0) (fun e0=>⟨envL [(1,.ptr 0 0),(2,.ptr 1 0)],heapL [(0,.box none [.str d_0.Title,.str d_0.Lang,.int .u8 d_0.Rate,.bool d_0.Drop,.int .i64 d_0.Last,.sl (r9.map T_api_Region.d),.sl (r1.map T_api_Event.d),.sl (r0.map T_api_Comment.d)]),(1,.box none [.str [],.str [],.int .u8 0,.bool false,.int .i64 0,.nils,.nils,.nils])],2,33⟩) h3 (wk []) (by intro w;simp) ?_ ?_
  ·clear h;intro x0 y h;unfold g_document_Clone_s1 at h;refine xs<|rz ?_;refine es<|xs ?_;obtain⟨k,h⟩|⟨k,h⟩:=iK k h
   ·refine xt<|xk<|es<|xs<|xb<|xs<|rK fun K _ E J=>zz ?_;obtain⟨y0,q,h⟩:=bK q h;refine zz ?_;subst E J;refine es<|rD hI fun K _ E J=>zz ?_;obtain⟨r2,h4,h⟩:=bs h;refine cd (a_event_Clone hI h4)<|zz ?_;cases h
   refine xf<|xx<|ee ?_;cases h;exact en ⟨rfl,wk []⟩
  refine bh<|es<|xs<|rz ?_;refine es<|xr ?_;cases h;exact en fr
 obtain⟨r3,h5,h⟩:=bs h;refine cW.introE (a_slices_Clone_api_Event_api_Event_nw hI (nid:=14) h5) fz rfl<|zz ?_;subst E J;refine es<|xs<|xs<|rz ?_;refine es<|xb ?_;obtain⟨e1,h6,h⟩:=bs h;refine rb_loop (fun x1=>⟨envL [(1,.ptr 0 0),(2,.ptr 2 0),(18,.own 1 x1.2.length),(19,.int .i64 ((r3.length:Nat):Int)),(20,.int .i64 x1.1)],heapL [(0,.box none [.str d_0.Title,.str d_0.Lang,.int .u8 d_0.Rate,.bool d_0.Drop,.int .i64 d_0.Last,.sl (r9.map T_api_Region.d),.own 1 x1.2.length,.sl (r0.map T_api_Comment.d)]),(1,.vec 91 7 (x1.2.map T_api_Event.d) false),(2,.box none [.str [],.str [],.int .u8 0,.bool false,.int .i64 0,.nils,.nils,.nils])],3,33⟩) (fun _=>.exit 0) (fun e1=>⟨envL [(1,.ptr 0 0),(2,.ptr 2 0)],heapL [(0,.box none [.str d_0.Title,.str d_0.Lang,.int .u8 d_0.Rate,.bool d_0.Drop,.int .i64 d_0.Last,.sl (r9.map T_api_Region.d),.own 1 e1.length,.sl (r0.map T_api_Comment.d)]),(1,.vec 91 7 (e1.map T_api_Event.d) false),(2,.box none [.str [],.str [],.int .u8 0,.bool false,.int .i64 0,.nils,.nils,.nils])],3,33⟩) h6 (wk [(1,some 14),(2,some 1)]) (by intro w;simp) ?_ ?_
 ·clear h;intro x1 y h;unfold g_document_Clone_s2 at h;refine xs<|rz ?_;refine es<|xs ?_;obtain⟨k,h⟩|⟨k,h⟩:=iK k h
  ·refine xt<|xk<|es<|xs<|xb<|xs<|rK fun K _ E J=>zz ?_;obtain⟨y1,q,h⟩:=oN q h;refine zz ?_;subst E J;refine es<|rD hI fun K _ E J=>zz ?_;obtain⟨r4,h7,h⟩:=bs h;refine cd (a_event_Clone hI h7)<|zz ?_;obtain⟨m0,h8,h⟩:=bind_some h;obtain⟨h9,h11,h13,h14⟩:=setI_some h8;have h14:=h14 T_api_Event.d;try simp only[sevalprocAttr,List.map_nil,dd] at h14
   have q:=And.intro @h9<|And.intro @h11<|And.intro @h13<|And.intro @h14<|q;refine zz ?_;refine hd<|zz ?_;subst E J;refine bn<|es<|rz ?_;cases h;exact en ⟨rfl,wk []⟩
  refine xf<|xx<|ee ?_;cases h;exact en ⟨rfl,wk []⟩
 refine bh<|es<|xs<|rz ?_;refine es<|xr ?_;cases h;exact en fr
def g_document_Clone_nw_s1(r0:(List T_api_Event))(x0:Unit):Option (Nx (Unit) (Unit)) :=
 (if(decide (0 < (r0.length:Int))) then((atI r0 0).bind fun y0=>((g_event_Clone y0).bind fun r1=>none)) else(some (.out ())))
def g_document_Clone_nw_s2(r0:(List T_api_Event))(x0:Int × (List T_api_Event)):Option (Nx (Int × (List T_api_Event)) ((List T_api_Event))) :=
 (if(decide (x0.1 < ((r0.length:Nat):Int))) then((atI x0.2 x0.1).bind fun y0=>((g_event_Clone y0).bind fun r1=>((setI x0.2 x0.1 r1).bind fun m0=>(some (.go ((IntKind.i64.wrap (x0.1+1)),m0)))))) else(some (.out x0.2)))
def g_document_Clone_nw(d_0:T_api_Document):Option (T_api_Document) :=
 ((g_slices_Clone_api_Region_api_Region d_0.Regions).bind fun r9=>((g_slices_Clone_api_Comment_api_Comment d_0.Comments).bind fun r0=>(if d_0.Events.isEmpty then((g_slices_Clone_api_Event_api_Event d_0.Events).bind fun r1=>((iter (g_document_Clone_nw_s1 r1) ()).bind fun e0=>none)) else((g_slices_Clone_api_Event_api_Event_nw d_0.Events).bind fun r2=>((iter (g_document_Clone_nw_s2 r2) (0,r2)).bind fun e1=>(some (T_api_Document.mk d_0.Title d_0.Lang d_0.Rate d_0.Drop d_0.Last r9 e1 r0)))))))
theorem a_document_Clone_nw{I:World→Prop}(hI:Stab I){H:Nat→Option Blk}{nid:Nat}{d_0:T_api_Document}{r:T_api_Document}(h:g_document_Clone_nw d_0=some r):CallOK Tryz.prog I 42 [T_api_Document.d d_0] H nid (.agg [.str r.Title,.str r.Lang,.int .u8 r.Rate,.bool r.Drop,.int .i64 r.Last,.sl (r.Regions.map T_api_Region.d),.own nid r.Events.length,.sl (r.Comments.map T_api_Comment.d)]) [(nid,some (.vec 91 7 (r.Events.map T_api_Event.d) false))]:=by
 refine CallOK.own hI Tryz.func42 rfl (by decide) (by simp[Tryz.f42]) (by kernel_rfl) rfl rfl ?_;have dd:=dd_ED;have k:=True.intro;have q:=k;have rs:=Tryz.results42;unfold g_document_Clone_nw at h;simp only[List.length_cons,List.length_nil,Nat.zero_add,Nat.reduceAdd,Tryz.ntmps42,dd];refine xs<|rz ?_;refine es<|xs<|rD hI fun K _ E J=>zz ?_;obtain⟨r9,h0,h⟩:=bs h;refine cd (a_slices_Clone_api_Region_api_Region hI h0)<|zz ?_;obtain⟨r0,h1,h⟩:=bs h;refine cd (a_slices_Clone_api_Comment_api_Comment hI h1)<|zz ?_;refine hd<|zz ?_;refine hd<|zz ?_;subst E J;refine es<|xs<|rK fun K _ E J=>zz ?_;obtain⟨k,h⟩|⟨k,h⟩:=iK k h
 ·obtain⟨r1,h2,h⟩:=bs h;refine cw (a_slices_Clone_api_Event_api_Event hI h2)<|zz ?_;subst E J;refine es<|xs<|xs<|rz ?_;refine es<|xb ?_;obtain⟨e0,h3,h⟩:=bs h;refine rb_loop (fun x0=>⟨envL [(1,.ptr 0 0),(2,.ptr 1 0),(18,.sl (r1.map T_api_Event.d)),(19,.int .i64 (r1.length:Int)),(20,.int .i64 0)],heapL [(0,.box none [.str d_0.Title,.str d_0.Lang,.int .u8 d_0.Rate,.bool d_0.Drop,.int .i64 d_0.Last,.sl (r9.map T_api_Region.d),.sl (r1.map T_api_Event.d),.sl (r0.map T_api_Comment.d)]),(1,.box none [.str [],.str [],.int .u8 0,.bool false,.int .i64 0,.nils,.nils,.nils])],2,33⟩) (fun _=>.exit 0) (fun e0=>⟨envL [(1,.ptr 0 0),(2,.ptr 1 0)],heapL [(0,.box none [.str d_0.Title,.str d_0.Lang,.int .u8 d_0.Rate,.bool d_0.Drop,.int .i64 d_0.Last,.sl (r9.map T_api_Region.d),.sl (r1.map T_api_Event.d),.sl (r0.map T_api_Comment.d)]),(1,.box none [.str [],.str [],.int .u8 0,.bool false,.int .i64 0,.nils,.nils,.nils])],2,33⟩) h3 (wk []) (by intro w;simp) ?_ ?_
  ·clear h;intro x0 y h;unfold g_document_Clone_nw_s1 at h;refine xs<|rz ?_;refine es<|xs ?_;obtain⟨k,h⟩|⟨k,h⟩:=iK k h
   ·refine xt<|xk<|es<|xs<|xb<|xs<|rK fun K _ E J=>zz ?_;obtain⟨y0,q,h⟩:=bK q h;refine zz ?_;subst E J;refine es<|rD hI fun K _ E J=>zz ?_;obtain⟨r2,h4,h⟩:=bs h;refine cd (a_event_Clone hI h4)<|zz ?_;cases h
   refine xf<|xx<|ee ?_;cases h;exact en ⟨rfl,wk []⟩
  refine bh<|es<|xs<|rz ?_;refine es<|xr ?_;cases h
 obtain⟨r3,h5,h⟩:=bs h;refine cW.introE (a_slices_Clone_api_Event_api_Event_nw hI (nid:=14) h5) fz rfl<|zz ?_;subst E J;refine es<|xs<|xs<|rz ?_;refine es<|xb ?_;obtain⟨e1,h6,h⟩:=bs h;refine rb_loop (fun x1=>⟨envL [(1,.ptr 0 0),(2,.ptr 2 0),(18,.own 1 x1.2.length),(19,.int .i64 ((r3.length:Nat):Int)),(20,.int .i64 x1.1)],heapL [(0,.box none [.str d_0.Title,.str d_0.Lang,.int .u8 d_0.Rate,.bool d_0.Drop,.int .i64 d_0.Last,.sl (r9.map T_api_Region.d),.own 1 x1.2.length,.sl (r0.map T_api_Comment.d)]),(1,.vec 91 7 (x1.2.map T_api_Event.d) false),(2,.box none [.str [],.str [],.int .u8 0,.bool false,.int .i64 0,.nils,.nils,.nils])],3,33⟩) (fun _=>.exit 0) (fun e1=>⟨envL [(1,.ptr 0 0),(2,.ptr 2 0)],heapL [(0,.box none [.str d_0.Title,.str d_0.Lang,.int .u8 d_0.Rate,.bool d_0.Drop,.int .i64 d_0.Last,.sl (r9.map T_api_Region.d),.own 1 e1.length,.sl (r0.map T_api_Comment.d)]),(1,.vec 91 7 (e1.map T_api_Event.d) false),(2,.box none [.str [],.str [],.int .u8 0,.bool false,.int .i64 0,.nils,.nils,.nils])],3,33⟩) h6 (wk [(1,some 14),(2,some 1)]) (by intro w;simp) ?_ ?_
 ·clear h;intro x1 y h;unfold g_document_Clone_nw_s2 at h;refine xs<|rz ?_;refine es<|xs ?_;obtain⟨k,h⟩|⟨k,h⟩:=iK k h
  ·refine xt<|xk<|es<|xs<|xb<|xs<|rK fun K _ E J=>zz ?_;obtain⟨y1,q,h⟩:=oN q h;refine zz ?_;subst E J;refine es<|rD hI fun K _ E J=>zz ?_;obtain⟨r4,h7,h⟩:=bs h;refine cd (a_event_Clone hI h7)<|zz ?_;obtain⟨m0,h8,h⟩:=bind_some h;obtain⟨h9,h11,h13,h14⟩:=setI_some h8;have h14:=h14 T_api_Event.d;try simp only[sevalprocAttr,List.map_nil,dd] at h14
   have q:=And.intro @h9<|And.intro @h11<|And.intro @h13<|And.intro @h14<|q;refine zz ?_;refine hd<|zz ?_;subst E J;refine bn<|es<|rz ?_;cases h;exact en ⟨rfl,wk []⟩
  refine xf<|xx<|ee ?_;cases h;exact en ⟨rfl,wk []⟩
 refine bh<|es<|xs<|rz ?_;refine es<|xr ?_;cases h;exact en (fO 1)
def g_document_Find_1(x_0:T_api_Event)(a_1:Int):Option (Bool) :=
 (some (x_0.ID == a_1))
theorem a_document_Find_1{I:World→Prop}(hI:Stab I){x_0:T_api_Event}{a_1:Int}{r:Bool}(h:g_document_Find_1 x_0 a_1=some r):AFun Tryz.prog I 164 [T_api_Event.d x_0,.iptr [.int .i64 a_1]] (.bool r):=by
 have dd:=dd_ED;have k:=True.intro;have q:=k;have rs:=Tryz.results164;unfold g_document_Find_1 at h;refine .en hI Tryz.func164 Tryz.ntmps164 ?_;refine xs<|rz ?_;refine es<|xs<|rz ?_;refine es<|xr ?_;cases h;exact en fr
def g_slices_IndexFunc_api_Event_api_Event_s1(s_0:List T_api_Event)(c1_0:Int)(x5:Int):Option (Nx (Int) (Int ⊕ Unit)) :=
 (if(decide (x5 < (s_0.length:Int))) then((atI s_0 x5).bind fun y0=>((g_document_Find_1 y0 c1_0).bind fun r0=>(if r0 then(some (.out (.inl x5))) else(some (.go (IntKind.i64.wrap (x5+1))))))) else(some (.out (.inr ()))))
def g_slices_IndexFunc_api_Event_api_Event(s_0:List T_api_Event)(c1_0:Int):Option (Int) :=
 ((iter (g_slices_IndexFunc_api_Event_api_Event_s1 s_0 c1_0) 0).bind fun e6=>(match e6 with|Sum.inl e6=>(some e6)|Sum.inr (e6)=>(some (-1))))
theorem a_slices_IndexFunc_api_Event_api_Event{I:World→Prop}(hI:Stab I){s_0:List T_api_Event}{c1_0:Int}{r:Int}(h:g_slices_IndexFunc_api_Event_api_Event s_0 c1_0=some r):AFun Tryz.prog I 163 [.sl (s_0.map T_api_Event.d),.fn 164 [.iptr [.int .i64 c1_0]]] (.int .i64 r):=by
 have dd:=dd_ED;have k:=True.intro;have q:=k;have rs:=Tryz.results163;unfold g_slices_IndexFunc_api_Event_api_Event at h;refine .en hI Tryz.func163 Tryz.ntmps163 ?_;refine xs<|rz ?_;refine es<|xs<|xs<|rz ?_;refine es<|xb ?_;obtain⟨e6,h0,h⟩:=bs h;refine rb_loop (fun x5=>⟨envL [(0,.sl (s_0.map T_api_Event.d)),(1,.fn 164 [.iptr [.int .i64 c1_0]]),(7,.int .i64 (s_0.length:Int)),(8,.int .i64 x5)],heapL [],0,19⟩) (fun w=>match w with|Sum.inl _=>.ret|Sum.inr (_)=>.exit 0) (fun w=>match w with|Sum.inl e6=>⟨envL [(4,.int .i64 e6)],heapL [],0,19⟩|Sum.inr (e6)=>⟨envL [],heapL [],0,19⟩) h0 (wk []) (by intro w;rcases w with w|w<;>simp) ?_ ?_
 ·clear h;intro x5 y h;unfold g_slices_IndexFunc_api_Event_api_Event_s1 at h;refine xs<|rz ?_;refine es<|xs ?_;obtain⟨k,h⟩|⟨k,h⟩:=iK k h
  ·refine xt<|xk<|es<|xs<|xb<|xs<|rz ?_;refine es<|xs<|rK fun K _ E J=>zz ?_;obtain⟨y0,q,h⟩:=bK q h;refine zz ?_;obtain⟨r0,h1,h⟩:=bs h;refine cw (a_document_Find_1 hI h1)<|zz ?_;subst E J;refine es ?_;obtain⟨k,h⟩|⟨k,h⟩:=iK k h
   ·refine xt<|xs<|rz ?_;refine es<|xr<|br<|er ?_;cases h;exact en ⟨rfl,wk []⟩
   refine xf<|xk<|bn<|es<|rz ?_;cases h;exact en ⟨rfl,wk []⟩
  refine xf<|xx<|ee ?_;cases h;exact en ⟨rfl,wk []⟩
 rcases e6 with e6|e6
 ·try dsimp only at h ⊢
  refine br<|er ?_;cases h;exact en fr
 try dsimp only at h ⊢
 refine bh<|es<|xs<|rz ?_;refine es<|xr ?_;cases h;exact en fr
def g_slices_IndexFunc_api_Event_api_Event_ro_s1(s_0:List T_api_Event)(c1_0:Int)(x5:Int):Option (Nx (Int) (Int ⊕ Unit)) :=
 (if(decide (x5 < ((s_0.length:Nat):Int))) then((atI s_0 x5).bind fun y0=>((g_document_Find_1 y0 c1_0).bind fun r0=>(if r0 then(some (.out (.inl x5))) else(some (.go (IntKind.i64.wrap (x5+1))))))) else(some (.out (.inr ()))))
def g_slices_IndexFunc_api_Event_api_Event_ro(s_0:List T_api_Event)(c1_0:Int):Option (Int) :=
 ((iter (g_slices_IndexFunc_api_Event_api_Event_ro_s1 s_0 c1_0) 0).bind fun e6=>(match e6 with|Sum.inl e6=>(some e6)|Sum.inr (e6)=>(some (-1))))
theorem a_slices_IndexFunc_api_Event_api_Event_ro0{I:World→Prop}(hI:Stab I){H:Nat→Option Blk}{nid i0:Nat}{pn:Option Value}{s_0:List T_api_Event}{c1_0:Int}{r:Int}(h:g_slices_IndexFunc_api_Event_api_Event_ro s_0 c1_0=some r)(b0:H i0=some (rowB pn 91 7 (s_0.map T_api_Event.d))):CallOK Tryz.prog I 163 [.own i0 s_0.length,.fn 164 [.iptr [.int .i64 c1_0]]] H nid (.int .i64 r) []:=by
 refine CallOK.ro (eff:=[(i0,some (rowB pn 91 7 (s_0.map T_api_Event.d)))]) (CallOK.inrow (i0:=i0) (ds0:=[.own 0 s_0.length,.fn 164 [.iptr [.int .i64 c1_0]]]) hI Tryz.func163 rfl (by decide) (by simp[Tryz.f163]) (by kernel_rfl) rfl rfl b0 fun uv=>?_) (ro1 b0);have dd:=dd_ED;have k:=True.intro;have q:=k;have rs:=Tryz.results163;unfold g_slices_IndexFunc_api_Event_api_Event_ro at h;simp only[List.length_cons,List.length_nil,Nat.zero_add,Nat.reduceAdd,Tryz.ntmps163,dd];refine xs<|rz ?_;refine es<|xs<|xs<|rz ?_;refine es<|xb ?_;obtain⟨e6,h0,h⟩:=bs h;refine rb_loop (fun x5=>⟨envL [(0,.own 0 s_0.length),(1,.fn 164 [.iptr [.int .i64 c1_0]]),(7,.int .i64 ((s_0.length:Nat):Int)),(8,.int .i64 x5)],heapL [(0,.lrow uv 91 7 (s_0.map T_api_Event.d))],1,19⟩) (fun w=>match w with|Sum.inl _=>.ret|Sum.inr (_)=>.exit 0) (fun w=>match w with|Sum.inl e6=>⟨envL [(0,.own 0 s_0.length),(4,.int .i64 e6)],heapL [(0,.lrow uv 91 7 (s_0.map T_api_Event.d))],1,19⟩|Sum.inr (e6)=>⟨envL [(0,.own 0 s_0.length)],heapL [(0,.lrow uv 91 7 (s_0.map T_api_Event.d))],1,19⟩) h0 (wk []) (by intro w;rcases w with w|w<;>simp) ?_ ?_
 ·clear h;intro x5 y h;unfold g_slices_IndexFunc_api_Event_api_Event_ro_s1 at h;refine xs<|rz ?_;refine es<|xs ?_;obtain⟨k,h⟩|⟨k,h⟩:=iK k h
  ·refine xt<|xk<|es<|xs<|xb<|xs<|rz ?_;refine es<|xs<|rK fun K _ E J=>zz ?_;obtain⟨y0,q,h⟩:=oN q h;refine zz ?_;obtain⟨r0,h1,h⟩:=bs h;refine cw (a_document_Find_1 hI h1)<|zz ?_;subst E J;refine es ?_;obtain⟨k,h⟩|⟨k,h⟩:=iK k h
   ·refine xt<|xs<|rz ?_;refine es<|xr<|br<|er ?_;cases h;exact en ⟨rfl,wk []⟩
   refine xf<|xk<|bn<|es<|rz ?_;cases h;exact en ⟨rfl,wk []⟩
  refine xf<|xx<|ee ?_;cases h;exact en ⟨rfl,wk []⟩
 rcases e6 with e6|e6
 ·try dsimp only at h ⊢
  refine br<|er ?_;cases h;exact en (fI 0)
 try dsimp only at h ⊢
 refine bh<|es<|xs<|rz ?_;refine es<|xr ?_;cases h;exact en (fI 0)
theorem a_slices_IndexFunc_api_Event_api_Event_ro_l{I:World→Prop}(hI:Stab I){H:Nat→Option Blk}{nid i0:Nat}{u:Value}{s_0:List T_api_Event}{c1_0:Int}{r:Int}(h:g_slices_IndexFunc_api_Event_api_Event_ro s_0 c1_0=some r)(b0:H i0=some (.lrow u 91 7 (s_0.map T_api_Event.d))):CallOK Tryz.prog I 163 [.own i0 s_0.length,.fn 164 [.iptr [.int .i64 c1_0]]] H nid (.int .i64 r) [] :=
 a_slices_IndexFunc_api_Event_api_Event_ro0 hI (pn:=some u) h b0
def g_document_Find(d_0:T_api_Document)(id_1:Int):Option (Int) :=
 ((g_slices_IndexFunc_api_Event_api_Event d_0.Events id_1).bind fun r7=>(some r7))
theorem a_document_Find{I:World→Prop}(hI:Stab I){d_0:T_api_Document}{id_1:Int}{r:Int}(h:g_document_Find d_0 id_1=some r):AFun Tryz.prog I 82 [T_api_Document.d d_0,.int .i64 id_1] (.int .i64 r):=by
 have dd:=dd_ED;have k:=True.intro;have q:=k;have rs:=Tryz.results82;unfold g_document_Find at h;refine .en hI Tryz.func82 Tryz.ntmps82 ?_;refine xs<|rz ?_;refine eWk _ ((Wk.freeze (id:=1) (cs:=[.int .i64 id_1]) fz fz).trans (wkF (l:=[(2,.ptr 0 0),(3,.iptr [.int .i64 id_1])]) (h:=[(0,.box none [.str d_0.Title,.str d_0.Lang,.int .u8 d_0.Rate,.bool d_0.Drop,.int .i64 d_0.Last,.sl (d_0.Regions.map T_api_Region.d),.sl (d_0.Events.map T_api_Event.d),.sl (d_0.Comments.map T_api_Comment.d)])]) (n:=3) []))<|xs<|rK fun K _ E J=>zz ?_;obtain⟨r7,h8,h⟩:=bs h;refine cw (a_slices_IndexFunc_api_Event_api_Event hI h8)<|zz ?_;subst E J;refine es<|xr ?_;cases h;exact en fr
def g_document_Find_ro(d_0:T_api_Document)(id_1:Int):Option (Int) :=
 ((g_slices_IndexFunc_api_Event_api_Event_ro d_0.Events id_1).bind fun r7=>(some r7))
theorem a_document_Find_ro0{I:World→Prop}(hI:Stab I){H:Nat→Option Blk}{nid i0:Nat}{pn:Option Value}{d_0:T_api_Document}{id_1:Int}{r:Int}(h:g_document_Find_ro d_0 id_1=some r)(b0:H i0=some (rowB pn 91 7 (d_0.Events.map T_api_Event.d))):CallOK Tryz.prog I 82 [.agg [.str d_0.Title,.str d_0.Lang,.int .u8 d_0.Rate,.bool d_0.Drop,.int .i64 d_0.Last,.sl (d_0.Regions.map T_api_Region.d),.own i0 d_0.Events.length,.sl (d_0.Comments.map T_api_Comment.d)],.int .i64 id_1] H nid (.int .i64 r) []:=by
 refine CallOK.ro (eff:=[(i0,some (rowB pn 91 7 (d_0.Events.map T_api_Event.d)))]) (CallOK.inrow (i0:=i0) (ds0:=[.agg [.str d_0.Title,.str d_0.Lang,.int .u8 d_0.Rate,.bool d_0.Drop,.int .i64 d_0.Last,.sl (d_0.Regions.map T_api_Region.d),.own 0 d_0.Events.length,.sl (d_0.Comments.map T_api_Comment.d)],.int .i64 id_1]) hI Tryz.func82 rfl (by decide) (by simp[Tryz.f82]) (by kernel_rfl) rfl rfl b0 fun uv=>?_) (ro1 b0);have dd:=dd_ED;have k:=True.intro;have q:=k;have rs:=Tryz.results82;unfold g_document_Find_ro at h;simp only[List.length_cons,List.length_nil,Nat.zero_add,Nat.reduceAdd,Tryz.ntmps82,dd];refine xs<|rz ?_;refine eWk _ ((Wk.freeze (id:=2) (cs:=[.int .i64 id_1]) fz fz).trans (wkF (l:=[(0,.agg [.str d_0.Title,.str d_0.Lang,.int .u8 d_0.Rate,.bool d_0.Drop,.int .i64 d_0.Last,.sl (d_0.Regions.map T_api_Region.d),.own 0 d_0.Events.length,.sl (d_0.Comments.map T_api_Comment.d)]),(2,.ptr 1 0),(3,.iptr [.int .i64 id_1])]) (h:=[(0,.lrow uv 91 7 (d_0.Events.map T_api_Event.d)),(1,.box none [.str d_0.Title,.str d_0.Lang,.int .u8 d_0.Rate,.bool d_0.Drop,.int .i64 d_0.Last,.sl (d_0.Regions.map T_api_Region.d),.own 0 d_0.Events.length,.sl (d_0.Comments.map T_api_Comment.d)])]) (n:=4) []))<|xs<|rK fun K _ E J=>zz ?_;obtain⟨r7,h8,h⟩:=bs h;refine rW.intro (a_slices_IndexFunc_api_Event_api_Event_ro_l hI (nid:=7) (i0:=0) (u:=uv) h8 fz) fi rfl<|zz ?_;subst E J;refine es<|xr ?_;cases h;exact en (fI 0)
theorem a_document_Find_ro{I:World→Prop}(hI:Stab I){H:Nat→Option Blk}{nid i0:Nat}{d_0:T_api_Document}{id_1:Int}{r:Int}(h:g_document_Find_ro d_0 id_1=some r)(b0:H i0=some (.vec 91 7 (d_0.Events.map T_api_Event.d) false)):CallOK Tryz.prog I 82 [.agg [.str d_0.Title,.str d_0.Lang,.int .u8 d_0.Rate,.bool d_0.Drop,.int .i64 d_0.Last,.sl (d_0.Regions.map T_api_Region.d),.own i0 d_0.Events.length,.sl (d_0.Comments.map T_api_Comment.d)],.int .i64 id_1] H nid (.int .i64 r) [] :=
 a_document_Find_ro0 hI (pn:=none) h b0
def g_document_Sort_1(a_0:T_api_Event)(b_1:T_api_Event):Option (Int) :=
 ((g_cmp_Compare_int64 a_0.Span.In b_1.Span.In).bind fun r0=>((g_cmp_Compare_int64 a_0.ID b_1.ID).bind fun r1=>((g_cmp_Or_int [r0,r1]).bind fun r2=>(some r2))))
theorem a_document_Sort_1{I:World→Prop}(hI:Stab I){a_0:T_api_Event}{b_1:T_api_Event}{r:Int}(h:g_document_Sort_1 a_0 b_1=some r):AFun Tryz.prog I 166 [T_api_Event.d a_0,T_api_Event.d b_1] (.int .i64 r):=by
 have dd:=dd_ED;have k:=True.intro;have q:=k;have rs:=Tryz.results166;unfold g_document_Sort_1 at h;refine .en hI Tryz.func166 Tryz.ntmps166 ?_;refine xs<|rz ?_;refine es<|xs<|rD hI fun K _ E J=>zz ?_;obtain⟨r0,h0,h⟩:=bs h;refine cd (a_cmp_Compare_int64 hI h0)<|zz ?_;obtain⟨r1,h1,h⟩:=bs h;refine cd (a_cmp_Compare_int64 hI h1)<|zz ?_;obtain⟨r2,h2,h⟩:=bs h;refine cd (a_cmp_Or_int hI h2)<|zz ?_;subst E J;refine es<|xr ?_;cases h;exact en fr
def g_slices_insertionSortCmpFunc_api_Event_w_s2(a_1:Int)(x0:Int × (List T_api_Event)):Option (Nx (Int × (List T_api_Event)) ((List T_api_Event))) :=
 (((if(decide (a_1 < x0.1)) then((atI x0.2 x0.1).bind fun y0=>((atI x0.2 (IntKind.i64.wrap (x0.1 - 1))).bind fun y1=>((g_document_Sort_1 y0 y1).bind fun r0=>(some (decide (r0 < 0)))))) else(some false)):Option (Bool)).bind fun v0=>(if v0 then((atI x0.2 (IntKind.i64.wrap (x0.1 - 1))).bind fun y2=>((atI x0.2 x0.1).bind fun y3=>((setI x0.2 x0.1 y2).bind fun m0=>((atI m0 (IntKind.i64.wrap (x0.1 - 1))).bind fun y4=>((setI m0 (IntKind.i64.wrap (x0.1 - 1)) y3).bind fun m1=>(some (.go ((IntKind.i64.wrap (x0.1 - 1)),m1)))))))) else(some (.out x0.2))))
def g_slices_insertionSortCmpFunc_api_Event_w_s1(a_1:Int)(b_2:Int)(x3:Int × (List T_api_Event)):Option (Nx (Int × (List T_api_Event)) ((List T_api_Event))) :=
 (if(decide (x3.1 < b_2)) then((iter (g_slices_insertionSortCmpFunc_api_Event_w_s2 a_1) (x3.1,x3.2)).bind fun e0=>(some (.go ((IntKind.i64.wrap (x3.1+1)),e0)))) else(some (.out x3.2)))
def g_slices_insertionSortCmpFunc_api_Event_w(data_0:List T_api_Event)(a_1:Int)(b_2:Int):Option ((List T_api_Event)) :=
 ((iter (g_slices_insertionSortCmpFunc_api_Event_w_s1 a_1 b_2) ((IntKind.i64.wrap (a_1+1)),data_0)).bind fun e4=>(some e4))
theorem a_slices_insertionSortCmpFunc_api_Event_w{I:World→Prop}(hI:Stab I){H:Nat→Option Blk}{nid i0:Nat}{pn:Option Value}{data_0:List T_api_Event}{a_1:Int}{b_2:Int}{r:(List T_api_Event)}(h:g_slices_insertionSortCmpFunc_api_Event_w data_0 a_1 b_2=some r)(b0:H i0=some (rowB pn 91 7 (data_0.map T_api_Event.d))):CallOK Tryz.prog I 290 [.own i0 data_0.length,.int .i64 a_1,.int .i64 b_2,.fn 166 []] H nid (.tup []) [(i0,some (rowB pn 91 7 (r.map T_api_Event.d)))]:=by
 refine CallOK.inrow (i0:=i0) (ds0:=[.own 0 data_0.length,.int .i64 a_1,.int .i64 b_2,.fn 166 []]) hI Tryz.func290 rfl (by decide) (by simp[Tryz.f290]) (by kernel_rfl) rfl rfl b0 fun uv=>?_;have dd:=dd_ED;have k:=True.intro;have q:=k;have rs:=Tryz.results290;unfold g_slices_insertionSortCmpFunc_api_Event_w at h;simp only[List.length_cons,List.length_nil,Nat.zero_add,Nat.reduceAdd,Tryz.ntmps290,dd];refine xs<|rz ?_;refine es<|xb ?_;obtain⟨e4,h0,h⟩:=bs h;refine rb_loop (fun x3=>⟨envL [(0,.own 0 x3.2.length),(1,.int .i64 a_1),(2,.int .i64 b_2),(3,.fn 166 []),(8,.int .i64 x3.1)],heapL [(0,.lrow uv 91 7 (x3.2.map T_api_Event.d))],1,53⟩) (fun _=>.exit 0) (fun e4=>⟨envL [(0,.own 0 e4.length)],heapL [(0,.lrow uv 91 7 (e4.map T_api_Event.d))],1,53⟩) h0 (wk []) (by intro w;simp) ?_ ?_
 ·clear h;intro x3 y h;unfold g_slices_insertionSortCmpFunc_api_Event_w_s1 at h;refine xs<|xs<|rz ?_;refine es ?_;obtain⟨k,h⟩|⟨k,h⟩:=iK k h
  ·refine xt<|xk<|es<|xs<|xb<|xs<|rz ?_;refine es<|xb ?_;obtain⟨e0,h1,h⟩:=bs h;refine rb_loop (fun x0=>⟨envL [(0,.own 0 x0.2.length),(1,.int .i64 a_1),(2,.int .i64 b_2),(3,.fn 166 []),(8,.int .i64 x3.1),(9,.int .i64 x0.1)],heapL [(0,.lrow uv 91 7 (x0.2.map T_api_Event.d))],1,53⟩) (fun _=>.exit 2) (fun e0=>⟨envL [(0,.own 0 e0.length),(1,.int .i64 a_1),(2,.int .i64 b_2),(3,.fn 166 []),(8,.int .i64 x3.1)],heapL [(0,.lrow uv 91 7 (e0.map T_api_Event.d))],1,53⟩) h1 (wk []) (by intro w;simp) ?_ ?_
   ·clear h;intro x0 y h;unfold g_slices_insertionSortCmpFunc_api_Event_w_s2 at h;refine xs ?_;obtain⟨v0,h2,h⟩:=bs h;refine rb_cut (fun v0=>⟨envL [(0,.own 0 x0.2.length),(1,.int .i64 a_1),(2,.int .i64 b_2),(3,.fn 166 []),(8,.int .i64 x3.1),(9,.int .i64 x0.1),(34,.bool v0)],heapL [(0,.lrow uv 91 7 (x0.2.map T_api_Event.d))],1,53⟩) h2 ?_ ?_
    ·clear h;intro v0 h;refine rD hI fun K _ E J=>zz ?_;obtain⟨k,h⟩|⟨k,h⟩:=iK k h
     ·refine zz ?_;obtain⟨y0,q,h⟩:=oN q h;refine zz ?_;obtain⟨y1,q,h⟩:=oN q h;refine zz ?_;obtain⟨r0,h3,h⟩:=bs h;refine cd (a_document_Sort_1 hI h3)<|zz ?_;subst E J;cases h;exact en ⟨rfl,wk []⟩
     refine zz ?_;subst E J;cases h;exact en ⟨rfl,wk []⟩
    obtain⟨k,h⟩|⟨k,h⟩:=iK k h
    ·refine xt<|xk<|es<|xs<|xb<|rD hI fun K _ E J=>zz ?_;obtain⟨y2,q,h⟩:=oN q h;refine zz ?_;obtain⟨y3,q,h⟩:=oN q h;refine zz ?_;obtain⟨m0,h4,h⟩:=bind_some h;obtain⟨h5,h6,h7,h8⟩:=setI_some h4;have h8:=h8 T_api_Event.d;try simp only[sevalprocAttr,List.map_nil,dd] at h8
     have q:=And.intro @h5<|And.intro @h6<|And.intro @h7<|And.intro @h8<|q;refine zz ?_;refine hd<|zz ?_;obtain⟨y4,q,h⟩:=oN q h;refine zz ?_;obtain⟨m1,h9,h⟩:=bind_some h;obtain⟨h10,h11,h12,h13⟩:=setI_some h9;have h13:=h13 T_api_Event.d;try simp only[sevalprocAttr,List.map_nil,dd] at h13
     have q:=And.intro @h10<|And.intro @h11<|And.intro @h12<|And.intro @h13<|q;refine zz ?_;refine hd<|zz ?_;subst E J;refine bn<|es<|rz ?_;cases h;exact en ⟨rfl,wk []⟩
    refine xf<|xx<|ee ?_;cases h;exact en ⟨rfl,wk []⟩
   refine bh<|bn<|es<|rz ?_;cases h;exact en ⟨rfl,wk []⟩
  refine xf<|xx<|ee ?_;cases h;exact en ⟨rfl,wk []⟩
 refine bh ?_;cases h;exact en (fI 0)
def g_slices_insertionSortCmpFunc_api_Event(data_0:List T_api_Event)(a_1:Int)(b_2:Int):Option ((List T_api_Event)):=(g_slices_insertionSortCmpFunc_api_Event_w data_0 a_1 b_2).bind fun r=>if r.length=data_0.length then some r else none
theorem a_slices_insertionSortCmpFunc_api_Event_len{data_0:List T_api_Event}{a_1:Int}{b_2:Int}{r:(List T_api_Event)}(h:g_slices_insertionSortCmpFunc_api_Event data_0 a_1 b_2=some r):data_0.length=r.length:=by
 unfold g_slices_insertionSortCmpFunc_api_Event at h;obtain⟨x,_,h⟩:=bs h;obtain⟨h1,h⟩:=ite_on h;cases h;exact h1.symm
theorem a_slices_insertionSortCmpFunc_api_Event_in{data_0:List T_api_Event}{a_1:Int}{b_2:Int}{r:(List T_api_Event)}(h:g_slices_insertionSortCmpFunc_api_Event data_0 a_1 b_2=some r):g_slices_insertionSortCmpFunc_api_Event_w data_0 a_1 b_2=some r:=by
 unfold g_slices_insertionSortCmpFunc_api_Event at h;obtain⟨x,h0,h⟩:=bs h;obtain⟨h1,h⟩:=ite_on h;cases h;exact h0
theorem a_slices_insertionSortCmpFunc_api_Event_l{I:World→Prop}(hI:Stab I){H:Nat→Option Blk}{nid i0:Nat}{u:Value}{data_0:List T_api_Event}{a_1:Int}{b_2:Int}{r:(List T_api_Event)}(h:g_slices_insertionSortCmpFunc_api_Event data_0 a_1 b_2=some r)(b0:H i0=some (.lrow u 91 7 (data_0.map T_api_Event.d))):CallOK Tryz.prog I 290 [.own i0 data_0.length,.int .i64 a_1,.int .i64 b_2,.fn 166 []] H nid (.tup []) [(i0,some (.lrow u 91 7 (r.map T_api_Event.d)))] :=
 a_slices_insertionSortCmpFunc_api_Event_w hI (pn:=some u) (a_slices_insertionSortCmpFunc_api_Event_in h) b0
def g_slices_stableCmpFunc_api_Event_w_s1(n_1:Int)(x0:Int × Int × (List T_api_Event)):Option (Nx (Int × Int × (List T_api_Event)) ((List T_api_Event) × Int)) :=
 (if(decide (x0.2.1≤n_1)) then((g_slices_insertionSortCmpFunc_api_Event x0.2.2 x0.1 x0.2.1).bind fun r0=>(some (.go (x0.2.1,(IntKind.i64.wrap (x0.2.1+20)),r0)))) else(some (.out (x0.2.2,x0.1))))
def g_slices_stableCmpFunc_api_Event_w_s3(n_1:Int)(x0:Int × (List T_api_Event))(x1:Int × Int × (List T_api_Event)):Option (Nx (Int × Int × (List T_api_Event)) ((List T_api_Event) × Int)) :=
 (if(decide (x1.2.1≤n_1)) then((g_slices_symMergeCmpFunc_api_Event x1.2.2 x1.1 (IntKind.i64.wrap (x1.1+x0.1)) x1.2.1).bind fun r0=>(some (.go (x1.2.1,(IntKind.i64.wrap (x1.2.1+(IntKind.i64.wrap (2 * x0.1)))),r0)))) else(some (.out (x1.2.2,x1.1))))
def g_slices_stableCmpFunc_api_Event_w_s2(n_1:Int)(x0:Int × (List T_api_Event)):Option (Nx (Int × (List T_api_Event)) ((List T_api_Event))) :=
 (if(decide (x0.1 < n_1)) then((iter (g_slices_stableCmpFunc_api_Event_w_s3 n_1 x0) (0,(IntKind.i64.wrap (2 * x0.1)),x0.2)).bind fun e0=>(if(decide ((IntKind.i64.wrap (e0.2+x0.1)) < n_1)) then((g_slices_symMergeCmpFunc_api_Event e0.1 e0.2 (IntKind.i64.wrap (e0.2+x0.1)) n_1).bind fun r0=>(some (.go ((IntKind.i64.wrap (x0.1 * 2)),r0)))) else(some (.go ((IntKind.i64.wrap (x0.1 * 2)),e0.1))))) else(some (.out x0.2)))
def g_slices_stableCmpFunc_api_Event_w(data_0:List T_api_Event)(n_1:Int):Option ((List T_api_Event)) :=
 ((iter (g_slices_stableCmpFunc_api_Event_w_s1 n_1) (0,20,data_0)).bind fun e0=>((g_slices_insertionSortCmpFunc_api_Event e0.1 e0.2 n_1).bind fun r0=>((iter (g_slices_stableCmpFunc_api_Event_w_s2 n_1) (20,r0)).bind fun e1=>(some e1))))
theorem a_slices_stableCmpFunc_api_Event_w{I:World→Prop}(hI:Stab I){H:Nat→Option Blk}{nid i0:Nat}{pn:Option Value}{data_0:List T_api_Event}{n_1:Int}{r:(List T_api_Event)}(h:g_slices_stableCmpFunc_api_Event_w data_0 n_1=some r)(b0:H i0=some (rowB pn 91 7 (data_0.map T_api_Event.d))):CallOK Tryz.prog I 230 [.own i0 data_0.length,.int .i64 n_1,.fn 166 []] H nid (.tup []) [(i0,some (rowB pn 91 7 (r.map T_api_Event.d)))]:=by
 refine CallOK.inrow (i0:=i0) (ds0:=[.own 0 data_0.length,.int .i64 n_1,.fn 166 []]) hI Tryz.func230 rfl (by decide) (by simp[Tryz.f230]) (by kernel_rfl) rfl rfl b0 fun uv=>?_;have dd:=dd_ED;have k:=True.intro;have q:=k;have rs:=Tryz.results230;unfold g_slices_stableCmpFunc_api_Event_w at h;simp only[List.length_cons,List.length_nil,Nat.zero_add,Nat.reduceAdd,Tryz.ntmps230,dd];refine xs<|rz ?_;refine es<|xs<|rz ?_;refine es<|xs<|xb ?_;obtain⟨e0,h0,h⟩:=bs h;refine rb_loop (fun x0=>⟨envL [(0,.own 0 x0.2.2.length),(1,.int .i64 n_1),(2,.fn 166 []),(6,.int .i64 20),(7,.int .i64 x0.1),(8,.int .i64 x0.2.1)],heapL [(0,.lrow uv 91 7 (x0.2.2.map T_api_Event.d))],1,63⟩) (fun _=>.exit 0) (fun e0=>⟨envL [(0,.own 0 e0.1.length),(1,.int .i64 n_1),(2,.fn 166 []),(6,.int .i64 20),(7,.int .i64 e0.2)],heapL [(0,.lrow uv 91 7 (e0.1.map T_api_Event.d))],1,63⟩) h0 (wk []) (by intro w;simp) ?_ ?_
 ·clear h;intro x0 y h;unfold g_slices_stableCmpFunc_api_Event_w_s1 at h;refine xs<|xs<|rz ?_;refine es ?_;obtain⟨k,h⟩|⟨k,h⟩:=iK k h
  ·refine xt<|xk<|es<|xb<|xs<|rK fun K _ E J=>zz ?_;obtain⟨r0,h1,h⟩:=bs h;have q:=And.intro (a_slices_insertionSortCmpFunc_api_Event_len h1) q;refine rW.intro (a_slices_insertionSortCmpFunc_api_Event_l hI (nid:=8) (i0:=0) (u:=uv) h1 fz) fi rfl<|zz ?_;subst E J;refine es<|xs<|rz ?_;refine es<|rz ?_;refine bn ?_;cases h;exact en ⟨rfl,wk []⟩
  refine xf<|xx<|ee ?_;cases h;exact en ⟨rfl,wk []⟩
 refine bh<|es<|xs<|rK fun K _ E J=>zz ?_;obtain⟨r1,h2,h⟩:=bs h;have q:=And.intro (a_slices_insertionSortCmpFunc_api_Event_len h2) q;refine rW.intro (a_slices_insertionSortCmpFunc_api_Event_l hI (nid:=5) (i0:=0) (u:=uv) h2 fz) fi rfl<|zz ?_;subst E J;refine es<|xb ?_;obtain⟨e1,h3,h⟩:=bs h;refine rb_loop (fun x1=>⟨envL [(0,.own 0 x1.2.length),(1,.int .i64 n_1),(2,.fn 166 []),(6,.int .i64 x1.1)],heapL [(0,.lrow uv 91 7 (x1.2.map T_api_Event.d))],1,63⟩) (fun _=>.exit 2) (fun e1=>⟨envL [(0,.own 0 e1.length)],heapL [(0,.lrow uv 91 7 (e1.map T_api_Event.d))],1,63⟩) h3 (wk []) (by intro w;simp) ?_ ?_
 ·clear h;intro x1 y h;unfold g_slices_stableCmpFunc_api_Event_w_s2 at h;refine xs<|xs<|rz ?_;refine es ?_;obtain⟨k,h⟩|⟨k,h⟩:=iK k h
  ·refine xt<|xk<|es<|xb<|xs<|rz ?_;refine es<|xs<|xb ?_;obtain⟨e2,h4,h⟩:=bs h;refine rb_loop (fun x2=>⟨envL [(0,.own 0 x2.2.2.length),(1,.int .i64 n_1),(2,.fn 166 []),(6,.int .i64 x1.1),(7,.int .i64 x2.1),(8,.int .i64 x2.2.1)],heapL [(0,.lrow uv 91 7 (x2.2.2.map T_api_Event.d))],1,63⟩) (fun _=>.exit 4) (fun e2=>⟨envL [(0,.own 0 e2.1.length),(1,.int .i64 n_1),(2,.fn 166 []),(6,.int .i64 x1.1),(7,.int .i64 e2.2)],heapL [(0,.lrow uv 91 7 (e2.1.map T_api_Event.d))],1,63⟩) h4 (wk []) (by intro w;simp) ?_ ?_
   ·clear h;intro x2 y h;unfold g_slices_stableCmpFunc_api_Event_w_s3 at h;refine xs<|xs<|rz ?_;refine es ?_;obtain⟨k,h⟩|⟨k,h⟩:=iK k h
    ·refine xt<|xk<|es<|xb<|xs<|rK fun K _ E J=>zz ?_;obtain⟨r2,h5,h⟩:=bs h;have q:=And.intro (a_slices_symMergeCmpFunc_api_Event_len h5) q;refine rW.intro (a_slices_symMergeCmpFunc_api_Event_l hI (nid:=11) (i0:=0) (u:=uv) h5 fz) fi rfl<|zz ?_;subst E J;refine es<|xs<|rz ?_;refine es<|rz ?_;refine bn ?_;cases h;exact en ⟨rfl,wk []⟩
    refine xf<|xx<|ee ?_;cases h;exact en ⟨rfl,wk []⟩
   refine bh<|es<|xs<|xs<|rz ?_;refine es<|xs<|rz ?_;refine es ?_;obtain⟨k,h⟩|⟨k,h⟩:=iK k h
   ·refine xt<|rK fun K _ E J=>zz ?_;obtain⟨r3,h6,h⟩:=bs h;have q:=And.intro (a_slices_symMergeCmpFunc_api_Event_len h6) q;refine rW.intro (a_slices_symMergeCmpFunc_api_Event_l hI (nid:=13) (i0:=0) (u:=uv) h6 fz) fi rfl<|zz ?_;subst E J;refine es<|rz ?_;refine bn ?_;cases h;exact en ⟨rfl,wk []⟩
   refine xf<|xk<|es<|rz ?_;refine bn ?_;cases h;exact en ⟨rfl,wk []⟩
  refine xf<|xx<|ee ?_;cases h;exact en ⟨rfl,wk []⟩
 refine bh ?_;cases h;exact en (fI 0)
def g_slices_stableCmpFunc_api_Event(data_0:List T_api_Event)(n_1:Int):Option ((List T_api_Event)):=(g_slices_stableCmpFunc_api_Event_w data_0 n_1).bind fun r=>if r.length=data_0.length then some r else none
theorem a_slices_stableCmpFunc_api_Event_len{data_0:List T_api_Event}{n_1:Int}{r:(List T_api_Event)}(h:g_slices_stableCmpFunc_api_Event data_0 n_1=some r):data_0.length=r.length:=by
 unfold g_slices_stableCmpFunc_api_Event at h;obtain⟨x,_,h⟩:=bs h;obtain⟨h1,h⟩:=ite_on h;cases h;exact h1.symm
theorem a_slices_stableCmpFunc_api_Event_in{data_0:List T_api_Event}{n_1:Int}{r:(List T_api_Event)}(h:g_slices_stableCmpFunc_api_Event data_0 n_1=some r):g_slices_stableCmpFunc_api_Event_w data_0 n_1=some r:=by
 unfold g_slices_stableCmpFunc_api_Event at h;obtain⟨x,h0,h⟩:=bs h;obtain⟨h1,h⟩:=ite_on h;cases h;exact h0
theorem a_slices_stableCmpFunc_api_Event_l{I:World→Prop}(hI:Stab I){H:Nat→Option Blk}{nid i0:Nat}{u:Value}{data_0:List T_api_Event}{n_1:Int}{r:(List T_api_Event)}(h:g_slices_stableCmpFunc_api_Event data_0 n_1=some r)(b0:H i0=some (.lrow u 91 7 (data_0.map T_api_Event.d))):CallOK Tryz.prog I 230 [.own i0 data_0.length,.int .i64 n_1,.fn 166 []] H nid (.tup []) [(i0,some (.lrow u 91 7 (r.map T_api_Event.d)))] :=
 a_slices_stableCmpFunc_api_Event_w hI (pn:=some u) (a_slices_stableCmpFunc_api_Event_in h) b0
def g_slices_SortStableFunc_api_Event_api_Event_w(x_0:List T_api_Event):Option ((List T_api_Event)) :=
 ((g_slices_stableCmpFunc_api_Event x_0 ((x_0.length:Nat):Int)).bind fun r2=>(some r2))
theorem a_slices_SortStableFunc_api_Event_api_Event_w{I:World→Prop}(hI:Stab I){H:Nat→Option Blk}{nid i0:Nat}{pn:Option Value}{x_0:List T_api_Event}{r:(List T_api_Event)}(h:g_slices_SortStableFunc_api_Event_api_Event_w x_0=some r)(b0:H i0=some (rowB pn 91 7 (x_0.map T_api_Event.d))):CallOK Tryz.prog I 165 [.own i0 x_0.length,.fn 166 []] H nid (.tup []) [(i0,some (rowB pn 91 7 (r.map T_api_Event.d)))]:=by
 refine CallOK.inrow (i0:=i0) (ds0:=[.own 0 x_0.length,.fn 166 []]) hI Tryz.func165 rfl (by decide) (by simp[Tryz.f165]) (by kernel_rfl) rfl rfl b0 fun uv=>?_;have dd:=dd_ED;have k:=True.intro;have q:=k;have rs:=Tryz.results165;unfold g_slices_SortStableFunc_api_Event_api_Event_w at h;simp only[List.length_cons,List.length_nil,Nat.zero_add,Nat.reduceAdd,Tryz.ntmps165,dd];refine rK fun K _ E J=>zz ?_;obtain⟨r2,h3,h⟩:=bs h;have q:=And.intro (a_slices_stableCmpFunc_api_Event_len h3) q;refine rW.intro (a_slices_stableCmpFunc_api_Event_l hI (nid:=5) (i0:=0) (u:=uv) h3 fz) fi rfl<|zz ?_;subst E J;cases h;exact en (fI 0)
def g_slices_SortStableFunc_api_Event_api_Event(x_0:List T_api_Event):Option ((List T_api_Event)):=(g_slices_SortStableFunc_api_Event_api_Event_w x_0).bind fun r=>if r.length=x_0.length then some r else none
theorem a_slices_SortStableFunc_api_Event_api_Event_len{x_0:List T_api_Event}{r:(List T_api_Event)}(h:g_slices_SortStableFunc_api_Event_api_Event x_0=some r):x_0.length=r.length:=by
 unfold g_slices_SortStableFunc_api_Event_api_Event at h;obtain⟨x,_,h⟩:=bs h;obtain⟨h1,h⟩:=ite_on h;cases h;exact h1.symm
theorem a_slices_SortStableFunc_api_Event_api_Event_in{x_0:List T_api_Event}{r:(List T_api_Event)}(h:g_slices_SortStableFunc_api_Event_api_Event x_0=some r):g_slices_SortStableFunc_api_Event_api_Event_w x_0=some r:=by
 unfold g_slices_SortStableFunc_api_Event_api_Event at h;obtain⟨x,h0,h⟩:=bs h;obtain⟨h1,h⟩:=ite_on h;cases h;exact h0
theorem a_slices_SortStableFunc_api_Event_api_Event{I:World→Prop}(hI:Stab I){H:Nat→Option Blk}{nid i0:Nat}{x_0:List T_api_Event}{r:(List T_api_Event)}(h:g_slices_SortStableFunc_api_Event_api_Event x_0=some r)(b0:H i0=some (.vec 91 7 (x_0.map T_api_Event.d) false)):CallOK Tryz.prog I 165 [.own i0 x_0.length,.fn 166 []] H nid (.tup []) [(i0,some (.vec 91 7 (r.map T_api_Event.d) false))] :=
 a_slices_SortStableFunc_api_Event_api_Event_w hI (pn:=none) (a_slices_SortStableFunc_api_Event_api_Event_in h) b0
def g_document_Sort_s1(l_0:List T_api_Event)(x7:(List T_api_Event) × Int):Option (Nx ((List T_api_Event) × Int) ((List T_api_Event))) :=
 (if(decide (x7.2 < (l_0.length:Int))) then((atI l_0 x7.2).bind fun y0=>((g_event_Clone y0).bind fun r0=>(if(x7.1.length+1) * 88≤140737488355328 then(some (.go ((x7.1++[r0]),(IntKind.i64.wrap (x7.2+1))))) else none))) else(some (.out x7.1)))
def g_document_Sort(l_0:List T_api_Event):Option ((List T_api_Event)) :=
 ((iter (g_document_Sort_s1 l_0) ([],0)).bind fun e8=>((g_slices_SortStableFunc_api_Event_api_Event e8).bind fun r0=>(some r0)))
theorem a_document_Sort{I:World→Prop}(hI:Stab I){l_0:List T_api_Event}{r:(List T_api_Event)}(h:g_document_Sort l_0=some r):AFun Tryz.prog I 83 [.sl (l_0.map T_api_Event.d)] (.sl (r.map T_api_Event.d)):=by
 have dd:=dd_ED;have k:=True.intro;have q:=k;have rs:=Tryz.results83;unfold g_document_Sort at h;refine .en hI Tryz.func83 Tryz.ntmps83 ?_;refine xs<|rz ?_;refine es<|xs<|rz ?_;refine es<|xs<|xs<|rz ?_;refine es<|xb ?_;obtain⟨e8,h0,h⟩:=bs h;refine rb_loop (fun x7=>⟨envL [(3,.own 0 x7.1.length),(6,.sl (l_0.map T_api_Event.d)),(7,.int .i64 (l_0.length:Int)),(8,.int .i64 x7.2)],heapL [(0,.vec 91 7 (x7.1.map T_api_Event.d) false)],1,21⟩) (fun _=>.exit 0) (fun e8=>⟨envL [(3,.own 0 e8.length)],heapL [(0,.vec 91 7 (e8.map T_api_Event.d) false)],1,21⟩) h0 (wk [(0,none)]) (by intro w;simp) ?_ ?_
 ·clear h;intro x7 y h;unfold g_document_Sort_s1 at h;refine xs<|rz ?_;refine es<|xs ?_;obtain⟨k,h⟩|⟨k,h⟩:=iK k h
  ·refine xt<|xk<|es<|xs<|xb<|xs<|rK fun K _ E J=>zz ?_;obtain⟨y0,q,h⟩:=bK q h;refine zz ?_;subst E J;refine es<|rK fun K _ E J=>zz ?_;obtain⟨r0,h1,h⟩:=bs h;refine cw (a_event_Clone hI h1)<|zz ?_;obtain⟨h2,h⟩:=ite_on h;have h3:x7.1.length+1≤9223372036854775807:=by omega
   try simp only[Nat.reduceLeDiff] at h3
   have q:=And.intro @h3<|And.intro @h2<|q;refine zz ?_;subst E J;refine bn<|es<|rz ?_;cases h;exact en ⟨rfl,wk [(0,some 10)]⟩
  refine xf<|xx<|ee ?_;cases h;exact en ⟨rfl,wk []⟩
 refine bh<|es<|xs<|rK fun K _ E J=>zz ?_;obtain⟨r1,h4,h⟩:=bs h;have q:=And.intro (a_slices_SortStableFunc_api_Event_api_Event_len h4) q;refine cW.introR (a_slices_SortStableFunc_api_Event_api_Event hI (nid:=2) (i0:=0) h4 fz) fs rfl<|zz ?_;subst E J;refine es<|xs<|rz ?_;refine es<|xr ?_;cases h;exact en fr
def g_repair_Apply_s1(l_1:List T_api_Shift)(r0:T_api_Document)(x0:Unit):Option (Nx (Unit) (Int ⊕ Unit)) :=
 (if(decide (0 < (l_1.length:Int))) then((atI l_1 0).bind fun y0=>((g_document_Find r0 y0.ID).bind fun r1=>(if(decide (r1 < 0)) then(some (.out (.inl 6))) else(((if(decide (y0.In < 0)) then(some true) else(if(decide (y0.Out≤y0.In)) then(some true) else(some (decide (5184000 < y0.Out))))):Option (Bool)).bind fun v0=>(if v0 then(some (.out (.inl 2))) else((atI r0.Events r1).bind fun y1=>none)))))) else(some (.out (.inr ()))))
def g_repair_Apply_s2(l_1:List T_api_Shift)(r0:T_api_Document)(x0:Int × (List T_api_Event)):Option (Nx (Int × (List T_api_Event)) (Int ⊕ ((List T_api_Event)))) :=
 (if(decide (x0.1 < (l_1.length:Int))) then((atI l_1 x0.1).bind fun y0=>((g_document_Find_ro (T_api_Document.mk r0.Title r0.Lang r0.Rate r0.Drop r0.Last r0.Regions x0.2 r0.Comments) y0.ID).bind fun r1=>(if(decide (r1 < 0)) then(some (.out (.inl 6))) else(((if(decide (y0.In < 0)) then(some true) else(if(decide (y0.Out≤y0.In)) then(some true) else(some (decide (5184000 < y0.Out))))):Option (Bool)).bind fun v0=>(if v0 then(some (.out (.inl 2))) else((atI x0.2 r1).bind fun y1=>((setI x0.2 r1 (T_api_Event.mk y1.ID (T_api_Span.mk y0.In y0.Out) y1.Region y1.Kind y1.Speaker y1.Rows)).bind fun m0=>(some (.go ((IntKind.i64.wrap (x0.1+1)),m0)))))))))) else(some (.out (.inr x0.2))))
def g_repair_Apply(d_0:T_api_Document)(l_1:List T_api_Shift):Option (T_api_Document × Int) :=
 ((g_document_Check d_0).bind fun r7=>(if(r7 != 0) then(some ((T_api_Document.mk [] [] 0 false 0 [] [] []),r7)) else(if d_0.Events.isEmpty then((g_document_Clone d_0).bind fun r0=>((iter (g_repair_Apply_s1 l_1 r0) ()).bind fun e0=>(match e0 with|Sum.inl e0=>(some ((T_api_Document.mk [] [] 0 false 0 [] [] []),e0))|Sum.inr (e0)=>((g_document_Sort r0.Events).bind fun r1=>(some ((T_api_Document.mk r0.Title r0.Lang r0.Rate r0.Drop r0.Last r0.Regions r1 r0.Comments),0)))))) else((g_document_Clone_nw d_0).bind fun r2=>((iter (g_repair_Apply_s2 l_1 r2) (0,r2.Events)).bind fun e1=>(match e1 with|Sum.inl e1=>(some ((T_api_Document.mk [] [] 0 false 0 [] [] []),e1))|Sum.inr (e1)=>((g_document_Sort e1).bind fun r3=>(some ((T_api_Document.mk r2.Title r2.Lang r2.Rate r2.Drop r2.Last r2.Regions r3 r2.Comments),0)))))))))
theorem a_repair_Apply{I:World→Prop}(hI:Stab I)(hShp:∀ w,I w→Shp w)(hU8T:∀ w,I w→U8T w){d_0:T_api_Document}{l_1:List T_api_Shift}{r:T_api_Document × Int}(h:g_repair_Apply d_0 l_1=some r):AFun Tryz.prog I 26 [T_api_Document.d d_0,.sl (l_1.map T_api_Shift.d)] (.tup [T_api_Document.d r.1,.int .i64 r.2]):=by
 have dd:=dd_ED;have k:=True.intro;have q:=k;have rs:=Tryz.results26;unfold g_repair_Apply at h;refine .en hI Tryz.func26 Tryz.ntmps26 ?_;refine xs<|rz ?_;refine es<|xs<|xs<|rK fun K _ E J=>zz ?_;obtain⟨r7,h8,h⟩:=bs h;refine cw (a_document_Check hI hShp hU8T h8)<|zz ?_;subst E J;refine es<|xs<|rz ?_;refine es ?_;obtain⟨k,h⟩|⟨k,h⟩:=iK k h
 ·refine xt<|xs<|rz ?_;refine es<|xr<|er ?_;cases h;exact en fr
 refine xf<|xk<|es<|xs<|rK fun K _ E J=>zz ?_;obtain⟨k,h⟩|⟨k,h⟩:=iK k h
 ·obtain⟨r0,h0,h⟩:=bs h;refine cw (a_document_Clone hI h0)<|zz ?_;subst E J;refine es<|xs<|xs<|rz ?_;refine es<|xb ?_;obtain⟨e0,h1,h⟩:=bs h;refine rb_loop (fun x0=>⟨envL [(4,.ptr 0 0),(7,.ptr 1 0),(19,.sl (l_1.map T_api_Shift.d)),(20,.int .i64 (l_1.length:Int)),(21,.int .i64 0)],heapL [(0,.box none [.str [],.str [],.int .u8 0,.bool false,.int .i64 0,.nils,.nils,.nils]),(1,.box none [.str r0.Title,.str r0.Lang,.int .u8 r0.Rate,.bool r0.Drop,.int .i64 r0.Last,.sl (r0.Regions.map T_api_Region.d),.sl (r0.Events.map T_api_Event.d),.sl (r0.Comments.map T_api_Comment.d)])],2,64⟩) (fun w=>match w with|Sum.inl _=>.ret|Sum.inr (_)=>.exit 0) (fun w=>match w with|Sum.inl e0=>⟨envL [(4,.ptr 0 0),(5,.int .i64 e0)],heapL [(0,.box none [.str [],.str [],.int .u8 0,.bool false,.int .i64 0,.nils,.nils,.nils])],1,64⟩|Sum.inr (e0)=>⟨envL [(4,.ptr 0 0),(7,.ptr 1 0)],heapL [(0,.box none [.str [],.str [],.int .u8 0,.bool false,.int .i64 0,.nils,.nils,.nils]),(1,.box none [.str r0.Title,.str r0.Lang,.int .u8 r0.Rate,.bool r0.Drop,.int .i64 r0.Last,.sl (r0.Regions.map T_api_Region.d),.sl (r0.Events.map T_api_Event.d),.sl (r0.Comments.map T_api_Comment.d)])],2,64⟩) h1 (wk [(0,some 1),(1,some 10)]) (by intro w;rcases w with w|w<;>simp) ?_ ?_
  ·clear h;intro x0 y h;unfold g_repair_Apply_s1 at h;refine xs<|rz ?_;refine es<|xs ?_;obtain⟨k,h⟩|⟨k,h⟩:=iK k h
   ·refine xt<|xk<|es<|xs<|xb<|xs<|rK fun K _ E J=>zz ?_;obtain⟨y0,q,h⟩:=bK q h;refine zz ?_;subst E J;refine es<|xs<|rK fun K _ E J=>zz ?_;obtain⟨r1,h2,h⟩:=bs h;refine cw (a_document_Find hI h2)<|zz ?_;subst E J;refine es<|xs<|xs<|rz ?_;refine es ?_;obtain⟨k,h⟩|⟨k,h⟩:=iK k h
    ·refine xt<|xs<|rz ?_;refine es<|xr<|er<|br<|er ?_;cases h;exact en ⟨rfl,wk []⟩
    refine xf<|xk<|es<|xs ?_;obtain⟨v0,h3,h⟩:=bs h;refine rb_cut (fun v0=>⟨envL [(4,.ptr 0 0),(7,.ptr 1 0),(9,.ptr 2 0),(10,.int .i64 r1),(19,.sl (l_1.map T_api_Shift.d)),(20,.int .i64 (l_1.length:Int)),(21,.int .i64 0),(46,.bool v0)],heapL [(0,.box none [.str [],.str [],.int .u8 0,.bool false,.int .i64 0,.nils,.nils,.nils]),(1,.box none [.str r0.Title,.str r0.Lang,.int .u8 r0.Rate,.bool r0.Drop,.int .i64 r0.Last,.sl (r0.Regions.map T_api_Region.d),.sl (r0.Events.map T_api_Event.d),.sl (r0.Comments.map T_api_Comment.d)]),(2,.box none [.int .i64 y0.ID,.int .i64 y0.In,.int .i64 y0.Out])],3,64⟩) h3 ?_ ?_
    ·clear h;intro v0 h;refine rK fun K _ E J=>zz ?_;obtain⟨k,h⟩|⟨k,h⟩:=iK k h
     ·refine zz ?_;subst E J;cases h;exact en ⟨rfl,wk [(2,some 5)]⟩
     refine zz ?_;obtain⟨k,h⟩|⟨k,h⟩:=iK k h
     ·refine zz ?_;subst E J;cases h;exact en ⟨rfl,wk [(2,some 5)]⟩
     refine zz ?_;subst E J;cases h;exact en ⟨rfl,wk [(2,some 5)]⟩
    obtain⟨k,h⟩|⟨k,h⟩:=iK k h
    ·refine xt<|xs<|rz ?_;refine es<|xr<|er<|br<|er ?_;cases h;exact en ⟨rfl,wk []⟩
    refine xf<|xk<|es<|rK fun K _ E J=>zz ?_;obtain⟨y1,q,h⟩:=bK q h;refine zz ?_;cases h
   refine xf<|xx<|ee ?_;cases h;exact en ⟨rfl,wk []⟩
  rcases e0 with e0|e0
  ·try dsimp only at h ⊢
   refine br<|er ?_;cases h;exact en fr
  try dsimp only at h ⊢
  refine bh<|es<|xs<|rK fun K _ E J=>zz ?_;obtain⟨r2,h4,h⟩:=bs h;refine cw (a_document_Sort hI h4)<|zz ?_;subst E J;refine es<|xs<|rz ?_;refine es<|xr ?_;cases h;exact en fr
 obtain⟨r3,h5,h⟩:=bs h;refine cW.introE (a_document_Clone_nw hI (nid:=9) h5) fz rfl<|zz ?_;subst E J;refine es<|xs<|xs<|rz ?_;refine es<|xb ?_;obtain⟨e1,h6,h⟩:=bs h;refine rb_loop (fun x1=>⟨envL [(4,.ptr 0 0),(7,.ptr 1 0),(19,.sl (l_1.map T_api_Shift.d)),(20,.int .i64 (l_1.length:Int)),(21,.int .i64 x1.1)],heapL [(0,.box none [.str [],.str [],.int .u8 0,.bool false,.int .i64 0,.nils,.nils,.nils]),(1,.box none [.str r3.Title,.str r3.Lang,.int .u8 r3.Rate,.bool r3.Drop,.int .i64 r3.Last,.sl (r3.Regions.map T_api_Region.d),.own 2 x1.2.length,.sl (r3.Comments.map T_api_Comment.d)]),(2,.vec 91 7 (x1.2.map T_api_Event.d) false)],3,64⟩) (fun w=>match w with|Sum.inl _=>.ret|Sum.inr (_)=>.exit 0) (fun w=>match w with|Sum.inl e1=>⟨envL [(4,.ptr 0 0),(5,.int .i64 e1)],heapL [(0,.box none [.str [],.str [],.int .u8 0,.bool false,.int .i64 0,.nils,.nils,.nils])],1,64⟩|Sum.inr (e1)=>⟨envL [(4,.ptr 0 0),(7,.ptr 1 0)],heapL [(0,.box none [.str [],.str [],.int .u8 0,.bool false,.int .i64 0,.nils,.nils,.nils]),(1,.box none [.str r3.Title,.str r3.Lang,.int .u8 r3.Rate,.bool r3.Drop,.int .i64 r3.Last,.sl (r3.Regions.map T_api_Region.d),.own 2 e1.length,.sl (r3.Comments.map T_api_Comment.d)]),(2,.vec 91 7 (e1.map T_api_Event.d) false)],3,64⟩) h6 (wk [(0,some 1),(1,some 10),(2,some 9)]) (by intro w;rcases w with w|w<;>simp) ?_ ?_
 ·clear h;intro x1 y h;unfold g_repair_Apply_s2 at h;refine xs<|rz ?_;refine es<|xs ?_;obtain⟨k,h⟩|⟨k,h⟩:=iK k h
  ·refine xt<|xk<|es<|xs<|xb<|xs<|rK fun K _ E J=>zz ?_;obtain⟨y2,q,h⟩:=bK q h;refine zz ?_;subst E J;refine es<|xs<|rK fun K _ E J=>zz ?_;obtain⟨r4,h7,h⟩:=bs h;refine cW.introR (a_document_Find_ro hI (nid:=11) (i0:=2) h7 fz) fs rfl<|zz ?_;subst E J;refine es<|xs<|xs<|rz ?_;refine es ?_;obtain⟨k,h⟩|⟨k,h⟩:=iK k h
   ·refine xt<|xs<|rz ?_;refine es<|xr<|er<|br<|er ?_;cases h;exact en ⟨rfl,wk []⟩
   refine xf<|xk<|es<|xs ?_;obtain⟨v1,h9,h⟩:=bs h;refine rb_cut (fun v1=>⟨envL [(4,.ptr 0 0),(7,.ptr 1 0),(9,.ptr 3 0),(10,.int .i64 r4),(19,.sl (l_1.map T_api_Shift.d)),(20,.int .i64 (l_1.length:Int)),(21,.int .i64 x1.1),(46,.bool v1)],heapL [(0,.box none [.str [],.str [],.int .u8 0,.bool false,.int .i64 0,.nils,.nils,.nils]),(1,.box none [.str r3.Title,.str r3.Lang,.int .u8 r3.Rate,.bool r3.Drop,.int .i64 r3.Last,.sl (r3.Regions.map T_api_Region.d),.own 2 x1.2.length,.sl (r3.Comments.map T_api_Comment.d)]),(2,.vec 91 7 (x1.2.map T_api_Event.d) false),(3,.box none [.int .i64 y2.ID,.int .i64 y2.In,.int .i64 y2.Out])],4,64⟩) h9 ?_ ?_
   ·clear h;intro v1 h;refine rK fun K _ E J=>zz ?_;obtain⟨k,h⟩|⟨k,h⟩:=iK k h
    ·refine zz ?_;subst E J;cases h;exact en ⟨rfl,wk [(3,some 6)]⟩
    refine zz ?_;obtain⟨k,h⟩|⟨k,h⟩:=iK k h
    ·refine zz ?_;subst E J;cases h;exact en ⟨rfl,wk [(3,some 6)]⟩
    refine zz ?_;subst E J;cases h;exact en ⟨rfl,wk [(3,some 6)]⟩
   obtain⟨k,h⟩|⟨k,h⟩:=iK k h
   ·refine xt<|xs<|rz ?_;refine es<|xr<|er<|br<|er ?_;cases h;exact en ⟨rfl,wk []⟩
   refine xf<|xk<|es<|rK fun K _ E J=>zz ?_;obtain⟨y3,q,h⟩:=oN q h;refine zz ?_;obtain⟨m0,h10,h⟩:=bind_some h;obtain⟨h11,h12,h13,h14⟩:=setI_some h10;have h14:=h14 T_api_Event.d;try simp only[sevalprocAttr,List.map_nil,dd] at h14
   have q:=And.intro @h11<|And.intro @h12<|And.intro @h13<|And.intro @h14<|q;refine zz ?_;subst E J;refine bn<|es<|rz ?_;cases h;exact en ⟨rfl,wk []⟩
  refine xf<|xx<|ee ?_;cases h;exact en ⟨rfl,wk []⟩
 rcases e1 with e1|e1
 ·try dsimp only at h ⊢
  refine br<|er ?_;cases h;exact en fr
 try dsimp only at h ⊢
 refine bh<|es<|xs<|rK fun K _ E J=>zz ?_;obtain⟨r5,h15,h⟩:=bs h;refine cw (a_document_Sort hI h15)<|zz ?_;subst E J;refine es<|xs<|rz ?_;refine es<|xr ?_;cases h;exact en fr
def g_repair_Plan_s1(r7:(List T_api_Bound) × Int)(r0:(List Int) × (List Int) × Int)(x0:Int × (List T_api_Bound)):Option (Nx (Int × (List T_api_Bound)) ((List T_api_Bound))) :=
 (if(decide (x0.1 < (r0.2.1.length:Int))) then((atI r0.2.1 x0.1).bind fun y0=>((atI r7.1 y0).bind fun y1=>(if(x0.2.length+1) * 48≤140737488355328 then(some (.go ((IntKind.i64.wrap (x0.1+1)),(x0.2++[y1])))) else none))) else(some (.out x0.2)))
def g_repair_Plan_s2(d_0:T_api_Document)(r0:(List Int) × Bool)(x0:Int × (List T_api_Shift)):Option (Nx (Int × (List T_api_Shift)) ((List T_api_Shift))) :=
 (if(decide (x0.1 < (d_0.Events.length:Int))) then((atI d_0.Events x0.1).bind fun y0=>((atI r0.1 (IntKind.i64.wrap ((IntKind.i64.wrap (2 * x0.1))+1))).bind fun y1=>((atI r0.1 0).bind fun y2=>((atI r0.1 (IntKind.i64.wrap ((IntKind.i64.wrap (2 * x0.1))+2))).bind fun y3=>(((if((IntKind.i64.wrap (y1 - y2)) != y0.Span.In) then(some true) else(some ((IntKind.i64.wrap (y3 - y2)) != y0.Span.Out))):Option (Bool)).bind fun v0=>(if v0 then(if(x0.2.length+1) * 24≤140737488355328 then(some (.go ((IntKind.i64.wrap (x0.1+1)),(x0.2++[(T_api_Shift.mk y0.ID (IntKind.i64.wrap (y1 - y2)) (IntKind.i64.wrap (y3 - y2)))])))) else none) else(some (.go ((IntKind.i64.wrap (x0.1+1)),x0.2))))))))) else(some (.out x0.2)))
def g_repair_Plan(d_0:T_api_Document)(p_1:T_api_Profile)(l_2:List Int)(tol_3:Int):Option (T_api_Repair × Int) :=
 ((g_repair_Bounds d_0 p_1 l_2 tol_3).bind fun r7=>(if(r7.2 != 0) then(some ((T_api_Repair.mk (T_api_Document.mk [] [] 0 false 0 [] [] []) [] 0 []),r7.2)) else((g_diffcon_Solve (IntKind.i64.wrap ((IntKind.i64.wrap (2 * (d_0.Events.length:Int)))+1)) r7.1).bind fun r0=>(if(r0.2.2 != 0) then((iter (g_repair_Plan_s1 r7 r0) (0,[])).bind fun e0=>(some ((T_api_Repair.mk (T_api_Document.mk [] [] 0 false 0 [] [] []) [] 0 e0),r0.2.2))) else((g_sort_Search tol_3 d_0 p_1 l_2 (IntKind.i64.wrap ((IntKind.i64.wrap (2 * (d_0.Events.length:Int)))+1))).bind fun r1=>((g_repair_Plan_1 r1 d_0 p_1 l_2 (IntKind.i64.wrap ((IntKind.i64.wrap (2 * (d_0.Events.length:Int)))+1))).bind fun r2=>((iter (g_repair_Plan_s2 d_0 r2) (0,[])).bind fun e1=>((g_repair_Apply d_0 e1).bind fun r3=>(some ((T_api_Repair.mk r3.1 e1 r1 []),r3.2))))))))))
theorem a_repair_Plan{I:World→Prop}(hI:Stab I)(hShp:∀ w,I w→Shp w)(hU8T:∀ w,I w→U8T w){d_0:T_api_Document}{p_1:T_api_Profile}{l_2:List Int}{tol_3:Int}{r:T_api_Repair × Int}(h:g_repair_Plan d_0 p_1 l_2 tol_3=some r):AFun Tryz.prog I 6 [T_api_Document.d d_0,T_api_Profile.d p_1,.sl (l_2.map (D.int .i64)),.int .i64 tol_3] (.tup [T_api_Repair.d r.1,.int .i64 r.2]):=by
 have dd:=dd_ED;have k:=True.intro;have q:=k;have rs:=Tryz.results6;unfold g_repair_Plan at h;refine .en hI Tryz.func6 Tryz.ntmps6 ?_;refine xs<|rz ?_;refine eWk _ (((Wk.freeze (id:=0) (cs:=[.str d_0.Title,.str d_0.Lang,.int .u8 d_0.Rate,.bool d_0.Drop,.int .i64 d_0.Last,.sl (d_0.Regions.map T_api_Region.d),.sl (d_0.Events.map T_api_Event.d),.sl (d_0.Comments.map T_api_Comment.d)]) fz fz).trans (wkF (l:=[(3,.int .i64 tol_3),(4,.iptr [.str d_0.Title,.str d_0.Lang,.int .u8 d_0.Rate,.bool d_0.Drop,.int .i64 d_0.Last,.sl (d_0.Regions.map T_api_Region.d),.sl (d_0.Events.map T_api_Event.d),.sl (d_0.Comments.map T_api_Comment.d)]),(5,.ptr 1 0),(6,.ptr 2 0),(8,.ptr 3 0)]) (h:=[(1,.box none [.str p_1.Name,.int .i64 p_1.Reading,.int .i64 p_1.MinFrames,.int .i64 p_1.MaxFrames,.int .i64 p_1.MinGap,.int .i64 p_1.ShotBefore,.int .i64 p_1.ShotAfter,.int .i64 p_1.Rows,.int .i64 p_1.Cols,.str p_1.Forbidden,.int .i64 p_1.SafeTop,.int .i64 p_1.SafeBottom,.int .i64 p_1.SafeLeft,.int .i64 p_1.SafeRight]),(2,.box none [.sl (l_2.map (D.int .i64))]),(3,.box none [.str [],.str [],.int .u8 0,.bool false,.int .i64 0,.nils,.nils,.nils,.nils,.int .i64 0,.nils])]) (n:=5) [])).trans (((Wk.freeze (id:=1) (cs:=[.str p_1.Name,.int .i64 p_1.Reading,.int .i64 p_1.MinFrames,.int .i64 p_1.MaxFrames,.int .i64 p_1.MinGap,.int .i64 p_1.ShotBefore,.int .i64 p_1.ShotAfter,.int .i64 p_1.Rows,.int .i64 p_1.Cols,.str p_1.Forbidden,.int .i64 p_1.SafeTop,.int .i64 p_1.SafeBottom,.int .i64 p_1.SafeLeft,.int .i64 p_1.SafeRight]) fz fz).trans (wkF (l:=[(3,.int .i64 tol_3),(4,.iptr [.str d_0.Title,.str d_0.Lang,.int .u8 d_0.Rate,.bool d_0.Drop,.int .i64 d_0.Last,.sl (d_0.Regions.map T_api_Region.d),.sl (d_0.Events.map T_api_Event.d),.sl (d_0.Comments.map T_api_Comment.d)]),(5,.iptr [.str p_1.Name,.int .i64 p_1.Reading,.int .i64 p_1.MinFrames,.int .i64 p_1.MaxFrames,.int .i64 p_1.MinGap,.int .i64 p_1.ShotBefore,.int .i64 p_1.ShotAfter,.int .i64 p_1.Rows,.int .i64 p_1.Cols,.str p_1.Forbidden,.int .i64 p_1.SafeTop,.int .i64 p_1.SafeBottom,.int .i64 p_1.SafeLeft,.int .i64 p_1.SafeRight]),(6,.ptr 2 0),(8,.ptr 3 0)]) (h:=[(2,.box none [.sl (l_2.map (D.int .i64))]),(3,.box none [.str [],.str [],.int .u8 0,.bool false,.int .i64 0,.nils,.nils,.nils,.nils,.int .i64 0,.nils])]) (n:=5) [])).trans ((Wk.freeze (id:=2) (cs:=[.sl (l_2.map (D.int .i64))]) fz fz).trans (wkF (l:=[(3,.int .i64 tol_3),(4,.iptr [.str d_0.Title,.str d_0.Lang,.int .u8 d_0.Rate,.bool d_0.Drop,.int .i64 d_0.Last,.sl (d_0.Regions.map T_api_Region.d),.sl (d_0.Events.map T_api_Event.d),.sl (d_0.Comments.map T_api_Comment.d)]),(5,.iptr [.str p_1.Name,.int .i64 p_1.Reading,.int .i64 p_1.MinFrames,.int .i64 p_1.MaxFrames,.int .i64 p_1.MinGap,.int .i64 p_1.ShotBefore,.int .i64 p_1.ShotAfter,.int .i64 p_1.Rows,.int .i64 p_1.Cols,.str p_1.Forbidden,.int .i64 p_1.SafeTop,.int .i64 p_1.SafeBottom,.int .i64 p_1.SafeLeft,.int .i64 p_1.SafeRight]),(6,.iptr [.sl (l_2.map (D.int .i64))]),(8,.ptr 3 0)]) (h:=[(3,.box none [.str [],.str [],.int .u8 0,.bool false,.int .i64 0,.nils,.nils,.nils,.nils,.int .i64 0,.nils])]) (n:=5) []))))<|xs<|rK fun K _ E J=>zz ?_;obtain⟨r7,h8,h⟩:=bs h;refine cw (a_repair_Bounds hI hShp hU8T h8)<|zz ?_;subst E J;refine es<|xs<|xs<|rz ?_;refine es ?_;obtain⟨k,h⟩|⟨k,h⟩:=iK k h
 ·refine xt<|xs<|rz ?_;refine es<|xr<|er ?_;cases h;exact en fr
 refine xf<|xk<|es<|xs<|rz ?_;refine eWk _ ((Wk.freeze (id:=22) (cs:=[.int .i64 (IntKind.i64.wrap ((IntKind.i64.wrap (2 * (d_0.Events.length:Int)))+1))]) fz fz).trans (wkF (l:=[(3,.int .i64 tol_3),(4,.iptr [.str d_0.Title,.str d_0.Lang,.int .u8 d_0.Rate,.bool d_0.Drop,.int .i64 d_0.Last,.sl (d_0.Regions.map T_api_Region.d),.sl (d_0.Events.map T_api_Event.d),.sl (d_0.Comments.map T_api_Comment.d)]),(5,.iptr [.str p_1.Name,.int .i64 p_1.Reading,.int .i64 p_1.MinFrames,.int .i64 p_1.MaxFrames,.int .i64 p_1.MinGap,.int .i64 p_1.ShotBefore,.int .i64 p_1.ShotAfter,.int .i64 p_1.Rows,.int .i64 p_1.Cols,.str p_1.Forbidden,.int .i64 p_1.SafeTop,.int .i64 p_1.SafeBottom,.int .i64 p_1.SafeLeft,.int .i64 p_1.SafeRight]),(6,.iptr [.sl (l_2.map (D.int .i64))]),(8,.ptr 3 0),(10,.sl (r7.1.map T_api_Bound.d)),(12,.iptr [.int .i64 (IntKind.i64.wrap ((IntKind.i64.wrap (2 * (d_0.Events.length:Int)))+1))])]) (h:=[(3,.box none [.str [],.str [],.int .u8 0,.bool false,.int .i64 0,.nils,.nils,.nils,.nils,.int .i64 0,.nils])]) (n:=24) []))<|xs<|xs<|rK fun K _ E J=>zz ?_;obtain⟨r0,h0,h⟩:=bs h;refine cw (a_diffcon_Solve hI h0)<|zz ?_;subst E J;refine es<|xs<|rz ?_;refine es ?_;obtain⟨k,h⟩|⟨k,h⟩:=iK k h
 ·refine xt<|xs<|rz ?_;refine es<|xs<|xs<|rz ?_;refine es<|xb ?_;obtain⟨e0,h1,h⟩:=bs h;refine rb_loop (fun x0=>⟨envL [(8,.ptr 0 0),(10,.sl (r7.1.map T_api_Bound.d)),(15,.int .i64 r0.2.2),(16,.ptr 1 0),(54,.sl (r0.2.1.map (D.int .i64))),(55,.int .i64 (r0.2.1.length:Int)),(56,.int .i64 x0.1)],heapL [(0,.box none [.str [],.str [],.int .u8 0,.bool false,.int .i64 0,.nils,.nils,.nils,.nils,.int .i64 0,.nils]),(1,.box none [.str [],.str [],.int .u8 0,.bool false,.int .i64 0,.nils,.nils,.nils,.nils,.int .i64 0,.own 2 x0.2.length]),(2,.vec 48 6 (x0.2.map T_api_Bound.d) false)],3,145⟩) (fun _=>.exit 0) (fun e0=>⟨envL [(8,.ptr 0 0),(15,.int .i64 r0.2.2),(16,.ptr 1 0)],heapL [(0,.box none [.str [],.str [],.int .u8 0,.bool false,.int .i64 0,.nils,.nils,.nils,.nils,.int .i64 0,.nils]),(1,.box none [.str [],.str [],.int .u8 0,.bool false,.int .i64 0,.nils,.nils,.nils,.nils,.int .i64 0,.own 2 e0.length]),(2,.vec 48 6 (e0.map T_api_Bound.d) false)],3,145⟩) h1 (wk [(0,some 3),(1,some 36),(2,none)]) (by intro w;simp) ?_ ?_
  ·clear h;intro x0 y h;unfold g_repair_Plan_s1 at h;refine xs<|rz ?_;refine es<|xs ?_;obtain⟨k,h⟩|⟨k,h⟩:=iK k h
   ·refine xt<|xk<|es<|xs<|xb<|xs<|rK fun K _ E J=>zz ?_;obtain⟨y0,q,h⟩:=bK q h;refine zz ?_;subst E J;refine es<|rD hI fun K _ E J=>zz ?_;obtain⟨y1,q,h⟩:=bK q h;refine zz ?_;obtain⟨h2,h⟩:=ite_on h;have h3:x0.2.length+1≤9223372036854775807:=by omega
    try simp only[Nat.reduceLeDiff] at h3
    have q:=And.intro @h3<|And.intro @h2<|q;refine zz ?_;refine hd<|zz ?_;refine hd<|zz ?_;subst E J;refine bn<|es<|rz ?_;cases h;exact en ⟨rfl,wk [(2,some 14)]⟩
   refine xf<|xx<|ee ?_;cases h;exact en ⟨rfl,wk []⟩
  refine bh<|es<|xs<|rz ?_;refine es<|xr<|er ?_;cases h;exact en fr
 refine xf<|xk<|es<|xs<|rK fun K _ E J=>zz ?_;have h4:=(show bldT Tryz.prog 86=false∧zeroD Tryz.prog 86=some D.any∧zOne Tryz.prog 86=true∧szT Tryz.prog 86=some 1 from⟨by show _=_;kernel_rfl,by show _=_;kernel_rfl,by show _=_;kernel_rfl,by show _=_;kernel_rfl⟩);have q:=And.intro @h4<|q;refine zz ?_;subst E J;refine eWk _ ((Wk.freeze (id:=37) (cs:=[.fn 23 [.iptr [.str d_0.Title,.str d_0.Lang,.int .u8 d_0.Rate,.bool d_0.Drop,.int .i64 d_0.Last,.sl (d_0.Regions.map T_api_Region.d),.sl (d_0.Events.map T_api_Event.d),.sl (d_0.Comments.map T_api_Comment.d)],.iptr [.str p_1.Name,.int .i64 p_1.Reading,.int .i64 p_1.MinFrames,.int .i64 p_1.MaxFrames,.int .i64 p_1.MinGap,.int .i64 p_1.ShotBefore,.int .i64 p_1.ShotAfter,.int .i64 p_1.Rows,.int .i64 p_1.Cols,.str p_1.Forbidden,.int .i64 p_1.SafeTop,.int .i64 p_1.SafeBottom,.int .i64 p_1.SafeLeft,.int .i64 p_1.SafeRight],.iptr [.sl (l_2.map (D.int .i64))],.iptr [.int .i64 (IntKind.i64.wrap ((IntKind.i64.wrap (2 * (d_0.Events.length:Int)))+1))]]]) fz fz).trans (wkF (l:=[(3,.int .i64 tol_3),(4,.iptr [.str d_0.Title,.str d_0.Lang,.int .u8 d_0.Rate,.bool d_0.Drop,.int .i64 d_0.Last,.sl (d_0.Regions.map T_api_Region.d),.sl (d_0.Events.map T_api_Event.d),.sl (d_0.Comments.map T_api_Comment.d)]),(8,.ptr 3 0),(19,.iptr [.fn 23 [.iptr [.str d_0.Title,.str d_0.Lang,.int .u8 d_0.Rate,.bool d_0.Drop,.int .i64 d_0.Last,.sl (d_0.Regions.map T_api_Region.d),.sl (d_0.Events.map T_api_Event.d),.sl (d_0.Comments.map T_api_Comment.d)],.iptr [.str p_1.Name,.int .i64 p_1.Reading,.int .i64 p_1.MinFrames,.int .i64 p_1.MaxFrames,.int .i64 p_1.MinGap,.int .i64 p_1.ShotBefore,.int .i64 p_1.ShotAfter,.int .i64 p_1.Rows,.int .i64 p_1.Cols,.str p_1.Forbidden,.int .i64 p_1.SafeTop,.int .i64 p_1.SafeBottom,.int .i64 p_1.SafeLeft,.int .i64 p_1.SafeRight],.iptr [.sl (l_2.map (D.int .i64))],.iptr [.int .i64 (IntKind.i64.wrap ((IntKind.i64.wrap (2 * (d_0.Events.length:Int)))+1))]]])]) (h:=[(3,.box none [.str [],.str [],.int .u8 0,.bool false,.int .i64 0,.nils,.nils,.nils,.nils,.int .i64 0,.nils])]) (n:=39) []))<|xs<|rK fun K _ E J=>zz ?_;obtain⟨r1,h5,h⟩:=bs h;refine cw (a_sort_Search hI hShp hU8T h5)<|zz ?_;subst E J;refine es<|xs<|rK fun K _ E J=>zz ?_;have h6:=(show aggT Tryz.prog 86=some false by kernel_rfl);have q:=And.intro @h6<|q;refine zz ?_;obtain⟨r2,h7,h⟩:=bs h;refine cw (a_repair_Plan_1 hI hShp hU8T h7)<|zz ?_;subst E J;refine es<|xs<|rz ?_;refine es<|xs<|xs<|rz ?_;refine es<|xb ?_;obtain⟨e1,h9,h⟩:=bs h;refine rb_loop (fun x1=>⟨envL [(4,.iptr [.str d_0.Title,.str d_0.Lang,.int .u8 d_0.Rate,.bool d_0.Drop,.int .i64 d_0.Last,.sl (d_0.Regions.map T_api_Region.d),.sl (d_0.Events.map T_api_Event.d),.sl (d_0.Comments.map T_api_Comment.d)]),(8,.ptr 0 0),(21,.sl (r2.1.map (D.int .i64))),(23,.ptr 1 0),(85,.sl (d_0.Events.map T_api_Event.d)),(86,.int .i64 (d_0.Events.length:Int)),(87,.int .i64 x1.1)],heapL [(0,.box none [.str [],.str [],.int .u8 0,.bool false,.int .i64 0,.nils,.nils,.nils,.nils,.int .i64 0,.nils]),(1,.box none [.str [],.str [],.int .u8 0,.bool false,.int .i64 0,.nils,.nils,.nils,.own 2 x1.2.length,.int .i64 r1,.nils]),(2,.vec 93 3 (x1.2.map T_api_Shift.d) false)],3,145⟩) (fun _=>.exit 2) (fun e1=>⟨envL [(4,.iptr [.str d_0.Title,.str d_0.Lang,.int .u8 d_0.Rate,.bool d_0.Drop,.int .i64 d_0.Last,.sl (d_0.Regions.map T_api_Region.d),.sl (d_0.Events.map T_api_Event.d),.sl (d_0.Comments.map T_api_Comment.d)]),(8,.ptr 0 0),(23,.ptr 1 0)],heapL [(0,.box none [.str [],.str [],.int .u8 0,.bool false,.int .i64 0,.nils,.nils,.nils,.nils,.int .i64 0,.nils]),(1,.box none [.str [],.str [],.int .u8 0,.bool false,.int .i64 0,.nils,.nils,.nils,.own 2 e1.length,.int .i64 r1,.nils]),(2,.vec 93 3 (e1.map T_api_Shift.d) false)],3,145⟩) h9 (wk [(0,some 3),(1,some 53),(2,none)]) (by intro w;simp) ?_ ?_
 ·clear h;intro x1 y h;unfold g_repair_Plan_s2 at h;refine xs<|rz ?_;refine es<|xs ?_;obtain⟨k,h⟩|⟨k,h⟩:=iK k h
  ·refine xt<|xk<|es<|xs<|xb<|xs<|rK fun K _ E J=>zz ?_;obtain⟨y2,q,h⟩:=bK q h;refine zz ?_;subst E J;refine es<|xs<|rD hI fun K _ E J=>zz ?_;obtain⟨y3,q,h⟩:=bK q h;refine zz ?_;obtain⟨y4,q,h⟩:=bK q h;refine zz ?_;obtain⟨y5,q,h⟩:=bK q h;refine zz ?_;subst E J;refine es ?_;obtain⟨v0,h10,h⟩:=bs h;refine rb_cut (fun v0=>⟨envL [(4,.iptr [.str d_0.Title,.str d_0.Lang,.int .u8 d_0.Rate,.bool d_0.Drop,.int .i64 d_0.Last,.sl (d_0.Regions.map T_api_Region.d),.sl (d_0.Events.map T_api_Event.d),.sl (d_0.Comments.map T_api_Comment.d)]),(8,.ptr 0 0),(21,.sl (r2.1.map (D.int .i64))),(23,.ptr 1 0),(25,.ptr 3 0),(26,.int .i64 (IntKind.i64.wrap (y3 - y4))),(27,.int .i64 (IntKind.i64.wrap (y5 - y4))),(85,.sl (d_0.Events.map T_api_Event.d)),(86,.int .i64 (d_0.Events.length:Int)),(87,.int .i64 x1.1),(123,.bool v0)],heapL [(0,.box none [.str [],.str [],.int .u8 0,.bool false,.int .i64 0,.nils,.nils,.nils,.nils,.int .i64 0,.nils]),(1,.box none [.str [],.str [],.int .u8 0,.bool false,.int .i64 0,.nils,.nils,.nils,.own 2 x1.2.length,.int .i64 r1,.nils]),(2,.vec 93 3 (x1.2.map T_api_Shift.d) false),(3,.box none [.int .i64 y2.ID,.int .i64 y2.Span.In,.int .i64 y2.Span.Out,.str y2.Region,.int .u8 y2.Kind,.str y2.Speaker,.sl (y2.Rows.map T_api_Row.d)])],4,145⟩) h10 ?_ ?_
   ·clear h;intro v0 h;refine rK fun K _ E J=>zz ?_;obtain⟨k,h⟩|⟨k,h⟩:=iK k h
    ·refine zz ?_;subst E J;cases h;exact en ⟨rfl,wk [(3,some 7)]⟩
    refine zz ?_;subst E J;cases h;exact en ⟨rfl,wk [(3,some 7)]⟩
   obtain⟨k,h⟩|⟨k,h⟩:=iK k h
   ·refine xt<|rK fun K _ E J=>zz ?_;obtain⟨h11,h⟩:=ite_on h;have h12:x1.2.length+1≤9223372036854775807:=by omega
    try simp only[Nat.reduceLeDiff] at h12
    have q:=And.intro @h12<|And.intro @h11<|q;refine zz ?_;subst E J;refine bn<|es<|rz ?_;cases h;exact en ⟨rfl,wk [(2,some 12)]⟩
   refine xf<|xk<|bn<|es<|rz ?_;cases h;exact en ⟨rfl,wk []⟩
  refine xf<|xx<|ee ?_;cases h;exact en ⟨rfl,wk []⟩
 refine bh<|es<|xs<|rK fun K _ E J=>zz ?_;obtain⟨r3,h13,h⟩:=bs h;refine cw (a_repair_Apply hI hShp hU8T h13)<|zz ?_;subst E J;refine es<|xs<|rz ?_;refine es<|xr ?_;cases h;exact en fr
theorem setCells_setRow(g:Nat):∀ (vs:List Value) (o:Nat) (w:World) (cur:Array Value) (t:TypeId) (fr:Nat × Nat),w.heap[g]? = some (.cells cur t fr)→o+vs.length≤cur.size→w.setCells g o vs=w.setRow g (cur.toList.take o++vs++cur.toList.drop (o+vs.length)).toArray
 | [],o,w,cur,t,fr,hg,hl=>by
  have hlt:g < w.heap.size:=(Array.getElem?_eq_some_iff.1 hg).1
  have hv:w.heap[g]=.cells cur t fr:=(Array.getElem?_eq_some_iff.1 hg).2
  simp only[World.setCells,List.append_nil,List.length_nil,Nat.add_zero,List.take_append_drop,Array.toArray_toList]
  unfold World.setRow
  have:w.heap=w.heap.modify g (fun|.cells _ t fr=>.cells cur t fr|x=>x):=by
   apply Array.ext
   ·simp
   ·intro k h1 h2
    simp only[Array.getElem_modify]
    split
    ·rename_i hk
     subst hk
     rw[hv]
    ·rfl
  exact congrArg (fun h=>{ w with heap:=h }) this
 | v::r,o,w,cur,t,fr,hg,hl=>by
  simp only[List.length_cons] at hl
  have h1:=setCell_eq_setRow w g o cur t fr v hg
  simp only[World.setCells]
  rw[h1,setCells_setRow g r (o+1) _ (cur.setIfInBounds o v) t fr (setRow_heap w g cur _ t fr hg) (by simp;omega),setRow_setRow]
  congr 2
  have ho:o < cur.toList.length:=by simp;omega
  rw[Array.toList_setIfInBounds]
  have hlo:(cur.toList.take o).length=o:=by rw[List.length_take];omega
  generalize cur.toList=l at *
  have e1:(l.set o v).take (o+1)=l.take o++[v]:=by
   rw[List.set_eq_take_append_cons_drop,if_pos ho,List.take_append,hlo,List.take_of_length_le (by omega),show o+1 - o=1 by omega]
   rfl
  have e2:(l.set o v).drop (o+1+r.length)=l.drop (o+(r.length+1)):=by
   rw[List.drop_set_of_lt (by omega),show o+1+r.length=o+(r.length+1) by omega]
  rw[e1,e2,List.length_cons]
  simp
theorem zeros_len(z:Array Value)(n:Nat):(Builtin.zeroCells z n).toList.length=n * z.size:=by simp[Builtin.zeroCells]
theorem zeros_one{z:Array Value}(hz:∀ u ∈ z,u.oneCell'=true)(h0:0 < z.size)(n:Nat):∀ u ∈ (Builtin.zeroCells z n).toList,u.oneCell'=true:=by
 intro u hu;simp only[Builtin.zeroCells,Array.toList_map,List.mem_map] at hu;obtain⟨i,_,rfl⟩:=hu;have hlt:i % z.size < z.size:=Nat.mod_lt _ h0;rw[getElem!_pos z _ hlt];exact hz _ (Array.getElem_mem hlt)
theorem run_clear_cells(w:World)(t e ty:TypeId)(z:Value)(ht:Tryz.prog.underlying t=some (.slice e))(hv:∀ w,(zeroValue e).run Tryz.prog w=.ok z w)(h1:∀ u ∈ z.cells,u.oneCell'=true)(h0:0 < z.cells.size)(b o n c:Nat)(hn:0 < n)
  (hc:∀ j,j < n * z.cells.size→(w.cell? ⟨b,o+j,none⟩).isSome=true) (hf:∀ j,j < n * z.cells.size→w.frozen? ⟨b,o+j,none⟩=false) :
  (Builtin.clear_ #[t] ty #[.slice (some ⟨b,o,none⟩) n c]).run Tryz.prog w=.ok (.tuple #[]) (w.setCells b o (Builtin.zeroCells z.cells n).toList):=by
 have hst:=run_storeCells_cells (P:=Tryz.prog) b o (Builtin.zeroCells z.cells n).toList 0 w (by rw[zeros_len];simpa using hc) (by rw[zeros_len];simpa using hf) (zeros_one h1 h0 n)
 simp only[Nat.add_zero] at hst
 obtain⟨m,rfl⟩:∃ m,n=m+1:=⟨n - 1,by omega⟩
 simp[Builtin.clear_,run_underlying ht,hv,hst]
theorem zero_Bound(w:World):(zeroValue 48).run Tryz.prog w=.ok (Value.agg #[Value.int .i64 0,Value.int .i64 0,Value.int .i64 0,Value.int .u8 0,Value.int .i64 0,Value.int .i64 0]) w:=by
 obtain⟨i0,hi,hz0,hz1,hz2⟩:=info_parts info_Bound;simp[zeroValue,typeInfo,hi,hz0]
set_option maxHeartbeats 4000000
theorem run_Delete_Bound(g n cap i:Nat)(cur:Array Value)(w:World)(hg:w.heap[g]? = some (.cells cur 48 (0,0)))(hi:i < n)(hnc:n≤cap)(hm:cap≤maxLen)(hs:cur.size=cap * 6)(hone:∀ u ∈ cur.toList.take (n * 6),u.oneCell'=true) :
  Calls Tryz.prog 10 #[.slice (some ⟨g,0,none⟩) n cap,.int .i64 i,.int .i64 ((i:Int)+1)] w fun e w'=>e=.returned (.slice (some ⟨g,0,none⟩) (n - 1) cap)∧∃ zs:List Value,zs.length=6∧w'=(w.drew.setCells g (i * 6) ((cur.toList.take (n * 6)).drop ((i+1) * 6))).setCells g ((n - 1) * 6) zs:=by
 obtain⟨i0,hi0,hz0,hz1,hz2⟩:=info_parts info_Bound
 have tS:Tryz.prog.underlying 37=some (.slice 48):=Tryz.underlying37
 have zE:∀ w,(Go.sizeOf 48).run Tryz.prog w=.ok 6 w:=fun w=>by simp[Go.sizeOf,typeInfo,hi0,hz1]
 have mixed:Tryz.prog.follows .mixedOrders=true:=by kernel_rfl
 have hlt:i < i+1:=by omega
 obtain⟨news,hnews⟩:∃ news,news=(cur.toList.take (n * 6)).drop ((i+1) * 6):=⟨_,rfl⟩
 rw[← hnews]
 have hic:i≤cap:=by omega
 have hjc:i+1≤cap:=by omega
 have hjn:i+1≤n:=by omega
 rw[show((i:Int)+1)=((i+1:Nat):Int) by omega]
 generalize hj:i+1=j at *
 have hlenv:(cur.toList.take (n * 6)).length=n * 6:=by rw[List.length_take];simp;omega
 have hlen:news.length=(n - j) * 6:=by rw[hnews,List.length_drop,hlenv,Nat.sub_mul]
 have hcell:∀ k,k < cap * 6→w.cell? ⟨g,k,none⟩=some (cur.toList.getD k Go.undef):=fun k hk=>by
  rw[cell_of_row w g k cur 48 (0,0) hg]
  rw[Array.getElem?_eq_getElem (by omega)]
  simp[List.getD,show k < cur.size by omega]
 have hfrz:∀ k,w.frozen? ⟨g,k,none⟩=false:=fun k=>by simp[World.frozen?,hg]
 have hget:∀ t,t < (n - j) * 6→news[t]? = some (cur.toList.getD (j * 6+t) Go.undef):=by
  intro t ht
  rw[Nat.sub_mul] at ht
  rw[hnews,List.getElem?_drop,List.getElem?_take,if_pos (by omega),List.getD_eq_getElem?_getD,List.getElem?_eq_getElem (by simp;omega)]
  rfl
 obtain⟨A,hA,hsrc⟩:∃ A:Addr,(if cap=j then some (⟨g,0,none⟩:Addr) else some ⟨g,j * 6,none⟩)=some A∧Hid (∀ t u,news[t]? = some u→w.drew.cell? (A.add t)=some u):=by
  by_cases h:cap=j
  ·refine⟨⟨g,0,none⟩,by simp[h],fun t u hu=>?_⟩
   have h0:news.length=0:=by rw[hlen];omega
   rw[List.length_eq_zero_iff.1 h0] at hu
   simp at hu
  ·refine⟨⟨g,j * 6,none⟩,by simp[h],fun t u hu=>?_⟩
   have ht:t < (n - j) * 6:=by
    have:=(List.getElem?_eq_some_iff.1 hu).1
    rwa[hlen] at this
   rw[hget t ht] at hu
   rw[Nat.sub_mul] at ht
   rw[Addr.add_lit]
   exact(hcell (j * 6+t) (by omega)).trans hu
 have s1:Hid (news.length=(n - j) * 6):=hlen
 have s2:Hid (∀ u ∈ news,u.oneCell'=true):=by
  intro u hu
  rw[hnews] at hu
  exact hone u (List.mem_of_mem_drop hu)
 have s3:Hid (∀ t,t < news.length→(w.drew.cell? ⟨g,0+i * 6+t,none⟩).isSome=true∧w.drew.frozen? ⟨g,0+i * 6+t,none⟩=false):=by
  intro t ht
  rw[hlen,Nat.sub_mul] at ht
  rw[Nat.zero_add]
  exact⟨by show(w.cell? _).isSome=true;rw[hcell _ (by omega)];rfl,hfrz _⟩
 obtain⟨W1,hW1⟩:∃ W1,W1=w.drew.setCells g (0+i * 6) news:=⟨_,rfl⟩
 have hW1':W1=w.drew.setRow g (cur.toList.take (i * 6)++news++cur.toList.drop (i * 6+news.length)).toArray:=by
  rw[hW1,Nat.zero_add,setCells_setRow g news (i * 6) w.drew cur 48 (0,0) hg (by rw[hlen,Nat.sub_mul];omega)]
 have hg1:W1.heap[g]? = some (.cells (cur.toList.take (i * 6)++news++cur.toList.drop (i * 6+news.length)).toArray 48 (0,0)):=by
  rw[hW1'];exact setRow_heap w.drew g cur _ 48 (0,0) hg
 have hcl:∀ ty,(Builtin.clear_ #[37] ty #[.slice (some ⟨g,(i+(n - j)) * 6,none⟩) (n - (i+(n - j))) (cap - (i+(n - j)))]).run Tryz.prog W1=.ok (.tuple #[]) (W1.setCells g ((i+(n - j)) * 6) (Builtin.zeroCells #[Value.int .i64 0,Value.int .i64 0,Value.int .i64 0,Value.int .u8 0,Value.int .i64 0,Value.int .i64 0] (n - (i+(n - j)))).toList) :=
  fun ty=>run_clear_cells W1 37 48 ty (Value.agg #[Value.int .i64 0,Value.int .i64 0,Value.int .i64 0,Value.int .u8 0,Value.int .i64 0,Value.int .i64 0]) tS zero_Bound (by simp[Value.cells,Value.oneCell']) (by decide) g ((i+(n - j)) * 6) _ _ (by omega) (fun t ht=>by
   rw[cell_of_row W1 g _ _ 48 (0,0) hg1,Array.getElem?_eq_getElem]
   ·rfl
   ·have:(Value.agg #[Value.int .i64 0,Value.int .i64 0,Value.int .i64 0,Value.int .u8 0,Value.int .i64 0,Value.int .i64 0]).cells.size=6:=rfl
    rw[this] at ht
    simp only[List.size_toArray,List.length_append,List.length_take,List.length_drop,Array.length_toList,hlen,Nat.sub_mul]
    omega) (fun t ht=>by simp[World.frozen?,hg1])
 have hW:Hid (W1=w.drew.setCells g (0+i * 6) news):=hW1
 clear hW1 hW1' hg1 hg hget hnews hlen hcell hfrz hlenv hone
 go_enter Tryz.func10,Tryz.ntmps10
 go_wp2_with fail
 go_region_law_o (refine step_append_room rfl (.tmp 22) (.tmp 25) 37 rfl 48 i0 6 tS hi0 hz1 g 0 i cap (by simp[Act.eval,Act.put]) A (n - j) (cap - j) news (by simp[Act.eval,Act.put]) s1.out hsrc.out s2.out (by omega) s3.out ?_;rw[← hW.out])
 go_wp2
 go_ret
 have e1:i+(n - j)=n - 1:=by omega
 refine⟨?_,(Builtin.zeroCells #[Value.int .i64 0,Value.int .i64 0,Value.int .i64 0,Value.int .u8 0,Value.int .i64 0,Value.int .i64 0] (n - (i+(n - j)))).toList,?_,?_⟩
 ·rw[← e1];rfl
 ·rw[zeros_len,e1,show n - (n - 1)=1 by omega];rfl
 ·have hW':=hW.out
  rw[Nat.zero_add] at hW'
  rw[← hW',e1]
def g_slices_Delete_api_Bound_api_Bound(s:List T_api_Bound)(i j:Int):Option (List T_api_Bound):=if 0≤i∧i < (s.length:Int)∧j=i+1 then some (s.take i.toNat++s.drop (i.toNat+1)) else none
theorem flat_cut{k:Nat}:∀ (l:List D) (i:Nat),(∀ x ∈ l,x.cells.length=k)→(l.flatMap D.cells).take (i * k)=(l.take i).flatMap D.cells∧(l.flatMap D.cells).drop (i * k)=(l.drop i).flatMap D.cells
 | [],i,_=>by simp
 | x::t,0,_=>by simp
 | x::t,i+1,h=>by
  have ih:=flat_cut t i fun y hy=>h y (by simp[hy])
  have hx:=h x (by simp)
  rw[List.flatMap_cons,List.take_append,List.drop_append,hx,List.take_of_length_le (by rw[hx,Nat.succ_mul];omega),List.drop_of_length_le (by rw[hx,Nat.succ_mul];omega),show(i+1) * k - k=i * k by rw[Nat.succ_mul];omega,ih.1,ih.2]
  simp
theorem a_slices_Delete_api_Bound_api_Bound{I:World→Prop}(hI:Stab I){H:Nat→Option Blk}{nid i0:Nat}{s:List T_api_Bound}{i j:Int}{r:List T_api_Bound}(h:g_slices_Delete_api_Bound_api_Bound s i j=some r)(b0:H i0=some (.vec 48 6 (s.map T_api_Bound.d) false)) :
  CallOK Tryz.prog I 10 [.own i0 s.length,.int .i64 i,.int .i64 j] H nid (.own nid r.length) [(i0,none),(nid,some (.vec 48 6 (r.map T_api_Bound.d) false))]:=by
 unfold g_slices_Delete_api_Bound_api_Bound at h
 split at h
 case isFalse=>cases h
 rename_i hc
 cases h
 obtain⟨hi0,hi1,rfl⟩:=hc
 obtain⟨i,rfl⟩:=Int.eq_ofNat_of_zero_le hi0
 rw[Int.toNat_natCast]
 have hin:i < s.length:=by omega
 refine⟨by kernel_rfl,fun ii w C B args hI hb0 hM hok hF hbase hnid hal hrep=>?_⟩
 obtain⟨v,v1,v2,rfl⟩:∃ v v1 v2,args=[v,v1,v2]:=by
  match args,hal with
  | [v,v1,v2],_=>exact⟨v,v1,v2,rfl⟩
 have hv:=hrep 0 v _ rfl rfl
 have hv1:=hrep 1 v1 _ rfl rfl
 have hv2:=hrep 2 v2 _ rfl rfl
 cases hv1
 cases hv2
 obtain⟨hlv,hB⟩:=hok.rep i0 _ b0
 obtain⟨vals,hown,hcl,hRL,hfz⟩:=hB
 have hnoid:H nid=none:=by
  cases hn2:H nid with
  | none=>rfl
  | some b=>exact absurd (hok.rep _ _ hn2).1 hnid
 generalize hrl:s.take i++s.drop (i+1)=r
 have hrlen:r.length=s.length - 1:=by rw[← hrl];simp;omega
 have hcase:∀ id' b,appEff H [(i0,none),(nid,some (.vec 48 6 (r.map T_api_Bound.d) false))] id'=some b→(id'=nid∧b=.vec 48 6 (r.map T_api_Bound.d) false)∨(id'≠nid∧id'≠i0∧H id'=some b):=by
  intro id' b hb
  rcases appEff_cases _ _ _ _ hb with⟨k1,k2⟩|k1
  ·exact .inr ⟨fun e'=>k1 (nid,some (.vec 48 6 (r.map T_api_Bound.d) false)) (by simp) e'.symm,fun e'=>k1 (i0,none) (by simp) e'.symm,k2⟩
  ·simp only[List.mem_cons,Prod.mk.injEq,reduceCtorEq,and_false,false_or,Option.some.injEq,List.not_mem_nil,or_false] at k1
   exact .inl k1
 cases hv with
 | own _ _ c A _ hm hs =>
 rw[hs,List.length_map] at hown
 obtain⟨hvl,hnil|⟨g,cap,cur,hsl,_,hg,hncap,hcapm,hcs,htk⟩⟩:=hown
 ·omega
 injection hsl with hA hn hcap
 subst hA hcap
 have hone:∀ u ∈ cur.toList.take (s.length * 6),u.oneCell'=true:=fun u hu=>hRL.one u (by rw[← htk];exact hu)
 have hlt:g < w.heap.size:=(Array.getElem?_eq_some_iff.1 hg).1
 refine(run_Delete_Bound g s.length c i cur w hg hin hncap hcapm hcs hone).mono ?_
 rintro e w' ⟨rfl,zs,hz,hw'⟩
 have hnl:((cur.toList.take (s.length * 6)).drop ((i+1) * 6)).length=(s.length - (i+1)) * 6:=by rw[List.length_drop,htk,hvl,Nat.sub_mul]
 have hcl':cur.toList.length=c * 6:=by simpa using hcs
 -- the cells behind the call
 obtain⟨R,hR,hRs,hRt⟩:∃ R:Array Value,w'=w.drew.setRow g R∧R.size=c * 6∧R.toList.take ((s.length - 1) * 6)=vals.take (i * 6)++vals.drop ((i+1) * 6):=by
  have h1:=setCells_setRow g ((cur.toList.take (s.length * 6)).drop ((i+1) * 6)) (i * 6) w.drew cur 48 (0,0) hg (by rw[hnl,Nat.sub_mul];omega)
  rw[h1] at hw'
  have hlen1:(cur.toList.take (i * 6)++(cur.toList.take (s.length * 6)).drop ((i+1) * 6)++cur.toList.drop (i * 6+((cur.toList.take (s.length * 6)).drop ((i+1) * 6)).length)).length=c * 6:=by
   simp only[List.length_append,List.length_take,List.length_drop,hcl']
   omega
  rw[setCells_setRow g zs _ _ _ 48 (0,0) (setRow_heap w.drew g cur _ 48 (0,0) hg) (by rw[List.size_toArray,hlen1,hz];omega),setRow_setRow] at hw'
  refine⟨_,hw',?_,?_⟩
  ·simp only[List.size_toArray,List.length_append,List.length_take,List.length_drop,hz] at hlen1 ⊢
   omega
  ·have ha:(cur.toList.take (i * 6)++(cur.toList.take (s.length * 6)).drop ((i+1) * 6)).length=(s.length - 1) * 6:=by
    rw[List.length_append,hnl,List.length_take];omega
   rw[List.append_assoc,List.take_append_of_le_length (by rw[List.length_take];simp only[List.toList_toArray,hlen1];omega),List.take_take,Nat.min_self]
   simp only[List.toList_toArray]
   rw[List.take_append_of_le_length (by omega),List.take_of_length_le (by omega),htk]
   congr 1
   rw[← htk,List.take_take,Nat.min_eq_left (by omega)]
 have hbel:BelM B.M w w':=by
  rw[hR]
  refine⟨rfl,rfl,rfl,by rw[setRow_size];exact Nat.le_refl _,fun k hk hkm=>?_⟩
  have hne:k≠g:=fun e=>hkm (e ▸ hok.own _ _ b0 g (by rw[hs];rfl))
  exact setRow_other w.drew g k _ hne
 have hblk:∀ k,k≠g→w'.heap[k]? = w.heap[k]?:=fun k hk=>by rw[hR];exact setRow_other w.drew g k _ hk
 have hg':w'.heap[g]? = some (.cells R 48 (0,0)):=by rw[hR];exact setRow_heap w.drew g cur _ 48 (0,0) hg
 let C2:Cx:=⟨C.F,fun q=>if q=nid then .slice (some ⟨g,0,none⟩) (s.length - 1) c else C.σ q,fun q=>C.live q∨q=nid⟩
 have hσ2:∀ q,C.live q→C2.σ q=C.σ q:=fun q hid=>by
  have:q≠nid:=fun e=>hnid (e ▸ hid)
  simp only[C2,if_neg this]
 have hσn:C2.σ nid=.slice (some ⟨g,0,none⟩) (s.length - 1) c:=by simp only[C2,if_true]
 have hbo:blockOf (C2.σ nid)=blockOf (C.σ i0):=by rw[hσn,hs];rfl
 have hnF:∀ o,¬ C.F g o:=fun o ho=>by
  have:=((hfz g (by rw[hs];rfl)).1 o ho).1
  cases this
 have hext:Ext C w C2 w':=⟨fun _ _ h=>h,fun b o hbo'=>hblk b (fun e=>hnF o (e ▸ hbo')),fun _ h=>.inl h,hσ2⟩
 have hk6:∀ x ∈ s.map T_api_Bound.d,x.cells.length=6:=fun x hx=>by obtain⟨y,_,rfl⟩:=List.mem_map.1 hx;rfl
 refine⟨_,C2,rfl,hbel,hext,by rw[hrlen];exact .own nid (s.length - 1) c _ (.inr rfl) (by omega) hσn,?_,fun b o hbo'=>Nat.lt_of_lt_of_le (hF b o hbo') hbel.size,fun _ h=>h,fun _ _ h=>.inl h⟩
 refine⟨fun id' b hb'=>?_,fun id' b hb' g' hg2=>?_,fun id' kk cs hb'=>?_,fun id1 id2 b1 b2 hb1 hb2 hne2 g' hg2 hg3=>?_⟩
 ·rcases hcase id' b hb' with⟨rfl,rfl⟩|⟨hne,hne',k⟩
  ·refine⟨.inr rfl,vals.take (i * 6)++vals.drop ((i+1) * 6),?_,fun x hx=>by obtain⟨y,_,rfl⟩:=List.mem_map.1 hx;rfl,?_,fun g' hg2=>⟨fun o ho=>?_,fun h=>by cases h⟩⟩
   ·rw[hσn,List.length_map,hrlen]
    refine⟨by rw[List.length_append,List.length_take,List.length_drop,hvl];omega,.inr ⟨g,c,R,rfl,Nat.zero_le _,hg',by omega,hcapm,hRs,hRt⟩⟩
   ·have f1:=flat_cut (s.map T_api_Bound.d) i hk6
    have f2:=flat_cut (s.map T_api_Bound.d) (i+1) hk6
    have:(r.map T_api_Bound.d).flatMap D.cells=((s.map T_api_Bound.d).flatMap D.cells).take (i * 6)++((s.map T_api_Bound.d).flatMap D.cells).drop ((i+1) * 6):=by
     rw[f1.1,f2.2,← hrl,List.map_append,List.flatMap_append,List.map_take,List.map_drop]
    rw[this]
    exact(hRL.take _).append (hRL.drop _) |>.ext hext.cF
   ·rw[hσn] at hg2
    simp only[Value.ownBlock,Option.some.injEq] at hg2
    subst hg2
    exact absurd ho (hnF o)
  ·obtain⟨k1,k2⟩:=hok.rep id' b k
   refine⟨.inl k1,k2.keep k1 hext (fun g' hg2=>hblk g' fun e'=>?_) fun _ _ _ h=>h⟩
   exact hok.apart _ _ _ _ b0 k (Ne.symm hne') g (by rw[hs];rfl) (e' ▸ hg2)
 ·rcases hcase id' b hb' with⟨rfl,rfl⟩|⟨hne,hne',k⟩
  ·rw[hbo] at hg2;exact hok.own _ _ b0 g' hg2
  ·rw[hσ2 id' (hok.rep _ _ k).1] at hg2;exact hok.own _ _ k g' hg2
 ·rcases hcase id' _ hb' with⟨rfl,h⟩|⟨hne,hne',k⟩
  ·cases h
  ·rw[hσ2 id' (hok.rep _ _ k).1];exact hok.pin _ _ _ k
 ·rcases hcase id1 b1 hb1 with⟨rfl,rfl⟩|⟨hne,hne',k⟩
  ·rw[hbo] at hg2
   rcases hcase id2 b2 hb2 with⟨rfl,rfl⟩|⟨hne3,hne4,k'⟩
   ·exact hne2 rfl
   ·rw[hσ2 id2 (hok.rep _ _ k').1] at hg3
    exact hok.apart _ _ _ _ b0 k' (Ne.symm hne4) g' hg2 hg3
  ·rw[hσ2 id1 (hok.rep _ _ k).1] at hg2
   rcases hcase id2 b2 hb2 with⟨rfl,rfl⟩|⟨hne3,hne4,k'⟩
   ·rw[hbo] at hg3
    exact hok.apart _ _ _ _ k b0 hne' g' hg2 hg3
   ·rw[hσ2 id2 (hok.rep _ _ k').1] at hg3
    exact hok.apart _ _ _ _ k k' hne2 g' hg2 hg3
set_option maxHeartbeats 10000000
structure T_captionertop_House where
 Doc:T_api_Document
 House:T_api_Profile
 Shots:List Int
 Tol:Int
 deriving DecidableEq
def T_captionertop_House.d(x:T_captionertop_House):D:=.agg [.str x.Doc.Title,.str x.Doc.Lang,.int .u8 x.Doc.Rate,.bool x.Doc.Drop,.int .i64 x.Doc.Last,.sl (x.Doc.Regions.map T_api_Region.d),.sl (x.Doc.Events.map T_api_Event.d),.sl (x.Doc.Comments.map T_api_Comment.d),.str x.House.Name,.int .i64 x.House.Reading,.int .i64 x.House.MinFrames,.int .i64 x.House.MaxFrames,.int .i64 x.House.MinGap,.int .i64 x.House.ShotBefore,.int .i64 x.House.ShotAfter,.int .i64 x.House.Rows,.int .i64 x.House.Cols,.str x.House.Forbidden,.int .i64 x.House.SafeTop,.int .i64 x.House.SafeBottom,.int .i64 x.House.SafeLeft,.int .i64 x.House.SafeRight,.sl (x.Shots.map (D.int .i64)),.int .i64 x.Tol]
theorem dd_EE:(∀ x,T_api_Region.d x=.agg [.str x.Name,.int .i64 x.Top,.int .i64 x.Height,.int .i64 x.Left,.int .i64 x.Width,.int .u8 x.Align,.bool x.Bottom])∧(∀ x,T_api_Comment.d x=.agg [.int .i64 x.ID,.int .i64 x.Event,.int .i64 x.From,.int .i64 x.To,.str x.Author,.str x.Text,.bool x.Done,.bool x.Lost])∧(∀ x,T_api_Span.d x=.agg [.int .i64 x.In,.int .i64 x.Out])∧(∀ x,T_api_Style.d x=.agg [.int .u8 x.Color,.bool x.Italic,.bool x.Underline])∧(∀ x,T_api_Run.d x=.agg [.str x.Text,.int .u8 x.Style.Color,.bool x.Style.Italic,.bool x.Style.Underline,.str x.Ruby])∧(∀ x,T_api_Row.d x=.agg [.sl (x.Runs.map T_api_Run.d)])∧(∀ x,T_api_Event.d x=.agg [.int .i64 x.ID,.int .i64 x.Span.In,.int .i64 x.Span.Out,.str x.Region,.int .u8 x.Kind,.str x.Speaker,.sl (x.Rows.map T_api_Row.d)])∧(∀ x,T_api_Bound.d x=.agg [.int .i64 x.I,.int .i64 x.J,.int .i64 x.C,.int .u8 x.Rule,.int .i64 x.ID,.int .i64 x.Other])∧(∀ x,T_api_Document.d x=.agg [.str x.Title,.str x.Lang,.int .u8 x.Rate,.bool x.Drop,.int .i64 x.Last,.sl (x.Regions.map T_api_Region.d),.sl (x.Events.map T_api_Event.d),.sl (x.Comments.map T_api_Comment.d)])∧(∀ x,T_api_Profile.d x=.agg [.str x.Name,.int .i64 x.Reading,.int .i64 x.MinFrames,.int .i64 x.MaxFrames,.int .i64 x.MinGap,.int .i64 x.ShotBefore,.int .i64 x.ShotAfter,.int .i64 x.Rows,.int .i64 x.Cols,.str x.Forbidden,.int .i64 x.SafeTop,.int .i64 x.SafeBottom,.int .i64 x.SafeLeft,.int .i64 x.SafeRight])∧(∀ x,T_captionertop_House.d x=.agg [.str x.Doc.Title,.str x.Doc.Lang,.int .u8 x.Doc.Rate,.bool x.Doc.Drop,.int .i64 x.Doc.Last,.sl (x.Doc.Regions.map T_api_Region.d),.sl (x.Doc.Events.map T_api_Event.d),.sl (x.Doc.Comments.map T_api_Comment.d),.str x.House.Name,.int .i64 x.House.Reading,.int .i64 x.House.MinFrames,.int .i64 x.House.MaxFrames,.int .i64 x.House.MinGap,.int .i64 x.House.ShotBefore,.int .i64 x.House.ShotAfter,.int .i64 x.House.Rows,.int .i64 x.House.Cols,.str x.House.Forbidden,.int .i64 x.House.SafeTop,.int .i64 x.House.SafeBottom,.int .i64 x.House.SafeLeft,.int .i64 x.House.SafeRight,.sl (x.Shots.map (D.int .i64)),.int .i64 x.Tol]):=⟨fun _=>rfl,fun _=>rfl,fun _=>rfl,fun _=>rfl,fun _=>rfl,fun _=>rfl,fun _=>rfl,fun _=>rfl,fun _=>rfl,fun _=>rfl,fun _=>rfl⟩
def g_diffcon_Refutes_s1(l_1:List T_api_Bound)(indices_2:List Int)(x0:Int):Option (Nx (Int) (Unit ⊕ Unit)) :=
 (if(decide (x0 < (indices_2.length:Int))) then((atI indices_2 x0).bind fun y0=>(if(decide (y0 < 0)) then(some (.out (.inl ()))) else(if(decide ((l_1.length:Int)≤y0)) then(some (.out (.inl ()))) else(some (.go (IntKind.i64.wrap (x0+1))))))) else(some (.out (.inr ()))))
def g_diffcon_Refutes_s2(l_1:List T_api_Bound)(indices_2:List Int)(x0:Int × Int × Int):Option (Nx (Int × Int × Int) (Unit ⊕ Int)) :=
 (if(decide (x0.2.2 < (indices_2.length:Int))) then((atI indices_2 x0.2.2).bind fun y0=>((atI l_1 y0).bind fun y1=>(if(y1.I != x0.1) then(some (.out (.inl ()))) else(some (.go (y1.J,(IntKind.i64.wrap (x0.2.1+y1.C)),(IntKind.i64.wrap (x0.2.2+1)))))))) else(some (.out (.inr x0.2.1))))
def g_diffcon_Refutes(n_0:Int)(l_1:List T_api_Bound)(indices_2:List Int):Option (Int) :=
 ((g_diffcon_Check n_0 l_1).bind fun r7=>(if(r7 != 0) then(some r7) else(((if((indices_2.length:Int) == 0) then(some true) else(some (decide (n_0 < (indices_2.length:Int))))):Option (Bool)).bind fun v0=>(if v0 then(some 1) else((iter (g_diffcon_Refutes_s1 l_1 indices_2) 0).bind fun e0=>(match e0 with|Sum.inl e0=>(some 6)|Sum.inr (e0)=>((atI indices_2 (IntKind.i64.wrap ((indices_2.length:Int) - 1))).bind fun y0=>((atI l_1 y0).bind fun y1=>((iter (g_diffcon_Refutes_s2 l_1 indices_2) (y1.J,0,0)).bind fun e1=>(match e1 with|Sum.inl e1=>(some 8)|Sum.inr (e1)=>(if(decide (0≤e1)) then(some 17) else(some 0))))))))))))
theorem a_diffcon_Refutes{I:World→Prop}(hI:Stab I){n_0:Int}{l_1:List T_api_Bound}{indices_2:List Int}{r:Int}(h:g_diffcon_Refutes n_0 l_1 indices_2=some r):AFun Tryz.prog I 12 [.int .i64 n_0,.sl (l_1.map T_api_Bound.d),.sl (indices_2.map (D.int .i64))] (.int .i64 r):=by
 have dd:=dd_EE;have k:=True.intro;have q:=k;have rs:=Tryz.results12;unfold g_diffcon_Refutes at h;refine .en hI Tryz.func12 Tryz.ntmps12 ?_;refine xs<|rz ?_;refine es<|xs<|xs<|rK fun K _ E J=>zz ?_;obtain⟨r7,h8,h⟩:=bs h;refine cw (a_diffcon_Check hI h8)<|zz ?_;subst E J;refine es<|xs<|rz ?_;refine es ?_;obtain⟨k,h⟩|⟨k,h⟩:=iK k h
 ·refine xt<|xs<|rz ?_;refine es<|xr<|er ?_;cases h;exact en fr
 refine xf<|xk<|es<|xs ?_;obtain⟨v0,h0,h⟩:=bs h;refine rb_cut (fun v0=>⟨envL [(1,.sl (l_1.map T_api_Bound.d)),(2,.sl (indices_2.map (D.int .i64))),(28,.bool v0)],heapL [],0,82⟩) h0 ?_ ?_
 ·clear h;intro v0 h;refine rK fun K _ E J=>zz ?_;obtain⟨k,h⟩|⟨k,h⟩:=iK k h
  ·refine zz ?_;subst E J;cases h;exact en ⟨rfl,wk []⟩
  refine zz ?_;subst E J;cases h;exact en ⟨rfl,wk []⟩
 obtain⟨k,h⟩|⟨k,h⟩:=iK k h
 ·refine xt<|xs<|rz ?_;refine es<|xr<|er ?_;cases h;exact en fr
 refine xf<|xk<|es<|xs<|xs<|rz ?_;refine es<|xb ?_;obtain⟨e0,h1,h⟩:=bs h;refine rb_loop (fun x0=>⟨envL [(1,.sl (l_1.map T_api_Bound.d)),(2,.sl (indices_2.map (D.int .i64))),(29,.sl (indices_2.map (D.int .i64))),(30,.int .i64 (indices_2.length:Int)),(31,.int .i64 x0)],heapL [],0,82⟩) (fun w=>match w with|Sum.inl _=>.ret|Sum.inr (_)=>.exit 0) (fun w=>match w with|Sum.inl e0=>⟨envL [(6,.int .i64 6)],heapL [],0,82⟩|Sum.inr (e0)=>⟨envL [(1,.sl (l_1.map T_api_Bound.d)),(2,.sl (indices_2.map (D.int .i64)))],heapL [],0,82⟩) h1 (wk []) (by intro w;rcases w with w|w<;>simp) ?_ ?_
 ·clear h;intro x0 y h;unfold g_diffcon_Refutes_s1 at h;refine xs<|rz ?_;refine es<|xs ?_;obtain⟨k,h⟩|⟨k,h⟩:=iK k h
  ·refine xt<|xk<|es<|xs<|xb<|xs<|rK fun K _ E J=>zz ?_;obtain⟨y0,q,h⟩:=bK q h;refine zz ?_;subst E J;refine es<|xs<|rK fun K _ E J=>zz ?_;obtain⟨k,h⟩|⟨k,h⟩:=iK k h
   ·refine zz ?_;subst E J;refine es<|xt<|xs<|rz ?_;refine es<|xr<|br<|er ?_;cases h;exact en ⟨rfl,wk []⟩
   refine zz ?_;subst E J;refine es ?_;obtain⟨k,h⟩|⟨k,h⟩:=iK k h
   ·refine xt<|xs<|rz ?_;refine es<|xr<|br<|er ?_;cases h;exact en ⟨rfl,wk []⟩
   refine xf<|xk<|bn<|es<|rz ?_;cases h;exact en ⟨rfl,wk []⟩
  refine xf<|xx<|ee ?_;cases h;exact en ⟨rfl,wk []⟩
 rcases e0 with e0|e0
 ·try dsimp only at h ⊢
  refine br<|er ?_;cases h;exact en fr
 try dsimp only at h ⊢
 refine bh<|es<|xs<|rK fun K _ E J=>zz ?_;obtain⟨y1,q,h⟩:=bK q h;refine zz ?_;obtain⟨y2,q,h⟩:=bK q h;refine zz ?_;subst E J;refine es<|xs<|rz ?_;refine es<|xs<|xs<|rz ?_;refine es<|xb ?_;obtain⟨e1,h2,h⟩:=bs h;refine rb_loop (fun x1=>⟨envL [(1,.sl (l_1.map T_api_Bound.d)),(10,.int .i64 x1.1),(11,.int .i64 x1.2.1),(54,.sl (indices_2.map (D.int .i64))),(55,.int .i64 (indices_2.length:Int)),(56,.int .i64 x1.2.2)],heapL [],0,82⟩) (fun w=>match w with|Sum.inl _=>.ret|Sum.inr (_)=>.exit 2) (fun w=>match w with|Sum.inl e1=>⟨envL [(6,.int .i64 8)],heapL [],0,82⟩|Sum.inr (e1)=>⟨envL [(11,.int .i64 e1)],heapL [],0,82⟩) h2 (wk []) (by intro w;rcases w with w|w<;>simp) ?_ ?_
 ·clear h;intro x1 y h;unfold g_diffcon_Refutes_s2 at h;refine xs<|rz ?_;refine es<|xs ?_;obtain⟨k,h⟩|⟨k,h⟩:=iK k h
  ·refine xt<|xk<|es<|xs<|xb<|xs<|rK fun K _ E J=>zz ?_;obtain⟨y3,q,h⟩:=bK q h;refine zz ?_;subst E J;refine es<|xs<|xs<|rK fun K _ E J=>zz ?_;obtain⟨y4,q,h⟩:=bK q h;refine zz ?_;subst E J;refine es ?_;obtain⟨k,h⟩|⟨k,h⟩:=iK k h
   ·refine xt<|xs<|rz ?_;refine es<|xr<|er<|br<|er ?_;cases h;exact en ⟨rfl,wk []⟩
   refine xf<|xk<|es<|xs<|rz ?_;refine es<|rz ?_;refine bn<|es<|rz ?_;cases h;exact en ⟨rfl,wk []⟩
  refine xf<|xx<|ee ?_;cases h;exact en ⟨rfl,wk []⟩
 rcases e1 with e1|e1
 ·try dsimp only at h ⊢
  refine br<|er ?_;cases h;exact en fr
 try dsimp only at h ⊢
 refine bh<|es<|xs<|xs<|rz ?_;refine es ?_;obtain⟨k,h⟩|⟨k,h⟩:=iK k h
 ·refine xt<|xs<|rz ?_;refine es<|xr<|er ?_;cases h;exact en fr
 refine xf<|xk<|es<|xs<|rz ?_;refine es<|xr ?_;cases h;exact en fr
def g_slices_Index_api_Bound_api_Bound_s1(s_0:List T_api_Bound)(v_1:T_api_Bound)(x5:Int):Option (Nx (Int) (Int ⊕ Unit)) :=
 (if(decide (x5 < (s_0.length:Int))) then((atI s_0 x5).bind fun y0=>(if((v_1.I == y0.I)&&((v_1.J == y0.J)&&((v_1.C == y0.C)&&((v_1.Rule == y0.Rule)&&((v_1.ID == y0.ID)&&(v_1.Other == y0.Other)))))) then(some (.out (.inl x5))) else(some (.go (IntKind.i64.wrap (x5+1)))))) else(some (.out (.inr ()))))
def g_slices_Index_api_Bound_api_Bound(s_0:List T_api_Bound)(v_1:T_api_Bound):Option (Int) :=
 ((iter (g_slices_Index_api_Bound_api_Bound_s1 s_0 v_1) 0).bind fun e6=>(match e6 with|Sum.inl e6=>(some e6)|Sum.inr (e6)=>(some (-1))))
theorem a_slices_Index_api_Bound_api_Bound{I:World→Prop}(hI:Stab I){s_0:List T_api_Bound}{v_1:T_api_Bound}{r:Int}(h:g_slices_Index_api_Bound_api_Bound s_0 v_1=some r):AFun Tryz.prog I 32 [.sl (s_0.map T_api_Bound.d),T_api_Bound.d v_1] (.int .i64 r):=by
 have dd:=dd_EE;have k:=True.intro;have q:=k;have rs:=Tryz.results32;unfold g_slices_Index_api_Bound_api_Bound at h;refine .en hI Tryz.func32 Tryz.ntmps32 ?_;refine xs<|rz ?_;refine es<|xs<|xs<|rz ?_;refine es<|xb ?_;obtain⟨e6,h0,h⟩:=bs h;refine rb_loop (fun x5=>⟨envL [(0,.sl (s_0.map T_api_Bound.d)),(3,.ptr 0 0),(7,.int .i64 (s_0.length:Int)),(8,.int .i64 x5)],heapL [(0,.box none [.int .i64 v_1.I,.int .i64 v_1.J,.int .i64 v_1.C,.int .u8 v_1.Rule,.int .i64 v_1.ID,.int .i64 v_1.Other])],1,19⟩) (fun w=>match w with|Sum.inl _=>.ret|Sum.inr (_)=>.exit 0) (fun w=>match w with|Sum.inl e6=>⟨envL [(4,.int .i64 e6)],heapL [],0,19⟩|Sum.inr (e6)=>⟨envL [],heapL [],0,19⟩) h0 (wk []) (by intro w;rcases w with w|w<;>simp) ?_ ?_
 ·clear h;intro x5 y h;unfold g_slices_Index_api_Bound_api_Bound_s1 at h;refine xs<|rz ?_;refine es<|xs ?_;obtain⟨k,h⟩|⟨k,h⟩:=iK k h
  ·refine xt<|xk<|es<|xs<|xb<|xs<|rz ?_;refine es<|xs<|rD hI fun K _ E J=>zz ?_;obtain⟨y0,q,h⟩:=bK q h;refine zz ?_;subst E J;refine es ?_;obtain⟨k,h⟩|⟨k,h⟩:=iK k h
   ·refine xt<|xs<|rz ?_;refine es<|xr<|br<|er ?_;cases h;exact en ⟨rfl,wk []⟩
   refine xf<|xk<|bn<|es<|rz ?_;cases h;exact en ⟨rfl,wk []⟩
  refine xf<|xx<|ee ?_;cases h;exact en ⟨rfl,wk []⟩
 rcases e6 with e6|e6
 ·try dsimp only at h ⊢
  refine br<|er ?_;cases h;exact en fr
 try dsimp only at h ⊢
 refine bh<|es<|xs<|rz ?_;refine es<|xr ?_;cases h;exact en fr
def g_slices_Contains_api_Bound_api_Bound(s_0:List T_api_Bound)(v_1:T_api_Bound):Option (Bool) :=
 ((g_slices_Index_api_Bound_api_Bound s_0 v_1).bind fun r7=>(some (decide (0≤r7))))
theorem a_slices_Contains_api_Bound_api_Bound{I:World→Prop}(hI:Stab I){s_0:List T_api_Bound}{v_1:T_api_Bound}{r:Bool}(h:g_slices_Contains_api_Bound_api_Bound s_0 v_1=some r):AFun Tryz.prog I 8 [.sl (s_0.map T_api_Bound.d),T_api_Bound.d v_1] (.bool r):=by
 have dd:=dd_EE;have k:=True.intro;have q:=k;have rs:=Tryz.results8;unfold g_slices_Contains_api_Bound_api_Bound at h;refine .en hI Tryz.func8 Tryz.ntmps8 ?_;refine xs<|rz ?_;refine es<|xs<|rK fun K _ E J=>zz ?_;obtain⟨r7,h8,h⟩:=bs h;refine cw (a_slices_Index_api_Bound_api_Bound hI h8)<|zz ?_;subst E J;refine es<|xr ?_;cases h;exact en fr
def g_captionertop_houseFew(d_0:T_api_Document):Option (T_api_Document) :=
 ((subH d_0.Events (if 4 < (d_0.Events.length:Int) then 4 else(d_0.Events.length:Int))).bind fun z0=>((subH d_0.Comments (if 3 < (d_0.Comments.length:Int) then 3 else(d_0.Comments.length:Int))).bind fun z1=>((subH d_0.Regions (if 4 < (d_0.Regions.length:Int) then 4 else(d_0.Regions.length:Int))).bind fun z2=>(some (T_api_Document.mk d_0.Title d_0.Lang d_0.Rate d_0.Drop d_0.Last z2 z0 z1)))))
theorem a_captionertop_houseFew{I:World→Prop}(hI:Stab I){d_0:T_api_Document}{r:T_api_Document}(h:g_captionertop_houseFew d_0=some r):AFun Tryz.prog I 22 [T_api_Document.d d_0] (T_api_Document.d r):=by
 have dd:=dd_EE;have k:=True.intro;have q:=k;have rs:=Tryz.results22;unfold g_captionertop_houseFew at h;refine .en hI Tryz.func22 Tryz.ntmps22 ?_;refine xs<|rz ?_;refine es<|xs<|rP hI fun K0 E=>rgP_cons<|zq ?_;refine sP.light rfl fd<|rgP_cons<|zq ?_;refine sP.foot (.cell 0 6 1) (fun _=>FootOK.ld rfl rfl rfl (by kernel_rfl) (by decide)) fd (by first|exact .inl (by first|rfl|decide)|exact .inr (by kernel_rfl))<|rgP_cons<|zq ?_;refine sP.light rfl fd<|rgP_cons<|zq ?_;refine sP.foot (.cell 0 6 1) (fun _=>FootOK.ld rfl rfl rfl (by kernel_rfl) (by decide)) fd (by first|exact .inl (by first|rfl|decide)|exact .inr (by kernel_rfl))<|rgP_cons<|zq ?_;refine sP.light rfl fd<|rgP_cons<|zq ?_;refine sP.light rfl fd<|rgP_cons<|zq ?_;obtain⟨z0,h0,h⟩:=bind_some h;obtain⟨⟨h1,h2⟩,h3⟩:=subH_some h0;have q:=And.intro @h1<|And.intro @h2<|q;try simp -implicitDefEqProofs only[vt,vm,sevalprocAttr,dd,k,q] at h3
 have q:=And.intro @h3<|q;refine zq ?_;refine sP.foot (.ids []) (fun hN=>FootOK.idsB [] (by rfl) rfl hN) fd (by first|exact .inl (by first|rfl|decide)|exact .inr (by kernel_rfl))<|rgP_cons<|zq ?_;refine sP.light rfl fd<|rgP_cons<|zq ?_;refine sP.foot (.cell 0 7 1) (fun _=>FootOK.ld rfl rfl rfl (by kernel_rfl) (by decide)) fd (by first|exact .inl (by first|rfl|decide)|exact .inr (by kernel_rfl))<|rgP_cons<|zq ?_;refine sP.light rfl fd<|rgP_cons<|zq ?_;refine sP.foot (.cell 0 7 1) (fun _=>FootOK.ld rfl rfl rfl (by kernel_rfl) (by decide)) fd (by first|exact .inl (by first|rfl|decide)|exact .inr (by kernel_rfl))<|rgP_cons<|zq ?_;refine sP.light rfl fd<|rgP_cons<|zq ?_;refine sP.light rfl fd<|rgP_cons<|zq ?_;obtain⟨z1,h4,h⟩:=bind_some h;obtain⟨⟨h5,h6⟩,h7⟩:=subH_some h4;have q:=And.intro @h5<|And.intro @h6<|q;try simp -implicitDefEqProofs only[vt,vm,sevalprocAttr,dd,k,q] at h7
 have q:=And.intro @h7<|q;refine zq ?_;refine sP.foot (.ids []) (fun hN=>FootOK.idsB [] (by rfl) rfl hN) fd (by first|exact .inl (by first|rfl|decide)|exact .inr (by kernel_rfl))<|rgP_cons<|zq ?_;refine sP.light rfl fd<|rgP_cons<|zq ?_;refine sP.foot (.cell 0 5 1) (fun _=>FootOK.ld rfl rfl rfl (by kernel_rfl) (by decide)) fd (by first|exact .inl (by first|rfl|decide)|exact .inr (by kernel_rfl))<|rgP_cons<|zq ?_;refine sP.light rfl fd<|rgP_cons<|zq ?_;refine sP.foot (.cell 0 5 1) (fun _=>FootOK.ld rfl rfl rfl (by kernel_rfl) (by decide)) fd (by first|exact .inl (by first|rfl|decide)|exact .inr (by kernel_rfl))<|rgP_cons<|zq ?_;refine sP.light rfl fd<|rgP_cons<|zq ?_;refine sP.light rfl fd<|rgP_cons<|zq ?_;obtain⟨z2,h8,h⟩:=bind_some h;obtain⟨⟨h9,h10⟩,h11⟩:=subH_some h8;have q:=And.intro @h9<|And.intro @h10<|q;try simp -implicitDefEqProofs only[vt,vm,sevalprocAttr,dd,k,q] at h11
 have q:=And.intro @h11<|q;refine zq ?_;refine sP.foot (.ids []) (fun hN=>FootOK.idsB [] (by rfl) rfl hN) fd (by first|exact .inl (by first|rfl|decide)|exact .inr (by kernel_rfl))<|rgP_cons<|zq ?_;refine sP.light rfl fd<|rgP_cons<|zq ?_;refine sP.pat 0 6 1 rfl rfl rfl<|rgP_cons<|zq ?_;refine sP.light rfl fd<|rgP_cons<|zq ?_;refine sP.pat 0 7 1 rfl rfl rfl<|rgP_cons<|zq ?_;refine sP.light rfl fd<|rgP_cons<|zq ?_;refine sP.pat 0 5 1 rfl rfl rfl<|zq ?_;refine rgP_nil fk ?_;subst E;refine es<|xs<|rz ?_;refine es<|xr ?_;cases h;exact en fr
def g_captionertop_houseTask(t_0:T_captionertop_House):Option (T_captionertop_House) :=
 ((g_captionertop_houseFew t_0.Doc).bind fun r0=>((subH t_0.Shots (if 5 < (t_0.Shots.length:Int) then 5 else(t_0.Shots.length:Int))).bind fun z0=>(some (T_captionertop_House.mk r0 t_0.House z0 t_0.Tol))))
theorem a_captionertop_houseTask{I:World→Prop}(hI:Stab I){t_0:T_captionertop_House}{r:T_captionertop_House}(h:g_captionertop_houseTask t_0=some r):AFun Tryz.prog I 5 [T_captionertop_House.d t_0] (T_captionertop_House.d r):=by
 have dd:=dd_EE;have k:=True.intro;have q:=k;have rs:=Tryz.results5;unfold g_captionertop_houseTask at h;refine .en hI Tryz.func5 Tryz.ntmps5 ?_;refine xs<|rz ?_;refine es<|xs<|rP hI fun K0 E=>rgP_cons<|zq ?_;refine sP.light rfl fd<|rgP_cons<|zq ?_;refine sP.foot (.cell 0 0 8) (fun _=>FootOK.ld rfl rfl rfl (by kernel_rfl) (by decide)) fd (by first|exact .inl (by first|rfl|decide)|exact .inr (by kernel_rfl))<|rgP_cons<|zq ?_;obtain⟨r0,h0,h⟩:=bs h;refine cP.intro (a_captionertop_houseFew hI h0) fi (.ids []) (fun hN=>FootOK.idsB [] (by rfl) rfl hN) fd (by first|exact .inl (by first|rfl|decide)|exact .inr (by kernel_rfl))<|rgP_cons<|zq ?_;refine sP.light rfl fd<|rgP_cons<|zq ?_;refine sP.foot (.cell 0 22 1) (fun _=>FootOK.ld rfl rfl rfl (by kernel_rfl) (by decide)) fd (by first|exact .inl (by first|rfl|decide)|exact .inr (by kernel_rfl))<|rgP_cons<|zq ?_;refine sP.light rfl fd<|rgP_cons<|zq ?_;refine sP.foot (.cell 0 22 1) (fun _=>FootOK.ld rfl rfl rfl (by kernel_rfl) (by decide)) fd (by first|exact .inl (by first|rfl|decide)|exact .inr (by kernel_rfl))<|rgP_cons<|zq ?_;refine sP.light rfl fd<|rgP_cons<|zq ?_;refine sP.light rfl fd<|rgP_cons<|zq ?_;obtain⟨z0,h1,h⟩:=bind_some h;obtain⟨⟨h2,h3⟩,h4⟩:=subH_some h1;have q:=And.intro @h2<|And.intro @h3<|q;try simp -implicitDefEqProofs only[vt,vm,sevalprocAttr,dd,k,q] at h4
 have q:=And.intro @h4<|q;refine zq ?_;refine sP.foot (.ids []) (fun hN=>FootOK.idsB [] (by rfl) rfl hN) fd (by first|exact .inl (by first|rfl|decide)|exact .inr (by kernel_rfl))<|rgP_cons<|zq ?_;refine sP.light rfl fd<|rgP_cons<|zq ?_;refine sP.pat 0 0 8 rfl rfl rfl<|rgP_cons<|zq ?_;refine sP.light rfl fd<|rgP_cons<|zq ?_;refine sP.pat 0 22 1 rfl rfl rfl<|zq ?_;refine rgP_nil fk ?_;subst E;refine es<|xs<|rz ?_;refine es<|xr ?_;cases h;exact en fr
end Go.Proofs.YtejeinnfompgpaaGreatDoor
