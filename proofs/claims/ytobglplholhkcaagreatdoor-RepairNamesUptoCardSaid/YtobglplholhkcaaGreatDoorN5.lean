/- Texts of one proof, put together (GCl, GSm, ED, EE, EF, EG, EI, V1, EJ, EK, V1n, V2, V4, V5, D1, D2, V6, V14). No condition but those that each theorem states. -/
import Derived.Test.YtobglplholhkcaaGreatDoorN4
import Derived.Lib.Walk
import Derived.Lib.SliceRun
import Derived.Lib.ValidLaws
set_option linter.unusedSimpArgs false
set_option linter.unusedVariables false
namespace Go.Proofs.YtobglplholhkcaaGreatDoor
open Go.RowKit
set_option maxRecDepth 100000
set_option maxHeartbeats 4000000
theorem sl_cells {w:World} {C:Cx} {v:Value} {xs:List D} {k:Nat} (h:Rep w C v (.sl xs)) (hne:xs≠[]) (hk:∀ x ∈ xs,x.cells.length=k) :
  ∃ b off c vals,v=.slice (some ⟨b,off,none⟩) xs.length c∧vals.length=xs.length * k∧(∀ u ∈ vals,u.oneCell'=true)∧(∀ j u,vals[j]? = some u→w.cell? ((⟨b,off,none⟩:Addr).add j)=some u)∧RepL (cF C.F) w vals (xs.flatMap D.cells)∧xs.length≤maxLen:=by
 cases h with
 | sl0 A c hm=>exact absurd rfl hne
 | sl b off k' c _ vals hc hm hk' hlv hone hF hcell hrep =>
  refine⟨b,off,c,vals,rfl,?_,hone,fun j u hj=>?_,⟨hlv,hone,hrep⟩,Nat.le_trans hc hm⟩
  ·rw[hlv]
   have:∀ (l:List D),(∀ x ∈ l,x.cells.length=k)→(l.flatMap D.cells).length=l.length * k:=by
    intro l
    induction l with
    | nil=>intro _;simp
    | cons x l ih=>intro hl;rw[List.flatMap_cons,List.length_append,hl x (by simp),ih (fun y hy=>hl y (by simp[hy])),List.length_cons,Nat.succ_mul];omega
   exact this xs hk
  ·rw[Addr.add_lit];exact hcell j u hj
theorem info_Region:(Tryz.prog.info? 102).map (fun i=>(i.zero,i.size,i.bytes))=some (some (Value.agg #[Value.string ⟨#[]⟩,Value.int .i64 0,Value.int .i64 0,Value.int .i64 0,Value.int .i64 0,Value.int .u8 0,Value.bool false]),7,56):=by kernel_rfl
theorem run_Clone_Region (ad:Addr) (n c:Nat) (vals:List Value) (w:World) (hl:vals.length=n * 7) (hone:∀ u ∈ vals,u.oneCell'=true) (hcell:∀ j u,vals[j]? = some u→w.cell? (ad.add j)=some u) (hn:n≤maxLen) (hbig:n * 56≤140737488355328) :
  Calls Tryz.prog 63 #[.slice (some ad) n c] w fun e w'=>∃ v',e=.returned v'∧w'.ownsRow w.heap.size 102 7 v' n vals∧Below w.heap.size w w':=by
 obtain⟨i0,hi,hz0,hz1,hz2⟩:=info_parts info_Region
 have tS:Tryz.prog.underlying 33=some (.slice 102):=Tryz.underlying33
 have qS:∀ (w:World) (a:Option Addr) (n c n' c':Nat),(binOp .eql 33 (.slice a n c) (.slice none n' c')).run Tryz.prog w=.ok (.bool a.isNone) w:=fun w a n c n' c'=>Lib.run_eql_slice_nil w _ _ a n c n' c' tS
 have uS:∀ w,Sem.run Tryz.prog (underlying 33) w=.ok (TypeDesc.slice 102) w:=run_underlying tS
 have A1:Aside (∀ j u,vals[j]? = some u→w.cell? (ad.add j)=some u):=hcell
 have A2:Aside (∀ u ∈ vals,u.oneCell'=true):=hone
 have A3:Aside (vals.length=n * 7):=hl
 clear hcell hone hl
 go_enter Tryz.func63,Tryz.ntmps63
 go_wp2_with (at_builtin;refine wpList_append_own _ rfl _ _ 33 rfl w.heap.size 102 i0 (Value.agg #[Value.string ⟨#[]⟩,Value.int .i64 0,Value.int .i64 0,Value.int .i64 0,Value.int .i64 0,Value.int .u8 0,Value.bool false]) 7 56 tS hi hz0 hz1 hz2 rfl (by decide) _ _ _ rfl (World.ownsRow_made w #[] 0 (Nat.le_refl _) (Nat.zero_le _) rfl) ad n c vals rfl A3.out ?qc2 A2.out (by omega) (by omega) (by simp) ?_)
 case qc2 =>
  intro j u hj
  exact Lib.cell?_alloc_some _ (A1.out j u hj)
 intro v' w1 hown hgrow hnil
 go_wp2
 go_ret
 exact⟨v',rfl,by simpa using hown,((Below.refl _ w).alloc (Nat.le_refl _) _).grown hgrow (by simp) (by intro k hk;simp[Value.ownBlock] at hk;omega)⟩
theorem run_Clone0_Region (n c:Nat) (w:World):Calls Tryz.prog 63 #[.slice none n c] w fun e w'=>e=.returned (.slice none 0 0)∧w'=w:=by
 have tS:Tryz.prog.underlying 33=some (.slice 102):=Tryz.underlying33
 have qS:∀ (w:World) (a:Option Addr) (n c n' c':Nat),(binOp .eql 33 (.slice a n c) (.slice none n' c')).run Tryz.prog w=.ok (.bool a.isNone) w:=fun w a n c n' c'=>Lib.run_eql_slice_nil w _ _ a n c n' c' tS
 go_enter Tryz.func63,Tryz.ntmps63
 go_wp2
 go_ret
 exact⟨rfl,rfl⟩
def g_slices_Clone_api_Region_api_Region (s:List T_api_Region):Option (List T_api_Region):=if s.length * 56≤140737488355328 then some s else none
def g_slices_Clone_api_Region_api_Region_nw (s:List T_api_Region):Option (List T_api_Region):=if s.isEmpty then none else g_slices_Clone_api_Region_api_Region s
theorem a_slices_Clone_api_Region_api_Region_nw {I:World→Prop} (hI:Stab I) {H:Nat→Option Blk} {nid:Nat} {s r:List T_api_Region} (h:g_slices_Clone_api_Region_api_Region_nw s=some r):CallOK Tryz.prog I 63 [.sl (s.map T_api_Region.d)] H nid (.own nid r.length) [(nid,some (.vec 102 7 (r.map T_api_Region.d) false))]:=by
 unfold g_slices_Clone_api_Region_api_Region_nw at h
 split at h
 ·cases h
 rename_i hne
 unfold g_slices_Clone_api_Region_api_Region at h
 obtain⟨hb,h⟩:=ite_on h
 cases h
 have hne':s.map T_api_Region.d≠[]:=by simpa using hne
 have hk:∀ x ∈ s.map T_api_Region.d,x.cells.length=7:=fun x hx=>by obtain⟨y,_,rfl⟩:=List.mem_map.1 hx;rfl
 have hm:(s.map T_api_Region.d).length≤maxLen:=by rw[List.length_map];unfold maxLen;omega
 have:=CallOK.of_run (P:=Tryz.prog) (I:=I) (f:=63) (ds:=[.sl (s.map T_api_Region.d)]) (e:=102) (k:=7) (xs:=s.map T_api_Region.d) (v0:=fun _=>True) (H:=H) (nid:=nid) (by kernel_rfl) hk hm (fun w F args hIw hfb hl hr=>?_) (fun d hd=>by
  simp only[List.mem_singleton] at hd
  subst hd
  exact⟨_,rfl,rfl⟩) hI
 ·simpa using this
 ·match args,hl with
  | [v],_ =>
   obtain⟨b,off,c,vals,rfl,h1,h2,h3,h4,h5⟩:=sl_cells (hr 0 v _ rfl rfl) hne' hk
   refine⟨vals,h4,?_⟩
   refine run_Clone_Region ⟨b,off,none⟩ _ c vals w h1 h2 h3 h5 (by rw[List.length_map];exact hb)
theorem a_slices_Clone_api_Region_api_Region {I:World→Prop} (hI:Stab I) {s r:List T_api_Region} (h:g_slices_Clone_api_Region_api_Region s=some r):AFun Tryz.prog I 63 [.sl (s.map T_api_Region.d)] (.sl (r.map T_api_Region.d)):=by
 by_cases hs:s=[]
 ·subst hs
  cases h
  refine⟨by kernel_rfl,fun w F args hIw hfb hl hr=>?_⟩
  match args,hl with
  | [v],_ =>
   have key:∃ A c,v=.slice A 0 c:=by
    have hv:=hr 0 v _ rfl rfl
    generalize hx:([]:List T_api_Region).map T_api_Region.d=xs at hv
    simp at hx
    subst hx
    cases hv with
    | sl0 A c hm=>exact⟨A,c,rfl⟩
    | sl b off k' c _ vals hc hm hk' hlv hone hF hcell hrep=>exact⟨_,c,rfl⟩
   obtain⟨A,c,rfl⟩:=key
   cases A with
   | none =>
    refine(run_Clone0_Region 0 c w).mono ?_
    rintro e w' ⟨rfl,rfl⟩
    exact⟨_,F,rfl,Below.refl _ _,Ext.refl _ _,hfb,fun _ _ h=>.inl h,.sl0 none 0 (Nat.zero_le _)⟩
   | some ad =>
    refine(run_Clone_Region ad 0 c [] w rfl (by simp) (by simp) (Nat.zero_le _) (by omega)).mono ?_
    rintro e w' ⟨v',rfl,hown,hb⟩
    have hx:∃ A c,v'=.slice A 0 c∧c≤maxLen:=by
     rcases hown.2 with⟨h0,_⟩|⟨g',cap,cur,hv,_,_,_,h5,_⟩
     ·exact⟨none,0,h0,Nat.zero_le _⟩
     ·exact⟨_,cap,hv,h5⟩
    obtain⟨A',c',rfl,hc'⟩:=hx
    exact⟨_,F,rfl,hb,⟨fun _ _ h=>h,fun b o h=>hb.block b (hfb b o h),fun _ h=>h.elim,fun _ h=>h.elim⟩,fun b o h=>Nat.lt_of_lt_of_le (hfb b o h) hb.size,fun _ _ h=>.inl h,.sl0 A' c' hc'⟩
 ·have hw:g_slices_Clone_api_Region_api_Region_nw s=some r:=by
   unfold g_slices_Clone_api_Region_api_Region_nw
   rw[if_neg (by simpa using hs)]
   exact h
  refine AFun.of_own (e:=102) (k:=7) fun H nid=>?_
  have:=a_slices_Clone_api_Region_api_Region_nw (I:=I) hI (H:=H) (nid:=nid) hw
  simpa using this
theorem info_Comment:(Tryz.prog.info? 107).map (fun i=>(i.zero,i.size,i.bytes))=some (some (Value.agg #[Value.int .i64 0,Value.int .i64 0,Value.int .i64 0,Value.int .i64 0,Value.string ⟨#[]⟩,Value.string ⟨#[]⟩,Value.bool false,Value.bool false]),8,72):=by kernel_rfl
theorem run_Clone_Comment (ad:Addr) (n c:Nat) (vals:List Value) (w:World) (hl:vals.length=n * 8) (hone:∀ u ∈ vals,u.oneCell'=true) (hcell:∀ j u,vals[j]? = some u→w.cell? (ad.add j)=some u) (hn:n≤maxLen) (hbig:n * 72≤140737488355328) :
  Calls Tryz.prog 64 #[.slice (some ad) n c] w fun e w'=>∃ v',e=.returned v'∧w'.ownsRow w.heap.size 107 8 v' n vals∧Below w.heap.size w w':=by
 obtain⟨i0,hi,hz0,hz1,hz2⟩:=info_parts info_Comment
 have tS:Tryz.prog.underlying 35=some (.slice 107):=Tryz.underlying35
 have qS:∀ (w:World) (a:Option Addr) (n c n' c':Nat),(binOp .eql 35 (.slice a n c) (.slice none n' c')).run Tryz.prog w=.ok (.bool a.isNone) w:=fun w a n c n' c'=>Lib.run_eql_slice_nil w _ _ a n c n' c' tS
 have uS:∀ w,Sem.run Tryz.prog (underlying 35) w=.ok (TypeDesc.slice 107) w:=run_underlying tS
 have A1:Aside (∀ j u,vals[j]? = some u→w.cell? (ad.add j)=some u):=hcell
 have A2:Aside (∀ u ∈ vals,u.oneCell'=true):=hone
 have A3:Aside (vals.length=n * 8):=hl
 clear hcell hone hl
 go_enter Tryz.func64,Tryz.ntmps64
 go_wp2_with (at_builtin;refine wpList_append_own _ rfl _ _ 35 rfl w.heap.size 107 i0 (Value.agg #[Value.int .i64 0,Value.int .i64 0,Value.int .i64 0,Value.int .i64 0,Value.string ⟨#[]⟩,Value.string ⟨#[]⟩,Value.bool false,Value.bool false]) 8 72 tS hi hz0 hz1 hz2 rfl (by decide) _ _ _ rfl (World.ownsRow_made w #[] 0 (Nat.le_refl _) (Nat.zero_le _) rfl) ad n c vals rfl A3.out ?qc2 A2.out (by omega) (by omega) (by simp) ?_)
 case qc2 =>
  intro j u hj
  exact Lib.cell?_alloc_some _ (A1.out j u hj)
 intro v' w1 hown hgrow hnil
 go_wp2
 go_ret
 exact⟨v',rfl,by simpa using hown,((Below.refl _ w).alloc (Nat.le_refl _) _).grown hgrow (by simp) (by intro k hk;simp[Value.ownBlock] at hk;omega)⟩
theorem run_Clone0_Comment (n c:Nat) (w:World):Calls Tryz.prog 64 #[.slice none n c] w fun e w'=>e=.returned (.slice none 0 0)∧w'=w:=by
 have tS:Tryz.prog.underlying 35=some (.slice 107):=Tryz.underlying35
 have qS:∀ (w:World) (a:Option Addr) (n c n' c':Nat),(binOp .eql 35 (.slice a n c) (.slice none n' c')).run Tryz.prog w=.ok (.bool a.isNone) w:=fun w a n c n' c'=>Lib.run_eql_slice_nil w _ _ a n c n' c' tS
 go_enter Tryz.func64,Tryz.ntmps64
 go_wp2
 go_ret
 exact⟨rfl,rfl⟩
def g_slices_Clone_api_Comment_api_Comment (s:List T_api_Comment):Option (List T_api_Comment):=if s.length * 72≤140737488355328 then some s else none
def g_slices_Clone_api_Comment_api_Comment_nw (s:List T_api_Comment):Option (List T_api_Comment):=if s.isEmpty then none else g_slices_Clone_api_Comment_api_Comment s
theorem a_slices_Clone_api_Comment_api_Comment_nw {I:World→Prop} (hI:Stab I) {H:Nat→Option Blk} {nid:Nat} {s r:List T_api_Comment} (h:g_slices_Clone_api_Comment_api_Comment_nw s=some r):CallOK Tryz.prog I 64 [.sl (s.map T_api_Comment.d)] H nid (.own nid r.length) [(nid,some (.vec 107 8 (r.map T_api_Comment.d) false))]:=by
 unfold g_slices_Clone_api_Comment_api_Comment_nw at h
 split at h
 ·cases h
 rename_i hne
 unfold g_slices_Clone_api_Comment_api_Comment at h
 obtain⟨hb,h⟩:=ite_on h
 cases h
 have hne':s.map T_api_Comment.d≠[]:=by simpa using hne
 have hk:∀ x ∈ s.map T_api_Comment.d,x.cells.length=8:=fun x hx=>by obtain⟨y,_,rfl⟩:=List.mem_map.1 hx;rfl
 have hm:(s.map T_api_Comment.d).length≤maxLen:=by rw[List.length_map];unfold maxLen;omega
 have:=CallOK.of_run (P:=Tryz.prog) (I:=I) (f:=64) (ds:=[.sl (s.map T_api_Comment.d)]) (e:=107) (k:=8) (xs:=s.map T_api_Comment.d) (v0:=fun _=>True) (H:=H) (nid:=nid) (by kernel_rfl) hk hm (fun w F args hIw hfb hl hr=>?_) (fun d hd=>by
  simp only[List.mem_singleton] at hd
  subst hd
  exact⟨_,rfl,rfl⟩) hI
 ·simpa using this
 ·match args,hl with
  | [v],_ =>
   obtain⟨b,off,c,vals,rfl,h1,h2,h3,h4,h5⟩:=sl_cells (hr 0 v _ rfl rfl) hne' hk
   refine⟨vals,h4,?_⟩
   refine run_Clone_Comment ⟨b,off,none⟩ _ c vals w h1 h2 h3 h5 (by rw[List.length_map];exact hb)
theorem a_slices_Clone_api_Comment_api_Comment {I:World→Prop} (hI:Stab I) {s r:List T_api_Comment} (h:g_slices_Clone_api_Comment_api_Comment s=some r):AFun Tryz.prog I 64 [.sl (s.map T_api_Comment.d)] (.sl (r.map T_api_Comment.d)):=by
 by_cases hs:s=[]
 ·subst hs
  cases h
  refine⟨by kernel_rfl,fun w F args hIw hfb hl hr=>?_⟩
  match args,hl with
  | [v],_ =>
   have key:∃ A c,v=.slice A 0 c:=by
    have hv:=hr 0 v _ rfl rfl
    generalize hx:([]:List T_api_Comment).map T_api_Comment.d=xs at hv
    simp at hx
    subst hx
    cases hv with
    | sl0 A c hm=>exact⟨A,c,rfl⟩
    | sl b off k' c _ vals hc hm hk' hlv hone hF hcell hrep=>exact⟨_,c,rfl⟩
   obtain⟨A,c,rfl⟩:=key
   cases A with
   | none =>
    refine(run_Clone0_Comment 0 c w).mono ?_
    rintro e w' ⟨rfl,rfl⟩
    exact⟨_,F,rfl,Below.refl _ _,Ext.refl _ _,hfb,fun _ _ h=>.inl h,.sl0 none 0 (Nat.zero_le _)⟩
   | some ad =>
    refine(run_Clone_Comment ad 0 c [] w rfl (by simp) (by simp) (Nat.zero_le _) (by omega)).mono ?_
    rintro e w' ⟨v',rfl,hown,hb⟩
    have hx:∃ A c,v'=.slice A 0 c∧c≤maxLen:=by
     rcases hown.2 with⟨h0,_⟩|⟨g',cap,cur,hv,_,_,_,h5,_⟩
     ·exact⟨none,0,h0,Nat.zero_le _⟩
     ·exact⟨_,cap,hv,h5⟩
    obtain⟨A',c',rfl,hc'⟩:=hx
    exact⟨_,F,rfl,hb,⟨fun _ _ h=>h,fun b o h=>hb.block b (hfb b o h),fun _ h=>h.elim,fun _ h=>h.elim⟩,fun b o h=>Nat.lt_of_lt_of_le (hfb b o h) hb.size,fun _ _ h=>.inl h,.sl0 A' c' hc'⟩
 ·have hw:g_slices_Clone_api_Comment_api_Comment_nw s=some r:=by
   unfold g_slices_Clone_api_Comment_api_Comment_nw
   rw[if_neg (by simpa using hs)]
   exact h
  refine AFun.of_own (e:=107) (k:=8) fun H nid=>?_
  have:=a_slices_Clone_api_Comment_api_Comment_nw (I:=I) hI (H:=H) (nid:=nid) hw
  simpa using this
theorem info_Event:(Tryz.prog.info? 64).map (fun i=>(i.zero,i.size,i.bytes))=some (some (Value.agg #[Value.int .i64 0,Value.int .i64 0,Value.int .i64 0,Value.string ⟨#[]⟩,Value.int .u8 0,Value.string ⟨#[]⟩,Value.slice none 0 0]),7,88):=by kernel_rfl
theorem run_Clone_Event (ad:Addr) (n c:Nat) (vals:List Value) (w:World) (hl:vals.length=n * 7) (hone:∀ u ∈ vals,u.oneCell'=true) (hcell:∀ j u,vals[j]? = some u→w.cell? (ad.add j)=some u) (hn:n≤maxLen) (hbig:n * 88≤140737488355328) :
  Calls Tryz.prog 65 #[.slice (some ad) n c] w fun e w'=>∃ v',e=.returned v'∧w'.ownsRow w.heap.size 64 7 v' n vals∧Below w.heap.size w w':=by
 obtain⟨i0,hi,hz0,hz1,hz2⟩:=info_parts info_Event
 have tS:Tryz.prog.underlying 34=some (.slice 64):=Tryz.underlying34
 have qS:∀ (w:World) (a:Option Addr) (n c n' c':Nat),(binOp .eql 34 (.slice a n c) (.slice none n' c')).run Tryz.prog w=.ok (.bool a.isNone) w:=fun w a n c n' c'=>Lib.run_eql_slice_nil w _ _ a n c n' c' tS
 have uS:∀ w,Sem.run Tryz.prog (underlying 34) w=.ok (TypeDesc.slice 64) w:=run_underlying tS
 have A1:Aside (∀ j u,vals[j]? = some u→w.cell? (ad.add j)=some u):=hcell
 have A2:Aside (∀ u ∈ vals,u.oneCell'=true):=hone
 have A3:Aside (vals.length=n * 7):=hl
 clear hcell hone hl
 go_enter Tryz.func65,Tryz.ntmps65
 go_wp2_with (at_builtin;refine wpList_append_own _ rfl _ _ 34 rfl w.heap.size 64 i0 (Value.agg #[Value.int .i64 0,Value.int .i64 0,Value.int .i64 0,Value.string ⟨#[]⟩,Value.int .u8 0,Value.string ⟨#[]⟩,Value.slice none 0 0]) 7 88 tS hi hz0 hz1 hz2 rfl (by decide) _ _ _ rfl (World.ownsRow_made w #[] 0 (Nat.le_refl _) (Nat.zero_le _) rfl) ad n c vals rfl A3.out ?qc2 A2.out (by omega) (by omega) (by simp) ?_)
 case qc2 =>
  intro j u hj
  exact Lib.cell?_alloc_some _ (A1.out j u hj)
 intro v' w1 hown hgrow hnil
 go_wp2
 go_ret
 exact⟨v',rfl,by simpa using hown,((Below.refl _ w).alloc (Nat.le_refl _) _).grown hgrow (by simp) (by intro k hk;simp[Value.ownBlock] at hk;omega)⟩
theorem run_Clone0_Event (n c:Nat) (w:World):Calls Tryz.prog 65 #[.slice none n c] w fun e w'=>e=.returned (.slice none 0 0)∧w'=w:=by
 have tS:Tryz.prog.underlying 34=some (.slice 64):=Tryz.underlying34
 have qS:∀ (w:World) (a:Option Addr) (n c n' c':Nat),(binOp .eql 34 (.slice a n c) (.slice none n' c')).run Tryz.prog w=.ok (.bool a.isNone) w:=fun w a n c n' c'=>Lib.run_eql_slice_nil w _ _ a n c n' c' tS
 go_enter Tryz.func65,Tryz.ntmps65
 go_wp2
 go_ret
 exact⟨rfl,rfl⟩
def g_slices_Clone_api_Event_api_Event (s:List T_api_Event):Option (List T_api_Event):=if s.length * 88≤140737488355328 then some s else none
def g_slices_Clone_api_Event_api_Event_nw (s:List T_api_Event):Option (List T_api_Event):=if s.isEmpty then none else g_slices_Clone_api_Event_api_Event s
theorem a_slices_Clone_api_Event_api_Event_nw {I:World→Prop} (hI:Stab I) {H:Nat→Option Blk} {nid:Nat} {s r:List T_api_Event} (h:g_slices_Clone_api_Event_api_Event_nw s=some r):CallOK Tryz.prog I 65 [.sl (s.map T_api_Event.d)] H nid (.own nid r.length) [(nid,some (.vec 64 7 (r.map T_api_Event.d) false))]:=by
 unfold g_slices_Clone_api_Event_api_Event_nw at h
 split at h
 ·cases h
 rename_i hne
 unfold g_slices_Clone_api_Event_api_Event at h
 obtain⟨hb,h⟩:=ite_on h
 cases h
 have hne':s.map T_api_Event.d≠[]:=by simpa using hne
 have hk:∀ x ∈ s.map T_api_Event.d,x.cells.length=7:=fun x hx=>by obtain⟨y,_,rfl⟩:=List.mem_map.1 hx;rfl
 have hm:(s.map T_api_Event.d).length≤maxLen:=by rw[List.length_map];unfold maxLen;omega
 have:=CallOK.of_run (P:=Tryz.prog) (I:=I) (f:=65) (ds:=[.sl (s.map T_api_Event.d)]) (e:=64) (k:=7) (xs:=s.map T_api_Event.d) (v0:=fun _=>True) (H:=H) (nid:=nid) (by kernel_rfl) hk hm (fun w F args hIw hfb hl hr=>?_) (fun d hd=>by
  simp only[List.mem_singleton] at hd
  subst hd
  exact⟨_,rfl,rfl⟩) hI
 ·simpa using this
 ·match args,hl with
  | [v],_ =>
   obtain⟨b,off,c,vals,rfl,h1,h2,h3,h4,h5⟩:=sl_cells (hr 0 v _ rfl rfl) hne' hk
   refine⟨vals,h4,?_⟩
   refine run_Clone_Event ⟨b,off,none⟩ _ c vals w h1 h2 h3 h5 (by rw[List.length_map];exact hb)
theorem a_slices_Clone_api_Event_api_Event {I:World→Prop} (hI:Stab I) {s r:List T_api_Event} (h:g_slices_Clone_api_Event_api_Event s=some r):AFun Tryz.prog I 65 [.sl (s.map T_api_Event.d)] (.sl (r.map T_api_Event.d)):=by
 by_cases hs:s=[]
 ·subst hs
  cases h
  refine⟨by kernel_rfl,fun w F args hIw hfb hl hr=>?_⟩
  match args,hl with
  | [v],_ =>
   have key:∃ A c,v=.slice A 0 c:=by
    have hv:=hr 0 v _ rfl rfl
    generalize hx:([]:List T_api_Event).map T_api_Event.d=xs at hv
    simp at hx
    subst hx
    cases hv with
    | sl0 A c hm=>exact⟨A,c,rfl⟩
    | sl b off k' c _ vals hc hm hk' hlv hone hF hcell hrep=>exact⟨_,c,rfl⟩
   obtain⟨A,c,rfl⟩:=key
   cases A with
   | none =>
    refine(run_Clone0_Event 0 c w).mono ?_
    rintro e w' ⟨rfl,rfl⟩
    exact⟨_,F,rfl,Below.refl _ _,Ext.refl _ _,hfb,fun _ _ h=>.inl h,.sl0 none 0 (Nat.zero_le _)⟩
   | some ad =>
    refine(run_Clone_Event ad 0 c [] w rfl (by simp) (by simp) (Nat.zero_le _) (by omega)).mono ?_
    rintro e w' ⟨v',rfl,hown,hb⟩
    have hx:∃ A c,v'=.slice A 0 c∧c≤maxLen:=by
     rcases hown.2 with⟨h0,_⟩|⟨g',cap,cur,hv,_,_,_,h5,_⟩
     ·exact⟨none,0,h0,Nat.zero_le _⟩
     ·exact⟨_,cap,hv,h5⟩
    obtain⟨A',c',rfl,hc'⟩:=hx
    exact⟨_,F,rfl,hb,⟨fun _ _ h=>h,fun b o h=>hb.block b (hfb b o h),fun _ h=>h.elim,fun _ h=>h.elim⟩,fun b o h=>Nat.lt_of_lt_of_le (hfb b o h) hb.size,fun _ _ h=>.inl h,.sl0 A' c' hc'⟩
 ·have hw:g_slices_Clone_api_Event_api_Event_nw s=some r:=by
   unfold g_slices_Clone_api_Event_api_Event_nw
   rw[if_neg (by simpa using hs)]
   exact h
  refine AFun.of_own (e:=64) (k:=7) fun H nid=>?_
  have:=a_slices_Clone_api_Event_api_Event_nw (I:=I) hI (H:=H) (nid:=nid) hw
  simpa using this
theorem info_Row:(Tryz.prog.info? 129).map (fun i=>(i.zero,i.size,i.bytes))=some (some (Value.agg #[Value.slice none 0 0]),1,24):=by kernel_rfl
theorem run_Clone_Row (ad:Addr) (n c:Nat) (vals:List Value) (w:World) (hl:vals.length=n * 1) (hone:∀ u ∈ vals,u.oneCell'=true) (hcell:∀ j u,vals[j]? = some u→w.cell? (ad.add j)=some u) (hn:n≤maxLen) (hbig:n * 24≤140737488355328) :
  Calls Tryz.prog 157 #[.slice (some ad) n c] w fun e w'=>∃ v',e=.returned v'∧w'.ownsRow w.heap.size 129 1 v' n vals∧Below w.heap.size w w':=by
 obtain⟨i0,hi,hz0,hz1,hz2⟩:=info_parts info_Row
 have tS:Tryz.prog.underlying 62=some (.slice 129):=Tryz.underlying62
 have qS:∀ (w:World) (a:Option Addr) (n c n' c':Nat),(binOp .eql 62 (.slice a n c) (.slice none n' c')).run Tryz.prog w=.ok (.bool a.isNone) w:=fun w a n c n' c'=>Lib.run_eql_slice_nil w _ _ a n c n' c' tS
 have uS:∀ w,Sem.run Tryz.prog (underlying 62) w=.ok (TypeDesc.slice 129) w:=run_underlying tS
 have A1:Aside (∀ j u,vals[j]? = some u→w.cell? (ad.add j)=some u):=hcell
 have A2:Aside (∀ u ∈ vals,u.oneCell'=true):=hone
 have A3:Aside (vals.length=n * 1):=hl
 clear hcell hone hl
 go_enter Tryz.func157,Tryz.ntmps157
 go_wp2_with (at_builtin;refine wpList_append_own _ rfl _ _ 62 rfl w.heap.size 129 i0 (Value.agg #[Value.slice none 0 0]) 1 24 tS hi hz0 hz1 hz2 rfl (by decide) _ _ _ rfl (World.ownsRow_made w #[] 0 (Nat.le_refl _) (Nat.zero_le _) rfl) ad n c vals rfl A3.out ?qc2 A2.out (by omega) (by omega) (by simp) ?_)
 case qc2 =>
  intro j u hj
  exact Lib.cell?_alloc_some _ (A1.out j u hj)
 intro v' w1 hown hgrow hnil
 go_wp2
 go_ret
 exact⟨v',rfl,by simpa using hown,((Below.refl _ w).alloc (Nat.le_refl _) _).grown hgrow (by simp) (by intro k hk;simp[Value.ownBlock] at hk;omega)⟩
theorem run_Clone0_Row (n c:Nat) (w:World):Calls Tryz.prog 157 #[.slice none n c] w fun e w'=>e=.returned (.slice none 0 0)∧w'=w:=by
 have tS:Tryz.prog.underlying 62=some (.slice 129):=Tryz.underlying62
 have qS:∀ (w:World) (a:Option Addr) (n c n' c':Nat),(binOp .eql 62 (.slice a n c) (.slice none n' c')).run Tryz.prog w=.ok (.bool a.isNone) w:=fun w a n c n' c'=>Lib.run_eql_slice_nil w _ _ a n c n' c' tS
 go_enter Tryz.func157,Tryz.ntmps157
 go_wp2
 go_ret
 exact⟨rfl,rfl⟩
def g_slices_Clone_api_Row_api_Row (s:List T_api_Row):Option (List T_api_Row):=if s.length * 24≤140737488355328 then some s else none
def g_slices_Clone_api_Row_api_Row_nw (s:List T_api_Row):Option (List T_api_Row):=if s.isEmpty then none else g_slices_Clone_api_Row_api_Row s
theorem a_slices_Clone_api_Row_api_Row_nw {I:World→Prop} (hI:Stab I) {H:Nat→Option Blk} {nid:Nat} {s r:List T_api_Row} (h:g_slices_Clone_api_Row_api_Row_nw s=some r):CallOK Tryz.prog I 157 [.sl (s.map T_api_Row.d)] H nid (.own nid r.length) [(nid,some (.vec 129 1 (r.map T_api_Row.d) false))]:=by
 unfold g_slices_Clone_api_Row_api_Row_nw at h
 split at h
 ·cases h
 rename_i hne
 unfold g_slices_Clone_api_Row_api_Row at h
 obtain⟨hb,h⟩:=ite_on h
 cases h
 have hne':s.map T_api_Row.d≠[]:=by simpa using hne
 have hk:∀ x ∈ s.map T_api_Row.d,x.cells.length=1:=fun x hx=>by obtain⟨y,_,rfl⟩:=List.mem_map.1 hx;rfl
 have hm:(s.map T_api_Row.d).length≤maxLen:=by rw[List.length_map];unfold maxLen;omega
 have:=CallOK.of_run (P:=Tryz.prog) (I:=I) (f:=157) (ds:=[.sl (s.map T_api_Row.d)]) (e:=129) (k:=1) (xs:=s.map T_api_Row.d) (v0:=fun _=>True) (H:=H) (nid:=nid) (by kernel_rfl) hk hm (fun w F args hIw hfb hl hr=>?_) (fun d hd=>by
  simp only[List.mem_singleton] at hd
  subst hd
  exact⟨_,rfl,rfl⟩) hI
 ·simpa using this
 ·match args,hl with
  | [v],_ =>
   obtain⟨b,off,c,vals,rfl,h1,h2,h3,h4,h5⟩:=sl_cells (hr 0 v _ rfl rfl) hne' hk
   refine⟨vals,h4,?_⟩
   refine run_Clone_Row ⟨b,off,none⟩ _ c vals w h1 h2 h3 h5 (by rw[List.length_map];exact hb)
theorem a_slices_Clone_api_Row_api_Row {I:World→Prop} (hI:Stab I) {s r:List T_api_Row} (h:g_slices_Clone_api_Row_api_Row s=some r):AFun Tryz.prog I 157 [.sl (s.map T_api_Row.d)] (.sl (r.map T_api_Row.d)):=by
 by_cases hs:s=[]
 ·subst hs
  cases h
  refine⟨by kernel_rfl,fun w F args hIw hfb hl hr=>?_⟩
  match args,hl with
  | [v],_ =>
   have key:∃ A c,v=.slice A 0 c:=by
    have hv:=hr 0 v _ rfl rfl
    generalize hx:([]:List T_api_Row).map T_api_Row.d=xs at hv
    simp at hx
    subst hx
    cases hv with
    | sl0 A c hm=>exact⟨A,c,rfl⟩
    | sl b off k' c _ vals hc hm hk' hlv hone hF hcell hrep=>exact⟨_,c,rfl⟩
   obtain⟨A,c,rfl⟩:=key
   cases A with
   | none =>
    refine(run_Clone0_Row 0 c w).mono ?_
    rintro e w' ⟨rfl,rfl⟩
    exact⟨_,F,rfl,Below.refl _ _,Ext.refl _ _,hfb,fun _ _ h=>.inl h,.sl0 none 0 (Nat.zero_le _)⟩
   | some ad =>
    refine(run_Clone_Row ad 0 c [] w rfl (by simp) (by simp) (Nat.zero_le _) (by omega)).mono ?_
    rintro e w' ⟨v',rfl,hown,hb⟩
    have hx:∃ A c,v'=.slice A 0 c∧c≤maxLen:=by
     rcases hown.2 with⟨h0,_⟩|⟨g',cap,cur,hv,_,_,_,h5,_⟩
     ·exact⟨none,0,h0,Nat.zero_le _⟩
     ·exact⟨_,cap,hv,h5⟩
    obtain⟨A',c',rfl,hc'⟩:=hx
    exact⟨_,F,rfl,hb,⟨fun _ _ h=>h,fun b o h=>hb.block b (hfb b o h),fun _ h=>h.elim,fun _ h=>h.elim⟩,fun b o h=>Nat.lt_of_lt_of_le (hfb b o h) hb.size,fun _ _ h=>.inl h,.sl0 A' c' hc'⟩
 ·have hw:g_slices_Clone_api_Row_api_Row_nw s=some r:=by
   unfold g_slices_Clone_api_Row_api_Row_nw
   rw[if_neg (by simpa using hs)]
   exact h
  refine AFun.of_own (e:=129) (k:=1) fun H nid=>?_
  have:=a_slices_Clone_api_Row_api_Row_nw (I:=I) hI (H:=H) (nid:=nid) hw
  simpa using this
theorem info_Run:(Tryz.prog.info? 126).map (fun i=>(i.zero,i.size,i.bytes))=some (some (Value.agg #[Value.string ⟨#[]⟩,Value.int .u8 0,Value.bool false,Value.bool false,Value.string ⟨#[]⟩]),5,40):=by kernel_rfl
theorem run_Clone_Run (ad:Addr) (n c:Nat) (vals:List Value) (w:World) (hl:vals.length=n * 5) (hone:∀ u ∈ vals,u.oneCell'=true) (hcell:∀ j u,vals[j]? = some u→w.cell? (ad.add j)=some u) (hn:n≤maxLen) (hbig:n * 40≤140737488355328) :
  Calls Tryz.prog 158 #[.slice (some ad) n c] w fun e w'=>∃ v',e=.returned v'∧w'.ownsRow w.heap.size 126 5 v' n vals∧Below w.heap.size w w':=by
 obtain⟨i0,hi,hz0,hz1,hz2⟩:=info_parts info_Run
 have tS:Tryz.prog.underlying 127=some (.slice 126):=Tryz.underlying127
 have qS:∀ (w:World) (a:Option Addr) (n c n' c':Nat),(binOp .eql 127 (.slice a n c) (.slice none n' c')).run Tryz.prog w=.ok (.bool a.isNone) w:=fun w a n c n' c'=>Lib.run_eql_slice_nil w _ _ a n c n' c' tS
 have uS:∀ w,Sem.run Tryz.prog (underlying 127) w=.ok (TypeDesc.slice 126) w:=run_underlying tS
 have A1:Aside (∀ j u,vals[j]? = some u→w.cell? (ad.add j)=some u):=hcell
 have A2:Aside (∀ u ∈ vals,u.oneCell'=true):=hone
 have A3:Aside (vals.length=n * 5):=hl
 clear hcell hone hl
 go_enter Tryz.func158,Tryz.ntmps158
 go_wp2_with (at_builtin;refine wpList_append_own _ rfl _ _ 127 rfl w.heap.size 126 i0 (Value.agg #[Value.string ⟨#[]⟩,Value.int .u8 0,Value.bool false,Value.bool false,Value.string ⟨#[]⟩]) 5 40 tS hi hz0 hz1 hz2 rfl (by decide) _ _ _ rfl (World.ownsRow_made w #[] 0 (Nat.le_refl _) (Nat.zero_le _) rfl) ad n c vals rfl A3.out ?qc2 A2.out (by omega) (by omega) (by simp) ?_)
 case qc2 =>
  intro j u hj
  exact Lib.cell?_alloc_some _ (A1.out j u hj)
 intro v' w1 hown hgrow hnil
 go_wp2
 go_ret
 exact⟨v',rfl,by simpa using hown,((Below.refl _ w).alloc (Nat.le_refl _) _).grown hgrow (by simp) (by intro k hk;simp[Value.ownBlock] at hk;omega)⟩
theorem run_Clone0_Run (n c:Nat) (w:World):Calls Tryz.prog 158 #[.slice none n c] w fun e w'=>e=.returned (.slice none 0 0)∧w'=w:=by
 have tS:Tryz.prog.underlying 127=some (.slice 126):=Tryz.underlying127
 have qS:∀ (w:World) (a:Option Addr) (n c n' c':Nat),(binOp .eql 127 (.slice a n c) (.slice none n' c')).run Tryz.prog w=.ok (.bool a.isNone) w:=fun w a n c n' c'=>Lib.run_eql_slice_nil w _ _ a n c n' c' tS
 go_enter Tryz.func158,Tryz.ntmps158
 go_wp2
 go_ret
 exact⟨rfl,rfl⟩
def g_slices_Clone_api_Run_api_Run (s:List T_api_Run):Option (List T_api_Run):=if s.length * 40≤140737488355328 then some s else none
def g_slices_Clone_api_Run_api_Run_nw (s:List T_api_Run):Option (List T_api_Run):=if s.isEmpty then none else g_slices_Clone_api_Run_api_Run s
theorem a_slices_Clone_api_Run_api_Run_nw {I:World→Prop} (hI:Stab I) {H:Nat→Option Blk} {nid:Nat} {s r:List T_api_Run} (h:g_slices_Clone_api_Run_api_Run_nw s=some r):CallOK Tryz.prog I 158 [.sl (s.map T_api_Run.d)] H nid (.own nid r.length) [(nid,some (.vec 126 5 (r.map T_api_Run.d) false))]:=by
 unfold g_slices_Clone_api_Run_api_Run_nw at h
 split at h
 ·cases h
 rename_i hne
 unfold g_slices_Clone_api_Run_api_Run at h
 obtain⟨hb,h⟩:=ite_on h
 cases h
 have hne':s.map T_api_Run.d≠[]:=by simpa using hne
 have hk:∀ x ∈ s.map T_api_Run.d,x.cells.length=5:=fun x hx=>by obtain⟨y,_,rfl⟩:=List.mem_map.1 hx;rfl
 have hm:(s.map T_api_Run.d).length≤maxLen:=by rw[List.length_map];unfold maxLen;omega
 have:=CallOK.of_run (P:=Tryz.prog) (I:=I) (f:=158) (ds:=[.sl (s.map T_api_Run.d)]) (e:=126) (k:=5) (xs:=s.map T_api_Run.d) (v0:=fun _=>True) (H:=H) (nid:=nid) (by kernel_rfl) hk hm (fun w F args hIw hfb hl hr=>?_) (fun d hd=>by
  simp only[List.mem_singleton] at hd
  subst hd
  exact⟨_,rfl,rfl⟩) hI
 ·simpa using this
 ·match args,hl with
  | [v],_ =>
   obtain⟨b,off,c,vals,rfl,h1,h2,h3,h4,h5⟩:=sl_cells (hr 0 v _ rfl rfl) hne' hk
   refine⟨vals,h4,?_⟩
   refine run_Clone_Run ⟨b,off,none⟩ _ c vals w h1 h2 h3 h5 (by rw[List.length_map];exact hb)
theorem a_slices_Clone_api_Run_api_Run {I:World→Prop} (hI:Stab I) {s r:List T_api_Run} (h:g_slices_Clone_api_Run_api_Run s=some r):AFun Tryz.prog I 158 [.sl (s.map T_api_Run.d)] (.sl (r.map T_api_Run.d)):=by
 by_cases hs:s=[]
 ·subst hs
  cases h
  refine⟨by kernel_rfl,fun w F args hIw hfb hl hr=>?_⟩
  match args,hl with
  | [v],_ =>
   have key:∃ A c,v=.slice A 0 c:=by
    have hv:=hr 0 v _ rfl rfl
    generalize hx:([]:List T_api_Run).map T_api_Run.d=xs at hv
    simp at hx
    subst hx
    cases hv with
    | sl0 A c hm=>exact⟨A,c,rfl⟩
    | sl b off k' c _ vals hc hm hk' hlv hone hF hcell hrep=>exact⟨_,c,rfl⟩
   obtain⟨A,c,rfl⟩:=key
   cases A with
   | none =>
    refine(run_Clone0_Run 0 c w).mono ?_
    rintro e w' ⟨rfl,rfl⟩
    exact⟨_,F,rfl,Below.refl _ _,Ext.refl _ _,hfb,fun _ _ h=>.inl h,.sl0 none 0 (Nat.zero_le _)⟩
   | some ad =>
    refine(run_Clone_Run ad 0 c [] w rfl (by simp) (by simp) (Nat.zero_le _) (by omega)).mono ?_
    rintro e w' ⟨v',rfl,hown,hb⟩
    have hx:∃ A c,v'=.slice A 0 c∧c≤maxLen:=by
     rcases hown.2 with⟨h0,_⟩|⟨g',cap,cur,hv,_,_,_,h5,_⟩
     ·exact⟨none,0,h0,Nat.zero_le _⟩
     ·exact⟨_,cap,hv,h5⟩
    obtain⟨A',c',rfl,hc'⟩:=hx
    exact⟨_,F,rfl,hb,⟨fun _ _ h=>h,fun b o h=>hb.block b (hfb b o h),fun _ h=>h.elim,fun _ h=>h.elim⟩,fun b o h=>Nat.lt_of_lt_of_le (hfb b o h) hb.size,fun _ _ h=>.inl h,.sl0 A' c' hc'⟩
 ·have hw:g_slices_Clone_api_Run_api_Run_nw s=some r:=by
   unfold g_slices_Clone_api_Run_api_Run_nw
   rw[if_neg (by simpa using hs)]
   exact h
  refine AFun.of_own (e:=126) (k:=5) fun H nid=>?_
  have:=a_slices_Clone_api_Run_api_Run_nw (I:=I) hI (H:=H) (nid:=nid) hw
  simpa using this
theorem info_Bound:(Tryz.prog.info? 47).map (fun i=>(i.zero,i.size,i.bytes))=some (some (Value.agg #[Value.int .i64 0,Value.int .i64 0,Value.int .i64 0,Value.int .u8 0,Value.int .i64 0,Value.int .i64 0]),6,48):=by kernel_rfl
theorem run_Clone_Bound (ad:Addr) (n c:Nat) (vals:List Value) (w:World) (hl:vals.length=n * 6) (hone:∀ u ∈ vals,u.oneCell'=true) (hcell:∀ j u,vals[j]? = some u→w.cell? (ad.add j)=some u) (hn:n≤maxLen) (hbig:n * 48≤140737488355328) :
  Calls Tryz.prog 28 #[.slice (some ad) n c] w fun e w'=>∃ v',e=.returned v'∧w'.ownsRow w.heap.size 47 6 v' n vals∧Below w.heap.size w w':=by
 obtain⟨i0,hi,hz0,hz1,hz2⟩:=info_parts info_Bound
 have tS:Tryz.prog.underlying 41=some (.slice 47):=Tryz.underlying41
 have qS:∀ (w:World) (a:Option Addr) (n c n' c':Nat),(binOp .eql 41 (.slice a n c) (.slice none n' c')).run Tryz.prog w=.ok (.bool a.isNone) w:=fun w a n c n' c'=>Lib.run_eql_slice_nil w _ _ a n c n' c' tS
 have uS:∀ w,Sem.run Tryz.prog (underlying 41) w=.ok (TypeDesc.slice 47) w:=run_underlying tS
 have A1:Aside (∀ j u,vals[j]? = some u→w.cell? (ad.add j)=some u):=hcell
 have A2:Aside (∀ u ∈ vals,u.oneCell'=true):=hone
 have A3:Aside (vals.length=n * 6):=hl
 clear hcell hone hl
 go_enter Tryz.func28,Tryz.ntmps28
 go_wp2_with (at_builtin;refine wpList_append_own _ rfl _ _ 41 rfl w.heap.size 47 i0 (Value.agg #[Value.int .i64 0,Value.int .i64 0,Value.int .i64 0,Value.int .u8 0,Value.int .i64 0,Value.int .i64 0]) 6 48 tS hi hz0 hz1 hz2 rfl (by decide) _ _ _ rfl (World.ownsRow_made w #[] 0 (Nat.le_refl _) (Nat.zero_le _) rfl) ad n c vals rfl A3.out ?qc2 A2.out (by omega) (by omega) (by simp) ?_)
 case qc2 =>
  intro j u hj
  exact Lib.cell?_alloc_some _ (A1.out j u hj)
 intro v' w1 hown hgrow hnil
 go_wp2
 go_ret
 exact⟨v',rfl,by simpa using hown,((Below.refl _ w).alloc (Nat.le_refl _) _).grown hgrow (by simp) (by intro k hk;simp[Value.ownBlock] at hk;omega)⟩
theorem run_Clone0_Bound (n c:Nat) (w:World):Calls Tryz.prog 28 #[.slice none n c] w fun e w'=>e=.returned (.slice none 0 0)∧w'=w:=by
 have tS:Tryz.prog.underlying 41=some (.slice 47):=Tryz.underlying41
 have qS:∀ (w:World) (a:Option Addr) (n c n' c':Nat),(binOp .eql 41 (.slice a n c) (.slice none n' c')).run Tryz.prog w=.ok (.bool a.isNone) w:=fun w a n c n' c'=>Lib.run_eql_slice_nil w _ _ a n c n' c' tS
 go_enter Tryz.func28,Tryz.ntmps28
 go_wp2
 go_ret
 exact⟨rfl,rfl⟩
def g_slices_Clone_api_Bound_api_Bound (s:List T_api_Bound):Option (List T_api_Bound):=if s.length * 48≤140737488355328 then some s else none
def g_slices_Clone_api_Bound_api_Bound_nw (s:List T_api_Bound):Option (List T_api_Bound):=if s.isEmpty then none else g_slices_Clone_api_Bound_api_Bound s
theorem a_slices_Clone_api_Bound_api_Bound_nw {I:World→Prop} (hI:Stab I) {H:Nat→Option Blk} {nid:Nat} {s r:List T_api_Bound} (h:g_slices_Clone_api_Bound_api_Bound_nw s=some r):CallOK Tryz.prog I 28 [.sl (s.map T_api_Bound.d)] H nid (.own nid r.length) [(nid,some (.vec 47 6 (r.map T_api_Bound.d) false))]:=by
 unfold g_slices_Clone_api_Bound_api_Bound_nw at h
 split at h
 ·cases h
 rename_i hne
 unfold g_slices_Clone_api_Bound_api_Bound at h
 obtain⟨hb,h⟩:=ite_on h
 cases h
 have hne':s.map T_api_Bound.d≠[]:=by simpa using hne
 have hk:∀ x ∈ s.map T_api_Bound.d,x.cells.length=6:=fun x hx=>by obtain⟨y,_,rfl⟩:=List.mem_map.1 hx;rfl
 have hm:(s.map T_api_Bound.d).length≤maxLen:=by rw[List.length_map];unfold maxLen;omega
 have:=CallOK.of_run (P:=Tryz.prog) (I:=I) (f:=28) (ds:=[.sl (s.map T_api_Bound.d)]) (e:=47) (k:=6) (xs:=s.map T_api_Bound.d) (v0:=fun _=>True) (H:=H) (nid:=nid) (by kernel_rfl) hk hm (fun w F args hIw hfb hl hr=>?_) (fun d hd=>by
  simp only[List.mem_singleton] at hd
  subst hd
  exact⟨_,rfl,rfl⟩) hI
 ·simpa using this
 ·match args,hl with
  | [v],_ =>
   obtain⟨b,off,c,vals,rfl,h1,h2,h3,h4,h5⟩:=sl_cells (hr 0 v _ rfl rfl) hne' hk
   refine⟨vals,h4,?_⟩
   refine run_Clone_Bound ⟨b,off,none⟩ _ c vals w h1 h2 h3 h5 (by rw[List.length_map];exact hb)
theorem a_slices_Clone_api_Bound_api_Bound {I:World→Prop} (hI:Stab I) {s r:List T_api_Bound} (h:g_slices_Clone_api_Bound_api_Bound s=some r):AFun Tryz.prog I 28 [.sl (s.map T_api_Bound.d)] (.sl (r.map T_api_Bound.d)):=by
 by_cases hs:s=[]
 ·subst hs
  cases h
  refine⟨by kernel_rfl,fun w F args hIw hfb hl hr=>?_⟩
  match args,hl with
  | [v],_ =>
   have key:∃ A c,v=.slice A 0 c:=by
    have hv:=hr 0 v _ rfl rfl
    generalize hx:([]:List T_api_Bound).map T_api_Bound.d=xs at hv
    simp at hx
    subst hx
    cases hv with
    | sl0 A c hm=>exact⟨A,c,rfl⟩
    | sl b off k' c _ vals hc hm hk' hlv hone hF hcell hrep=>exact⟨_,c,rfl⟩
   obtain⟨A,c,rfl⟩:=key
   cases A with
   | none =>
    refine(run_Clone0_Bound 0 c w).mono ?_
    rintro e w' ⟨rfl,rfl⟩
    exact⟨_,F,rfl,Below.refl _ _,Ext.refl _ _,hfb,fun _ _ h=>.inl h,.sl0 none 0 (Nat.zero_le _)⟩
   | some ad =>
    refine(run_Clone_Bound ad 0 c [] w rfl (by simp) (by simp) (Nat.zero_le _) (by omega)).mono ?_
    rintro e w' ⟨v',rfl,hown,hb⟩
    have hx:∃ A c,v'=.slice A 0 c∧c≤maxLen:=by
     rcases hown.2 with⟨h0,_⟩|⟨g',cap,cur,hv,_,_,_,h5,_⟩
     ·exact⟨none,0,h0,Nat.zero_le _⟩
     ·exact⟨_,cap,hv,h5⟩
    obtain⟨A',c',rfl,hc'⟩:=hx
    exact⟨_,F,rfl,hb,⟨fun _ _ h=>h,fun b o h=>hb.block b (hfb b o h),fun _ h=>h.elim,fun _ h=>h.elim⟩,fun b o h=>Nat.lt_of_lt_of_le (hfb b o h) hb.size,fun _ _ h=>.inl h,.sl0 A' c' hc'⟩
 ·have hw:g_slices_Clone_api_Bound_api_Bound_nw s=some r:=by
   unfold g_slices_Clone_api_Bound_api_Bound_nw
   rw[if_neg (by simpa using hs)]
   exact h
  refine AFun.of_own (e:=47) (k:=6) fun H nid=>?_
  have:=a_slices_Clone_api_Bound_api_Bound_nw (I:=I) hI (H:=H) (nid:=nid) hw
  simpa using this
def g_slices_symMergeCmpFunc_api_Event (data:List T_api_Event) (a m b:Int):Option (List T_api_Event):=none
theorem a_slices_symMergeCmpFunc_api_Event_len {data:List T_api_Event} {a m b:Int} {r:List T_api_Event} (h:g_slices_symMergeCmpFunc_api_Event data a m b=some r):data.length=r.length:=by cases h
theorem a_slices_symMergeCmpFunc_api_Event_l {I:World→Prop} (hI:Stab I) {H:Nat→Option Blk} {nid i0:Nat} {u:Value} {data:List T_api_Event} {a m b:Int} {r:List T_api_Event} (h:g_slices_symMergeCmpFunc_api_Event data a m b=some r) (b0:H i0=some (.lrow u 64 7 (data.map T_api_Event.d))) :
  CallOK Tryz.prog I 169 [.own i0 data.length,.int .i64 a,.int .i64 m,.int .i64 b,.fn 103 []] H nid (.tup []) [(i0,some (.lrow u 64 7 (r.map T_api_Event.d)))]:=by cases h
set_option maxHeartbeats 10000000
structure T_api_Shift where
 ID:Int
 In:Int
 Out:Int
 deriving DecidableEq
def T_api_Shift.d (x:T_api_Shift):D:=.agg [.int .i64 x.ID,.int .i64 x.In,.int .i64 x.Out]
structure T_api_Repair where
 Doc:T_api_Document
 Shifts:List T_api_Shift
 Needed:Int
 Conflict:List T_api_Bound
 deriving DecidableEq
def T_api_Repair.d (x:T_api_Repair):D:=.agg [.str x.Doc.Title,.str x.Doc.Lang,.int .u8 x.Doc.Rate,.bool x.Doc.Drop,.int .i64 x.Doc.Last,.sl (x.Doc.Regions.map T_api_Region.d),.sl (x.Doc.Events.map T_api_Event.d),.sl (x.Doc.Comments.map T_api_Comment.d),.sl (x.Shifts.map T_api_Shift.d),.int .i64 x.Needed,.sl (x.Conflict.map T_api_Bound.d)]
theorem dd_ED:(∀ x,T_api_Region.d x=.agg [.str x.Name,.int .i64 x.Top,.int .i64 x.Height,.int .i64 x.Left,.int .i64 x.Width,.int .u8 x.Align,.bool x.Bottom])∧(∀ x,T_api_Comment.d x=.agg [.int .i64 x.ID,.int .i64 x.Event,.int .i64 x.From,.int .i64 x.To,.str x.Author,.str x.Text,.bool x.Done,.bool x.Lost])∧(∀ x,T_api_Span.d x=.agg [.int .i64 x.In,.int .i64 x.Out])∧(∀ x,T_api_Style.d x=.agg [.int .u8 x.Color,.bool x.Italic,.bool x.Underline])∧(∀ x,T_api_Run.d x=.agg [.str x.Text,.int .u8 x.Style.Color,.bool x.Style.Italic,.bool x.Style.Underline,.str x.Ruby])∧(∀ x,T_api_Row.d x=.agg [.sl (x.Runs.map T_api_Run.d)])∧(∀ x,T_api_Event.d x=.agg [.int .i64 x.ID,.int .i64 x.Span.In,.int .i64 x.Span.Out,.str x.Region,.int .u8 x.Kind,.str x.Speaker,.sl (x.Rows.map T_api_Row.d)])∧(∀ x,T_api_Bound.d x=.agg [.int .i64 x.I,.int .i64 x.J,.int .i64 x.C,.int .u8 x.Rule,.int .i64 x.ID,.int .i64 x.Other])∧(∀ x,T_api_Document.d x=.agg [.str x.Title,.str x.Lang,.int .u8 x.Rate,.bool x.Drop,.int .i64 x.Last,.sl (x.Regions.map T_api_Region.d),.sl (x.Events.map T_api_Event.d),.sl (x.Comments.map T_api_Comment.d)])∧(∀ x,T_api_Profile.d x=.agg [.str x.Name,.int .i64 x.Reading,.int .i64 x.MinFrames,.int .i64 x.MaxFrames,.int .i64 x.MinGap,.int .i64 x.ShotBefore,.int .i64 x.ShotAfter,.int .i64 x.Rows,.int .i64 x.Cols,.str x.Forbidden,.int .i64 x.SafeTop,.int .i64 x.SafeBottom,.int .i64 x.SafeLeft,.int .i64 x.SafeRight])∧(∀ x,T_api_Shift.d x=.agg [.int .i64 x.ID,.int .i64 x.In,.int .i64 x.Out])∧(∀ x,T_api_Repair.d x=.agg [.str x.Doc.Title,.str x.Doc.Lang,.int .u8 x.Doc.Rate,.bool x.Doc.Drop,.int .i64 x.Doc.Last,.sl (x.Doc.Regions.map T_api_Region.d),.sl (x.Doc.Events.map T_api_Event.d),.sl (x.Doc.Comments.map T_api_Comment.d),.sl (x.Shifts.map T_api_Shift.d),.int .i64 x.Needed,.sl (x.Conflict.map T_api_Bound.d)]):=⟨fun _=>rfl,fun _=>rfl,fun _=>rfl,fun _=>rfl,fun _=>rfl,fun _=>rfl,fun _=>rfl,fun _=>rfl,fun _=>rfl,fun _=>rfl,fun _=>rfl,fun _=>rfl⟩
def g_repair_Plan_1 (t_0:Int) (a_1:T_api_Document) (a_2:T_api_Profile) (a_3:List Int) (a_4:Int):Option ((List Int) × Bool) :=
 ((g_repair_Bounds a_1 a_2 a_3 t_0).bind fun r7=>((g_diffcon_Solve a_4 r7.1).bind fun r13=>(some (r13.1,(r13.2.2 == 0)))))
theorem a_repair_Plan_1 {I:World→Prop} (hI:Stab I) (hShp:∀ w,I w→Shp w) (hU8T:∀ w,I w→U8T w) {t_0:Int} {a_1:T_api_Document} {a_2:T_api_Profile} {a_3:List Int} {a_4:Int} {r:(List Int) × Bool} (h:g_repair_Plan_1 t_0 a_1 a_2 a_3 a_4=some r):AFun Tryz.prog I 44 [.int .i64 t_0,.iptr [.str a_1.Title,.str a_1.Lang,.int .u8 a_1.Rate,.bool a_1.Drop,.int .i64 a_1.Last,.sl (a_1.Regions.map T_api_Region.d),.sl (a_1.Events.map T_api_Event.d),.sl (a_1.Comments.map T_api_Comment.d)],.iptr [.str a_2.Name,.int .i64 a_2.Reading,.int .i64 a_2.MinFrames,.int .i64 a_2.MaxFrames,.int .i64 a_2.MinGap,.int .i64 a_2.ShotBefore,.int .i64 a_2.ShotAfter,.int .i64 a_2.Rows,.int .i64 a_2.Cols,.str a_2.Forbidden,.int .i64 a_2.SafeTop,.int .i64 a_2.SafeBottom,.int .i64 a_2.SafeLeft,.int .i64 a_2.SafeRight],.iptr [.sl (a_3.map (D.int .i64))],.iptr [.int .i64 a_4]] (.tup [.sl (r.1.map (D.int .i64)),.bool r.2]):=by
 have dd:=dd_ED;have k:=True.intro;have q:=k;have rs:=Tryz.results44
 unfold g_repair_Plan_1 at h
 refine .en hI Tryz.func44 Tryz.ntmps44 ?_
 refine xs<|rz ?_
 refine es<|xs<|rK fun K6 RK6 hK6 gK6=>zz ?_
 obtain⟨r7,h8,h⟩:=bs h
 refine cw (a_repair_Bounds hI hShp hU8T h8)<|zz ?_
 subst hK6 gK6
 refine es<|xs<|rK fun K12 RK12 hK12 gK12=>zz ?_
 obtain⟨r13,h14,h⟩:=bs h
 refine cw (a_diffcon_Solve hI h14)<|zz ?_
 subst hK12 gK12
 refine es<|xs<|rz ?_
 refine es<|xr ?_
 cases h
 exact en fr
def g_repair_Plan_2 (t_0:Int) (a_1_0:T_api_Document) (a_1_1:T_api_Profile) (a_1_2:List Int) (a_1_3:Int):Option (Bool) :=
 ((g_repair_Plan_1 t_0 a_1_0 a_1_1 a_1_2 a_1_3).bind fun r9=>(some r9.2))
theorem a_repair_Plan_2 {I:World→Prop} (hI:Stab I) (hShp:∀ w,I w→Shp w) (hU8T:∀ w,I w→U8T w) {t_0:Int} {a_1_0:T_api_Document} {a_1_1:T_api_Profile} {a_1_2:List Int} {a_1_3:Int} {r:Bool} (h:g_repair_Plan_2 t_0 a_1_0 a_1_1 a_1_2 a_1_3=some r):AFun Tryz.prog I 46 [.int .i64 t_0,.iptr [.fn 44 [.iptr [.str a_1_0.Title,.str a_1_0.Lang,.int .u8 a_1_0.Rate,.bool a_1_0.Drop,.int .i64 a_1_0.Last,.sl (a_1_0.Regions.map T_api_Region.d),.sl (a_1_0.Events.map T_api_Event.d),.sl (a_1_0.Comments.map T_api_Comment.d)],.iptr [.str a_1_1.Name,.int .i64 a_1_1.Reading,.int .i64 a_1_1.MinFrames,.int .i64 a_1_1.MaxFrames,.int .i64 a_1_1.MinGap,.int .i64 a_1_1.ShotBefore,.int .i64 a_1_1.ShotAfter,.int .i64 a_1_1.Rows,.int .i64 a_1_1.Cols,.str a_1_1.Forbidden,.int .i64 a_1_1.SafeTop,.int .i64 a_1_1.SafeBottom,.int .i64 a_1_1.SafeLeft,.int .i64 a_1_1.SafeRight],.iptr [.sl (a_1_2.map (D.int .i64))],.iptr [.int .i64 a_1_3]]]] (.bool r):=by
 have dd:=dd_ED;have k:=True.intro;have q:=k;have rs:=Tryz.results46
 unfold g_repair_Plan_2 at h
 refine .en hI Tryz.func46 Tryz.ntmps46 ?_
 refine xs<|rz ?_
 refine es<|xs<|rK fun K7 RK7 hK7 gK7=>zz ?_
 have h8:=(show aggT Tryz.prog 86=some false by kernel_rfl)
 have q:=And.intro @h8<|q
 refine zz ?_
 obtain⟨r9,h10,h⟩:=bs h
 refine cw (a_repair_Plan_1 hI hShp hU8T h10)<|zz ?_
 subst hK7 gK7
 refine es<|xs<|rz ?_
 refine es<|xr ?_
 cases h
 exact en fr
def g_sort_Search_s1 (c1_0_0:T_api_Document) (c1_0_1:T_api_Profile) (c1_0_2:List Int) (c1_0_3:Int) (x36:Int × Int):Option (Nx (Int × Int) (Int)) :=
 (if(decide (x36.1 < x36.2)) then((g_repair_Plan_2 (IntKind.i64.wrap (Int.fdiv (IntKind.u64.wrap (IntKind.i64.wrap (x36.1+x36.2))) 2)) c1_0_0 c1_0_1 c1_0_2 c1_0_3).bind fun r61=>(if r61 then(some (.go (x36.1,(IntKind.i64.wrap (Int.fdiv (IntKind.u64.wrap (IntKind.i64.wrap (x36.1+x36.2))) 2))))) else(some (.go ((IntKind.i64.wrap ((IntKind.i64.wrap (Int.fdiv (IntKind.u64.wrap (IntKind.i64.wrap (x36.1+x36.2))) 2))+1)),x36.2))))) else(some (.out x36.1)))
def g_sort_Search (n_0:Int) (c1_0_0:T_api_Document) (c1_0_1:T_api_Profile) (c1_0_2:List Int) (c1_0_3:Int):Option (Int) :=
 ((iter (g_sort_Search_s1 c1_0_0 c1_0_1 c1_0_2 c1_0_3) (0,n_0)).bind fun e37=>(some e37))
theorem a_sort_Search {I:World→Prop} (hI:Stab I) (hShp:∀ w,I w→Shp w) (hU8T:∀ w,I w→U8T w) {n_0:Int} {c1_0_0:T_api_Document} {c1_0_1:T_api_Profile} {c1_0_2:List Int} {c1_0_3:Int} {r:Int} (h:g_sort_Search n_0 c1_0_0 c1_0_1 c1_0_2 c1_0_3=some r):AFun Tryz.prog I 45 [.int .i64 n_0,.fn 46 [.iptr [.fn 44 [.iptr [.str c1_0_0.Title,.str c1_0_0.Lang,.int .u8 c1_0_0.Rate,.bool c1_0_0.Drop,.int .i64 c1_0_0.Last,.sl (c1_0_0.Regions.map T_api_Region.d),.sl (c1_0_0.Events.map T_api_Event.d),.sl (c1_0_0.Comments.map T_api_Comment.d)],.iptr [.str c1_0_1.Name,.int .i64 c1_0_1.Reading,.int .i64 c1_0_1.MinFrames,.int .i64 c1_0_1.MaxFrames,.int .i64 c1_0_1.MinGap,.int .i64 c1_0_1.ShotBefore,.int .i64 c1_0_1.ShotAfter,.int .i64 c1_0_1.Rows,.int .i64 c1_0_1.Cols,.str c1_0_1.Forbidden,.int .i64 c1_0_1.SafeTop,.int .i64 c1_0_1.SafeBottom,.int .i64 c1_0_1.SafeLeft,.int .i64 c1_0_1.SafeRight],.iptr [.sl (c1_0_2.map (D.int .i64))],.iptr [.int .i64 c1_0_3]]]]] (.int .i64 r):=by
 have dd:=dd_ED;have k:=True.intro;have q:=k;have rs:=Tryz.results45
 unfold g_sort_Search at h
 refine .en hI Tryz.func45 Tryz.ntmps45 ?_
 refine xs<|rz ?_
 refine es<|xs<|rz ?_
 refine es<|xs<|xb ?_
 obtain⟨e37,h66,h⟩:=bs h
 refine rb_loop (fun x36=>⟨envL [(1,.fn 46 [.iptr [.fn 44 [.iptr [.str c1_0_0.Title,.str c1_0_0.Lang,.int .u8 c1_0_0.Rate,.bool c1_0_0.Drop,.int .i64 c1_0_0.Last,.sl (c1_0_0.Regions.map T_api_Region.d),.sl (c1_0_0.Events.map T_api_Event.d),.sl (c1_0_0.Comments.map T_api_Comment.d)],.iptr [.str c1_0_1.Name,.int .i64 c1_0_1.Reading,.int .i64 c1_0_1.MinFrames,.int .i64 c1_0_1.MaxFrames,.int .i64 c1_0_1.MinGap,.int .i64 c1_0_1.ShotBefore,.int .i64 c1_0_1.ShotAfter,.int .i64 c1_0_1.Rows,.int .i64 c1_0_1.Cols,.str c1_0_1.Forbidden,.int .i64 c1_0_1.SafeTop,.int .i64 c1_0_1.SafeBottom,.int .i64 c1_0_1.SafeLeft,.int .i64 c1_0_1.SafeRight],.iptr [.sl (c1_0_2.map (D.int .i64))],.iptr [.int .i64 c1_0_3]]]]),(5,.int .i64 x36.1),(6,.int .i64 x36.2)],heapL [],0,26⟩) (fun _=>.exit 0) (fun e37=>⟨envL [(5,.int .i64 e37)],heapL [],0,26⟩) h66 (wk []) (by intro w;simp) ?_ ?_
 ·clear h
  intro x36 y h
  unfold g_sort_Search_s1 at h
  refine xs<|xs<|rz ?_
  refine es ?_
  rcases iK k h with⟨k,h⟩|⟨k,h⟩
  ·refine xt<|xk<|es<|xb<|xs<|rz ?_
   refine es<|xs<|rK fun K60 RK60 hK60 gK60=>zz ?_
   obtain⟨r61,h62,h⟩:=bs h
   refine cw (a_repair_Plan_2 hI hShp hU8T h62)<|zz ?_
   subst hK60 gK60
   refine es ?_
   rcases iK k h with⟨k,h⟩|⟨k,h⟩
   ·refine xf<|rz ?_
    refine bn ?_
    cases h
    exact en ⟨rfl,wk []⟩
   ·refine xt<|rz ?_
    refine bn ?_
    cases h
    exact en ⟨rfl,wk []⟩
  ·refine xf<|xx<|ee ?_
   cases h
   exact en ⟨rfl,wk []⟩
 ·refine bh<|es<|xs<|rz ?_
  refine es<|xr ?_
  cases h
  exact en fr
def g_style_Clone_s1 (r9:(List T_api_Row)) (x13:Unit):Option (Nx (Unit) (Unit)) :=
 (if(decide (0 < (r9.length:Int))) then((atI r9 0).bind fun y75=>(if y75.Runs.isEmpty then((g_slices_Clone_api_Run_api_Run y75.Runs).bind fun r77=>none) else((g_slices_Clone_api_Run_api_Run_nw y75.Runs).bind fun r79=>none))) else(some (.out ())))
def g_style_Clone_s2 (r84:(List T_api_Row)) (x88:Int × (List T_api_Row)):Option (Nx (Int × (List T_api_Row)) ((List T_api_Row))) :=
 (if(decide (x88.1 < ((r84.length:Nat):Int))) then((atI x88.2 x88.1).bind fun y163=>(if y163.Runs.isEmpty then((g_slices_Clone_api_Run_api_Run y163.Runs).bind fun r164=>((setI x88.2 x88.1 (T_api_Row.mk r164)).bind fun m166=>(some (.go ((IntKind.i64.wrap (x88.1+1)),m166))))) else((g_slices_Clone_api_Run_api_Run_nw y163.Runs).bind fun r173=>((setI x88.2 x88.1 (T_api_Row.mk r173)).bind fun m175=>(some (.go ((IntKind.i64.wrap (x88.1+1)),m175))))))) else(some (.out x88.2)))
def g_style_Clone (rows_0:List T_api_Row):Option ((List T_api_Row)) :=
 (if rows_0.isEmpty then((g_slices_Clone_api_Row_api_Row rows_0).bind fun r9=>((iter (g_style_Clone_s1 r9) ()).bind fun e14=>(some r9))) else((g_slices_Clone_api_Row_api_Row_nw rows_0).bind fun r84=>((iter (g_style_Clone_s2 r84) (0,r84)).bind fun e89=>(some e89))))
theorem a_style_Clone {I:World→Prop} (hI:Stab I) {rows_0:List T_api_Row} {r:(List T_api_Row)} (h:g_style_Clone rows_0=some r):AFun Tryz.prog I 117 [.sl (rows_0.map T_api_Row.d)] (.sl (r.map T_api_Row.d)):=by
 have dd:=dd_ED;have k:=True.intro;have q:=k;have rs:=Tryz.results117
 unfold g_style_Clone at h
 refine .en hI Tryz.func117 Tryz.ntmps117 ?_
 refine xs<|rz ?_
 refine es<|xs<|rK fun K8 RK8 hK8 gK8=>zz ?_
 rcases iK k h with⟨k,h⟩|⟨k,h⟩
 ·obtain⟨r9,h10,h⟩:=bs h
  refine cw (a_slices_Clone_api_Row_api_Row hI h10)<|zz ?_
  subst hK8 gK8
  refine es<|xs<|xs<|rz ?_
  refine es<|xb ?_
  obtain⟨e14,h81,h⟩:=bs h
  refine rb_loop (fun x13=>⟨envL [(3,.sl (r9.map T_api_Row.d)),(8,.int .i64 (r9.length:Int)),(9,.int .i64 0)],heapL [],0,24⟩) (fun _=>.exit 0) (fun e14=>⟨envL [(3,.sl (r9.map T_api_Row.d))],heapL [],0,24⟩) h81 (wk []) (by intro w;simp) ?_ ?_
  ·clear h
   intro x13 y h
   unfold g_style_Clone_s1 at h
   refine xs<|rz ?_
   refine es<|xs ?_
   rcases iK k h with⟨k,h⟩|⟨k,h⟩
   ·refine xt<|xk<|es<|xs<|xb<|xs<|rz ?_
    refine es<|rK fun K74 RK74 hK74 gK74=>zz ?_
    obtain⟨y75,q,h⟩:=bK q h
    refine zz ?_
    rcases iK k h with⟨k,h⟩|⟨k,h⟩
    ·obtain⟨r77,h78,h⟩:=bs h
     refine cw (a_slices_Clone_api_Run_api_Run hI h78)<|zz ?_
     cases h
    ·obtain⟨r79,h80,h⟩:=bs h
     refine cW.introE (a_slices_Clone_api_Run_api_Run_nw hI (nid:=10) h80) fz rfl<|zz ?_
     cases h
   ·refine xf<|xx<|ee ?_
    cases h
    exact en ⟨rfl,wk []⟩
  ·refine bh<|es<|xs<|rz ?_
   refine es<|xr ?_
   cases h
   exact en fr
 ·obtain⟨r84,h85,h⟩:=bs h
  refine cW.introE (a_slices_Clone_api_Row_api_Row_nw hI (nid:=2) h85) fz rfl<|zz ?_
  subst hK8 gK8
  refine es<|xs<|xs<|rz ?_
  refine es<|xb ?_
  obtain⟨e89,h182,h⟩:=bs h
  refine rb_loop (fun x88=>⟨envL [(3,.own 0 x88.2.length),(8,.int .i64 ((r84.length:Nat):Int)),(9,.int .i64 x88.1)],heapL [(0,.vec 129 1 (x88.2.map T_api_Row.d) false)],1,24⟩) (fun _=>.exit 0) (fun e89=>⟨envL [(3,.own 0 e89.length)],heapL [(0,.vec 129 1 (e89.map T_api_Row.d) false)],1,24⟩) h182 (wk [(0,some 2)]) (by intro w;simp) ?_ ?_
  ·clear h
   intro x88 y h
   unfold g_style_Clone_s2 at h
   refine xs<|rz ?_
   refine es<|xs ?_
   rcases iK k h with⟨k,h⟩|⟨k,h⟩
   ·refine xt<|xk<|es<|xs<|xb<|xs<|rz ?_
    refine es<|rK fun K162 RK162 hK162 gK162=>zz ?_
    obtain⟨y163,q,h⟩:=oN q h
    refine zz ?_
    rcases iK k h with⟨k,h⟩|⟨k,h⟩
    ·obtain⟨r164,h165,h⟩:=bs h
     refine cw (a_slices_Clone_api_Run_api_Run hI h165)<|zz ?_
     obtain⟨m166,h167,h⟩:=bind_some h
     obtain⟨h168,h169,h170,h171⟩:=setI_some h167
     have h171:=h171 T_api_Row.d
     try simp only[sevalprocAttr,List.map_nil,dd] at h171
     have q:=And.intro @h168<|And.intro @h169<|And.intro @h170<|And.intro @h171<|q
     refine zz ?_
     subst hK162 gK162
     refine bn<|es<|rz ?_
     cases h
     exact en ⟨rfl,wk []⟩
    ·obtain⟨r173,h174,h⟩:=bs h
     refine cW.introE (a_slices_Clone_api_Run_api_Run_nw hI (nid:=11) h174) fz rfl<|zz ?_
     obtain⟨m175,h176,h⟩:=bind_some h
     obtain⟨h177,h178,h179,h180⟩:=setI_some h176
     have h180:=h180 T_api_Row.d
     try simp only[sevalprocAttr,List.map_nil,dd] at h180
     have q:=And.intro @h177<|And.intro @h178<|And.intro @h179<|And.intro @h180<|q
     refine zz ?_
     subst hK162 gK162
     refine bn<|es<|rz ?_
     cases h
     exact en ⟨rfl,wk []⟩
   ·refine xf<|xx<|ee ?_
    cases h
    exact en ⟨rfl,wk []⟩
  ·refine bh<|es<|xs<|rz ?_
   refine es<|xr ?_
   cases h
   exact en fr
def g_event_Clone (e_0:T_api_Event):Option (T_api_Event) :=
 ((g_style_Clone e_0.Rows).bind fun r7=>(some (T_api_Event.mk e_0.ID e_0.Span e_0.Region e_0.Kind e_0.Speaker r7)))
theorem a_event_Clone {I:World→Prop} (hI:Stab I) {e_0:T_api_Event} {r:T_api_Event} (h:g_event_Clone e_0=some r):AFun Tryz.prog I 66 [T_api_Event.d e_0] (T_api_Event.d r):=by
 have dd:=dd_ED;have k:=True.intro;have q:=k;have rs:=Tryz.results66
 unfold g_event_Clone at h
 refine .en hI Tryz.func66 Tryz.ntmps66 ?_
 refine xs<|rz ?_
 refine es<|xs<|rK fun K6 RK6 hK6 gK6=>zz ?_
 obtain⟨r7,h8,h⟩:=bs h
 refine cw (a_style_Clone hI h8)<|zz ?_
 subst hK6 gK6
 refine es<|xs<|rz ?_
 refine es<|xr ?_
 cases h
 exact en fr
def g_document_Clone_s1 (r27:(List T_api_Event)) (x31:Unit):Option (Nx (Unit) (Unit)) :=
 (if(decide (0 < (r27.length:Int))) then((atI r27 0).bind fun y98=>((g_event_Clone y98).bind fun r101=>none)) else(some (.out ())))
def g_document_Clone_s2 (r106:(List T_api_Event)) (x110:Int × (List T_api_Event)):Option (Nx (Int × (List T_api_Event)) ((List T_api_Event))) :=
 (if(decide (x110.1 < ((r106.length:Nat):Int))) then((atI x110.2 x110.1).bind fun y194=>((g_event_Clone y194).bind fun r196=>((setI x110.2 x110.1 r196).bind fun m198=>(some (.go ((IntKind.i64.wrap (x110.1+1)),m198)))))) else(some (.out x110.2)))
def g_document_Clone_s3 (r216:(List T_api_Event)) (x220:Unit):Option (Nx (Unit) (Unit)) :=
 (if(decide (0 < (r216.length:Int))) then((atI r216 0).bind fun y287=>((g_event_Clone y287).bind fun r290=>none)) else(some (.out ())))
def g_document_Clone_s4 (r295:(List T_api_Event)) (x299:Int × (List T_api_Event)):Option (Nx (Int × (List T_api_Event)) ((List T_api_Event))) :=
 (if(decide (x299.1 < ((r295.length:Nat):Int))) then((atI x299.2 x299.1).bind fun y383=>((g_event_Clone y383).bind fun r385=>((setI x299.2 x299.1 r385).bind fun m387=>(some (.go ((IntKind.i64.wrap (x299.1+1)),m387)))))) else(some (.out x299.2)))
def g_document_Clone_s5 (r407:(List T_api_Event)) (x411:Unit):Option (Nx (Unit) (Unit)) :=
 (if(decide (0 < (r407.length:Int))) then((atI r407 0).bind fun y478=>((g_event_Clone y478).bind fun r481=>none)) else(some (.out ())))
def g_document_Clone_s6 (r486:(List T_api_Event)) (x490:Int × (List T_api_Event)):Option (Nx (Int × (List T_api_Event)) ((List T_api_Event))) :=
 (if(decide (x490.1 < ((r486.length:Nat):Int))) then((atI x490.2 x490.1).bind fun y574=>((g_event_Clone y574).bind fun r576=>((setI x490.2 x490.1 r576).bind fun m578=>(some (.go ((IntKind.i64.wrap (x490.1+1)),m578)))))) else(some (.out x490.2)))
def g_document_Clone_s7 (r596:(List T_api_Event)) (x600:Unit):Option (Nx (Unit) (Unit)) :=
 (if(decide (0 < (r596.length:Int))) then((atI r596 0).bind fun y667=>((g_event_Clone y667).bind fun r670=>none)) else(some (.out ())))
def g_document_Clone_s8 (r675:(List T_api_Event)) (x679:Int × (List T_api_Event)):Option (Nx (Int × (List T_api_Event)) ((List T_api_Event))) :=
 (if(decide (x679.1 < ((r675.length:Nat):Int))) then((atI x679.2 x679.1).bind fun y763=>((g_event_Clone y763).bind fun r765=>((setI x679.2 x679.1 r765).bind fun m767=>(some (.go ((IntKind.i64.wrap (x679.1+1)),m767)))))) else(some (.out x679.2)))
def g_document_Clone (d_0:T_api_Document):Option (T_api_Document) :=
 (if d_0.Regions.isEmpty then((g_slices_Clone_api_Region_api_Region d_0.Regions).bind fun r17=>(if d_0.Comments.isEmpty then((g_slices_Clone_api_Comment_api_Comment d_0.Comments).bind fun r19=>(if d_0.Events.isEmpty then((g_slices_Clone_api_Event_api_Event d_0.Events).bind fun r27=>((iter (g_document_Clone_s1 r27) ()).bind fun e32=>(some (T_api_Document.mk d_0.Title d_0.Lang d_0.Rate d_0.Drop d_0.Last r17 r27 r19)))) else((g_slices_Clone_api_Event_api_Event_nw d_0.Events).bind fun r106=>((iter (g_document_Clone_s2 r106) (0,r106)).bind fun e111=>(some (T_api_Document.mk d_0.Title d_0.Lang d_0.Rate d_0.Drop d_0.Last r17 e111 r19)))))) else((g_slices_Clone_api_Comment_api_Comment_nw d_0.Comments).bind fun r208=>(if d_0.Events.isEmpty then((g_slices_Clone_api_Event_api_Event d_0.Events).bind fun r216=>((iter (g_document_Clone_s3 r216) ()).bind fun e221=>(some (T_api_Document.mk d_0.Title d_0.Lang d_0.Rate d_0.Drop d_0.Last r17 r216 r208)))) else((g_slices_Clone_api_Event_api_Event_nw d_0.Events).bind fun r295=>((iter (g_document_Clone_s4 r295) (0,r295)).bind fun e300=>(some (T_api_Document.mk d_0.Title d_0.Lang d_0.Rate d_0.Drop d_0.Last r17 e300 r208)))))))) else((g_slices_Clone_api_Region_api_Region_nw d_0.Regions).bind fun r397=>(if d_0.Comments.isEmpty then((g_slices_Clone_api_Comment_api_Comment d_0.Comments).bind fun r399=>(if d_0.Events.isEmpty then((g_slices_Clone_api_Event_api_Event d_0.Events).bind fun r407=>((iter (g_document_Clone_s5 r407) ()).bind fun e412=>(some (T_api_Document.mk d_0.Title d_0.Lang d_0.Rate d_0.Drop d_0.Last r397 r407 r399)))) else((g_slices_Clone_api_Event_api_Event_nw d_0.Events).bind fun r486=>((iter (g_document_Clone_s6 r486) (0,r486)).bind fun e491=>(some (T_api_Document.mk d_0.Title d_0.Lang d_0.Rate d_0.Drop d_0.Last r397 e491 r399)))))) else((g_slices_Clone_api_Comment_api_Comment_nw d_0.Comments).bind fun r588=>(if d_0.Events.isEmpty then((g_slices_Clone_api_Event_api_Event d_0.Events).bind fun r596=>((iter (g_document_Clone_s7 r596) ()).bind fun e601=>(some (T_api_Document.mk d_0.Title d_0.Lang d_0.Rate d_0.Drop d_0.Last r397 r596 r588)))) else((g_slices_Clone_api_Event_api_Event_nw d_0.Events).bind fun r675=>((iter (g_document_Clone_s8 r675) (0,r675)).bind fun e680=>(some (T_api_Document.mk d_0.Title d_0.Lang d_0.Rate d_0.Drop d_0.Last r397 e680 r588)))))))))
theorem a_document_Clone {I:World→Prop} (hI:Stab I) {d_0:T_api_Document} {r:T_api_Document} (h:g_document_Clone d_0=some r):AFun Tryz.prog I 24 [T_api_Document.d d_0] (T_api_Document.d r):=by
 have dd:=dd_ED;have k:=True.intro;have q:=k;have rs:=Tryz.results24
 unfold g_document_Clone at h
 refine .en hI Tryz.func24 Tryz.ntmps24 ?_
 refine xs<|rz ?_
 refine es<|xs<|rD hI fun K16 RK16 hK16 gK16=>zz ?_
 rcases iK k h with⟨k,h⟩|⟨k,h⟩
 ·obtain⟨r17,h18,h⟩:=bs h
  refine cd (a_slices_Clone_api_Region_api_Region hI h18)<|zz ?_
  rcases iK k h with⟨k,h⟩|⟨k,h⟩
  ·obtain⟨r19,h20,h⟩:=bs h
   refine cd (a_slices_Clone_api_Comment_api_Comment hI h20)<|zz ?_
   refine hd<|zz ?_
   refine hd<|zz ?_
   subst hK16 gK16
   refine es<|xs<|rK fun K26 RK26 hK26 gK26=>zz ?_
   rcases iK k h with⟨k,h⟩|⟨k,h⟩
   ·obtain⟨r27,h28,h⟩:=bs h
    refine cw (a_slices_Clone_api_Event_api_Event hI h28)<|zz ?_
    subst hK26 gK26
    refine es<|xs<|xs<|rz ?_
    refine es<|xb ?_
    obtain⟨e32,h103,h⟩:=bs h
    refine rb_loop (fun x31=>⟨envL [(1,.ptr 0 0),(2,.ptr 1 0),(18,.sl (r27.map T_api_Event.d)),(19,.int .i64 (r27.length:Int)),(20,.int .i64 0)],heapL [(0,.box none [.str d_0.Title,.str d_0.Lang,.int .u8 d_0.Rate,.bool d_0.Drop,.int .i64 d_0.Last,.sl (r17.map T_api_Region.d),.sl (r27.map T_api_Event.d),.sl (r19.map T_api_Comment.d)]),(1,.box none [.str [],.str [],.int .u8 0,.bool false,.int .i64 0,.nils,.nils,.nils])],2,33⟩) (fun _=>.exit 0) (fun e32=>⟨envL [(1,.ptr 0 0),(2,.ptr 1 0)],heapL [(0,.box none [.str d_0.Title,.str d_0.Lang,.int .u8 d_0.Rate,.bool d_0.Drop,.int .i64 d_0.Last,.sl (r17.map T_api_Region.d),.sl (r27.map T_api_Event.d),.sl (r19.map T_api_Comment.d)]),(1,.box none [.str [],.str [],.int .u8 0,.bool false,.int .i64 0,.nils,.nils,.nils])],2,33⟩) h103 (wk []) (by intro w;simp) ?_ ?_
    ·clear h
     intro x31 y h
     unfold g_document_Clone_s1 at h
     refine xs<|rz ?_
     refine es<|xs ?_
     rcases iK k h with⟨k,h⟩|⟨k,h⟩
     ·refine xt<|xk<|es<|xs<|xb<|xs<|rK fun K97 RK97 hK97 gK97=>zz ?_
      obtain⟨y98,q,h⟩:=bK q h
      refine zz ?_
      subst hK97 gK97
      refine es<|rD hI fun K100 RK100 hK100 gK100=>zz ?_
      obtain⟨r101,h102,h⟩:=bs h
      refine cd (a_event_Clone hI h102)<|zz ?_
      cases h
     ·refine xf<|xx<|ee ?_
      cases h
      exact en ⟨rfl,wk []⟩
    ·refine bh<|es<|xs<|rz ?_
     refine es<|xr ?_
     cases h
     exact en fr
   ·obtain⟨r106,h107,h⟩:=bs h
    refine cW.introE (a_slices_Clone_api_Event_api_Event_nw hI (nid:=14) h107) fz rfl<|zz ?_
    subst hK26 gK26
    refine es<|xs<|xs<|rz ?_
    refine es<|xb ?_
    obtain⟨e111,h205,h⟩:=bs h
    refine rb_loop (fun x110=>⟨envL [(1,.ptr 0 0),(2,.ptr 2 0),(18,.own 1 x110.2.length),(19,.int .i64 ((r106.length:Nat):Int)),(20,.int .i64 x110.1)],heapL [(0,.box none [.str d_0.Title,.str d_0.Lang,.int .u8 d_0.Rate,.bool d_0.Drop,.int .i64 d_0.Last,.sl (r17.map T_api_Region.d),.own 1 x110.2.length,.sl (r19.map T_api_Comment.d)]),(1,.vec 64 7 (x110.2.map T_api_Event.d) false),(2,.box none [.str [],.str [],.int .u8 0,.bool false,.int .i64 0,.nils,.nils,.nils])],3,33⟩) (fun _=>.exit 0) (fun e111=>⟨envL [(1,.ptr 0 0),(2,.ptr 2 0)],heapL [(0,.box none [.str d_0.Title,.str d_0.Lang,.int .u8 d_0.Rate,.bool d_0.Drop,.int .i64 d_0.Last,.sl (r17.map T_api_Region.d),.own 1 e111.length,.sl (r19.map T_api_Comment.d)]),(1,.vec 64 7 (e111.map T_api_Event.d) false),(2,.box none [.str [],.str [],.int .u8 0,.bool false,.int .i64 0,.nils,.nils,.nils])],3,33⟩) h205 (wk [(1,some 14),(2,some 1)]) (by intro w;simp) ?_ ?_
    ·clear h
     intro x110 y h
     unfold g_document_Clone_s2 at h
     refine xs<|rz ?_
     refine es<|xs ?_
     rcases iK k h with⟨k,h⟩|⟨k,h⟩
     ·refine xt<|xk<|es<|xs<|xb<|xs<|rK fun K193 RK193 hK193 gK193=>zz ?_
      obtain⟨y194,q,h⟩:=oN q h
      refine zz ?_
      subst hK193 gK193
      refine es<|rD hI fun K195 RK195 hK195 gK195=>zz ?_
      obtain⟨r196,h197,h⟩:=bs h
      refine cd (a_event_Clone hI h197)<|zz ?_
      obtain⟨m198,h199,h⟩:=bind_some h
      obtain⟨h200,h201,h202,h203⟩:=setI_some h199
      have h203:=h203 T_api_Event.d
      try simp only[sevalprocAttr,List.map_nil,dd] at h203
      have q:=And.intro @h200<|And.intro @h201<|And.intro @h202<|And.intro @h203<|q
      refine zz ?_
      refine hd<|zz ?_
      subst hK195 gK195
      refine bn<|es<|rz ?_
      cases h
      exact en ⟨rfl,wk []⟩
     ·refine xf<|xx<|ee ?_
      cases h
      exact en ⟨rfl,wk []⟩
    ·refine bh<|es<|xs<|rz ?_
     refine es<|xr ?_
     cases h
     exact en fr
  ·obtain⟨r208,h209,h⟩:=bs h
   refine cD'.introE (fun H' ho hs=>a_slices_Clone_api_Comment_api_Comment_nw hI (H:=H') (nid:=7) h209) fz rfl fk ?_
   refine zz ?_
   refine hd<|zz ?_
   refine hd<|zz ?_
   subst hK16 gK16
   refine es<|xs<|rK fun K215 RK215 hK215 gK215=>zz ?_
   rcases iK k h with⟨k,h⟩|⟨k,h⟩
   ·obtain⟨r216,h217,h⟩:=bs h
    refine cw (a_slices_Clone_api_Event_api_Event hI h217)<|zz ?_
    subst hK215 gK215
    refine es<|xs<|xs<|rz ?_
    refine es<|xb ?_
    obtain⟨e221,h292,h⟩:=bs h
    refine rb_loop (fun x220=>⟨envL [(1,.ptr 0 0),(2,.ptr 2 0),(18,.sl (r216.map T_api_Event.d)),(19,.int .i64 (r216.length:Int)),(20,.int .i64 0)],heapL [(0,.box none [.str d_0.Title,.str d_0.Lang,.int .u8 d_0.Rate,.bool d_0.Drop,.int .i64 d_0.Last,.sl (r17.map T_api_Region.d),.sl (r216.map T_api_Event.d),.own 1 r208.length]),(1,.vec 107 8 (r208.map T_api_Comment.d) false),(2,.box none [.str [],.str [],.int .u8 0,.bool false,.int .i64 0,.nils,.nils,.nils])],3,33⟩) (fun _=>.exit 0) (fun e221=>⟨envL [(1,.ptr 0 0),(2,.ptr 2 0)],heapL [(0,.box none [.str d_0.Title,.str d_0.Lang,.int .u8 d_0.Rate,.bool d_0.Drop,.int .i64 d_0.Last,.sl (r17.map T_api_Region.d),.sl (r216.map T_api_Event.d),.own 1 r208.length]),(1,.vec 107 8 (r208.map T_api_Comment.d) false),(2,.box none [.str [],.str [],.int .u8 0,.bool false,.int .i64 0,.nils,.nils,.nils])],3,33⟩) h292 (wk [(1,some 7),(2,some 1)]) (by intro w;simp) ?_ ?_
    ·clear h
     intro x220 y h
     unfold g_document_Clone_s3 at h
     refine xs<|rz ?_
     refine es<|xs ?_
     rcases iK k h with⟨k,h⟩|⟨k,h⟩
     ·refine xt<|xk<|es<|xs<|xb<|xs<|rK fun K286 RK286 hK286 gK286=>zz ?_
      obtain⟨y287,q,h⟩:=bK q h
      refine zz ?_
      subst hK286 gK286
      refine es<|rD hI fun K289 RK289 hK289 gK289=>zz ?_
      obtain⟨r290,h291,h⟩:=bs h
      refine cd (a_event_Clone hI h291)<|zz ?_
      cases h
     ·refine xf<|xx<|ee ?_
      cases h
      exact en ⟨rfl,wk []⟩
    ·refine bh<|es<|xs<|rz ?_
     refine es<|xr ?_
     cases h
     exact en fr
   ·obtain⟨r295,h296,h⟩:=bs h
    refine cW.introE (a_slices_Clone_api_Event_api_Event_nw hI (nid:=14) h296) fz rfl<|zz ?_
    subst hK215 gK215
    refine es<|xs<|xs<|rz ?_
    refine es<|xb ?_
    obtain⟨e300,h394,h⟩:=bs h
    refine rb_loop (fun x299=>⟨envL [(1,.ptr 0 0),(2,.ptr 3 0),(18,.own 1 x299.2.length),(19,.int .i64 ((r295.length:Nat):Int)),(20,.int .i64 x299.1)],heapL [(0,.box none [.str d_0.Title,.str d_0.Lang,.int .u8 d_0.Rate,.bool d_0.Drop,.int .i64 d_0.Last,.sl (r17.map T_api_Region.d),.own 1 x299.2.length,.own 2 r208.length]),(1,.vec 64 7 (x299.2.map T_api_Event.d) false),(2,.vec 107 8 (r208.map T_api_Comment.d) false),(3,.box none [.str [],.str [],.int .u8 0,.bool false,.int .i64 0,.nils,.nils,.nils])],4,33⟩) (fun _=>.exit 0) (fun e300=>⟨envL [(1,.ptr 0 0),(2,.ptr 3 0)],heapL [(0,.box none [.str d_0.Title,.str d_0.Lang,.int .u8 d_0.Rate,.bool d_0.Drop,.int .i64 d_0.Last,.sl (r17.map T_api_Region.d),.own 1 e300.length,.own 2 r208.length]),(1,.vec 64 7 (e300.map T_api_Event.d) false),(2,.vec 107 8 (r208.map T_api_Comment.d) false),(3,.box none [.str [],.str [],.int .u8 0,.bool false,.int .i64 0,.nils,.nils,.nils])],4,33⟩) h394 (wk [(1,some 14),(2,some 7),(3,some 1)]) (by intro w;simp) ?_ ?_
    ·clear h
     intro x299 y h
     unfold g_document_Clone_s4 at h
     refine xs<|rz ?_
     refine es<|xs ?_
     rcases iK k h with⟨k,h⟩|⟨k,h⟩
     ·refine xt<|xk<|es<|xs<|xb<|xs<|rK fun K382 RK382 hK382 gK382=>zz ?_
      obtain⟨y383,q,h⟩:=oN q h
      refine zz ?_
      subst hK382 gK382
      refine es<|rD hI fun K384 RK384 hK384 gK384=>zz ?_
      obtain⟨r385,h386,h⟩:=bs h
      refine cd (a_event_Clone hI h386)<|zz ?_
      obtain⟨m387,h388,h⟩:=bind_some h
      obtain⟨h389,h390,h391,h392⟩:=setI_some h388
      have h392:=h392 T_api_Event.d
      try simp only[sevalprocAttr,List.map_nil,dd] at h392
      have q:=And.intro @h389<|And.intro @h390<|And.intro @h391<|And.intro @h392<|q
      refine zz ?_
      refine hd<|zz ?_
      subst hK384 gK384
      refine bn<|es<|rz ?_
      cases h
      exact en ⟨rfl,wk []⟩
     ·refine xf<|xx<|ee ?_
      cases h
      exact en ⟨rfl,wk []⟩
    ·refine bh<|es<|xs<|rz ?_
     refine es<|xr ?_
     cases h
     exact en fr
 ·obtain⟨r397,h398,h⟩:=bs h
  refine cD'.introE (fun H' ho hs=>a_slices_Clone_api_Region_api_Region_nw hI (H:=H') (nid:=4) h398) fz rfl fk ?_
  refine zz ?_
  rcases iK k h with⟨k,h⟩|⟨k,h⟩
  ·obtain⟨r399,h400,h⟩:=bs h
   refine cd (a_slices_Clone_api_Comment_api_Comment hI h400)<|zz ?_
   refine hd<|zz ?_
   refine hd<|zz ?_
   subst hK16 gK16
   refine es<|xs<|rK fun K406 RK406 hK406 gK406=>zz ?_
   rcases iK k h with⟨k,h⟩|⟨k,h⟩
   ·obtain⟨r407,h408,h⟩:=bs h
    refine cw (a_slices_Clone_api_Event_api_Event hI h408)<|zz ?_
    subst hK406 gK406
    refine es<|xs<|xs<|rz ?_
    refine es<|xb ?_
    obtain⟨e412,h483,h⟩:=bs h
    refine rb_loop (fun x411=>⟨envL [(1,.ptr 0 0),(2,.ptr 2 0),(18,.sl (r407.map T_api_Event.d)),(19,.int .i64 (r407.length:Int)),(20,.int .i64 0)],heapL [(0,.box none [.str d_0.Title,.str d_0.Lang,.int .u8 d_0.Rate,.bool d_0.Drop,.int .i64 d_0.Last,.own 1 r397.length,.sl (r407.map T_api_Event.d),.sl (r399.map T_api_Comment.d)]),(1,.vec 102 7 (r397.map T_api_Region.d) false),(2,.box none [.str [],.str [],.int .u8 0,.bool false,.int .i64 0,.nils,.nils,.nils])],3,33⟩) (fun _=>.exit 0) (fun e412=>⟨envL [(1,.ptr 0 0),(2,.ptr 2 0)],heapL [(0,.box none [.str d_0.Title,.str d_0.Lang,.int .u8 d_0.Rate,.bool d_0.Drop,.int .i64 d_0.Last,.own 1 r397.length,.sl (r407.map T_api_Event.d),.sl (r399.map T_api_Comment.d)]),(1,.vec 102 7 (r397.map T_api_Region.d) false),(2,.box none [.str [],.str [],.int .u8 0,.bool false,.int .i64 0,.nils,.nils,.nils])],3,33⟩) h483 (wk [(1,some 4),(2,some 1)]) (by intro w;simp) ?_ ?_
    ·clear h
     intro x411 y h
     unfold g_document_Clone_s5 at h
     refine xs<|rz ?_
     refine es<|xs ?_
     rcases iK k h with⟨k,h⟩|⟨k,h⟩
     ·refine xt<|xk<|es<|xs<|xb<|xs<|rK fun K477 RK477 hK477 gK477=>zz ?_
      obtain⟨y478,q,h⟩:=bK q h
      refine zz ?_
      subst hK477 gK477
      refine es<|rD hI fun K480 RK480 hK480 gK480=>zz ?_
      obtain⟨r481,h482,h⟩:=bs h
      refine cd (a_event_Clone hI h482)<|zz ?_
      cases h
     ·refine xf<|xx<|ee ?_
      cases h
      exact en ⟨rfl,wk []⟩
    ·refine bh<|es<|xs<|rz ?_
     refine es<|xr ?_
     cases h
     exact en fr
   ·obtain⟨r486,h487,h⟩:=bs h
    refine cW.introE (a_slices_Clone_api_Event_api_Event_nw hI (nid:=14) h487) fz rfl<|zz ?_
    subst hK406 gK406
    refine es<|xs<|xs<|rz ?_
    refine es<|xb ?_
    obtain⟨e491,h585,h⟩:=bs h
    refine rb_loop (fun x490=>⟨envL [(1,.ptr 0 0),(2,.ptr 3 0),(18,.own 2 x490.2.length),(19,.int .i64 ((r486.length:Nat):Int)),(20,.int .i64 x490.1)],heapL [(0,.box none [.str d_0.Title,.str d_0.Lang,.int .u8 d_0.Rate,.bool d_0.Drop,.int .i64 d_0.Last,.own 1 r397.length,.own 2 x490.2.length,.sl (r399.map T_api_Comment.d)]),(1,.vec 102 7 (r397.map T_api_Region.d) false),(2,.vec 64 7 (x490.2.map T_api_Event.d) false),(3,.box none [.str [],.str [],.int .u8 0,.bool false,.int .i64 0,.nils,.nils,.nils])],4,33⟩) (fun _=>.exit 0) (fun e491=>⟨envL [(1,.ptr 0 0),(2,.ptr 3 0)],heapL [(0,.box none [.str d_0.Title,.str d_0.Lang,.int .u8 d_0.Rate,.bool d_0.Drop,.int .i64 d_0.Last,.own 1 r397.length,.own 2 e491.length,.sl (r399.map T_api_Comment.d)]),(1,.vec 102 7 (r397.map T_api_Region.d) false),(2,.vec 64 7 (e491.map T_api_Event.d) false),(3,.box none [.str [],.str [],.int .u8 0,.bool false,.int .i64 0,.nils,.nils,.nils])],4,33⟩) h585 (wk [(1,some 4),(2,some 14),(3,some 1)]) (by intro w;simp) ?_ ?_
    ·clear h
     intro x490 y h
     unfold g_document_Clone_s6 at h
     refine xs<|rz ?_
     refine es<|xs ?_
     rcases iK k h with⟨k,h⟩|⟨k,h⟩
     ·refine xt<|xk<|es<|xs<|xb<|xs<|rK fun K573 RK573 hK573 gK573=>zz ?_
      obtain⟨y574,q,h⟩:=oN q h
      refine zz ?_
      subst hK573 gK573
      refine es<|rD hI fun K575 RK575 hK575 gK575=>zz ?_
      obtain⟨r576,h577,h⟩:=bs h
      refine cd (a_event_Clone hI h577)<|zz ?_
      obtain⟨m578,h579,h⟩:=bind_some h
      obtain⟨h580,h581,h582,h583⟩:=setI_some h579
      have h583:=h583 T_api_Event.d
      try simp only[sevalprocAttr,List.map_nil,dd] at h583
      have q:=And.intro @h580<|And.intro @h581<|And.intro @h582<|And.intro @h583<|q
      refine zz ?_
      refine hd<|zz ?_
      subst hK575 gK575
      refine bn<|es<|rz ?_
      cases h
      exact en ⟨rfl,wk []⟩
     ·refine xf<|xx<|ee ?_
      cases h
      exact en ⟨rfl,wk []⟩
    ·refine bh<|es<|xs<|rz ?_
     refine es<|xr ?_
     cases h
     exact en fr
  ·obtain⟨r588,h589,h⟩:=bs h
   refine cD'.introE (fun H' ho hs=>a_slices_Clone_api_Comment_api_Comment_nw hI (H:=H') (nid:=7) h589) fz rfl fk ?_
   refine zz ?_
   refine hd<|zz ?_
   refine hd<|zz ?_
   subst hK16 gK16
   refine es<|xs<|rK fun K595 RK595 hK595 gK595=>zz ?_
   rcases iK k h with⟨k,h⟩|⟨k,h⟩
   ·obtain⟨r596,h597,h⟩:=bs h
    refine cw (a_slices_Clone_api_Event_api_Event hI h597)<|zz ?_
    subst hK595 gK595
    refine es<|xs<|xs<|rz ?_
    refine es<|xb ?_
    obtain⟨e601,h672,h⟩:=bs h
    refine rb_loop (fun x600=>⟨envL [(1,.ptr 0 0),(2,.ptr 3 0),(18,.sl (r596.map T_api_Event.d)),(19,.int .i64 (r596.length:Int)),(20,.int .i64 0)],heapL [(0,.box none [.str d_0.Title,.str d_0.Lang,.int .u8 d_0.Rate,.bool d_0.Drop,.int .i64 d_0.Last,.own 1 r397.length,.sl (r596.map T_api_Event.d),.own 2 r588.length]),(1,.vec 102 7 (r397.map T_api_Region.d) false),(2,.vec 107 8 (r588.map T_api_Comment.d) false),(3,.box none [.str [],.str [],.int .u8 0,.bool false,.int .i64 0,.nils,.nils,.nils])],4,33⟩) (fun _=>.exit 0) (fun e601=>⟨envL [(1,.ptr 0 0),(2,.ptr 3 0)],heapL [(0,.box none [.str d_0.Title,.str d_0.Lang,.int .u8 d_0.Rate,.bool d_0.Drop,.int .i64 d_0.Last,.own 1 r397.length,.sl (r596.map T_api_Event.d),.own 2 r588.length]),(1,.vec 102 7 (r397.map T_api_Region.d) false),(2,.vec 107 8 (r588.map T_api_Comment.d) false),(3,.box none [.str [],.str [],.int .u8 0,.bool false,.int .i64 0,.nils,.nils,.nils])],4,33⟩) h672 (wk [(1,some 4),(2,some 7),(3,some 1)]) (by intro w;simp) ?_ ?_
    ·clear h
     intro x600 y h
     unfold g_document_Clone_s7 at h
     refine xs<|rz ?_
     refine es<|xs ?_
     rcases iK k h with⟨k,h⟩|⟨k,h⟩
     ·refine xt<|xk<|es<|xs<|xb<|xs<|rK fun K666 RK666 hK666 gK666=>zz ?_
      obtain⟨y667,q,h⟩:=bK q h
      refine zz ?_
      subst hK666 gK666
      refine es<|rD hI fun K669 RK669 hK669 gK669=>zz ?_
      obtain⟨r670,h671,h⟩:=bs h
      refine cd (a_event_Clone hI h671)<|zz ?_
      cases h
     ·refine xf<|xx<|ee ?_
      cases h
      exact en ⟨rfl,wk []⟩
    ·refine bh<|es<|xs<|rz ?_
     refine es<|xr ?_
     cases h
     exact en fr
   ·obtain⟨r675,h676,h⟩:=bs h
    refine cW.introE (a_slices_Clone_api_Event_api_Event_nw hI (nid:=14) h676) fz rfl<|zz ?_
    subst hK595 gK595
    refine es<|xs<|xs<|rz ?_
    refine es<|xb ?_
    obtain⟨e680,h774,h⟩:=bs h
    refine rb_loop (fun x679=>⟨envL [(1,.ptr 0 0),(2,.ptr 4 0),(18,.own 2 x679.2.length),(19,.int .i64 ((r675.length:Nat):Int)),(20,.int .i64 x679.1)],heapL [(0,.box none [.str d_0.Title,.str d_0.Lang,.int .u8 d_0.Rate,.bool d_0.Drop,.int .i64 d_0.Last,.own 1 r397.length,.own 2 x679.2.length,.own 3 r588.length]),(1,.vec 102 7 (r397.map T_api_Region.d) false),(2,.vec 64 7 (x679.2.map T_api_Event.d) false),(3,.vec 107 8 (r588.map T_api_Comment.d) false),(4,.box none [.str [],.str [],.int .u8 0,.bool false,.int .i64 0,.nils,.nils,.nils])],5,33⟩) (fun _=>.exit 0) (fun e680=>⟨envL [(1,.ptr 0 0),(2,.ptr 4 0)],heapL [(0,.box none [.str d_0.Title,.str d_0.Lang,.int .u8 d_0.Rate,.bool d_0.Drop,.int .i64 d_0.Last,.own 1 r397.length,.own 2 e680.length,.own 3 r588.length]),(1,.vec 102 7 (r397.map T_api_Region.d) false),(2,.vec 64 7 (e680.map T_api_Event.d) false),(3,.vec 107 8 (r588.map T_api_Comment.d) false),(4,.box none [.str [],.str [],.int .u8 0,.bool false,.int .i64 0,.nils,.nils,.nils])],5,33⟩) h774 (wk [(1,some 4),(2,some 14),(3,some 7),(4,some 1)]) (by intro w;simp) ?_ ?_
    ·clear h
     intro x679 y h
     unfold g_document_Clone_s8 at h
     refine xs<|rz ?_
     refine es<|xs ?_
     rcases iK k h with⟨k,h⟩|⟨k,h⟩
     ·refine xt<|xk<|es<|xs<|xb<|xs<|rK fun K762 RK762 hK762 gK762=>zz ?_
      obtain⟨y763,q,h⟩:=oN q h
      refine zz ?_
      subst hK762 gK762
      refine es<|rD hI fun K764 RK764 hK764 gK764=>zz ?_
      obtain⟨r765,h766,h⟩:=bs h
      refine cd (a_event_Clone hI h766)<|zz ?_
      obtain⟨m767,h768,h⟩:=bind_some h
      obtain⟨h769,h770,h771,h772⟩:=setI_some h768
      have h772:=h772 T_api_Event.d
      try simp only[sevalprocAttr,List.map_nil,dd] at h772
      have q:=And.intro @h769<|And.intro @h770<|And.intro @h771<|And.intro @h772<|q
      refine zz ?_
      refine hd<|zz ?_
      subst hK764 gK764
      refine bn<|es<|rz ?_
      cases h
      exact en ⟨rfl,wk []⟩
     ·refine xf<|xx<|ee ?_
      cases h
      exact en ⟨rfl,wk []⟩
    ·refine bh<|es<|xs<|rz ?_
     refine es<|xr ?_
     cases h
     exact en fr
def g_document_Clone_nw_s1 (r27:(List T_api_Event)) (x31:Unit):Option (Nx (Unit) (Unit)) :=
 (if(decide (0 < (r27.length:Int))) then((atI r27 0).bind fun y98=>((g_event_Clone y98).bind fun r101=>none)) else(some (.out ())))
def g_document_Clone_nw_s2 (r106:(List T_api_Event)) (x110:Int × (List T_api_Event)):Option (Nx (Int × (List T_api_Event)) ((List T_api_Event))) :=
 (if(decide (x110.1 < ((r106.length:Nat):Int))) then((atI x110.2 x110.1).bind fun y194=>((g_event_Clone y194).bind fun r196=>((setI x110.2 x110.1 r196).bind fun m198=>(some (.go ((IntKind.i64.wrap (x110.1+1)),m198)))))) else(some (.out x110.2)))
def g_document_Clone_nw_s3 (r216:(List T_api_Event)) (x220:Unit):Option (Nx (Unit) (Unit)) :=
 (if(decide (0 < (r216.length:Int))) then((atI r216 0).bind fun y287=>((g_event_Clone y287).bind fun r290=>none)) else(some (.out ())))
def g_document_Clone_nw_s4 (r295:(List T_api_Event)) (x299:Int × (List T_api_Event)):Option (Nx (Int × (List T_api_Event)) ((List T_api_Event))) :=
 (if(decide (x299.1 < ((r295.length:Nat):Int))) then((atI x299.2 x299.1).bind fun y383=>((g_event_Clone y383).bind fun r385=>((setI x299.2 x299.1 r385).bind fun m387=>(some (.go ((IntKind.i64.wrap (x299.1+1)),m387)))))) else(some (.out x299.2)))
def g_document_Clone_nw_s5 (r407:(List T_api_Event)) (x411:Unit):Option (Nx (Unit) (Unit)) :=
 (if(decide (0 < (r407.length:Int))) then((atI r407 0).bind fun y478=>((g_event_Clone y478).bind fun r481=>none)) else(some (.out ())))
def g_document_Clone_nw_s6 (r486:(List T_api_Event)) (x490:Int × (List T_api_Event)):Option (Nx (Int × (List T_api_Event)) ((List T_api_Event))) :=
 (if(decide (x490.1 < ((r486.length:Nat):Int))) then((atI x490.2 x490.1).bind fun y574=>((g_event_Clone y574).bind fun r576=>((setI x490.2 x490.1 r576).bind fun m578=>(some (.go ((IntKind.i64.wrap (x490.1+1)),m578)))))) else(some (.out x490.2)))
def g_document_Clone_nw_s7 (r596:(List T_api_Event)) (x600:Unit):Option (Nx (Unit) (Unit)) :=
 (if(decide (0 < (r596.length:Int))) then((atI r596 0).bind fun y667=>((g_event_Clone y667).bind fun r670=>none)) else(some (.out ())))
def g_document_Clone_nw_s8 (r675:(List T_api_Event)) (x679:Int × (List T_api_Event)):Option (Nx (Int × (List T_api_Event)) ((List T_api_Event))) :=
 (if(decide (x679.1 < ((r675.length:Nat):Int))) then((atI x679.2 x679.1).bind fun y763=>((g_event_Clone y763).bind fun r765=>((setI x679.2 x679.1 r765).bind fun m767=>(some (.go ((IntKind.i64.wrap (x679.1+1)),m767)))))) else(some (.out x679.2)))
def g_document_Clone_nw (d_0:T_api_Document):Option (T_api_Document) :=
 (if d_0.Regions.isEmpty then((g_slices_Clone_api_Region_api_Region d_0.Regions).bind fun r17=>(if d_0.Comments.isEmpty then((g_slices_Clone_api_Comment_api_Comment d_0.Comments).bind fun r19=>(if d_0.Events.isEmpty then((g_slices_Clone_api_Event_api_Event d_0.Events).bind fun r27=>((iter (g_document_Clone_nw_s1 r27) ()).bind fun e32=>none)) else((g_slices_Clone_api_Event_api_Event_nw d_0.Events).bind fun r106=>((iter (g_document_Clone_nw_s2 r106) (0,r106)).bind fun e111=>(some (T_api_Document.mk d_0.Title d_0.Lang d_0.Rate d_0.Drop d_0.Last r17 e111 r19)))))) else((g_slices_Clone_api_Comment_api_Comment_nw d_0.Comments).bind fun r208=>(if d_0.Events.isEmpty then((g_slices_Clone_api_Event_api_Event d_0.Events).bind fun r216=>((iter (g_document_Clone_nw_s3 r216) ()).bind fun e221=>none)) else((g_slices_Clone_api_Event_api_Event_nw d_0.Events).bind fun r295=>((iter (g_document_Clone_nw_s4 r295) (0,r295)).bind fun e300=>(some (T_api_Document.mk d_0.Title d_0.Lang d_0.Rate d_0.Drop d_0.Last r17 e300 r208)))))))) else((g_slices_Clone_api_Region_api_Region_nw d_0.Regions).bind fun r397=>(if d_0.Comments.isEmpty then((g_slices_Clone_api_Comment_api_Comment d_0.Comments).bind fun r399=>(if d_0.Events.isEmpty then((g_slices_Clone_api_Event_api_Event d_0.Events).bind fun r407=>((iter (g_document_Clone_nw_s5 r407) ()).bind fun e412=>none)) else((g_slices_Clone_api_Event_api_Event_nw d_0.Events).bind fun r486=>((iter (g_document_Clone_nw_s6 r486) (0,r486)).bind fun e491=>(some (T_api_Document.mk d_0.Title d_0.Lang d_0.Rate d_0.Drop d_0.Last r397 e491 r399)))))) else((g_slices_Clone_api_Comment_api_Comment_nw d_0.Comments).bind fun r588=>(if d_0.Events.isEmpty then((g_slices_Clone_api_Event_api_Event d_0.Events).bind fun r596=>((iter (g_document_Clone_nw_s7 r596) ()).bind fun e601=>none)) else((g_slices_Clone_api_Event_api_Event_nw d_0.Events).bind fun r675=>((iter (g_document_Clone_nw_s8 r675) (0,r675)).bind fun e680=>(some (T_api_Document.mk d_0.Title d_0.Lang d_0.Rate d_0.Drop d_0.Last r397 e680 r588)))))))))
theorem a_document_Clone_nw {I:World→Prop} (hI:Stab I) {H:Nat→Option Blk} {nid:Nat} {d_0:T_api_Document} {r:T_api_Document} (h:g_document_Clone_nw d_0=some r):CallOK Tryz.prog I 24 [T_api_Document.d d_0] H nid (.agg [.str r.Title,.str r.Lang,.int .u8 r.Rate,.bool r.Drop,.int .i64 r.Last,.sl (r.Regions.map T_api_Region.d),.own nid r.Events.length,.sl (r.Comments.map T_api_Comment.d)]) [(nid,some (.vec 64 7 (r.Events.map T_api_Event.d) false))]:=by
 refine CallOK.own hI Tryz.func24 rfl (by decide) (by simp[Tryz.f24]) (by kernel_rfl) rfl rfl ?_
 have dd:=dd_ED;have k:=True.intro;have q:=k;have rs:=Tryz.results24
 unfold g_document_Clone_nw at h
 simp only[List.length_cons,List.length_nil,Nat.zero_add,Nat.reduceAdd,Tryz.ntmps24,dd]
 refine xs<|rz ?_
 refine es<|xs<|rD hI fun K16 RK16 hK16 gK16=>zz ?_
 rcases iK k h with⟨k,h⟩|⟨k,h⟩
 ·obtain⟨r17,h18,h⟩:=bs h
  refine cd (a_slices_Clone_api_Region_api_Region hI h18)<|zz ?_
  rcases iK k h with⟨k,h⟩|⟨k,h⟩
  ·obtain⟨r19,h20,h⟩:=bs h
   refine cd (a_slices_Clone_api_Comment_api_Comment hI h20)<|zz ?_
   refine hd<|zz ?_
   refine hd<|zz ?_
   subst hK16 gK16
   refine es<|xs<|rK fun K26 RK26 hK26 gK26=>zz ?_
   rcases iK k h with⟨k,h⟩|⟨k,h⟩
   ·obtain⟨r27,h28,h⟩:=bs h
    refine cw (a_slices_Clone_api_Event_api_Event hI h28)<|zz ?_
    subst hK26 gK26
    refine es<|xs<|xs<|rz ?_
    refine es<|xb ?_
    obtain⟨e32,h103,h⟩:=bs h
    refine rb_loop (fun x31=>⟨envL [(1,.ptr 0 0),(2,.ptr 1 0),(18,.sl (r27.map T_api_Event.d)),(19,.int .i64 (r27.length:Int)),(20,.int .i64 0)],heapL [(0,.box none [.str d_0.Title,.str d_0.Lang,.int .u8 d_0.Rate,.bool d_0.Drop,.int .i64 d_0.Last,.sl (r17.map T_api_Region.d),.sl (r27.map T_api_Event.d),.sl (r19.map T_api_Comment.d)]),(1,.box none [.str [],.str [],.int .u8 0,.bool false,.int .i64 0,.nils,.nils,.nils])],2,33⟩) (fun _=>.exit 0) (fun e32=>⟨envL [(1,.ptr 0 0),(2,.ptr 1 0)],heapL [(0,.box none [.str d_0.Title,.str d_0.Lang,.int .u8 d_0.Rate,.bool d_0.Drop,.int .i64 d_0.Last,.sl (r17.map T_api_Region.d),.sl (r27.map T_api_Event.d),.sl (r19.map T_api_Comment.d)]),(1,.box none [.str [],.str [],.int .u8 0,.bool false,.int .i64 0,.nils,.nils,.nils])],2,33⟩) h103 (wk []) (by intro w;simp) ?_ ?_
    ·clear h
     intro x31 y h
     unfold g_document_Clone_nw_s1 at h
     refine xs<|rz ?_
     refine es<|xs ?_
     rcases iK k h with⟨k,h⟩|⟨k,h⟩
     ·refine xt<|xk<|es<|xs<|xb<|xs<|rK fun K97 RK97 hK97 gK97=>zz ?_
      obtain⟨y98,q,h⟩:=bK q h
      refine zz ?_
      subst hK97 gK97
      refine es<|rD hI fun K100 RK100 hK100 gK100=>zz ?_
      obtain⟨r101,h102,h⟩:=bs h
      refine cd (a_event_Clone hI h102)<|zz ?_
      cases h
     ·refine xf<|xx<|ee ?_
      cases h
      exact en ⟨rfl,wk []⟩
    ·refine bh<|es<|xs<|rz ?_
     refine es<|xr ?_
     cases h
   ·obtain⟨r106,h107,h⟩:=bs h
    refine cW.introE (a_slices_Clone_api_Event_api_Event_nw hI (nid:=14) h107) fz rfl<|zz ?_
    subst hK26 gK26
    refine es<|xs<|xs<|rz ?_
    refine es<|xb ?_
    obtain⟨e111,h205,h⟩:=bs h
    refine rb_loop (fun x110=>⟨envL [(1,.ptr 0 0),(2,.ptr 2 0),(18,.own 1 x110.2.length),(19,.int .i64 ((r106.length:Nat):Int)),(20,.int .i64 x110.1)],heapL [(0,.box none [.str d_0.Title,.str d_0.Lang,.int .u8 d_0.Rate,.bool d_0.Drop,.int .i64 d_0.Last,.sl (r17.map T_api_Region.d),.own 1 x110.2.length,.sl (r19.map T_api_Comment.d)]),(1,.vec 64 7 (x110.2.map T_api_Event.d) false),(2,.box none [.str [],.str [],.int .u8 0,.bool false,.int .i64 0,.nils,.nils,.nils])],3,33⟩) (fun _=>.exit 0) (fun e111=>⟨envL [(1,.ptr 0 0),(2,.ptr 2 0)],heapL [(0,.box none [.str d_0.Title,.str d_0.Lang,.int .u8 d_0.Rate,.bool d_0.Drop,.int .i64 d_0.Last,.sl (r17.map T_api_Region.d),.own 1 e111.length,.sl (r19.map T_api_Comment.d)]),(1,.vec 64 7 (e111.map T_api_Event.d) false),(2,.box none [.str [],.str [],.int .u8 0,.bool false,.int .i64 0,.nils,.nils,.nils])],3,33⟩) h205 (wk [(1,some 14),(2,some 1)]) (by intro w;simp) ?_ ?_
    ·clear h
     intro x110 y h
     unfold g_document_Clone_nw_s2 at h
     refine xs<|rz ?_
     refine es<|xs ?_
     rcases iK k h with⟨k,h⟩|⟨k,h⟩
     ·refine xt<|xk<|es<|xs<|xb<|xs<|rK fun K193 RK193 hK193 gK193=>zz ?_
      obtain⟨y194,q,h⟩:=oN q h
      refine zz ?_
      subst hK193 gK193
      refine es<|rD hI fun K195 RK195 hK195 gK195=>zz ?_
      obtain⟨r196,h197,h⟩:=bs h
      refine cd (a_event_Clone hI h197)<|zz ?_
      obtain⟨m198,h199,h⟩:=bind_some h
      obtain⟨h200,h201,h202,h203⟩:=setI_some h199
      have h203:=h203 T_api_Event.d
      try simp only[sevalprocAttr,List.map_nil,dd] at h203
      have q:=And.intro @h200<|And.intro @h201<|And.intro @h202<|And.intro @h203<|q
      refine zz ?_
      refine hd<|zz ?_
      subst hK195 gK195
      refine bn<|es<|rz ?_
      cases h
      exact en ⟨rfl,wk []⟩
     ·refine xf<|xx<|ee ?_
      cases h
      exact en ⟨rfl,wk []⟩
    ·refine bh<|es<|xs<|rz ?_
     refine es<|xr ?_
     cases h
     exact en (fO 1)
  ·obtain⟨r208,h209,h⟩:=bs h
   refine cD'.introE (fun H' ho hs=>a_slices_Clone_api_Comment_api_Comment_nw hI (H:=H') (nid:=7) h209) fz rfl fk ?_
   refine zz ?_
   refine hd<|zz ?_
   refine hd<|zz ?_
   subst hK16 gK16
   refine es<|xs<|rK fun K215 RK215 hK215 gK215=>zz ?_
   rcases iK k h with⟨k,h⟩|⟨k,h⟩
   ·obtain⟨r216,h217,h⟩:=bs h
    refine cw (a_slices_Clone_api_Event_api_Event hI h217)<|zz ?_
    subst hK215 gK215
    refine es<|xs<|xs<|rz ?_
    refine es<|xb ?_
    obtain⟨e221,h292,h⟩:=bs h
    refine rb_loop (fun x220=>⟨envL [(1,.ptr 0 0),(2,.ptr 2 0),(18,.sl (r216.map T_api_Event.d)),(19,.int .i64 (r216.length:Int)),(20,.int .i64 0)],heapL [(0,.box none [.str d_0.Title,.str d_0.Lang,.int .u8 d_0.Rate,.bool d_0.Drop,.int .i64 d_0.Last,.sl (r17.map T_api_Region.d),.sl (r216.map T_api_Event.d),.own 1 r208.length]),(1,.vec 107 8 (r208.map T_api_Comment.d) false),(2,.box none [.str [],.str [],.int .u8 0,.bool false,.int .i64 0,.nils,.nils,.nils])],3,33⟩) (fun _=>.exit 0) (fun e221=>⟨envL [(1,.ptr 0 0),(2,.ptr 2 0)],heapL [(0,.box none [.str d_0.Title,.str d_0.Lang,.int .u8 d_0.Rate,.bool d_0.Drop,.int .i64 d_0.Last,.sl (r17.map T_api_Region.d),.sl (r216.map T_api_Event.d),.own 1 r208.length]),(1,.vec 107 8 (r208.map T_api_Comment.d) false),(2,.box none [.str [],.str [],.int .u8 0,.bool false,.int .i64 0,.nils,.nils,.nils])],3,33⟩) h292 (wk [(1,some 7),(2,some 1)]) (by intro w;simp) ?_ ?_
    ·clear h
     intro x220 y h
     unfold g_document_Clone_nw_s3 at h
     refine xs<|rz ?_
     refine es<|xs ?_
     rcases iK k h with⟨k,h⟩|⟨k,h⟩
     ·refine xt<|xk<|es<|xs<|xb<|xs<|rK fun K286 RK286 hK286 gK286=>zz ?_
      obtain⟨y287,q,h⟩:=bK q h
      refine zz ?_
      subst hK286 gK286
      refine es<|rD hI fun K289 RK289 hK289 gK289=>zz ?_
      obtain⟨r290,h291,h⟩:=bs h
      refine cd (a_event_Clone hI h291)<|zz ?_
      cases h
     ·refine xf<|xx<|ee ?_
      cases h
      exact en ⟨rfl,wk []⟩
    ·refine bh<|es<|xs<|rz ?_
     refine es<|xr ?_
     cases h
   ·obtain⟨r295,h296,h⟩:=bs h
    refine cW.introE (a_slices_Clone_api_Event_api_Event_nw hI (nid:=14) h296) fz rfl<|zz ?_
    subst hK215 gK215
    refine es<|xs<|xs<|rz ?_
    refine es<|xb ?_
    obtain⟨e300,h394,h⟩:=bs h
    refine rb_loop (fun x299=>⟨envL [(1,.ptr 0 0),(2,.ptr 3 0),(18,.own 1 x299.2.length),(19,.int .i64 ((r295.length:Nat):Int)),(20,.int .i64 x299.1)],heapL [(0,.box none [.str d_0.Title,.str d_0.Lang,.int .u8 d_0.Rate,.bool d_0.Drop,.int .i64 d_0.Last,.sl (r17.map T_api_Region.d),.own 1 x299.2.length,.own 2 r208.length]),(1,.vec 64 7 (x299.2.map T_api_Event.d) false),(2,.vec 107 8 (r208.map T_api_Comment.d) false),(3,.box none [.str [],.str [],.int .u8 0,.bool false,.int .i64 0,.nils,.nils,.nils])],4,33⟩) (fun _=>.exit 0) (fun e300=>⟨envL [(1,.ptr 0 0),(2,.ptr 3 0)],heapL [(0,.box none [.str d_0.Title,.str d_0.Lang,.int .u8 d_0.Rate,.bool d_0.Drop,.int .i64 d_0.Last,.sl (r17.map T_api_Region.d),.own 1 e300.length,.own 2 r208.length]),(1,.vec 64 7 (e300.map T_api_Event.d) false),(2,.vec 107 8 (r208.map T_api_Comment.d) false),(3,.box none [.str [],.str [],.int .u8 0,.bool false,.int .i64 0,.nils,.nils,.nils])],4,33⟩) h394 (wk [(1,some 14),(2,some 7),(3,some 1)]) (by intro w;simp) ?_ ?_
    ·clear h
     intro x299 y h
     unfold g_document_Clone_nw_s4 at h
     refine xs<|rz ?_
     refine es<|xs ?_
     rcases iK k h with⟨k,h⟩|⟨k,h⟩
     ·refine xt<|xk<|es<|xs<|xb<|xs<|rK fun K382 RK382 hK382 gK382=>zz ?_
      obtain⟨y383,q,h⟩:=oN q h
      refine zz ?_
      subst hK382 gK382
      refine es<|rD hI fun K384 RK384 hK384 gK384=>zz ?_
      obtain⟨r385,h386,h⟩:=bs h
      refine cd (a_event_Clone hI h386)<|zz ?_
      obtain⟨m387,h388,h⟩:=bind_some h
      obtain⟨h389,h390,h391,h392⟩:=setI_some h388
      have h392:=h392 T_api_Event.d
      try simp only[sevalprocAttr,List.map_nil,dd] at h392
      have q:=And.intro @h389<|And.intro @h390<|And.intro @h391<|And.intro @h392<|q
      refine zz ?_
      refine hd<|zz ?_
      subst hK384 gK384
      refine bn<|es<|rz ?_
      cases h
      exact en ⟨rfl,wk []⟩
     ·refine xf<|xx<|ee ?_
      cases h
      exact en ⟨rfl,wk []⟩
    ·refine bh<|es<|xs<|rz ?_
     refine es<|xr ?_
     cases h
     exact en (fO 1)
 ·obtain⟨r397,h398,h⟩:=bs h
  refine cD'.introE (fun H' ho hs=>a_slices_Clone_api_Region_api_Region_nw hI (H:=H') (nid:=4) h398) fz rfl fk ?_
  refine zz ?_
  rcases iK k h with⟨k,h⟩|⟨k,h⟩
  ·obtain⟨r399,h400,h⟩:=bs h
   refine cd (a_slices_Clone_api_Comment_api_Comment hI h400)<|zz ?_
   refine hd<|zz ?_
   refine hd<|zz ?_
   subst hK16 gK16
   refine es<|xs<|rK fun K406 RK406 hK406 gK406=>zz ?_
   rcases iK k h with⟨k,h⟩|⟨k,h⟩
   ·obtain⟨r407,h408,h⟩:=bs h
    refine cw (a_slices_Clone_api_Event_api_Event hI h408)<|zz ?_
    subst hK406 gK406
    refine es<|xs<|xs<|rz ?_
    refine es<|xb ?_
    obtain⟨e412,h483,h⟩:=bs h
    refine rb_loop (fun x411=>⟨envL [(1,.ptr 0 0),(2,.ptr 2 0),(18,.sl (r407.map T_api_Event.d)),(19,.int .i64 (r407.length:Int)),(20,.int .i64 0)],heapL [(0,.box none [.str d_0.Title,.str d_0.Lang,.int .u8 d_0.Rate,.bool d_0.Drop,.int .i64 d_0.Last,.own 1 r397.length,.sl (r407.map T_api_Event.d),.sl (r399.map T_api_Comment.d)]),(1,.vec 102 7 (r397.map T_api_Region.d) false),(2,.box none [.str [],.str [],.int .u8 0,.bool false,.int .i64 0,.nils,.nils,.nils])],3,33⟩) (fun _=>.exit 0) (fun e412=>⟨envL [(1,.ptr 0 0),(2,.ptr 2 0)],heapL [(0,.box none [.str d_0.Title,.str d_0.Lang,.int .u8 d_0.Rate,.bool d_0.Drop,.int .i64 d_0.Last,.own 1 r397.length,.sl (r407.map T_api_Event.d),.sl (r399.map T_api_Comment.d)]),(1,.vec 102 7 (r397.map T_api_Region.d) false),(2,.box none [.str [],.str [],.int .u8 0,.bool false,.int .i64 0,.nils,.nils,.nils])],3,33⟩) h483 (wk [(1,some 4),(2,some 1)]) (by intro w;simp) ?_ ?_
    ·clear h
     intro x411 y h
     unfold g_document_Clone_nw_s5 at h
     refine xs<|rz ?_
     refine es<|xs ?_
     rcases iK k h with⟨k,h⟩|⟨k,h⟩
     ·refine xt<|xk<|es<|xs<|xb<|xs<|rK fun K477 RK477 hK477 gK477=>zz ?_
      obtain⟨y478,q,h⟩:=bK q h
      refine zz ?_
      subst hK477 gK477
      refine es<|rD hI fun K480 RK480 hK480 gK480=>zz ?_
      obtain⟨r481,h482,h⟩:=bs h
      refine cd (a_event_Clone hI h482)<|zz ?_
      cases h
     ·refine xf<|xx<|ee ?_
      cases h
      exact en ⟨rfl,wk []⟩
    ·refine bh<|es<|xs<|rz ?_
     refine es<|xr ?_
     cases h
   ·obtain⟨r486,h487,h⟩:=bs h
    refine cW.introE (a_slices_Clone_api_Event_api_Event_nw hI (nid:=14) h487) fz rfl<|zz ?_
    subst hK406 gK406
    refine es<|xs<|xs<|rz ?_
    refine es<|xb ?_
    obtain⟨e491,h585,h⟩:=bs h
    refine rb_loop (fun x490=>⟨envL [(1,.ptr 0 0),(2,.ptr 3 0),(18,.own 2 x490.2.length),(19,.int .i64 ((r486.length:Nat):Int)),(20,.int .i64 x490.1)],heapL [(0,.box none [.str d_0.Title,.str d_0.Lang,.int .u8 d_0.Rate,.bool d_0.Drop,.int .i64 d_0.Last,.own 1 r397.length,.own 2 x490.2.length,.sl (r399.map T_api_Comment.d)]),(1,.vec 102 7 (r397.map T_api_Region.d) false),(2,.vec 64 7 (x490.2.map T_api_Event.d) false),(3,.box none [.str [],.str [],.int .u8 0,.bool false,.int .i64 0,.nils,.nils,.nils])],4,33⟩) (fun _=>.exit 0) (fun e491=>⟨envL [(1,.ptr 0 0),(2,.ptr 3 0)],heapL [(0,.box none [.str d_0.Title,.str d_0.Lang,.int .u8 d_0.Rate,.bool d_0.Drop,.int .i64 d_0.Last,.own 1 r397.length,.own 2 e491.length,.sl (r399.map T_api_Comment.d)]),(1,.vec 102 7 (r397.map T_api_Region.d) false),(2,.vec 64 7 (e491.map T_api_Event.d) false),(3,.box none [.str [],.str [],.int .u8 0,.bool false,.int .i64 0,.nils,.nils,.nils])],4,33⟩) h585 (wk [(1,some 4),(2,some 14),(3,some 1)]) (by intro w;simp) ?_ ?_
    ·clear h
     intro x490 y h
     unfold g_document_Clone_nw_s6 at h
     refine xs<|rz ?_
     refine es<|xs ?_
     rcases iK k h with⟨k,h⟩|⟨k,h⟩
     ·refine xt<|xk<|es<|xs<|xb<|xs<|rK fun K573 RK573 hK573 gK573=>zz ?_
      obtain⟨y574,q,h⟩:=oN q h
      refine zz ?_
      subst hK573 gK573
      refine es<|rD hI fun K575 RK575 hK575 gK575=>zz ?_
      obtain⟨r576,h577,h⟩:=bs h
      refine cd (a_event_Clone hI h577)<|zz ?_
      obtain⟨m578,h579,h⟩:=bind_some h
      obtain⟨h580,h581,h582,h583⟩:=setI_some h579
      have h583:=h583 T_api_Event.d
      try simp only[sevalprocAttr,List.map_nil,dd] at h583
      have q:=And.intro @h580<|And.intro @h581<|And.intro @h582<|And.intro @h583<|q
      refine zz ?_
      refine hd<|zz ?_
      subst hK575 gK575
      refine bn<|es<|rz ?_
      cases h
      exact en ⟨rfl,wk []⟩
     ·refine xf<|xx<|ee ?_
      cases h
      exact en ⟨rfl,wk []⟩
    ·refine bh<|es<|xs<|rz ?_
     refine es<|xr ?_
     cases h
     exact en (fO 2)
  ·obtain⟨r588,h589,h⟩:=bs h
   refine cD'.introE (fun H' ho hs=>a_slices_Clone_api_Comment_api_Comment_nw hI (H:=H') (nid:=7) h589) fz rfl fk ?_
   refine zz ?_
   refine hd<|zz ?_
   refine hd<|zz ?_
   subst hK16 gK16
   refine es<|xs<|rK fun K595 RK595 hK595 gK595=>zz ?_
   rcases iK k h with⟨k,h⟩|⟨k,h⟩
   ·obtain⟨r596,h597,h⟩:=bs h
    refine cw (a_slices_Clone_api_Event_api_Event hI h597)<|zz ?_
    subst hK595 gK595
    refine es<|xs<|xs<|rz ?_
    refine es<|xb ?_
    obtain⟨e601,h672,h⟩:=bs h
    refine rb_loop (fun x600=>⟨envL [(1,.ptr 0 0),(2,.ptr 3 0),(18,.sl (r596.map T_api_Event.d)),(19,.int .i64 (r596.length:Int)),(20,.int .i64 0)],heapL [(0,.box none [.str d_0.Title,.str d_0.Lang,.int .u8 d_0.Rate,.bool d_0.Drop,.int .i64 d_0.Last,.own 1 r397.length,.sl (r596.map T_api_Event.d),.own 2 r588.length]),(1,.vec 102 7 (r397.map T_api_Region.d) false),(2,.vec 107 8 (r588.map T_api_Comment.d) false),(3,.box none [.str [],.str [],.int .u8 0,.bool false,.int .i64 0,.nils,.nils,.nils])],4,33⟩) (fun _=>.exit 0) (fun e601=>⟨envL [(1,.ptr 0 0),(2,.ptr 3 0)],heapL [(0,.box none [.str d_0.Title,.str d_0.Lang,.int .u8 d_0.Rate,.bool d_0.Drop,.int .i64 d_0.Last,.own 1 r397.length,.sl (r596.map T_api_Event.d),.own 2 r588.length]),(1,.vec 102 7 (r397.map T_api_Region.d) false),(2,.vec 107 8 (r588.map T_api_Comment.d) false),(3,.box none [.str [],.str [],.int .u8 0,.bool false,.int .i64 0,.nils,.nils,.nils])],4,33⟩) h672 (wk [(1,some 4),(2,some 7),(3,some 1)]) (by intro w;simp) ?_ ?_
    ·clear h
     intro x600 y h
     unfold g_document_Clone_nw_s7 at h
     refine xs<|rz ?_
     refine es<|xs ?_
     rcases iK k h with⟨k,h⟩|⟨k,h⟩
     ·refine xt<|xk<|es<|xs<|xb<|xs<|rK fun K666 RK666 hK666 gK666=>zz ?_
      obtain⟨y667,q,h⟩:=bK q h
      refine zz ?_
      subst hK666 gK666
      refine es<|rD hI fun K669 RK669 hK669 gK669=>zz ?_
      obtain⟨r670,h671,h⟩:=bs h
      refine cd (a_event_Clone hI h671)<|zz ?_
      cases h
     ·refine xf<|xx<|ee ?_
      cases h
      exact en ⟨rfl,wk []⟩
    ·refine bh<|es<|xs<|rz ?_
     refine es<|xr ?_
     cases h
   ·obtain⟨r675,h676,h⟩:=bs h
    refine cW.introE (a_slices_Clone_api_Event_api_Event_nw hI (nid:=14) h676) fz rfl<|zz ?_
    subst hK595 gK595
    refine es<|xs<|xs<|rz ?_
    refine es<|xb ?_
    obtain⟨e680,h774,h⟩:=bs h
    refine rb_loop (fun x679=>⟨envL [(1,.ptr 0 0),(2,.ptr 4 0),(18,.own 2 x679.2.length),(19,.int .i64 ((r675.length:Nat):Int)),(20,.int .i64 x679.1)],heapL [(0,.box none [.str d_0.Title,.str d_0.Lang,.int .u8 d_0.Rate,.bool d_0.Drop,.int .i64 d_0.Last,.own 1 r397.length,.own 2 x679.2.length,.own 3 r588.length]),(1,.vec 102 7 (r397.map T_api_Region.d) false),(2,.vec 64 7 (x679.2.map T_api_Event.d) false),(3,.vec 107 8 (r588.map T_api_Comment.d) false),(4,.box none [.str [],.str [],.int .u8 0,.bool false,.int .i64 0,.nils,.nils,.nils])],5,33⟩) (fun _=>.exit 0) (fun e680=>⟨envL [(1,.ptr 0 0),(2,.ptr 4 0)],heapL [(0,.box none [.str d_0.Title,.str d_0.Lang,.int .u8 d_0.Rate,.bool d_0.Drop,.int .i64 d_0.Last,.own 1 r397.length,.own 2 e680.length,.own 3 r588.length]),(1,.vec 102 7 (r397.map T_api_Region.d) false),(2,.vec 64 7 (e680.map T_api_Event.d) false),(3,.vec 107 8 (r588.map T_api_Comment.d) false),(4,.box none [.str [],.str [],.int .u8 0,.bool false,.int .i64 0,.nils,.nils,.nils])],5,33⟩) h774 (wk [(1,some 4),(2,some 14),(3,some 7),(4,some 1)]) (by intro w;simp) ?_ ?_
    ·clear h
     intro x679 y h
     unfold g_document_Clone_nw_s8 at h
     refine xs<|rz ?_
     refine es<|xs ?_
     rcases iK k h with⟨k,h⟩|⟨k,h⟩
     ·refine xt<|xk<|es<|xs<|xb<|xs<|rK fun K762 RK762 hK762 gK762=>zz ?_
      obtain⟨y763,q,h⟩:=oN q h
      refine zz ?_
      subst hK762 gK762
      refine es<|rD hI fun K764 RK764 hK764 gK764=>zz ?_
      obtain⟨r765,h766,h⟩:=bs h
      refine cd (a_event_Clone hI h766)<|zz ?_
      obtain⟨m767,h768,h⟩:=bind_some h
      obtain⟨h769,h770,h771,h772⟩:=setI_some h768
      have h772:=h772 T_api_Event.d
      try simp only[sevalprocAttr,List.map_nil,dd] at h772
      have q:=And.intro @h769<|And.intro @h770<|And.intro @h771<|And.intro @h772<|q
      refine zz ?_
      refine hd<|zz ?_
      subst hK764 gK764
      refine bn<|es<|rz ?_
      cases h
      exact en ⟨rfl,wk []⟩
     ·refine xf<|xx<|ee ?_
      cases h
      exact en ⟨rfl,wk []⟩
    ·refine bh<|es<|xs<|rz ?_
     refine es<|xr ?_
     cases h
     exact en (fO 2)
def g_document_Find_1 (x_0:T_api_Event) (a_1:Int):Option (Bool) :=
 (some (x_0.ID == a_1))
theorem a_document_Find_1 {I:World→Prop} (hI:Stab I) {x_0:T_api_Event} {a_1:Int} {r:Bool} (h:g_document_Find_1 x_0 a_1=some r):AFun Tryz.prog I 68 [T_api_Event.d x_0,.iptr [.int .i64 a_1]] (.bool r):=by
 have dd:=dd_ED;have k:=True.intro;have q:=k;have rs:=Tryz.results68
 unfold g_document_Find_1 at h
 refine .en hI Tryz.func68 Tryz.ntmps68 ?_
 refine xs<|rz ?_
 refine es<|xs<|rz ?_
 refine es<|xr ?_
 cases h
 exact en fr
def g_slices_IndexFunc_api_Event_api_Event_s1 (s_0:List T_api_Event) (c1_0:Int) (x5:Int):Option (Nx (Int) (Int ⊕ Unit)) :=
 (if(decide (x5 < (s_0.length:Int))) then((atI s_0 x5).bind fun y69=>((g_document_Find_1 y69 c1_0).bind fun r71=>(if r71 then(some (.out (.inl x5))) else(some (.go (IntKind.i64.wrap (x5+1))))))) else(some (.out (.inr ()))))
def g_slices_IndexFunc_api_Event_api_Event (s_0:List T_api_Event) (c1_0:Int):Option (Int) :=
 ((iter (g_slices_IndexFunc_api_Event_api_Event_s1 s_0 c1_0) 0).bind fun e6=>(match e6 with|Sum.inl e6=>(some e6)|Sum.inr (e6)=>(some (-1))))
theorem a_slices_IndexFunc_api_Event_api_Event {I:World→Prop} (hI:Stab I) {s_0:List T_api_Event} {c1_0:Int} {r:Int} (h:g_slices_IndexFunc_api_Event_api_Event s_0 c1_0=some r):AFun Tryz.prog I 67 [.sl (s_0.map T_api_Event.d),.fn 68 [.iptr [.int .i64 c1_0]]] (.int .i64 r):=by
 have dd:=dd_ED;have k:=True.intro;have q:=k;have rs:=Tryz.results67
 unfold g_slices_IndexFunc_api_Event_api_Event at h
 refine .en hI Tryz.func67 Tryz.ntmps67 ?_
 refine xs<|rz ?_
 refine es<|xs<|xs<|rz ?_
 refine es<|xb ?_
 obtain⟨e6,h77,h⟩:=bs h
 refine rb_loop (fun x5=>⟨envL [(0,.sl (s_0.map T_api_Event.d)),(1,.fn 68 [.iptr [.int .i64 c1_0]]),(7,.int .i64 (s_0.length:Int)),(8,.int .i64 x5)],heapL [],0,19⟩) (fun w=>match w with|Sum.inl _=>.ret|Sum.inr (_)=>.exit 0) (fun w=>match w with|Sum.inl e6=>⟨envL [(4,.int .i64 e6)],heapL [],0,19⟩|Sum.inr (e6)=>⟨envL [],heapL [],0,19⟩) h77 (wk []) (by intro w;rcases w with w|w<;>simp) ?_ ?_
 ·clear h
  intro x5 y h
  unfold g_slices_IndexFunc_api_Event_api_Event_s1 at h
  refine xs<|rz ?_
  refine es<|xs ?_
  rcases iK k h with⟨k,h⟩|⟨k,h⟩
  ·refine xt<|xk<|es<|xs<|xb<|xs<|rz ?_
   refine es<|xs<|rK fun K68 RK68 hK68 gK68=>zz ?_
   obtain⟨y69,q,h⟩:=bK q h
   refine zz ?_
   obtain⟨r71,h72,h⟩:=bs h
   refine cw (a_document_Find_1 hI h72)<|zz ?_
   subst hK68 gK68
   refine es ?_
   rcases iK k h with⟨k,h⟩|⟨k,h⟩
   ·refine xt<|xs<|rz ?_
    refine es<|xr<|br<|er ?_
    cases h
    exact en ⟨rfl,wk []⟩
   ·refine xf<|xk<|bn<|es<|rz ?_
    cases h
    exact en ⟨rfl,wk []⟩
  ·refine xf<|xx<|ee ?_
   cases h
   exact en ⟨rfl,wk []⟩
 ·rcases e6 with e6|e6
  ·try dsimp only at h ⊢
   refine br<|er ?_
   cases h
   exact en fr
  ·try dsimp only at h ⊢
   refine bh<|es<|xs<|rz ?_
   refine es<|xr ?_
   cases h
   exact en fr
def g_slices_IndexFunc_api_Event_api_Event_ro_s1 (s_0:List T_api_Event) (c1_0:Int) (x5:Int):Option (Nx (Int) (Int ⊕ Unit)) :=
 (if(decide (x5 < ((s_0.length:Nat):Int))) then((atI s_0 x5).bind fun y93=>((g_document_Find_1 y93 c1_0).bind fun r94=>(if r94 then(some (.out (.inl x5))) else(some (.go (IntKind.i64.wrap (x5+1))))))) else(some (.out (.inr ()))))
def g_slices_IndexFunc_api_Event_api_Event_ro (s_0:List T_api_Event) (c1_0:Int):Option (Int) :=
 ((iter (g_slices_IndexFunc_api_Event_api_Event_ro_s1 s_0 c1_0) 0).bind fun e6=>(match e6 with|Sum.inl e6=>(some e6)|Sum.inr (e6)=>(some (-1))))
theorem a_slices_IndexFunc_api_Event_api_Event_ro0 {I:World→Prop} (hI:Stab I) {H:Nat→Option Blk} {nid i0:Nat} {pn:Option Value} {s_0:List T_api_Event} {c1_0:Int} {r:Int} (h:g_slices_IndexFunc_api_Event_api_Event_ro s_0 c1_0=some r) (b0:H i0=some (rowB pn 64 7 (s_0.map T_api_Event.d))):CallOK Tryz.prog I 67 [.own i0 s_0.length,.fn 68 [.iptr [.int .i64 c1_0]]] H nid (.int .i64 r) []:=by
 refine CallOK.ro (eff:=[(i0,some (rowB pn 64 7 (s_0.map T_api_Event.d)))]) (CallOK.inrow (i0:=i0) (ds0:=[.own 0 s_0.length,.fn 68 [.iptr [.int .i64 c1_0]]]) hI Tryz.func67 rfl (by decide) (by simp[Tryz.f67]) (by kernel_rfl) rfl rfl b0 fun uv=>?_) (ro1 b0)
 have dd:=dd_ED;have k:=True.intro;have q:=k;have rs:=Tryz.results67
 unfold g_slices_IndexFunc_api_Event_api_Event_ro at h
 simp only[List.length_cons,List.length_nil,Nat.zero_add,Nat.reduceAdd,Tryz.ntmps67,dd]
 refine xs<|rz ?_
 refine es<|xs<|xs<|rz ?_
 refine es<|xb ?_
 obtain⟨e6,h100,h⟩:=bs h
 refine rb_loop (fun x5=>⟨envL [(0,.own 0 s_0.length),(1,.fn 68 [.iptr [.int .i64 c1_0]]),(7,.int .i64 ((s_0.length:Nat):Int)),(8,.int .i64 x5)],heapL [(0,.lrow uv 64 7 (s_0.map T_api_Event.d))],1,19⟩) (fun w=>match w with|Sum.inl _=>.ret|Sum.inr (_)=>.exit 0) (fun w=>match w with|Sum.inl e6=>⟨envL [(0,.own 0 s_0.length),(4,.int .i64 e6)],heapL [(0,.lrow uv 64 7 (s_0.map T_api_Event.d))],1,19⟩|Sum.inr (e6)=>⟨envL [(0,.own 0 s_0.length)],heapL [(0,.lrow uv 64 7 (s_0.map T_api_Event.d))],1,19⟩) h100 (wk []) (by intro w;rcases w with w|w<;>simp) ?_ ?_
 ·clear h
  intro x5 y h
  unfold g_slices_IndexFunc_api_Event_api_Event_ro_s1 at h
  refine xs<|rz ?_
  refine es<|xs ?_
  rcases iK k h with⟨k,h⟩|⟨k,h⟩
  ·refine xt<|xk<|es<|xs<|xb<|xs<|rz ?_
   refine es<|xs<|rK fun K92 RK92 hK92 gK92=>zz ?_
   obtain⟨y93,q,h⟩:=oN q h
   refine zz ?_
   obtain⟨r94,h95,h⟩:=bs h
   refine cw (a_document_Find_1 hI h95)<|zz ?_
   subst hK92 gK92
   refine es ?_
   rcases iK k h with⟨k,h⟩|⟨k,h⟩
   ·refine xt<|xs<|rz ?_
    refine es<|xr<|br<|er ?_
    cases h
    exact en ⟨rfl,wk []⟩
   ·refine xf<|xk<|bn<|es<|rz ?_
    cases h
    exact en ⟨rfl,wk []⟩
  ·refine xf<|xx<|ee ?_
   cases h
   exact en ⟨rfl,wk []⟩
 ·rcases e6 with e6|e6
  ·try dsimp only at h ⊢
   refine br<|er ?_
   cases h
   exact en (fI 0)
  ·try dsimp only at h ⊢
   refine bh<|es<|xs<|rz ?_
   refine es<|xr ?_
   cases h
   exact en (fI 0)
theorem a_slices_IndexFunc_api_Event_api_Event_ro_l {I:World→Prop} (hI:Stab I) {H:Nat→Option Blk} {nid i0:Nat} {u:Value} {s_0:List T_api_Event} {c1_0:Int} {r:Int} (h:g_slices_IndexFunc_api_Event_api_Event_ro s_0 c1_0=some r) (b0:H i0=some (.lrow u 64 7 (s_0.map T_api_Event.d))):CallOK Tryz.prog I 67 [.own i0 s_0.length,.fn 68 [.iptr [.int .i64 c1_0]]] H nid (.int .i64 r) [] :=
 a_slices_IndexFunc_api_Event_api_Event_ro0 hI (pn:=some u) h b0
def g_document_Find (d_0:T_api_Document) (id_1:Int):Option (Int) :=
 ((g_slices_IndexFunc_api_Event_api_Event d_0.Events id_1).bind fun r7=>(some r7))
theorem a_document_Find {I:World→Prop} (hI:Stab I) {d_0:T_api_Document} {id_1:Int} {r:Int} (h:g_document_Find d_0 id_1=some r):AFun Tryz.prog I 25 [T_api_Document.d d_0,.int .i64 id_1] (.int .i64 r):=by
 have dd:=dd_ED;have k:=True.intro;have q:=k;have rs:=Tryz.results25
 unfold g_document_Find at h
 refine .en hI Tryz.func25 Tryz.ntmps25 ?_
 refine xs<|rz ?_
 refine eWk _ ((Wk.freeze (id:=1) (cs:=[.int .i64 id_1]) fz fz).trans (wkF (l:=[(2,.ptr 0 0),(3,.iptr [.int .i64 id_1])]) (h:=[(0,.box none [.str d_0.Title,.str d_0.Lang,.int .u8 d_0.Rate,.bool d_0.Drop,.int .i64 d_0.Last,.sl (d_0.Regions.map T_api_Region.d),.sl (d_0.Events.map T_api_Event.d),.sl (d_0.Comments.map T_api_Comment.d)])]) (n:=3) []))<|xs<|rK fun K6 RK6 hK6 gK6=>zz ?_
 obtain⟨r7,h8,h⟩:=bs h
 refine cw (a_slices_IndexFunc_api_Event_api_Event hI h8)<|zz ?_
 subst hK6 gK6
 refine es<|xr ?_
 cases h
 exact en fr
def g_document_Find_ro (d_0:T_api_Document) (id_1:Int):Option (Int) :=
 ((g_slices_IndexFunc_api_Event_api_Event_ro d_0.Events id_1).bind fun r7=>(some r7))
theorem a_document_Find_ro0 {I:World→Prop} (hI:Stab I) {H:Nat→Option Blk} {nid i0:Nat} {pn:Option Value} {d_0:T_api_Document} {id_1:Int} {r:Int} (h:g_document_Find_ro d_0 id_1=some r) (b0:H i0=some (rowB pn 64 7 (d_0.Events.map T_api_Event.d))):CallOK Tryz.prog I 25 [.agg [.str d_0.Title,.str d_0.Lang,.int .u8 d_0.Rate,.bool d_0.Drop,.int .i64 d_0.Last,.sl (d_0.Regions.map T_api_Region.d),.own i0 d_0.Events.length,.sl (d_0.Comments.map T_api_Comment.d)],.int .i64 id_1] H nid (.int .i64 r) []:=by
 refine CallOK.ro (eff:=[(i0,some (rowB pn 64 7 (d_0.Events.map T_api_Event.d)))]) (CallOK.inrow (i0:=i0) (ds0:=[.agg [.str d_0.Title,.str d_0.Lang,.int .u8 d_0.Rate,.bool d_0.Drop,.int .i64 d_0.Last,.sl (d_0.Regions.map T_api_Region.d),.own 0 d_0.Events.length,.sl (d_0.Comments.map T_api_Comment.d)],.int .i64 id_1]) hI Tryz.func25 rfl (by decide) (by simp[Tryz.f25]) (by kernel_rfl) rfl rfl b0 fun uv=>?_) (ro1 b0)
 have dd:=dd_ED;have k:=True.intro;have q:=k;have rs:=Tryz.results25
 unfold g_document_Find_ro at h
 simp only[List.length_cons,List.length_nil,Nat.zero_add,Nat.reduceAdd,Tryz.ntmps25,dd]
 refine xs<|rz ?_
 refine eWk _ ((Wk.freeze (id:=2) (cs:=[.int .i64 id_1]) fz fz).trans (wkF (l:=[(0,.agg [.str d_0.Title,.str d_0.Lang,.int .u8 d_0.Rate,.bool d_0.Drop,.int .i64 d_0.Last,.sl (d_0.Regions.map T_api_Region.d),.own 0 d_0.Events.length,.sl (d_0.Comments.map T_api_Comment.d)]),(2,.ptr 1 0),(3,.iptr [.int .i64 id_1])]) (h:=[(0,.lrow uv 64 7 (d_0.Events.map T_api_Event.d)),(1,.box none [.str d_0.Title,.str d_0.Lang,.int .u8 d_0.Rate,.bool d_0.Drop,.int .i64 d_0.Last,.sl (d_0.Regions.map T_api_Region.d),.own 0 d_0.Events.length,.sl (d_0.Comments.map T_api_Comment.d)])]) (n:=4) []))<|xs<|rK fun K6 RK6 hK6 gK6=>zz ?_
 obtain⟨r7,h8,h⟩:=bs h
 refine rW.intro (a_slices_IndexFunc_api_Event_api_Event_ro_l hI (nid:=7) (i0:=0) (u:=uv) h8 fz) fi rfl<|zz ?_
 subst hK6 gK6
 refine es<|xr ?_
 cases h
 exact en (fI 0)
theorem a_document_Find_ro {I:World→Prop} (hI:Stab I) {H:Nat→Option Blk} {nid i0:Nat} {d_0:T_api_Document} {id_1:Int} {r:Int} (h:g_document_Find_ro d_0 id_1=some r) (b0:H i0=some (.vec 64 7 (d_0.Events.map T_api_Event.d) false)):CallOK Tryz.prog I 25 [.agg [.str d_0.Title,.str d_0.Lang,.int .u8 d_0.Rate,.bool d_0.Drop,.int .i64 d_0.Last,.sl (d_0.Regions.map T_api_Region.d),.own i0 d_0.Events.length,.sl (d_0.Comments.map T_api_Comment.d)],.int .i64 id_1] H nid (.int .i64 r) [] :=
 a_document_Find_ro0 hI (pn:=none) h b0
def g_document_Sort_1 (a_0:T_api_Event) (b_1:T_api_Event):Option (Int) :=
 ((g_cmp_Compare_int64 a_0.Span.In b_1.Span.In).bind fun r11=>((g_cmp_Compare_int64 a_0.ID b_1.ID).bind fun r13=>((g_cmp_Or_int [r11,r13]).bind fun r15=>(some r15))))
theorem a_document_Sort_1 {I:World→Prop} (hI:Stab I) {a_0:T_api_Event} {b_1:T_api_Event} {r:Int} (h:g_document_Sort_1 a_0 b_1=some r):AFun Tryz.prog I 103 [T_api_Event.d a_0,T_api_Event.d b_1] (.int .i64 r):=by
 have dd:=dd_ED;have k:=True.intro;have q:=k;have rs:=Tryz.results103
 unfold g_document_Sort_1 at h
 refine .en hI Tryz.func103 Tryz.ntmps103 ?_
 refine xs<|rz ?_
 refine es<|xs<|rD hI fun K10 RK10 hK10 gK10=>zz ?_
 obtain⟨r11,h12,h⟩:=bs h
 refine cd (a_cmp_Compare_int64 hI h12)<|zz ?_
 obtain⟨r13,h14,h⟩:=bs h
 refine cd (a_cmp_Compare_int64 hI h14)<|zz ?_
 obtain⟨r15,h16,h⟩:=bs h
 refine cd (a_cmp_Or_int hI h16)<|zz ?_
 subst hK10 gK10
 refine es<|xr ?_
 cases h
 exact en fr
def g_slices_insertionSortCmpFunc_api_Event_w_s2 (a_1:Int) (x317:Int × (List T_api_Event)):Option (Nx (Int × (List T_api_Event)) ((List T_api_Event))) :=
 (((if(decide (a_1 < x317.1)) then((atI x317.2 x317.1).bind fun y376=>((atI x317.2 (IntKind.i64.wrap (x317.1 - 1))).bind fun y377=>((g_document_Sort_1 y376 y377).bind fun r378=>(some (decide (r378 < 0)))))) else(some false)):Option (Bool)).bind fun v373=>(if v373 then((atI x317.2 (IntKind.i64.wrap (x317.1 - 1))).bind fun y399=>((atI x317.2 x317.1).bind fun y400=>((setI x317.2 x317.1 y399).bind fun m401=>((atI m401 (IntKind.i64.wrap (x317.1 - 1))).bind fun y407=>((setI m401 (IntKind.i64.wrap (x317.1 - 1)) y400).bind fun m408=>(some (.go ((IntKind.i64.wrap (x317.1 - 1)),m408)))))))) else(some (.out x317.2))))
def g_slices_insertionSortCmpFunc_api_Event_w_s1 (a_1:Int) (b_2:Int) (x3:Int × (List T_api_Event)):Option (Nx (Int × (List T_api_Event)) ((List T_api_Event))) :=
 (if(decide (x3.1 < b_2)) then((iter (g_slices_insertionSortCmpFunc_api_Event_w_s2 a_1) (x3.1,x3.2)).bind fun e318=>(some (.go ((IntKind.i64.wrap (x3.1+1)),e318)))) else(some (.out x3.2)))
def g_slices_insertionSortCmpFunc_api_Event_w (data_0:List T_api_Event) (a_1:Int) (b_2:Int):Option ((List T_api_Event)) :=
 ((iter (g_slices_insertionSortCmpFunc_api_Event_w_s1 a_1 b_2) ((IntKind.i64.wrap (a_1+1)),data_0)).bind fun e4=>(some e4))
theorem a_slices_insertionSortCmpFunc_api_Event_w {I:World→Prop} (hI:Stab I) {H:Nat→Option Blk} {nid i0:Nat} {pn:Option Value} {data_0:List T_api_Event} {a_1:Int} {b_2:Int} {r:(List T_api_Event)} (h:g_slices_insertionSortCmpFunc_api_Event_w data_0 a_1 b_2=some r) (b0:H i0=some (rowB pn 64 7 (data_0.map T_api_Event.d))):CallOK Tryz.prog I 168 [.own i0 data_0.length,.int .i64 a_1,.int .i64 b_2,.fn 103 []] H nid (.tup []) [(i0,some (rowB pn 64 7 (r.map T_api_Event.d)))]:=by
 refine CallOK.inrow (i0:=i0) (ds0:=[.own 0 data_0.length,.int .i64 a_1,.int .i64 b_2,.fn 103 []]) hI Tryz.func168 rfl (by decide) (by simp[Tryz.f168]) (by kernel_rfl) rfl rfl b0 fun uv=>?_
 have dd:=dd_ED;have k:=True.intro;have q:=k;have rs:=Tryz.results168
 unfold g_slices_insertionSortCmpFunc_api_Event_w at h
 simp only[List.length_cons,List.length_nil,Nat.zero_add,Nat.reduceAdd,Tryz.ntmps168,dd]
 refine xs<|rz ?_
 refine es<|xb ?_
 obtain⟨e4,h417,h⟩:=bs h
 refine rb_loop (fun x3=>⟨envL [(0,.own 0 x3.2.length),(1,.int .i64 a_1),(2,.int .i64 b_2),(3,.fn 103 []),(8,.int .i64 x3.1)],heapL [(0,.lrow uv 64 7 (x3.2.map T_api_Event.d))],1,53⟩) (fun _=>.exit 0) (fun e4=>⟨envL [(0,.own 0 e4.length)],heapL [(0,.lrow uv 64 7 (e4.map T_api_Event.d))],1,53⟩) h417 (wk []) (by intro w;simp) ?_ ?_
 ·clear h
  intro x3 y h
  unfold g_slices_insertionSortCmpFunc_api_Event_w_s1 at h
  refine xs<|xs<|rz ?_
  refine es ?_
  rcases iK k h with⟨k,h⟩|⟨k,h⟩
  ·refine xt<|xk<|es<|xs<|xb<|xs<|rz ?_
   refine es<|xb ?_
   obtain⟨e318,h415,h⟩:=bs h
   refine rb_loop (fun x317=>⟨envL [(0,.own 0 x317.2.length),(1,.int .i64 a_1),(2,.int .i64 b_2),(3,.fn 103 []),(8,.int .i64 x3.1),(9,.int .i64 x317.1)],heapL [(0,.lrow uv 64 7 (x317.2.map T_api_Event.d))],1,53⟩) (fun _=>.exit 2) (fun e318=>⟨envL [(0,.own 0 e318.length),(1,.int .i64 a_1),(2,.int .i64 b_2),(3,.fn 103 []),(8,.int .i64 x3.1)],heapL [(0,.lrow uv 64 7 (e318.map T_api_Event.d))],1,53⟩) h415 (wk []) (by intro w;simp) ?_ ?_
   ·clear h
    intro x317 y h
    unfold g_slices_insertionSortCmpFunc_api_Event_w_s2 at h
    refine xs ?_
    obtain⟨v373,h380,h⟩:=bs h
    refine rb_cut (fun v373=>⟨envL [(0,.own 0 x317.2.length),(1,.int .i64 a_1),(2,.int .i64 b_2),(3,.fn 103 []),(8,.int .i64 x3.1),(9,.int .i64 x317.1),(34,.bool v373)],heapL [(0,.lrow uv 64 7 (x317.2.map T_api_Event.d))],1,53⟩) h380 ?_ ?_
    ·clear h
     intro v373 h
     refine rD hI fun K374 RK374 hK374 gK374=>zz ?_
     rcases iK k h with⟨k,h⟩|⟨k,h⟩
     ·refine zz ?_
      obtain⟨y376,q,h⟩:=oN q h
      refine zz ?_
      obtain⟨y377,q,h⟩:=oN q h
      refine zz ?_
      obtain⟨r378,h379,h⟩:=bs h
      refine cd (a_document_Sort_1 hI h379)<|zz ?_
      subst hK374 gK374
      cases h
      exact en ⟨rfl,wk []⟩
     ·refine zz ?_
      subst hK374 gK374
      cases h
      exact en ⟨rfl,wk []⟩
    ·rcases iK k h with⟨k,h⟩|⟨k,h⟩
     ·refine xt<|xk<|es<|xs<|xb<|rD hI fun K398 RK398 hK398 gK398=>zz ?_
      obtain⟨y399,q,h⟩:=oN q h
      refine zz ?_
      obtain⟨y400,q,h⟩:=oN q h
      refine zz ?_
      obtain⟨m401,h402,h⟩:=bind_some h
      obtain⟨h403,h404,h405,h406⟩:=setI_some h402
      have h406:=h406 T_api_Event.d
      try simp only[sevalprocAttr,List.map_nil,dd] at h406
      have q:=And.intro @h403<|And.intro @h404<|And.intro @h405<|And.intro @h406<|q
      refine zz ?_
      refine hd<|zz ?_
      obtain⟨y407,q,h⟩:=oN q h
      refine zz ?_
      obtain⟨m408,h409,h⟩:=bind_some h
      obtain⟨h410,h411,h412,h413⟩:=setI_some h409
      have h413:=h413 T_api_Event.d
      try simp only[sevalprocAttr,List.map_nil,dd] at h413
      have q:=And.intro @h410<|And.intro @h411<|And.intro @h412<|And.intro @h413<|q
      refine zz ?_
      refine hd<|zz ?_
      subst hK398 gK398
      refine bn<|es<|rz ?_
      cases h
      exact en ⟨rfl,wk []⟩
     ·refine xf<|xx<|ee ?_
      cases h
      exact en ⟨rfl,wk []⟩
   ·refine bh<|bn<|es<|rz ?_
    cases h
    exact en ⟨rfl,wk []⟩
  ·refine xf<|xx<|ee ?_
   cases h
   exact en ⟨rfl,wk []⟩
 ·refine bh ?_
  cases h
  exact en (fI 0)
def g_slices_insertionSortCmpFunc_api_Event (data_0:List T_api_Event) (a_1:Int) (b_2:Int):Option ((List T_api_Event)):=(g_slices_insertionSortCmpFunc_api_Event_w data_0 a_1 b_2).bind fun r=>if r.length=data_0.length then some r else none
theorem a_slices_insertionSortCmpFunc_api_Event_len {data_0:List T_api_Event} {a_1:Int} {b_2:Int} {r:(List T_api_Event)} (h:g_slices_insertionSortCmpFunc_api_Event data_0 a_1 b_2=some r):data_0.length=r.length:=by
 unfold g_slices_insertionSortCmpFunc_api_Event at h
 obtain⟨x,_,h⟩:=bs h
 obtain⟨h1,h⟩:=ite_on h
 cases h
 exact h1.symm
theorem a_slices_insertionSortCmpFunc_api_Event_in {data_0:List T_api_Event} {a_1:Int} {b_2:Int} {r:(List T_api_Event)} (h:g_slices_insertionSortCmpFunc_api_Event data_0 a_1 b_2=some r):g_slices_insertionSortCmpFunc_api_Event_w data_0 a_1 b_2=some r:=by
 unfold g_slices_insertionSortCmpFunc_api_Event at h
 obtain⟨x,h0,h⟩:=bs h
 obtain⟨h1,h⟩:=ite_on h
 cases h
 exact h0
theorem a_slices_insertionSortCmpFunc_api_Event_l {I:World→Prop} (hI:Stab I) {H:Nat→Option Blk} {nid i0:Nat} {u:Value} {data_0:List T_api_Event} {a_1:Int} {b_2:Int} {r:(List T_api_Event)} (h:g_slices_insertionSortCmpFunc_api_Event data_0 a_1 b_2=some r) (b0:H i0=some (.lrow u 64 7 (data_0.map T_api_Event.d))):CallOK Tryz.prog I 168 [.own i0 data_0.length,.int .i64 a_1,.int .i64 b_2,.fn 103 []] H nid (.tup []) [(i0,some (.lrow u 64 7 (r.map T_api_Event.d)))] :=
 a_slices_insertionSortCmpFunc_api_Event_w hI (pn:=some u) (a_slices_insertionSortCmpFunc_api_Event_in h) b0
def g_slices_stableCmpFunc_api_Event_w_s1 (n_1:Int) (x32:Int × Int × (List T_api_Event)):Option (Nx (Int × Int × (List T_api_Event)) ((List T_api_Event) × Int)) :=
 (if(decide (x32.2.1≤n_1)) then((g_slices_insertionSortCmpFunc_api_Event x32.2.2 x32.1 x32.2.1).bind fun r53=>(some (.go (x32.2.1,(IntKind.i64.wrap (x32.2.1+20)),r53)))) else(some (.out (x32.2.2,x32.1))))
def g_slices_stableCmpFunc_api_Event_w_s3 (n_1:Int) (x65:Int × (List T_api_Event)) (x168:Int × Int × (List T_api_Event)):Option (Nx (Int × Int × (List T_api_Event)) ((List T_api_Event) × Int)) :=
 (if(decide (x168.2.1≤n_1)) then((g_slices_symMergeCmpFunc_api_Event x168.2.2 x168.1 (IntKind.i64.wrap (x168.1+x65.1)) x168.2.1).bind fun r189=>(some (.go (x168.2.1,(IntKind.i64.wrap (x168.2.1+(IntKind.i64.wrap (2 * x65.1)))),r189)))) else(some (.out (x168.2.2,x168.1))))
def g_slices_stableCmpFunc_api_Event_w_s2 (n_1:Int) (x65:Int × (List T_api_Event)):Option (Nx (Int × (List T_api_Event)) ((List T_api_Event))) :=
 (if(decide (x65.1 < n_1)) then((iter (g_slices_stableCmpFunc_api_Event_w_s3 n_1 x65) (0,(IntKind.i64.wrap (2 * x65.1)),x65.2)).bind fun e169=>(if(decide ((IntKind.i64.wrap (e169.2+x65.1)) < n_1)) then((g_slices_symMergeCmpFunc_api_Event e169.1 e169.2 (IntKind.i64.wrap (e169.2+x65.1)) n_1).bind fun r201=>(some (.go ((IntKind.i64.wrap (x65.1 * 2)),r201)))) else(some (.go ((IntKind.i64.wrap (x65.1 * 2)),e169.1))))) else(some (.out x65.2)))
def g_slices_stableCmpFunc_api_Event_w (data_0:List T_api_Event) (n_1:Int):Option ((List T_api_Event)) :=
 ((iter (g_slices_stableCmpFunc_api_Event_w_s1 n_1) (0,20,data_0)).bind fun e33=>((g_slices_insertionSortCmpFunc_api_Event e33.1 e33.2 n_1).bind fun r63=>((iter (g_slices_stableCmpFunc_api_Event_w_s2 n_1) (20,r63)).bind fun e66=>(some e66))))
theorem a_slices_stableCmpFunc_api_Event_w {I:World→Prop} (hI:Stab I) {H:Nat→Option Blk} {nid i0:Nat} {pn:Option Value} {data_0:List T_api_Event} {n_1:Int} {r:(List T_api_Event)} (h:g_slices_stableCmpFunc_api_Event_w data_0 n_1=some r) (b0:H i0=some (rowB pn 64 7 (data_0.map T_api_Event.d))):CallOK Tryz.prog I 143 [.own i0 data_0.length,.int .i64 n_1,.fn 103 []] H nid (.tup []) [(i0,some (rowB pn 64 7 (r.map T_api_Event.d)))]:=by
 refine CallOK.inrow (i0:=i0) (ds0:=[.own 0 data_0.length,.int .i64 n_1,.fn 103 []]) hI Tryz.func143 rfl (by decide) (by simp[Tryz.f143]) (by kernel_rfl) rfl rfl b0 fun uv=>?_
 have dd:=dd_ED;have k:=True.intro;have q:=k;have rs:=Tryz.results143
 unfold g_slices_stableCmpFunc_api_Event_w at h
 simp only[List.length_cons,List.length_nil,Nat.zero_add,Nat.reduceAdd,Tryz.ntmps143,dd]
 refine xs<|rz ?_
 refine es<|xs<|rz ?_
 refine es<|xs<|xb ?_
 obtain⟨e33,h58,h⟩:=bs h
 refine rb_loop (fun x32=>⟨envL [(0,.own 0 x32.2.2.length),(1,.int .i64 n_1),(2,.fn 103 []),(6,.int .i64 20),(7,.int .i64 x32.1),(8,.int .i64 x32.2.1)],heapL [(0,.lrow uv 64 7 (x32.2.2.map T_api_Event.d))],1,63⟩) (fun _=>.exit 0) (fun e33=>⟨envL [(0,.own 0 e33.1.length),(1,.int .i64 n_1),(2,.fn 103 []),(6,.int .i64 20),(7,.int .i64 e33.2)],heapL [(0,.lrow uv 64 7 (e33.1.map T_api_Event.d))],1,63⟩) h58 (wk []) (by intro w;simp) ?_ ?_
 ·clear h
  intro x32 y h
  unfold g_slices_stableCmpFunc_api_Event_w_s1 at h
  refine xs<|xs<|rz ?_
  refine es ?_
  rcases iK k h with⟨k,h⟩|⟨k,h⟩
  ·refine xt<|xk<|es<|xb<|xs<|rK fun K52 RK52 hK52 gK52=>zz ?_
   obtain⟨r53,h54,h⟩:=bs h
   have q:=And.intro (a_slices_insertionSortCmpFunc_api_Event_len h54) q
   refine rW.intro (a_slices_insertionSortCmpFunc_api_Event_l hI (nid:=8) (i0:=0) (u:=uv) h54 fz) fi rfl<|zz ?_
   subst hK52 gK52
   refine es<|xs<|rz ?_
   refine es<|rz ?_
   refine bn ?_
   cases h
   exact en ⟨rfl,wk []⟩
  ·refine xf<|xx<|ee ?_
   cases h
   exact en ⟨rfl,wk []⟩
 ·refine bh<|es<|xs<|rK fun K62 RK62 hK62 gK62=>zz ?_
  obtain⟨r63,h64,h⟩:=bs h
  have q:=And.intro (a_slices_insertionSortCmpFunc_api_Event_len h64) q
  refine rW.intro (a_slices_insertionSortCmpFunc_api_Event_l hI (nid:=5) (i0:=0) (u:=uv) h64 fz) fi rfl<|zz ?_
  subst hK62 gK62
  refine es<|xb ?_
  obtain⟨e66,h205,h⟩:=bs h
  refine rb_loop (fun x65=>⟨envL [(0,.own 0 x65.2.length),(1,.int .i64 n_1),(2,.fn 103 []),(6,.int .i64 x65.1)],heapL [(0,.lrow uv 64 7 (x65.2.map T_api_Event.d))],1,63⟩) (fun _=>.exit 2) (fun e66=>⟨envL [(0,.own 0 e66.length)],heapL [(0,.lrow uv 64 7 (e66.map T_api_Event.d))],1,63⟩) h205 (wk []) (by intro w;simp) ?_ ?_
  ·clear h
   intro x65 y h
   unfold g_slices_stableCmpFunc_api_Event_w_s2 at h
   refine xs<|xs<|rz ?_
   refine es ?_
   rcases iK k h with⟨k,h⟩|⟨k,h⟩
   ·refine xt<|xk<|es<|xb<|xs<|rz ?_
    refine es<|xs<|xb ?_
    obtain⟨e169,h194,h⟩:=bs h
    refine rb_loop (fun x168=>⟨envL [(0,.own 0 x168.2.2.length),(1,.int .i64 n_1),(2,.fn 103 []),(6,.int .i64 x65.1),(7,.int .i64 x168.1),(8,.int .i64 x168.2.1)],heapL [(0,.lrow uv 64 7 (x168.2.2.map T_api_Event.d))],1,63⟩) (fun _=>.exit 4) (fun e169=>⟨envL [(0,.own 0 e169.1.length),(1,.int .i64 n_1),(2,.fn 103 []),(6,.int .i64 x65.1),(7,.int .i64 e169.2)],heapL [(0,.lrow uv 64 7 (e169.1.map T_api_Event.d))],1,63⟩) h194 (wk []) (by intro w;simp) ?_ ?_
    ·clear h
     intro x168 y h
     unfold g_slices_stableCmpFunc_api_Event_w_s3 at h
     refine xs<|xs<|rz ?_
     refine es ?_
     rcases iK k h with⟨k,h⟩|⟨k,h⟩
     ·refine xt<|xk<|es<|xb<|xs<|rK fun K188 RK188 hK188 gK188=>zz ?_
      obtain⟨r189,h190,h⟩:=bs h
      have q:=And.intro (a_slices_symMergeCmpFunc_api_Event_len h190) q
      refine rW.intro (a_slices_symMergeCmpFunc_api_Event_l hI (nid:=11) (i0:=0) (u:=uv) h190 fz) fi rfl<|zz ?_
      subst hK188 gK188
      refine es<|xs<|rz ?_
      refine es<|rz ?_
      refine bn ?_
      cases h
      exact en ⟨rfl,wk []⟩
     ·refine xf<|xx<|ee ?_
      cases h
      exact en ⟨rfl,wk []⟩
    ·refine bh<|es<|xs<|xs<|rz ?_
     refine es<|xs<|rz ?_
     refine es ?_
     rcases iK k h with⟨k,h⟩|⟨k,h⟩
     ·refine xt<|rK fun K200 RK200 hK200 gK200=>zz ?_
      obtain⟨r201,h202,h⟩:=bs h
      have q:=And.intro (a_slices_symMergeCmpFunc_api_Event_len h202) q
      refine rW.intro (a_slices_symMergeCmpFunc_api_Event_l hI (nid:=13) (i0:=0) (u:=uv) h202 fz) fi rfl<|zz ?_
      subst hK200 gK200
      refine es<|rz ?_
      refine bn ?_
      cases h
      exact en ⟨rfl,wk []⟩
     ·refine xf<|xk<|es<|rz ?_
      refine bn ?_
      cases h
      exact en ⟨rfl,wk []⟩
   ·refine xf<|xx<|ee ?_
    cases h
    exact en ⟨rfl,wk []⟩
  ·refine bh ?_
   cases h
   exact en (fI 0)
def g_slices_stableCmpFunc_api_Event (data_0:List T_api_Event) (n_1:Int):Option ((List T_api_Event)):=(g_slices_stableCmpFunc_api_Event_w data_0 n_1).bind fun r=>if r.length=data_0.length then some r else none
theorem a_slices_stableCmpFunc_api_Event_len {data_0:List T_api_Event} {n_1:Int} {r:(List T_api_Event)} (h:g_slices_stableCmpFunc_api_Event data_0 n_1=some r):data_0.length=r.length:=by
 unfold g_slices_stableCmpFunc_api_Event at h
 obtain⟨x,_,h⟩:=bs h
 obtain⟨h1,h⟩:=ite_on h
 cases h
 exact h1.symm
theorem a_slices_stableCmpFunc_api_Event_in {data_0:List T_api_Event} {n_1:Int} {r:(List T_api_Event)} (h:g_slices_stableCmpFunc_api_Event data_0 n_1=some r):g_slices_stableCmpFunc_api_Event_w data_0 n_1=some r:=by
 unfold g_slices_stableCmpFunc_api_Event at h
 obtain⟨x,h0,h⟩:=bs h
 obtain⟨h1,h⟩:=ite_on h
 cases h
 exact h0
theorem a_slices_stableCmpFunc_api_Event_l {I:World→Prop} (hI:Stab I) {H:Nat→Option Blk} {nid i0:Nat} {u:Value} {data_0:List T_api_Event} {n_1:Int} {r:(List T_api_Event)} (h:g_slices_stableCmpFunc_api_Event data_0 n_1=some r) (b0:H i0=some (.lrow u 64 7 (data_0.map T_api_Event.d))):CallOK Tryz.prog I 143 [.own i0 data_0.length,.int .i64 n_1,.fn 103 []] H nid (.tup []) [(i0,some (.lrow u 64 7 (r.map T_api_Event.d)))] :=
 a_slices_stableCmpFunc_api_Event_w hI (pn:=some u) (a_slices_stableCmpFunc_api_Event_in h) b0
def g_slices_SortStableFunc_api_Event_api_Event_w (x_0:List T_api_Event):Option ((List T_api_Event)) :=
 ((g_slices_stableCmpFunc_api_Event x_0 ((x_0.length:Nat):Int)).bind fun r2=>(some r2))
theorem a_slices_SortStableFunc_api_Event_api_Event_w {I:World→Prop} (hI:Stab I) {H:Nat→Option Blk} {nid i0:Nat} {pn:Option Value} {x_0:List T_api_Event} {r:(List T_api_Event)} (h:g_slices_SortStableFunc_api_Event_api_Event_w x_0=some r) (b0:H i0=some (rowB pn 64 7 (x_0.map T_api_Event.d))):CallOK Tryz.prog I 102 [.own i0 x_0.length,.fn 103 []] H nid (.tup []) [(i0,some (rowB pn 64 7 (r.map T_api_Event.d)))]:=by
 refine CallOK.inrow (i0:=i0) (ds0:=[.own 0 x_0.length,.fn 103 []]) hI Tryz.func102 rfl (by decide) (by simp[Tryz.f102]) (by kernel_rfl) rfl rfl b0 fun uv=>?_
 have dd:=dd_ED;have k:=True.intro;have q:=k;have rs:=Tryz.results102
 unfold g_slices_SortStableFunc_api_Event_api_Event_w at h
 simp only[List.length_cons,List.length_nil,Nat.zero_add,Nat.reduceAdd,Tryz.ntmps102,dd]
 refine rK fun K1 RK1 hK1 gK1=>zz ?_
 obtain⟨r2,h3,h⟩:=bs h
 have q:=And.intro (a_slices_stableCmpFunc_api_Event_len h3) q
 refine rW.intro (a_slices_stableCmpFunc_api_Event_l hI (nid:=5) (i0:=0) (u:=uv) h3 fz) fi rfl<|zz ?_
 subst hK1 gK1
 cases h
 exact en (fI 0)
def g_slices_SortStableFunc_api_Event_api_Event (x_0:List T_api_Event):Option ((List T_api_Event)):=(g_slices_SortStableFunc_api_Event_api_Event_w x_0).bind fun r=>if r.length=x_0.length then some r else none
theorem a_slices_SortStableFunc_api_Event_api_Event_len {x_0:List T_api_Event} {r:(List T_api_Event)} (h:g_slices_SortStableFunc_api_Event_api_Event x_0=some r):x_0.length=r.length:=by
 unfold g_slices_SortStableFunc_api_Event_api_Event at h
 obtain⟨x,_,h⟩:=bs h
 obtain⟨h1,h⟩:=ite_on h
 cases h
 exact h1.symm
theorem a_slices_SortStableFunc_api_Event_api_Event_in {x_0:List T_api_Event} {r:(List T_api_Event)} (h:g_slices_SortStableFunc_api_Event_api_Event x_0=some r):g_slices_SortStableFunc_api_Event_api_Event_w x_0=some r:=by
 unfold g_slices_SortStableFunc_api_Event_api_Event at h
 obtain⟨x,h0,h⟩:=bs h
 obtain⟨h1,h⟩:=ite_on h
 cases h
 exact h0
theorem a_slices_SortStableFunc_api_Event_api_Event {I:World→Prop} (hI:Stab I) {H:Nat→Option Blk} {nid i0:Nat} {x_0:List T_api_Event} {r:(List T_api_Event)} (h:g_slices_SortStableFunc_api_Event_api_Event x_0=some r) (b0:H i0=some (.vec 64 7 (x_0.map T_api_Event.d) false)):CallOK Tryz.prog I 102 [.own i0 x_0.length,.fn 103 []] H nid (.tup []) [(i0,some (.vec 64 7 (r.map T_api_Event.d) false))] :=
 a_slices_SortStableFunc_api_Event_api_Event_w hI (pn:=none) (a_slices_SortStableFunc_api_Event_api_Event_in h) b0
def g_document_Sort_s1 (l_0:List T_api_Event) (x7:(List T_api_Event) × Int):Option (Nx ((List T_api_Event) × Int) ((List T_api_Event))) :=
 (if(decide (x7.2 < (l_0.length:Int))) then((atI l_0 x7.2).bind fun y78=>((g_event_Clone y78).bind fun r81=>(if(x7.1.length+1) * 88≤140737488355328 then(some (.go ((x7.1++[r81]),(IntKind.i64.wrap (x7.2+1))))) else none))) else(some (.out x7.1)))
def g_document_Sort (l_0:List T_api_Event):Option ((List T_api_Event)) :=
 ((iter (g_document_Sort_s1 l_0) ([],0)).bind fun e8=>((g_slices_SortStableFunc_api_Event_api_Event e8).bind fun r91=>(some r91)))
theorem a_document_Sort {I:World→Prop} (hI:Stab I) {l_0:List T_api_Event} {r:(List T_api_Event)} (h:g_document_Sort l_0=some r):AFun Tryz.prog I 49 [.sl (l_0.map T_api_Event.d)] (.sl (r.map T_api_Event.d)):=by
 have dd:=dd_ED;have k:=True.intro;have q:=k;have rs:=Tryz.results49
 unfold g_document_Sort at h
 refine .en hI Tryz.func49 Tryz.ntmps49 ?_
 refine xs<|rz ?_
 refine es<|xs<|rz ?_
 refine es<|xs<|xs<|rz ?_
 refine es<|xb ?_
 obtain⟨e8,h86,h⟩:=bs h
 refine rb_loop (fun x7=>⟨envL [(3,.own 0 x7.1.length),(6,.sl (l_0.map T_api_Event.d)),(7,.int .i64 (l_0.length:Int)),(8,.int .i64 x7.2)],heapL [(0,.vec 64 7 (x7.1.map T_api_Event.d) false)],1,21⟩) (fun _=>.exit 0) (fun e8=>⟨envL [(3,.own 0 e8.length)],heapL [(0,.vec 64 7 (e8.map T_api_Event.d) false)],1,21⟩) h86 (wk [(0,none)]) (by intro w;simp) ?_ ?_
 ·clear h
  intro x7 y h
  unfold g_document_Sort_s1 at h
  refine xs<|rz ?_
  refine es<|xs ?_
  rcases iK k h with⟨k,h⟩|⟨k,h⟩
  ·refine xt<|xk<|es<|xs<|xb<|xs<|rK fun K77 RK77 hK77 gK77=>zz ?_
   obtain⟨y78,q,h⟩:=bK q h
   refine zz ?_
   subst hK77 gK77
   refine es<|rK fun K80 RK80 hK80 gK80=>zz ?_
   obtain⟨r81,h82,h⟩:=bs h
   refine cw (a_event_Clone hI h82)<|zz ?_
   obtain⟨h83,h⟩:=ite_on h
   have h84:x7.1.length+1≤9223372036854775807:=by omega
   try simp only[Nat.reduceLeDiff] at h84
   have q:=And.intro @h84<|And.intro @h83<|q
   refine zz ?_
   subst hK80 gK80
   refine bn<|es<|rz ?_
   cases h
   exact en ⟨rfl,wk [(0,some 10)]⟩
  ·refine xf<|xx<|ee ?_
   cases h
   exact en ⟨rfl,wk []⟩
 ·refine bh<|es<|xs<|rK fun K90 RK90 hK90 gK90=>zz ?_
  obtain⟨r91,h92,h⟩:=bs h
  have q:=And.intro (a_slices_SortStableFunc_api_Event_api_Event_len h92) q
  refine cW.introR (a_slices_SortStableFunc_api_Event_api_Event hI (nid:=2) (i0:=0) h92 fz) fs rfl<|zz ?_
  subst hK90 gK90
  refine es<|xs<|rz ?_
  refine es<|xr ?_
  cases h
  exact en fr
def g_repair_Apply_s1 (l_1:List T_api_Shift) (r20:T_api_Document) (x24:Unit):Option (Nx (Unit) (Int ⊕ Unit)) :=
 (if(decide (0 < (l_1.length:Int))) then((atI l_1 0).bind fun y197=>((g_document_Find r20 y197.ID).bind fun r203=>(if(decide (r203 < 0)) then(some (.out (.inl 6))) else(((if(decide (y197.In < 0)) then(some true) else(if(decide (y197.Out≤y197.In)) then(some true) else(some (decide (5184000 < y197.Out))))):Option (Bool)).bind fun v213=>(if v213 then(some (.out (.inl 2))) else((atI r20.Events r203).bind fun y222=>none)))))) else(some (.out (.inr ()))))
def g_repair_Apply_s2 (l_1:List T_api_Shift) (r233:T_api_Document) (x237:Int × (List T_api_Event)):Option (Nx (Int × (List T_api_Event)) (Int ⊕ ((List T_api_Event)))) :=
 (if(decide (x237.1 < (l_1.length:Int))) then((atI l_1 x237.1).bind fun y437=>((g_document_Find_ro (T_api_Document.mk r233.Title r233.Lang r233.Rate r233.Drop r233.Last r233.Regions x237.2 r233.Comments) y437.ID).bind fun r443=>(if(decide (r443 < 0)) then(some (.out (.inl 6))) else(((if(decide (y437.In < 0)) then(some true) else(if(decide (y437.Out≤y437.In)) then(some true) else(some (decide (5184000 < y437.Out))))):Option (Bool)).bind fun v453=>(if v453 then(some (.out (.inl 2))) else((atI x237.2 r443).bind fun y462=>((setI x237.2 r443 (T_api_Event.mk y462.ID (T_api_Span.mk y437.In y437.Out) y462.Region y462.Kind y462.Speaker y462.Rows)).bind fun m463=>(some (.go ((IntKind.i64.wrap (x237.1+1)),m463)))))))))) else(some (.out (.inr x237.2))))
def g_repair_Apply (d_0:T_api_Document) (l_1:List T_api_Shift):Option (T_api_Document × Int) :=
 ((g_document_Check d_0).bind fun r7=>(if(r7 != 0) then(some ((T_api_Document.mk [] [] 0 false 0 [] [] []),r7)) else(if d_0.Events.isEmpty then((g_document_Clone d_0).bind fun r20=>((iter (g_repair_Apply_s1 l_1 r20) ()).bind fun e25=>(match e25 with|Sum.inl e25=>(some ((T_api_Document.mk [] [] 0 false 0 [] [] []),e25))|Sum.inr (e25)=>((g_document_Sort r20.Events).bind fun r229=>(some ((T_api_Document.mk r20.Title r20.Lang r20.Rate r20.Drop r20.Last r20.Regions r229 r20.Comments),0)))))) else((g_document_Clone_nw d_0).bind fun r233=>((iter (g_repair_Apply_s2 l_1 r233) (0,r233.Events)).bind fun e238=>(match e238 with|Sum.inl e238=>(some ((T_api_Document.mk [] [] 0 false 0 [] [] []),e238))|Sum.inr (e238)=>((g_document_Sort e238).bind fun r475=>(some ((T_api_Document.mk r233.Title r233.Lang r233.Rate r233.Drop r233.Last r233.Regions r475 r233.Comments),0)))))))))
theorem a_repair_Apply {I:World→Prop} (hI:Stab I) (hShp:∀ w,I w→Shp w) (hU8T:∀ w,I w→U8T w) {d_0:T_api_Document} {l_1:List T_api_Shift} {r:T_api_Document × Int} (h:g_repair_Apply d_0 l_1=some r):AFun Tryz.prog I 20 [T_api_Document.d d_0,.sl (l_1.map T_api_Shift.d)] (.tup [T_api_Document.d r.1,.int .i64 r.2]):=by
 have dd:=dd_ED;have k:=True.intro;have q:=k;have rs:=Tryz.results20
 unfold g_repair_Apply at h
 refine .en hI Tryz.func20 Tryz.ntmps20 ?_
 refine xs<|rz ?_
 refine es<|xs<|xs<|rK fun K6 RK6 hK6 gK6=>zz ?_
 obtain⟨r7,h8,h⟩:=bs h
 refine cw (a_document_Check hI hShp hU8T h8)<|zz ?_
 subst hK6 gK6
 refine es<|xs<|rz ?_
 refine es ?_
 rcases iK k h with⟨k,h⟩|⟨k,h⟩
 ·refine xt<|xs<|rz ?_
  refine es<|xr<|er ?_
  cases h
  exact en fr
 ·refine xf<|xk<|es<|xs<|rK fun K19 RK19 hK19 gK19=>zz ?_
  rcases iK k h with⟨k,h⟩|⟨k,h⟩
  ·obtain⟨r20,h21,h⟩:=bs h
   refine cw (a_document_Clone hI h21)<|zz ?_
   subst hK19 gK19
   refine es<|xs<|xs<|rz ?_
   refine es<|xb ?_
   obtain⟨e25,h224,h⟩:=bs h
   refine rb_loop (fun x24=>⟨envL [(4,.ptr 0 0),(7,.ptr 1 0),(19,.sl (l_1.map T_api_Shift.d)),(20,.int .i64 (l_1.length:Int)),(21,.int .i64 0)],heapL [(0,.box none [.str [],.str [],.int .u8 0,.bool false,.int .i64 0,.nils,.nils,.nils]),(1,.box none [.str r20.Title,.str r20.Lang,.int .u8 r20.Rate,.bool r20.Drop,.int .i64 r20.Last,.sl (r20.Regions.map T_api_Region.d),.sl (r20.Events.map T_api_Event.d),.sl (r20.Comments.map T_api_Comment.d)])],2,64⟩) (fun w=>match w with|Sum.inl _=>.ret|Sum.inr (_)=>.exit 0) (fun w=>match w with|Sum.inl e25=>⟨envL [(4,.ptr 0 0),(5,.int .i64 e25)],heapL [(0,.box none [.str [],.str [],.int .u8 0,.bool false,.int .i64 0,.nils,.nils,.nils])],1,64⟩|Sum.inr (e25)=>⟨envL [(4,.ptr 0 0),(7,.ptr 1 0)],heapL [(0,.box none [.str [],.str [],.int .u8 0,.bool false,.int .i64 0,.nils,.nils,.nils]),(1,.box none [.str r20.Title,.str r20.Lang,.int .u8 r20.Rate,.bool r20.Drop,.int .i64 r20.Last,.sl (r20.Regions.map T_api_Region.d),.sl (r20.Events.map T_api_Event.d),.sl (r20.Comments.map T_api_Comment.d)])],2,64⟩) h224 (wk [(0,some 1),(1,some 10)]) (by intro w;rcases w with w|w<;>simp) ?_ ?_
   ·clear h
    intro x24 y h
    unfold g_repair_Apply_s1 at h
    refine xs<|rz ?_
    refine es<|xs ?_
    rcases iK k h with⟨k,h⟩|⟨k,h⟩
    ·refine xt<|xk<|es<|xs<|xb<|xs<|rK fun K196 RK196 hK196 gK196=>zz ?_
     obtain⟨y197,q,h⟩:=bK q h
     refine zz ?_
     subst hK196 gK196
     refine es<|xs<|rK fun K202 RK202 hK202 gK202=>zz ?_
     obtain⟨r203,h204,h⟩:=bs h
     refine cw (a_document_Find hI h204)<|zz ?_
     subst hK202 gK202
     refine es<|xs<|xs<|rz ?_
     refine es ?_
     rcases iK k h with⟨k,h⟩|⟨k,h⟩
     ·refine xt<|xs<|rz ?_
      refine es<|xr<|er<|br<|er ?_
      cases h
      exact en ⟨rfl,wk []⟩
     ·refine xf<|xk<|es<|xs ?_
      obtain⟨v213,h217,h⟩:=bs h
      refine rb_cut (fun v213=>⟨envL [(4,.ptr 0 0),(7,.ptr 1 0),(9,.ptr 2 0),(10,.int .i64 r203),(19,.sl (l_1.map T_api_Shift.d)),(20,.int .i64 (l_1.length:Int)),(21,.int .i64 0),(46,.bool v213)],heapL [(0,.box none [.str [],.str [],.int .u8 0,.bool false,.int .i64 0,.nils,.nils,.nils]),(1,.box none [.str r20.Title,.str r20.Lang,.int .u8 r20.Rate,.bool r20.Drop,.int .i64 r20.Last,.sl (r20.Regions.map T_api_Region.d),.sl (r20.Events.map T_api_Event.d),.sl (r20.Comments.map T_api_Comment.d)]),(2,.box none [.int .i64 y197.ID,.int .i64 y197.In,.int .i64 y197.Out])],3,64⟩) h217 ?_ ?_
      ·clear h
       intro v213 h
       refine rK fun K214 RK214 hK214 gK214=>zz ?_
       rcases iK k h with⟨k,h⟩|⟨k,h⟩
       ·refine zz ?_
        subst hK214 gK214
        cases h
        exact en ⟨rfl,wk [(2,some 5)]⟩
       ·refine zz ?_
        rcases iK k h with⟨k,h⟩|⟨k,h⟩
        ·refine zz ?_
         subst hK214 gK214
         cases h
         exact en ⟨rfl,wk [(2,some 5)]⟩
        ·refine zz ?_
         subst hK214 gK214
         cases h
         exact en ⟨rfl,wk [(2,some 5)]⟩
      ·rcases iK k h with⟨k,h⟩|⟨k,h⟩
       ·refine xt<|xs<|rz ?_
        refine es<|xr<|er<|br<|er ?_
        cases h
        exact en ⟨rfl,wk []⟩
       ·refine xf<|xk<|es<|rK fun K221 RK221 hK221 gK221=>zz ?_
        obtain⟨y222,q,h⟩:=bK q h
        refine zz ?_
        cases h
    ·refine xf<|xx<|ee ?_
     cases h
     exact en ⟨rfl,wk []⟩
   ·rcases e25 with e25|e25
    ·try dsimp only at h ⊢
     refine br<|er ?_
     cases h
     exact en fr
    ·try dsimp only at h ⊢
     refine bh<|es<|xs<|rK fun K228 RK228 hK228 gK228=>zz ?_
     obtain⟨r229,h230,h⟩:=bs h
     refine cw (a_document_Sort hI h230)<|zz ?_
     subst hK228 gK228
     refine es<|xs<|rz ?_
     refine es<|xr ?_
     cases h
     exact en fr
  ·obtain⟨r233,h234,h⟩:=bs h
   refine cW.introE (a_document_Clone_nw hI (nid:=9) h234) fz rfl<|zz ?_
   subst hK19 gK19
   refine es<|xs<|xs<|rz ?_
   refine es<|xb ?_
   obtain⟨e238,h470,h⟩:=bs h
   refine rb_loop (fun x237=>⟨envL [(4,.ptr 0 0),(7,.ptr 1 0),(19,.sl (l_1.map T_api_Shift.d)),(20,.int .i64 (l_1.length:Int)),(21,.int .i64 x237.1)],heapL [(0,.box none [.str [],.str [],.int .u8 0,.bool false,.int .i64 0,.nils,.nils,.nils]),(1,.box none [.str r233.Title,.str r233.Lang,.int .u8 r233.Rate,.bool r233.Drop,.int .i64 r233.Last,.sl (r233.Regions.map T_api_Region.d),.own 2 x237.2.length,.sl (r233.Comments.map T_api_Comment.d)]),(2,.vec 64 7 (x237.2.map T_api_Event.d) false)],3,64⟩) (fun w=>match w with|Sum.inl _=>.ret|Sum.inr (_)=>.exit 0) (fun w=>match w with|Sum.inl e238=>⟨envL [(4,.ptr 0 0),(5,.int .i64 e238)],heapL [(0,.box none [.str [],.str [],.int .u8 0,.bool false,.int .i64 0,.nils,.nils,.nils])],1,64⟩|Sum.inr (e238)=>⟨envL [(4,.ptr 0 0),(7,.ptr 1 0)],heapL [(0,.box none [.str [],.str [],.int .u8 0,.bool false,.int .i64 0,.nils,.nils,.nils]),(1,.box none [.str r233.Title,.str r233.Lang,.int .u8 r233.Rate,.bool r233.Drop,.int .i64 r233.Last,.sl (r233.Regions.map T_api_Region.d),.own 2 e238.length,.sl (r233.Comments.map T_api_Comment.d)]),(2,.vec 64 7 (e238.map T_api_Event.d) false)],3,64⟩) h470 (wk [(0,some 1),(1,some 10),(2,some 9)]) (by intro w;rcases w with w|w<;>simp) ?_ ?_
   ·clear h
    intro x237 y h
    unfold g_repair_Apply_s2 at h
    refine xs<|rz ?_
    refine es<|xs ?_
    rcases iK k h with⟨k,h⟩|⟨k,h⟩
    ·refine xt<|xk<|es<|xs<|xb<|xs<|rK fun K436 RK436 hK436 gK436=>zz ?_
     obtain⟨y437,q,h⟩:=bK q h
     refine zz ?_
     subst hK436 gK436
     refine es<|xs<|rK fun K442 RK442 hK442 gK442=>zz ?_
     obtain⟨r443,h444,h⟩:=bs h
     refine cW.introR (a_document_Find_ro hI (nid:=11) (i0:=2) h444 fz) fs rfl<|zz ?_
     subst hK442 gK442
     refine es<|xs<|xs<|rz ?_
     refine es ?_
     rcases iK k h with⟨k,h⟩|⟨k,h⟩
     ·refine xt<|xs<|rz ?_
      refine es<|xr<|er<|br<|er ?_
      cases h
      exact en ⟨rfl,wk []⟩
     ·refine xf<|xk<|es<|xs ?_
      obtain⟨v453,h457,h⟩:=bs h
      refine rb_cut (fun v453=>⟨envL [(4,.ptr 0 0),(7,.ptr 1 0),(9,.ptr 3 0),(10,.int .i64 r443),(19,.sl (l_1.map T_api_Shift.d)),(20,.int .i64 (l_1.length:Int)),(21,.int .i64 x237.1),(46,.bool v453)],heapL [(0,.box none [.str [],.str [],.int .u8 0,.bool false,.int .i64 0,.nils,.nils,.nils]),(1,.box none [.str r233.Title,.str r233.Lang,.int .u8 r233.Rate,.bool r233.Drop,.int .i64 r233.Last,.sl (r233.Regions.map T_api_Region.d),.own 2 x237.2.length,.sl (r233.Comments.map T_api_Comment.d)]),(2,.vec 64 7 (x237.2.map T_api_Event.d) false),(3,.box none [.int .i64 y437.ID,.int .i64 y437.In,.int .i64 y437.Out])],4,64⟩) h457 ?_ ?_
      ·clear h
       intro v453 h
       refine rK fun K454 RK454 hK454 gK454=>zz ?_
       rcases iK k h with⟨k,h⟩|⟨k,h⟩
       ·refine zz ?_
        subst hK454 gK454
        cases h
        exact en ⟨rfl,wk [(3,some 6)]⟩
       ·refine zz ?_
        rcases iK k h with⟨k,h⟩|⟨k,h⟩
        ·refine zz ?_
         subst hK454 gK454
         cases h
         exact en ⟨rfl,wk [(3,some 6)]⟩
        ·refine zz ?_
         subst hK454 gK454
         cases h
         exact en ⟨rfl,wk [(3,some 6)]⟩
      ·rcases iK k h with⟨k,h⟩|⟨k,h⟩
       ·refine xt<|xs<|rz ?_
        refine es<|xr<|er<|br<|er ?_
        cases h
        exact en ⟨rfl,wk []⟩
       ·refine xf<|xk<|es<|rK fun K461 RK461 hK461 gK461=>zz ?_
        obtain⟨y462,q,h⟩:=oN q h
        refine zz ?_
        obtain⟨m463,h464,h⟩:=bind_some h
        obtain⟨h465,h466,h467,h468⟩:=setI_some h464
        have h468:=h468 T_api_Event.d
        try simp only[sevalprocAttr,List.map_nil,dd] at h468
        have q:=And.intro @h465<|And.intro @h466<|And.intro @h467<|And.intro @h468<|q
        refine zz ?_
        subst hK461 gK461
        refine bn<|es<|rz ?_
        cases h
        exact en ⟨rfl,wk []⟩
    ·refine xf<|xx<|ee ?_
     cases h
     exact en ⟨rfl,wk []⟩
   ·rcases e238 with e238|e238
    ·try dsimp only at h ⊢
     refine br<|er ?_
     cases h
     exact en fr
    ·try dsimp only at h ⊢
     refine bh<|es<|xs<|rK fun K474 RK474 hK474 gK474=>zz ?_
     obtain⟨r475,h476,h⟩:=bs h
     refine cw (a_document_Sort hI h476)<|zz ?_
     subst hK474 gK474
     refine es<|xs<|rz ?_
     refine es<|xr ?_
     cases h
     exact en fr
def g_repair_Plan_s1 (r7:(List T_api_Bound) × Int) (r20:(List Int) × (List Int) × Int) (x29:Int × (List T_api_Bound)):Option (Nx (Int × (List T_api_Bound)) ((List T_api_Bound))) :=
 (if(decide (x29.1 < (r20.2.1.length:Int))) then((atI r20.2.1 x29.1).bind fun y127=>((atI r7.1 y127).bind fun y130=>(if(x29.2.length+1) * 48≤140737488355328 then(some (.go ((IntKind.i64.wrap (x29.1+1)),(x29.2++[y130])))) else none))) else(some (.out x29.2)))
def g_repair_Plan_s2 (d_0:T_api_Document) (r154:(List Int) × Bool) (x160:Int × (List T_api_Shift)):Option (Nx (Int × (List T_api_Shift)) ((List T_api_Shift))) :=
 (if(decide (x160.1 < (d_0.Events.length:Int))) then((atI d_0.Events x160.1).bind fun y393=>((atI r154.1 (IntKind.i64.wrap ((IntKind.i64.wrap (2 * x160.1))+1))).bind fun y403=>((atI r154.1 0).bind fun y405=>((atI r154.1 (IntKind.i64.wrap ((IntKind.i64.wrap (2 * x160.1))+2))).bind fun y407=>(((if((IntKind.i64.wrap (y403 - y405)) != y393.Span.In) then(some true) else(some ((IntKind.i64.wrap (y407 - y405)) != y393.Span.Out))):Option (Bool)).bind fun v411=>(if v411 then(if(x160.2.length+1) * 24≤140737488355328 then(some (.go ((IntKind.i64.wrap (x160.1+1)),(x160.2++[(T_api_Shift.mk y393.ID (IntKind.i64.wrap (y403 - y405)) (IntKind.i64.wrap (y407 - y405)))])))) else none) else(some (.go ((IntKind.i64.wrap (x160.1+1)),x160.2))))))))) else(some (.out x160.2)))
def g_repair_Plan (d_0:T_api_Document) (p_1:T_api_Profile) (l_2:List Int) (tol_3:Int):Option (T_api_Repair × Int) :=
 ((g_repair_Bounds d_0 p_1 l_2 tol_3).bind fun r7=>(if(r7.2 != 0) then(some ((T_api_Repair.mk (T_api_Document.mk [] [] 0 false 0 [] [] []) [] 0 []),r7.2)) else((g_diffcon_Solve (IntKind.i64.wrap ((IntKind.i64.wrap (2 * (d_0.Events.length:Int)))+1)) r7.1).bind fun r20=>(if(r20.2.2 != 0) then((iter (g_repair_Plan_s1 r7 r20) (0,[])).bind fun e30=>(some ((T_api_Repair.mk (T_api_Document.mk [] [] 0 false 0 [] [] []) [] 0 e30),r20.2.2))) else((g_sort_Search tol_3 d_0 p_1 l_2 (IntKind.i64.wrap ((IntKind.i64.wrap (2 * (d_0.Events.length:Int)))+1))).bind fun r146=>((g_repair_Plan_1 r146 d_0 p_1 l_2 (IntKind.i64.wrap ((IntKind.i64.wrap (2 * (d_0.Events.length:Int)))+1))).bind fun r154=>((iter (g_repair_Plan_s2 d_0 r154) (0,[])).bind fun e161=>((g_repair_Apply d_0 e161).bind fun r426=>(some ((T_api_Repair.mk r426.1 e161 r146 []),r426.2))))))))))
theorem a_repair_Plan {I:World→Prop} (hI:Stab I) (hShp:∀ w,I w→Shp w) (hU8T:∀ w,I w→U8T w) {d_0:T_api_Document} {p_1:T_api_Profile} {l_2:List Int} {tol_3:Int} {r:T_api_Repair × Int} (h:g_repair_Plan d_0 p_1 l_2 tol_3=some r):AFun Tryz.prog I 17 [T_api_Document.d d_0,T_api_Profile.d p_1,.sl (l_2.map (D.int .i64)),.int .i64 tol_3] (.tup [T_api_Repair.d r.1,.int .i64 r.2]):=by
 have dd:=dd_ED;have k:=True.intro;have q:=k;have rs:=Tryz.results17
 unfold g_repair_Plan at h
 refine .en hI Tryz.func17 Tryz.ntmps17 ?_
 refine xs<|rz ?_
 refine eWk _ (((Wk.freeze (id:=0) (cs:=[.str d_0.Title,.str d_0.Lang,.int .u8 d_0.Rate,.bool d_0.Drop,.int .i64 d_0.Last,.sl (d_0.Regions.map T_api_Region.d),.sl (d_0.Events.map T_api_Event.d),.sl (d_0.Comments.map T_api_Comment.d)]) fz fz).trans (wkF (l:=[(3,.int .i64 tol_3),(4,.iptr [.str d_0.Title,.str d_0.Lang,.int .u8 d_0.Rate,.bool d_0.Drop,.int .i64 d_0.Last,.sl (d_0.Regions.map T_api_Region.d),.sl (d_0.Events.map T_api_Event.d),.sl (d_0.Comments.map T_api_Comment.d)]),(5,.ptr 1 0),(6,.ptr 2 0),(8,.ptr 3 0)]) (h:=[(1,.box none [.str p_1.Name,.int .i64 p_1.Reading,.int .i64 p_1.MinFrames,.int .i64 p_1.MaxFrames,.int .i64 p_1.MinGap,.int .i64 p_1.ShotBefore,.int .i64 p_1.ShotAfter,.int .i64 p_1.Rows,.int .i64 p_1.Cols,.str p_1.Forbidden,.int .i64 p_1.SafeTop,.int .i64 p_1.SafeBottom,.int .i64 p_1.SafeLeft,.int .i64 p_1.SafeRight]),(2,.box none [.sl (l_2.map (D.int .i64))]),(3,.box none [.str [],.str [],.int .u8 0,.bool false,.int .i64 0,.nils,.nils,.nils,.nils,.int .i64 0,.nils])]) (n:=5) [])).trans (((Wk.freeze (id:=1) (cs:=[.str p_1.Name,.int .i64 p_1.Reading,.int .i64 p_1.MinFrames,.int .i64 p_1.MaxFrames,.int .i64 p_1.MinGap,.int .i64 p_1.ShotBefore,.int .i64 p_1.ShotAfter,.int .i64 p_1.Rows,.int .i64 p_1.Cols,.str p_1.Forbidden,.int .i64 p_1.SafeTop,.int .i64 p_1.SafeBottom,.int .i64 p_1.SafeLeft,.int .i64 p_1.SafeRight]) fz fz).trans (wkF (l:=[(3,.int .i64 tol_3),(4,.iptr [.str d_0.Title,.str d_0.Lang,.int .u8 d_0.Rate,.bool d_0.Drop,.int .i64 d_0.Last,.sl (d_0.Regions.map T_api_Region.d),.sl (d_0.Events.map T_api_Event.d),.sl (d_0.Comments.map T_api_Comment.d)]),(5,.iptr [.str p_1.Name,.int .i64 p_1.Reading,.int .i64 p_1.MinFrames,.int .i64 p_1.MaxFrames,.int .i64 p_1.MinGap,.int .i64 p_1.ShotBefore,.int .i64 p_1.ShotAfter,.int .i64 p_1.Rows,.int .i64 p_1.Cols,.str p_1.Forbidden,.int .i64 p_1.SafeTop,.int .i64 p_1.SafeBottom,.int .i64 p_1.SafeLeft,.int .i64 p_1.SafeRight]),(6,.ptr 2 0),(8,.ptr 3 0)]) (h:=[(2,.box none [.sl (l_2.map (D.int .i64))]),(3,.box none [.str [],.str [],.int .u8 0,.bool false,.int .i64 0,.nils,.nils,.nils,.nils,.int .i64 0,.nils])]) (n:=5) [])).trans ((Wk.freeze (id:=2) (cs:=[.sl (l_2.map (D.int .i64))]) fz fz).trans (wkF (l:=[(3,.int .i64 tol_3),(4,.iptr [.str d_0.Title,.str d_0.Lang,.int .u8 d_0.Rate,.bool d_0.Drop,.int .i64 d_0.Last,.sl (d_0.Regions.map T_api_Region.d),.sl (d_0.Events.map T_api_Event.d),.sl (d_0.Comments.map T_api_Comment.d)]),(5,.iptr [.str p_1.Name,.int .i64 p_1.Reading,.int .i64 p_1.MinFrames,.int .i64 p_1.MaxFrames,.int .i64 p_1.MinGap,.int .i64 p_1.ShotBefore,.int .i64 p_1.ShotAfter,.int .i64 p_1.Rows,.int .i64 p_1.Cols,.str p_1.Forbidden,.int .i64 p_1.SafeTop,.int .i64 p_1.SafeBottom,.int .i64 p_1.SafeLeft,.int .i64 p_1.SafeRight]),(6,.iptr [.sl (l_2.map (D.int .i64))]),(8,.ptr 3 0)]) (h:=[(3,.box none [.str [],.str [],.int .u8 0,.bool false,.int .i64 0,.nils,.nils,.nils,.nils,.int .i64 0,.nils])]) (n:=5) []))))<|xs<|rK fun K6 RK6 hK6 gK6=>zz ?_
 obtain⟨r7,h8,h⟩:=bs h
 refine cw (a_repair_Bounds hI hShp hU8T h8)<|zz ?_
 subst hK6 gK6
 refine es<|xs<|xs<|rz ?_
 refine es ?_
 rcases iK k h with⟨k,h⟩|⟨k,h⟩
 ·refine xt<|xs<|rz ?_
  refine es<|xr<|er ?_
  cases h
  exact en fr
 ·refine xf<|xk<|es<|xs<|rz ?_
  refine eWk _ ((Wk.freeze (id:=22) (cs:=[.int .i64 (IntKind.i64.wrap ((IntKind.i64.wrap (2 * (d_0.Events.length:Int)))+1))]) fz fz).trans (wkF (l:=[(3,.int .i64 tol_3),(4,.iptr [.str d_0.Title,.str d_0.Lang,.int .u8 d_0.Rate,.bool d_0.Drop,.int .i64 d_0.Last,.sl (d_0.Regions.map T_api_Region.d),.sl (d_0.Events.map T_api_Event.d),.sl (d_0.Comments.map T_api_Comment.d)]),(5,.iptr [.str p_1.Name,.int .i64 p_1.Reading,.int .i64 p_1.MinFrames,.int .i64 p_1.MaxFrames,.int .i64 p_1.MinGap,.int .i64 p_1.ShotBefore,.int .i64 p_1.ShotAfter,.int .i64 p_1.Rows,.int .i64 p_1.Cols,.str p_1.Forbidden,.int .i64 p_1.SafeTop,.int .i64 p_1.SafeBottom,.int .i64 p_1.SafeLeft,.int .i64 p_1.SafeRight]),(6,.iptr [.sl (l_2.map (D.int .i64))]),(8,.ptr 3 0),(10,.sl (r7.1.map T_api_Bound.d)),(12,.iptr [.int .i64 (IntKind.i64.wrap ((IntKind.i64.wrap (2 * (d_0.Events.length:Int)))+1))])]) (h:=[(3,.box none [.str [],.str [],.int .u8 0,.bool false,.int .i64 0,.nils,.nils,.nils,.nils,.int .i64 0,.nils])]) (n:=24) []))<|xs<|xs<|rK fun K19 RK19 hK19 gK19=>zz ?_
  obtain⟨r20,h21,h⟩:=bs h
  refine cw (a_diffcon_Solve hI h21)<|zz ?_
  subst hK19 gK19
  refine es<|xs<|rz ?_
  refine es ?_
  rcases iK k h with⟨k,h⟩|⟨k,h⟩
  ·refine xt<|xs<|rz ?_
   refine es<|xs<|xs<|rz ?_
   refine es<|xb ?_
   obtain⟨e30,h135,h⟩:=bs h
   refine rb_loop (fun x29=>⟨envL [(8,.ptr 0 0),(10,.sl (r7.1.map T_api_Bound.d)),(15,.int .i64 r20.2.2),(16,.ptr 1 0),(54,.sl (r20.2.1.map (D.int .i64))),(55,.int .i64 (r20.2.1.length:Int)),(56,.int .i64 x29.1)],heapL [(0,.box none [.str [],.str [],.int .u8 0,.bool false,.int .i64 0,.nils,.nils,.nils,.nils,.int .i64 0,.nils]),(1,.box none [.str [],.str [],.int .u8 0,.bool false,.int .i64 0,.nils,.nils,.nils,.nils,.int .i64 0,.own 2 x29.2.length]),(2,.vec 47 6 (x29.2.map T_api_Bound.d) false)],3,145⟩) (fun _=>.exit 0) (fun e30=>⟨envL [(8,.ptr 0 0),(15,.int .i64 r20.2.2),(16,.ptr 1 0)],heapL [(0,.box none [.str [],.str [],.int .u8 0,.bool false,.int .i64 0,.nils,.nils,.nils,.nils,.int .i64 0,.nils]),(1,.box none [.str [],.str [],.int .u8 0,.bool false,.int .i64 0,.nils,.nils,.nils,.nils,.int .i64 0,.own 2 e30.length]),(2,.vec 47 6 (e30.map T_api_Bound.d) false)],3,145⟩) h135 (wk [(0,some 3),(1,some 36),(2,none)]) (by intro w;simp) ?_ ?_
   ·clear h
    intro x29 y h
    unfold g_repair_Plan_s1 at h
    refine xs<|rz ?_
    refine es<|xs ?_
    rcases iK k h with⟨k,h⟩|⟨k,h⟩
    ·refine xt<|xk<|es<|xs<|xb<|xs<|rK fun K126 RK126 hK126 gK126=>zz ?_
     obtain⟨y127,q,h⟩:=bK q h
     refine zz ?_
     subst hK126 gK126
     refine es<|rD hI fun K129 RK129 hK129 gK129=>zz ?_
     obtain⟨y130,q,h⟩:=bK q h
     refine zz ?_
     obtain⟨h132,h⟩:=ite_on h
     have h133:x29.2.length+1≤9223372036854775807:=by omega
     try simp only[Nat.reduceLeDiff] at h133
     have q:=And.intro @h133<|And.intro @h132<|q
     refine zz ?_
     refine hd<|zz ?_
     refine hd<|zz ?_
     subst hK129 gK129
     refine bn<|es<|rz ?_
     cases h
     exact en ⟨rfl,wk [(2,some 14)]⟩
    ·refine xf<|xx<|ee ?_
     cases h
     exact en ⟨rfl,wk []⟩
   ·refine bh<|es<|xs<|rz ?_
    refine es<|xr<|er ?_
    cases h
    exact en fr
  ·refine xf<|xk<|es<|xs<|rK fun K140 RK140 hK140 gK140=>zz ?_
   have h141:=(show bldT Tryz.prog 86=false∧zeroD Tryz.prog 86=some D.any∧zOne Tryz.prog 86=true∧szT Tryz.prog 86=some 1 from⟨by show _=_;kernel_rfl,by show _=_;kernel_rfl,by show _=_;kernel_rfl,by show _=_;kernel_rfl⟩)
   have q:=And.intro @h141<|q
   refine zz ?_
   subst hK140 gK140
   refine eWk _ ((Wk.freeze (id:=37) (cs:=[.fn 44 [.iptr [.str d_0.Title,.str d_0.Lang,.int .u8 d_0.Rate,.bool d_0.Drop,.int .i64 d_0.Last,.sl (d_0.Regions.map T_api_Region.d),.sl (d_0.Events.map T_api_Event.d),.sl (d_0.Comments.map T_api_Comment.d)],.iptr [.str p_1.Name,.int .i64 p_1.Reading,.int .i64 p_1.MinFrames,.int .i64 p_1.MaxFrames,.int .i64 p_1.MinGap,.int .i64 p_1.ShotBefore,.int .i64 p_1.ShotAfter,.int .i64 p_1.Rows,.int .i64 p_1.Cols,.str p_1.Forbidden,.int .i64 p_1.SafeTop,.int .i64 p_1.SafeBottom,.int .i64 p_1.SafeLeft,.int .i64 p_1.SafeRight],.iptr [.sl (l_2.map (D.int .i64))],.iptr [.int .i64 (IntKind.i64.wrap ((IntKind.i64.wrap (2 * (d_0.Events.length:Int)))+1))]]]) fz fz).trans (wkF (l:=[(3,.int .i64 tol_3),(4,.iptr [.str d_0.Title,.str d_0.Lang,.int .u8 d_0.Rate,.bool d_0.Drop,.int .i64 d_0.Last,.sl (d_0.Regions.map T_api_Region.d),.sl (d_0.Events.map T_api_Event.d),.sl (d_0.Comments.map T_api_Comment.d)]),(8,.ptr 3 0),(19,.iptr [.fn 44 [.iptr [.str d_0.Title,.str d_0.Lang,.int .u8 d_0.Rate,.bool d_0.Drop,.int .i64 d_0.Last,.sl (d_0.Regions.map T_api_Region.d),.sl (d_0.Events.map T_api_Event.d),.sl (d_0.Comments.map T_api_Comment.d)],.iptr [.str p_1.Name,.int .i64 p_1.Reading,.int .i64 p_1.MinFrames,.int .i64 p_1.MaxFrames,.int .i64 p_1.MinGap,.int .i64 p_1.ShotBefore,.int .i64 p_1.ShotAfter,.int .i64 p_1.Rows,.int .i64 p_1.Cols,.str p_1.Forbidden,.int .i64 p_1.SafeTop,.int .i64 p_1.SafeBottom,.int .i64 p_1.SafeLeft,.int .i64 p_1.SafeRight],.iptr [.sl (l_2.map (D.int .i64))],.iptr [.int .i64 (IntKind.i64.wrap ((IntKind.i64.wrap (2 * (d_0.Events.length:Int)))+1))]]])]) (h:=[(3,.box none [.str [],.str [],.int .u8 0,.bool false,.int .i64 0,.nils,.nils,.nils,.nils,.int .i64 0,.nils])]) (n:=39) []))<|xs<|rK fun K145 RK145 hK145 gK145=>zz ?_
   obtain⟨r146,h147,h⟩:=bs h
   refine cw (a_sort_Search hI hShp hU8T h147)<|zz ?_
   subst hK145 gK145
   refine es<|xs<|rK fun K152 RK152 hK152 gK152=>zz ?_
   have h153:=(show aggT Tryz.prog 86=some false by kernel_rfl)
   have q:=And.intro @h153<|q
   refine zz ?_
   obtain⟨r154,h155,h⟩:=bs h
   refine cw (a_repair_Plan_1 hI hShp hU8T h155)<|zz ?_
   subst hK152 gK152
   refine es<|xs<|rz ?_
   refine es<|xs<|xs<|rz ?_
   refine es<|xb ?_
   obtain⟨e161,h421,h⟩:=bs h
   refine rb_loop (fun x160=>⟨envL [(4,.iptr [.str d_0.Title,.str d_0.Lang,.int .u8 d_0.Rate,.bool d_0.Drop,.int .i64 d_0.Last,.sl (d_0.Regions.map T_api_Region.d),.sl (d_0.Events.map T_api_Event.d),.sl (d_0.Comments.map T_api_Comment.d)]),(8,.ptr 0 0),(21,.sl (r154.1.map (D.int .i64))),(23,.ptr 1 0),(85,.sl (d_0.Events.map T_api_Event.d)),(86,.int .i64 (d_0.Events.length:Int)),(87,.int .i64 x160.1)],heapL [(0,.box none [.str [],.str [],.int .u8 0,.bool false,.int .i64 0,.nils,.nils,.nils,.nils,.int .i64 0,.nils]),(1,.box none [.str [],.str [],.int .u8 0,.bool false,.int .i64 0,.nils,.nils,.nils,.own 2 x160.2.length,.int .i64 r146,.nils]),(2,.vec 91 3 (x160.2.map T_api_Shift.d) false)],3,145⟩) (fun _=>.exit 2) (fun e161=>⟨envL [(4,.iptr [.str d_0.Title,.str d_0.Lang,.int .u8 d_0.Rate,.bool d_0.Drop,.int .i64 d_0.Last,.sl (d_0.Regions.map T_api_Region.d),.sl (d_0.Events.map T_api_Event.d),.sl (d_0.Comments.map T_api_Comment.d)]),(8,.ptr 0 0),(23,.ptr 1 0)],heapL [(0,.box none [.str [],.str [],.int .u8 0,.bool false,.int .i64 0,.nils,.nils,.nils,.nils,.int .i64 0,.nils]),(1,.box none [.str [],.str [],.int .u8 0,.bool false,.int .i64 0,.nils,.nils,.nils,.own 2 e161.length,.int .i64 r146,.nils]),(2,.vec 91 3 (e161.map T_api_Shift.d) false)],3,145⟩) h421 (wk [(0,some 3),(1,some 53),(2,none)]) (by intro w;simp) ?_ ?_
   ·clear h
    intro x160 y h
    unfold g_repair_Plan_s2 at h
    refine xs<|rz ?_
    refine es<|xs ?_
    rcases iK k h with⟨k,h⟩|⟨k,h⟩
    ·refine xt<|xk<|es<|xs<|xb<|xs<|rK fun K392 RK392 hK392 gK392=>zz ?_
     obtain⟨y393,q,h⟩:=bK q h
     refine zz ?_
     subst hK392 gK392
     refine es<|xs<|rD hI fun K402 RK402 hK402 gK402=>zz ?_
     obtain⟨y403,q,h⟩:=bK q h
     refine zz ?_
     obtain⟨y405,q,h⟩:=bK q h
     refine zz ?_
     obtain⟨y407,q,h⟩:=bK q h
     refine zz ?_
     subst hK402 gK402
     refine es ?_
     obtain⟨v411,h414,h⟩:=bs h
     refine rb_cut (fun v411=>⟨envL [(4,.iptr [.str d_0.Title,.str d_0.Lang,.int .u8 d_0.Rate,.bool d_0.Drop,.int .i64 d_0.Last,.sl (d_0.Regions.map T_api_Region.d),.sl (d_0.Events.map T_api_Event.d),.sl (d_0.Comments.map T_api_Comment.d)]),(8,.ptr 0 0),(21,.sl (r154.1.map (D.int .i64))),(23,.ptr 1 0),(25,.ptr 3 0),(26,.int .i64 (IntKind.i64.wrap (y403 - y405))),(27,.int .i64 (IntKind.i64.wrap (y407 - y405))),(85,.sl (d_0.Events.map T_api_Event.d)),(86,.int .i64 (d_0.Events.length:Int)),(87,.int .i64 x160.1),(123,.bool v411)],heapL [(0,.box none [.str [],.str [],.int .u8 0,.bool false,.int .i64 0,.nils,.nils,.nils,.nils,.int .i64 0,.nils]),(1,.box none [.str [],.str [],.int .u8 0,.bool false,.int .i64 0,.nils,.nils,.nils,.own 2 x160.2.length,.int .i64 r146,.nils]),(2,.vec 91 3 (x160.2.map T_api_Shift.d) false),(3,.box none [.int .i64 y393.ID,.int .i64 y393.Span.In,.int .i64 y393.Span.Out,.str y393.Region,.int .u8 y393.Kind,.str y393.Speaker,.sl (y393.Rows.map T_api_Row.d)])],4,145⟩) h414 ?_ ?_
     ·clear h
      intro v411 h
      refine rK fun K412 RK412 hK412 gK412=>zz ?_
      rcases iK k h with⟨k,h⟩|⟨k,h⟩
      ·refine zz ?_
       subst hK412 gK412
       cases h
       exact en ⟨rfl,wk [(3,some 7)]⟩
      ·refine zz ?_
       subst hK412 gK412
       cases h
       exact en ⟨rfl,wk [(3,some 7)]⟩
     ·rcases iK k h with⟨k,h⟩|⟨k,h⟩
      ·refine xt<|rK fun K416 RK416 hK416 gK416=>zz ?_
       obtain⟨h417,h⟩:=ite_on h
       have h418:x160.2.length+1≤9223372036854775807:=by omega
       try simp only[Nat.reduceLeDiff] at h418
       have q:=And.intro @h418<|And.intro @h417<|q
       refine zz ?_
       subst hK416 gK416
       refine bn<|es<|rz ?_
       cases h
       exact en ⟨rfl,wk [(2,some 12)]⟩
      ·refine xf<|xk<|bn<|es<|rz ?_
       cases h
       exact en ⟨rfl,wk []⟩
    ·refine xf<|xx<|ee ?_
     cases h
     exact en ⟨rfl,wk []⟩
   ·refine bh<|es<|xs<|rK fun K425 RK425 hK425 gK425=>zz ?_
    obtain⟨r426,h427,h⟩:=bs h
    refine cw (a_repair_Apply hI hShp hU8T h427)<|zz ?_
    subst hK425 gK425
    refine es<|xs<|rz ?_
    refine es<|xr ?_
    cases h
    exact en fr
structure T_captionerlaw43_Task where
 Doc:T_api_Document
 House:T_api_Profile
 Shots:List Int
 Tol:Int
 deriving DecidableEq
def T_captionerlaw43_Task.d (x:T_captionerlaw43_Task):D:=.agg [.str x.Doc.Title,.str x.Doc.Lang,.int .u8 x.Doc.Rate,.bool x.Doc.Drop,.int .i64 x.Doc.Last,.sl (x.Doc.Regions.map T_api_Region.d),.sl (x.Doc.Events.map T_api_Event.d),.sl (x.Doc.Comments.map T_api_Comment.d),.str x.House.Name,.int .i64 x.House.Reading,.int .i64 x.House.MinFrames,.int .i64 x.House.MaxFrames,.int .i64 x.House.MinGap,.int .i64 x.House.ShotBefore,.int .i64 x.House.ShotAfter,.int .i64 x.House.Rows,.int .i64 x.House.Cols,.str x.House.Forbidden,.int .i64 x.House.SafeTop,.int .i64 x.House.SafeBottom,.int .i64 x.House.SafeLeft,.int .i64 x.House.SafeRight,.sl (x.Shots.map (D.int .i64)),.int .i64 x.Tol]
theorem dd_EE:(∀ x,T_api_Region.d x=.agg [.str x.Name,.int .i64 x.Top,.int .i64 x.Height,.int .i64 x.Left,.int .i64 x.Width,.int .u8 x.Align,.bool x.Bottom])∧(∀ x,T_api_Comment.d x=.agg [.int .i64 x.ID,.int .i64 x.Event,.int .i64 x.From,.int .i64 x.To,.str x.Author,.str x.Text,.bool x.Done,.bool x.Lost])∧(∀ x,T_api_Span.d x=.agg [.int .i64 x.In,.int .i64 x.Out])∧(∀ x,T_api_Style.d x=.agg [.int .u8 x.Color,.bool x.Italic,.bool x.Underline])∧(∀ x,T_api_Run.d x=.agg [.str x.Text,.int .u8 x.Style.Color,.bool x.Style.Italic,.bool x.Style.Underline,.str x.Ruby])∧(∀ x,T_api_Row.d x=.agg [.sl (x.Runs.map T_api_Run.d)])∧(∀ x,T_api_Event.d x=.agg [.int .i64 x.ID,.int .i64 x.Span.In,.int .i64 x.Span.Out,.str x.Region,.int .u8 x.Kind,.str x.Speaker,.sl (x.Rows.map T_api_Row.d)])∧(∀ x,T_api_Bound.d x=.agg [.int .i64 x.I,.int .i64 x.J,.int .i64 x.C,.int .u8 x.Rule,.int .i64 x.ID,.int .i64 x.Other])∧(∀ x,T_api_Profile.d x=.agg [.str x.Name,.int .i64 x.Reading,.int .i64 x.MinFrames,.int .i64 x.MaxFrames,.int .i64 x.MinGap,.int .i64 x.ShotBefore,.int .i64 x.ShotAfter,.int .i64 x.Rows,.int .i64 x.Cols,.str x.Forbidden,.int .i64 x.SafeTop,.int .i64 x.SafeBottom,.int .i64 x.SafeLeft,.int .i64 x.SafeRight])∧(∀ x,T_api_Document.d x=.agg [.str x.Title,.str x.Lang,.int .u8 x.Rate,.bool x.Drop,.int .i64 x.Last,.sl (x.Regions.map T_api_Region.d),.sl (x.Events.map T_api_Event.d),.sl (x.Comments.map T_api_Comment.d)])∧(∀ x,T_api_Shift.d x=.agg [.int .i64 x.ID,.int .i64 x.In,.int .i64 x.Out])∧(∀ x,T_api_Repair.d x=.agg [.str x.Doc.Title,.str x.Doc.Lang,.int .u8 x.Doc.Rate,.bool x.Doc.Drop,.int .i64 x.Doc.Last,.sl (x.Doc.Regions.map T_api_Region.d),.sl (x.Doc.Events.map T_api_Event.d),.sl (x.Doc.Comments.map T_api_Comment.d),.sl (x.Shifts.map T_api_Shift.d),.int .i64 x.Needed,.sl (x.Conflict.map T_api_Bound.d)])∧(∀ x,T_captionerlaw43_Task.d x=.agg [.str x.Doc.Title,.str x.Doc.Lang,.int .u8 x.Doc.Rate,.bool x.Doc.Drop,.int .i64 x.Doc.Last,.sl (x.Doc.Regions.map T_api_Region.d),.sl (x.Doc.Events.map T_api_Event.d),.sl (x.Doc.Comments.map T_api_Comment.d),.str x.House.Name,.int .i64 x.House.Reading,.int .i64 x.House.MinFrames,.int .i64 x.House.MaxFrames,.int .i64 x.House.MinGap,.int .i64 x.House.ShotBefore,.int .i64 x.House.ShotAfter,.int .i64 x.House.Rows,.int .i64 x.House.Cols,.str x.House.Forbidden,.int .i64 x.House.SafeTop,.int .i64 x.House.SafeBottom,.int .i64 x.House.SafeLeft,.int .i64 x.House.SafeRight,.sl (x.Shots.map (D.int .i64)),.int .i64 x.Tol]):=⟨fun _=>rfl,fun _=>rfl,fun _=>rfl,fun _=>rfl,fun _=>rfl,fun _=>rfl,fun _=>rfl,fun _=>rfl,fun _=>rfl,fun _=>rfl,fun _=>rfl,fun _=>rfl,fun _=>rfl⟩
def g_slices_Equal_api_Bound_api_Bound_s1 (s1_0:List T_api_Bound) (s2_1:List T_api_Bound) (x10:Int):Option (Nx (Int) (Unit ⊕ Unit)) :=
 (if(decide (x10 < (s1_0.length:Int))) then((atI s1_0 x10).bind fun y74=>((atI s2_1 x10).bind fun y76=>(if((y74.I == y76.I)&&((y74.J == y76.J)&&((y74.C == y76.C)&&((y74.Rule == y76.Rule)&&((y74.ID == y76.ID)&&(y74.Other == y76.Other)))))) then(some (.go (IntKind.i64.wrap (x10+1)))) else(some (.out (.inl ())))))) else(some (.out (.inr ()))))
def g_slices_Equal_api_Bound_api_Bound (s1_0:List T_api_Bound) (s2_1:List T_api_Bound):Option (Bool) :=
 (if((s1_0.length:Int) != (s2_1.length:Int)) then(some false) else((iter (g_slices_Equal_api_Bound_api_Bound_s1 s1_0 s2_1) 0).bind fun e11=>(match e11 with|Sum.inl e11=>(some false)|Sum.inr (e11)=>(some true))))
theorem a_slices_Equal_api_Bound_api_Bound {I:World→Prop} (hI:Stab I) {s1_0:List T_api_Bound} {s2_1:List T_api_Bound} {r:Bool} (h:g_slices_Equal_api_Bound_api_Bound s1_0 s2_1=some r):AFun Tryz.prog I 16 [.sl (s1_0.map T_api_Bound.d),.sl (s2_1.map T_api_Bound.d)] (.bool r):=by
 have dd:=dd_EE;have k:=True.intro;have q:=k;have rs:=Tryz.results16
 unfold g_slices_Equal_api_Bound_api_Bound at h
 refine .en hI Tryz.func16 Tryz.ntmps16 ?_
 refine xs<|rz ?_
 refine es<|xs<|xs<|rz ?_
 refine es ?_
 rcases iK k h with⟨k,h⟩|⟨k,h⟩
 ·refine xt<|xs<|rz ?_
  refine es<|xr<|er ?_
  cases h
  exact en fr
 ·refine xf<|xk<|es<|xs<|xs<|rz ?_
  refine es<|xb ?_
  obtain⟨e11,h82,h⟩:=bs h
  refine rb_loop (fun x10=>⟨envL [(0,.sl (s1_0.map T_api_Bound.d)),(1,.sl (s2_1.map T_api_Bound.d)),(12,.int .i64 (s1_0.length:Int)),(13,.int .i64 x10)],heapL [],0,26⟩) (fun w=>match w with|Sum.inl _=>.ret|Sum.inr (_)=>.exit 0) (fun w=>match w with|Sum.inl e11=>⟨envL [(4,.bool false)],heapL [],0,26⟩|Sum.inr (e11)=>⟨envL [],heapL [],0,26⟩) h82 (wk []) (by intro w;rcases w with w|w<;>simp) ?_ ?_
  ·clear h
   intro x10 y h
   unfold g_slices_Equal_api_Bound_api_Bound_s1 at h
   refine xs<|rz ?_
   refine es<|xs ?_
   rcases iK k h with⟨k,h⟩|⟨k,h⟩
   ·refine xt<|xk<|es<|xs<|xb<|xs<|rz ?_
    refine es<|xs<|rD hI fun K73 RK73 hK73 gK73=>zz ?_
    obtain⟨y74,q,h⟩:=bK q h
    refine zz ?_
    obtain⟨y76,q,h⟩:=bK q h
    refine zz ?_
    subst hK73 gK73
    refine es ?_
    rcases iK k h with⟨k,h⟩|⟨k,h⟩
    ·refine xf<|xk<|bn<|es<|rz ?_
     cases h
     exact en ⟨rfl,wk []⟩
    ·refine xt<|xs<|rz ?_
     refine es<|xr<|br<|er ?_
     cases h
     exact en ⟨rfl,wk []⟩
   ·refine xf<|xx<|ee ?_
    cases h
    exact en ⟨rfl,wk []⟩
  ·rcases e11 with e11|e11
   ·try dsimp only at h ⊢
    refine br<|er ?_
    cases h
    exact en fr
   ·try dsimp only at h ⊢
    refine bh<|es<|xs<|rz ?_
    refine es<|xr ?_
    cases h
    exact en fr
def g_repair_Zone (l_0:List Int) (frame_1:Int) (p_2:T_api_Profile):Option (T_api_Span × Int) :=
 ((g_profile_Check p_2).bind fun r7=>(if(r7 != 0) then(some ((T_api_Span.mk 0 0),r7)) else((g_shots_Check l_0).bind fun r18=>(if(r18 != 0) then(some ((T_api_Span.mk 0 0),r18)) else(((if(decide (frame_1 < 0)) then(some true) else(some (decide (5184000 < frame_1)))):Option (Bool)).bind fun v27=>(if v27 then(some ((T_api_Span.mk 0 0),2)) else((g_repair_zone l_0 frame_1 p_2).bind fun r38=>(some (r38.1,r38.2)))))))))
theorem a_repair_Zone {I:World→Prop} (hI:Stab I) (hU8T:∀ w,I w→U8T w) {l_0:List Int} {frame_1:Int} {p_2:T_api_Profile} {r:T_api_Span × Int} (h:g_repair_Zone l_0 frame_1 p_2=some r):AFun Tryz.prog I 11 [.sl (l_0.map (D.int .i64)),.int .i64 frame_1,T_api_Profile.d p_2] (.tup [T_api_Span.d r.1,.int .i64 r.2]):=by
 have dd:=dd_EE;have k:=True.intro;have q:=k;have rs:=Tryz.results11
 unfold g_repair_Zone at h
 refine .en hI Tryz.func11 Tryz.ntmps11 ?_
 refine xs<|rz ?_
 refine es<|xs<|xs<|rK fun K6 RK6 hK6 gK6=>zz ?_
 obtain⟨r7,h8,h⟩:=bs h
 refine cw (a_profile_Check hI hU8T h8)<|zz ?_
 subst hK6 gK6
 refine es<|xs<|rz ?_
 refine es ?_
 rcases iK k h with⟨k,h⟩|⟨k,h⟩
 ·refine xt<|xs<|rz ?_
  refine es<|xr<|er ?_
  cases h
  exact en fr
 ·refine xf<|xk<|es<|xs<|xs<|rK fun K17 RK17 hK17 gK17=>zz ?_
  obtain⟨r18,h19,h⟩:=bs h
  refine cw (a_shots_Check hI h19)<|zz ?_
  subst hK17 gK17
  refine es<|xs<|rz ?_
  refine es ?_
  rcases iK k h with⟨k,h⟩|⟨k,h⟩
  ·refine xt<|xs<|rz ?_
   refine es<|xr<|er ?_
   cases h
   exact en fr
  ·refine xf<|xk<|es<|xs ?_
   obtain⟨v27,h30,h⟩:=bs h
   refine rb_cut (fun v27=>⟨envL [(0,.sl (l_0.map (D.int .i64))),(1,.int .i64 frame_1),(5,.ptr 0 0),(6,.ptr 1 0),(27,.bool v27)],heapL [(0,.box none [.str p_2.Name,.int .i64 p_2.Reading,.int .i64 p_2.MinFrames,.int .i64 p_2.MaxFrames,.int .i64 p_2.MinGap,.int .i64 p_2.ShotBefore,.int .i64 p_2.ShotAfter,.int .i64 p_2.Rows,.int .i64 p_2.Cols,.str p_2.Forbidden,.int .i64 p_2.SafeTop,.int .i64 p_2.SafeBottom,.int .i64 p_2.SafeLeft,.int .i64 p_2.SafeRight]),(1,.box none [.int .i64 0,.int .i64 0])],2,35⟩) h30 ?_ ?_
   ·clear h
    intro v27 h
    refine rK fun K28 RK28 hK28 gK28=>zz ?_
    rcases iK k h with⟨k,h⟩|⟨k,h⟩
    ·refine zz ?_
     subst hK28 gK28
     cases h
     exact en ⟨rfl,wk []⟩
    ·refine zz ?_
     subst hK28 gK28
     cases h
     exact en ⟨rfl,wk []⟩
   ·rcases iK k h with⟨k,h⟩|⟨k,h⟩
    ·refine xt<|xs<|rz ?_
     refine es<|xr<|er ?_
     cases h
     exact en fr
    ·refine xf<|xk<|es<|xs<|rK fun K37 RK37 hK37 gK37=>zz ?_
     obtain⟨r38,h39,h⟩:=bs h
     refine cw (a_repair_zone hI h39)<|zz ?_
     subst hK37 gK37
     refine es<|xr ?_
     cases h
     exact en fr
def g_law43_at (id_0:Int) (in_1:Int) (out_2:Int):Option (T_api_Event) :=
 (some (T_api_Event.mk id_0 (T_api_Span.mk in_1 out_2) [] 1 [] [(T_api_Row.mk [(T_api_Run.mk [120] (T_api_Style.mk 0 false false) [])])]))
theorem a_law43_at {I:World→Prop} (hI:Stab I) {id_0:Int} {in_1:Int} {out_2:Int} {r:T_api_Event} (h:g_law43_at id_0 in_1 out_2=some r):AFun Tryz.prog I 30 [.int .i64 id_0,.int .i64 in_1,.int .i64 out_2] (T_api_Event.d r):=by
 have dd:=dd_EE;have k:=True.intro;have q:=k;have rs:=Tryz.results30
 unfold g_law43_at at h
 refine .en hI Tryz.func30 Tryz.ntmps30 ?_
 refine xs<|rz ?_
 refine es<|xs<|rz ?_
 refine es<|xr ?_
 cases h
 exact en fr
def g_law43_awake  : Option (Bool) :=
 ((g_law43_at 1 0 12).bind fun r11=>((g_law43_at 2 11 30).bind fun r13=>((g_repair_Plan (T_api_Document.mk [] [] 3 false 2 [] [r11,r13] []) (T_api_Profile.mk [65] 10000 10 100 2 0 0 2 32 [] 0 0 0 0) [] 9).bind fun r19=>(((if(r19.2 != 0) then(some true) else(if(r19.1.Needed != 2) then(some true) else(some ((r19.1.Conflict.length:Int) != 0)))):Option (Bool)).bind fun v24=>(if v24 then(some false) else((g_repair_Plan (T_api_Document.mk [] [] 3 false 2 [] [r11,r13] []) (T_api_Profile.mk [65] 10000 10 100 2 0 0 2 32 [] 0 0 0 0) [] 1).bind fun r36=>(((if(r36.2 != 16) then(some true) else((g_slices_Equal_api_Bound_api_Bound r36.1.Conflict [(T_api_Bound.mk 2 0 (-11) 11 1 0),(T_api_Bound.mk 0 3 12 11 2 0),(T_api_Bound.mk 3 2 (-2) 4 1 2)]).bind fun r47=>(some (!r47)))):Option (Bool)).bind fun v44=>(if v44 then(some false) else((g_repair_Zone [100] 95 (T_api_Profile.mk [65] 10000 10 100 2 12 12 2 32 [] 0 0 0 0)).bind fun r59=>(if(r59.2 == 0) then(some ((r59.1.In == 100)&&(r59.1.Out == 101))) else(some false)))))))))))
theorem a_law43_awake {I:World→Prop} (hI:Stab I) (hShp:∀ w,I w→Shp w) (hU8T:∀ w,I w→U8T w)  {r:Bool} (h:g_law43_awake  = some r):AFun Tryz.prog I 10 [] (.bool r):=by
 have dd:=dd_EE;have k:=True.intro;have q:=k;have rs:=Tryz.results10
 unfold g_law43_awake at h
 refine .en hI Tryz.func10 Tryz.ntmps10 ?_
 refine xs<|rz ?_
 refine es<|xs<|rz ?_
 refine es<|xs<|rK fun K10 RK10 hK10 gK10=>zz ?_
 obtain⟨r11,h12,h⟩:=bs h
 refine cw (a_law43_at hI h12)<|zz ?_
 obtain⟨r13,h14,h⟩:=bs h
 refine cw (a_law43_at hI h14)<|zz ?_
 subst hK10 gK10
 refine es<|xs<|rK fun K18 RK18 hK18 gK18=>zz ?_
 obtain⟨r19,h20,h⟩:=bs h
 refine cw (a_repair_Plan hI hShp hU8T h20)<|zz ?_
 subst hK18 gK18
 refine es<|xs ?_
 obtain⟨v24,h28,h⟩:=bs h
 refine rb_cut (fun v24=>⟨envL [(1,.ptr 0 0),(2,.ptr 1 0),(3,.ptr 3 0),(30,.bool v24)],heapL [(0,.box none [.str [65],.int .i64 10000,.int .i64 10,.int .i64 100,.int .i64 2,.int .i64 0,.int .i64 0,.int .i64 2,.int .i64 32,.str [],.int .i64 0,.int .i64 0,.int .i64 0,.int .i64 0]),(1,.box none [.str [],.str [],.int .u8 3,.bool false,.int .i64 2,.nils,.own 2 2,.nils]),(2,.vec 64 7 ([r11,r13].map T_api_Event.d) true),(3,.box none [.str r19.1.Doc.Title,.str r19.1.Doc.Lang,.int .u8 r19.1.Doc.Rate,.bool r19.1.Doc.Drop,.int .i64 r19.1.Doc.Last,.sl (r19.1.Doc.Regions.map T_api_Region.d),.sl (r19.1.Doc.Events.map T_api_Event.d),.sl (r19.1.Doc.Comments.map T_api_Comment.d),.sl (r19.1.Shifts.map T_api_Shift.d),.int .i64 r19.1.Needed,.sl (r19.1.Conflict.map T_api_Bound.d)])],4,65⟩) h28 ?_ ?_
 ·clear h
  intro v24 h
  refine rK fun K25 RK25 hK25 gK25=>zz ?_
  rcases iK k h with⟨k,h⟩|⟨k,h⟩
  ·refine zz ?_
   subst hK25 gK25
   cases h
   exact en ⟨rfl,wk [(0,some 2),(1,some 8),(2,some 6),(3,some 16)]⟩
  ·refine zz ?_
   rcases iK k h with⟨k,h⟩|⟨k,h⟩
   ·refine zz ?_
    subst hK25 gK25
    cases h
    exact en ⟨rfl,wk [(0,some 2),(1,some 8),(2,some 6),(3,some 16)]⟩
   ·refine zz ?_
    subst hK25 gK25
    cases h
    exact en ⟨rfl,wk [(0,some 2),(1,some 8),(2,some 6),(3,some 16)]⟩
 ·rcases iK k h with⟨k,h⟩|⟨k,h⟩
  ·refine xt<|xs<|rz ?_
   refine es<|xr<|er ?_
   cases h
   exact en fr
  ·refine xf<|xk<|es<|xs<|rK fun K35 RK35 hK35 gK35=>zz ?_
   obtain⟨r36,h37,h⟩:=bs h
   refine cw (a_repair_Plan hI hShp hU8T h37)<|zz ?_
   subst hK35 gK35
   refine es<|xs<|rz ?_
   refine es<|xs ?_
   obtain⟨v44,h49,h⟩:=bs h
   refine rb_cut (fun v44=>⟨envL [(1,.ptr 0 0),(49,.bool v44)],heapL [(0,.box none [.str [65],.int .i64 10000,.int .i64 10,.int .i64 100,.int .i64 2,.int .i64 0,.int .i64 0,.int .i64 2,.int .i64 32,.str [],.int .i64 0,.int .i64 0,.int .i64 0,.int .i64 0])],1,65⟩) h49 ?_ ?_
   ·clear h
    intro v44 h
    refine rK fun K45 RK45 hK45 gK45=>zz ?_
    rcases iK k h with⟨k,h⟩|⟨k,h⟩
    ·refine zz ?_
     subst hK45 gK45
     cases h
     exact en ⟨rfl,wk []⟩
    ·refine zz ?_
     obtain⟨r47,h48,h⟩:=bs h
     refine cw (a_slices_Equal_api_Bound_api_Bound hI h48)<|zz ?_
     subst hK45 gK45
     cases h
     exact en ⟨rfl,wk []⟩
   ·rcases iK k h with⟨k,h⟩|⟨k,h⟩
    ·refine xt<|xs<|rz ?_
     refine es<|xr<|er ?_
     cases h
     exact en fr
    ·refine xf<|xk<|es<|xs<|rz ?_
     refine es<|xs<|rK fun K58 RK58 hK58 gK58=>zz ?_
     obtain⟨r59,h60,h⟩:=bs h
     refine cw (a_repair_Zone hI hU8T h60)<|zz ?_
     subst hK58 gK58
     refine es<|xs<|rK fun K63 RK63 hK63 gK63=>zz ?_
     rcases iK k h with⟨k,h⟩|⟨k,h⟩
     ·refine zz ?_
      subst hK63 gK63
      refine es<|xr ?_
      cases h
      exact en fr
     ·refine zz ?_
      subst hK63 gK63
      refine es<|xr ?_
      cases h
      exact en fr
def g_law43_few (t_0:T_captionerlaw43_Task):Option (T_captionerlaw43_Task) :=
 ((subH t_0.Doc.Events (if 4 < (t_0.Doc.Events.length:Int) then 4 else(t_0.Doc.Events.length:Int))).bind fun z20=>((subH t_0.Doc.Comments (if 4 < (t_0.Doc.Comments.length:Int) then 4 else(t_0.Doc.Comments.length:Int))).bind fun z25=>((subH t_0.Shots (if 6 < (t_0.Shots.length:Int) then 6 else(t_0.Shots.length:Int))).bind fun z30=>(some (T_captionerlaw43_Task.mk (T_api_Document.mk t_0.Doc.Title t_0.Doc.Lang t_0.Doc.Rate t_0.Doc.Drop t_0.Doc.Last t_0.Doc.Regions z20 z25) t_0.House z30 t_0.Tol)))))
theorem a_law43_few {I:World→Prop} (hI:Stab I) {t_0:T_captionerlaw43_Task} {r:T_captionerlaw43_Task} (h:g_law43_few t_0=some r):AFun Tryz.prog I 13 [T_captionerlaw43_Task.d t_0] (T_captionerlaw43_Task.d r):=by
 have dd:=dd_EE;have k:=True.intro;have q:=k;have rs:=Tryz.results13
 unfold g_law43_few at h
 refine .en hI Tryz.func13 Tryz.ntmps13 ?_
 refine xs<|rz ?_
 refine es<|xs<|rP hI fun K19 hK19=>rgP_cons<|zq ?_
 refine sP.light rfl fd<|rgP_cons<|zq ?_
 refine sP.light rfl fd<|rgP_cons<|zq ?_
 refine sP.foot (.cell 0 6 1) (fun _=>FootOK.ld rfl rfl rfl (by kernel_rfl) (by decide)) fd (by first|exact .inl (by first|rfl|decide)|exact .inr (by kernel_rfl))<|rgP_cons<|zq ?_
 refine sP.light rfl fd<|rgP_cons<|zq ?_
 refine sP.light rfl fd<|rgP_cons<|zq ?_
 refine sP.foot (.cell 0 6 1) (fun _=>FootOK.ld rfl rfl rfl (by kernel_rfl) (by decide)) fd (by first|exact .inl (by first|rfl|decide)|exact .inr (by kernel_rfl))<|rgP_cons<|zq ?_
 refine sP.light rfl fd<|rgP_cons<|zq ?_
 refine sP.light rfl fd<|rgP_cons<|zq ?_
 obtain⟨z20,h21,h⟩:=bind_some h
 obtain⟨⟨h22,h23⟩,h24⟩:=subH_some h21
 have q:=And.intro @h22<|And.intro @h23<|q
 try simp -implicitDefEqProofs only[vt,vm,sevalprocAttr,dd,k,q] at h24
 have q:=And.intro @h24<|q
 refine zq ?_
 refine sP.foot (.ids []) (fun hN=>FootOK.idsB [] (by rfl) rfl hN) fd (by first|exact .inl (by first|rfl|decide)|exact .inr (by kernel_rfl))<|rgP_cons<|zq ?_
 refine sP.light rfl fd<|rgP_cons<|zq ?_
 refine sP.light rfl fd<|rgP_cons<|zq ?_
 refine sP.foot (.cell 0 7 1) (fun _=>FootOK.ld rfl rfl rfl (by kernel_rfl) (by decide)) fd (by first|exact .inl (by first|rfl|decide)|exact .inr (by kernel_rfl))<|rgP_cons<|zq ?_
 refine sP.light rfl fd<|rgP_cons<|zq ?_
 refine sP.light rfl fd<|rgP_cons<|zq ?_
 refine sP.foot (.cell 0 7 1) (fun _=>FootOK.ld rfl rfl rfl (by kernel_rfl) (by decide)) fd (by first|exact .inl (by first|rfl|decide)|exact .inr (by kernel_rfl))<|rgP_cons<|zq ?_
 refine sP.light rfl fd<|rgP_cons<|zq ?_
 refine sP.light rfl fd<|rgP_cons<|zq ?_
 obtain⟨z25,h26,h⟩:=bind_some h
 obtain⟨⟨h27,h28⟩,h29⟩:=subH_some h26
 have q:=And.intro @h27<|And.intro @h28<|q
 try simp -implicitDefEqProofs only[vt,vm,sevalprocAttr,dd,k,q] at h29
 have q:=And.intro @h29<|q
 refine zq ?_
 refine sP.foot (.ids []) (fun hN=>FootOK.idsB [] (by rfl) rfl hN) fd (by first|exact .inl (by first|rfl|decide)|exact .inr (by kernel_rfl))<|rgP_cons<|zq ?_
 refine sP.light rfl fd<|rgP_cons<|zq ?_
 refine sP.foot (.cell 0 22 1) (fun _=>FootOK.ld rfl rfl rfl (by kernel_rfl) (by decide)) fd (by first|exact .inl (by first|rfl|decide)|exact .inr (by kernel_rfl))<|rgP_cons<|zq ?_
 refine sP.light rfl fd<|rgP_cons<|zq ?_
 refine sP.foot (.cell 0 22 1) (fun _=>FootOK.ld rfl rfl rfl (by kernel_rfl) (by decide)) fd (by first|exact .inl (by first|rfl|decide)|exact .inr (by kernel_rfl))<|rgP_cons<|zq ?_
 refine sP.light rfl fd<|rgP_cons<|zq ?_
 refine sP.light rfl fd<|rgP_cons<|zq ?_
 obtain⟨z30,h31,h⟩:=bind_some h
 obtain⟨⟨h32,h33⟩,h34⟩:=subH_some h31
 have q:=And.intro @h32<|And.intro @h33<|q
 try simp -implicitDefEqProofs only[vt,vm,sevalprocAttr,dd,k,q] at h34
 have q:=And.intro @h34<|q
 refine zq ?_
 refine sP.foot (.ids []) (fun hN=>FootOK.idsB [] (by rfl) rfl hN) fd (by first|exact .inl (by first|rfl|decide)|exact .inr (by kernel_rfl))<|rgP_cons<|zq ?_
 refine sP.light rfl fd<|rgP_cons<|zq ?_
 refine sP.light rfl fd<|rgP_cons<|zq ?_
 refine sP.pat 0 6 1 rfl rfl rfl<|rgP_cons<|zq ?_
 refine sP.light rfl fd<|rgP_cons<|zq ?_
 refine sP.light rfl fd<|rgP_cons<|zq ?_
 refine sP.pat 0 7 1 rfl rfl rfl<|rgP_cons<|zq ?_
 refine sP.light rfl fd<|rgP_cons<|zq ?_
 refine sP.pat 0 22 1 rfl rfl rfl<|zq ?_
 refine rgP_nil fk ?_
 subst hK19
 refine es<|xs<|rz ?_
 refine es<|xr ?_
 cases h
 exact en fr
def g_diffcon_Refutes_s1 (l_1:List T_api_Bound) (indices_2:List Int) (x25:Int):Option (Nx (Int) (Unit ⊕ Unit)) :=
 (if(decide (x25 < (indices_2.length:Int))) then((atI indices_2 x25).bind fun y85=>(if(decide (y85 < 0)) then(some (.out (.inl ()))) else(if(decide ((l_1.length:Int)≤y85)) then(some (.out (.inl ()))) else(some (.go (IntKind.i64.wrap (x25+1))))))) else(some (.out (.inr ()))))
def g_diffcon_Refutes_s2 (l_1:List T_api_Bound) (indices_2:List Int) (x112:Int × Int × Int):Option (Nx (Int × Int × Int) (Unit ⊕ Int)) :=
 (if(decide (x112.2.2 < (indices_2.length:Int))) then((atI indices_2 x112.2.2).bind fun y181=>((atI l_1 y181).bind fun y187=>(if(y187.I != x112.1) then(some (.out (.inl ()))) else(some (.go (y187.J,(IntKind.i64.wrap (x112.2.1+y187.C)),(IntKind.i64.wrap (x112.2.2+1)))))))) else(some (.out (.inr x112.2.1))))
def g_diffcon_Refutes (n_0:Int) (l_1:List T_api_Bound) (indices_2:List Int):Option (Int) :=
 ((g_diffcon_Check n_0 l_1).bind fun r7=>(if(r7 != 0) then(some r7) else(((if((indices_2.length:Int) == 0) then(some true) else(some (decide (n_0 < (indices_2.length:Int))))):Option (Bool)).bind fun v16=>(if v16 then(some 1) else((iter (g_diffcon_Refutes_s1 l_1 indices_2) 0).bind fun e26=>(match e26 with|Sum.inl e26=>(some 6)|Sum.inr (e26)=>((atI indices_2 (IntKind.i64.wrap ((indices_2.length:Int) - 1))).bind fun y104=>((atI l_1 y104).bind fun y106=>((iter (g_diffcon_Refutes_s2 l_1 indices_2) (y106.J,0,0)).bind fun e113=>(match e113 with|Sum.inl e113=>(some 8)|Sum.inr (e113)=>(if(decide (0≤e113)) then(some 17) else(some 0))))))))))))
theorem a_diffcon_Refutes {I:World→Prop} (hI:Stab I) {n_0:Int} {l_1:List T_api_Bound} {indices_2:List Int} {r:Int} (h:g_diffcon_Refutes n_0 l_1 indices_2=some r):AFun Tryz.prog I 29 [.int .i64 n_0,.sl (l_1.map T_api_Bound.d),.sl (indices_2.map (D.int .i64))] (.int .i64 r):=by
 have dd:=dd_EE;have k:=True.intro;have q:=k;have rs:=Tryz.results29
 unfold g_diffcon_Refutes at h
 refine .en hI Tryz.func29 Tryz.ntmps29 ?_
 refine xs<|rz ?_
 refine es<|xs<|xs<|rK fun K6 RK6 hK6 gK6=>zz ?_
 obtain⟨r7,h8,h⟩:=bs h
 refine cw (a_diffcon_Check hI h8)<|zz ?_
 subst hK6 gK6
 refine es<|xs<|rz ?_
 refine es ?_
 rcases iK k h with⟨k,h⟩|⟨k,h⟩
 ·refine xt<|xs<|rz ?_
  refine es<|xr<|er ?_
  cases h
  exact en fr
 ·refine xf<|xk<|es<|xs ?_
  obtain⟨v16,h19,h⟩:=bs h
  refine rb_cut (fun v16=>⟨envL [(1,.sl (l_1.map T_api_Bound.d)),(2,.sl (indices_2.map (D.int .i64))),(28,.bool v16)],heapL [],0,82⟩) h19 ?_ ?_
  ·clear h
   intro v16 h
   refine rK fun K17 RK17 hK17 gK17=>zz ?_
   rcases iK k h with⟨k,h⟩|⟨k,h⟩
   ·refine zz ?_
    subst hK17 gK17
    cases h
    exact en ⟨rfl,wk []⟩
   ·refine zz ?_
    subst hK17 gK17
    cases h
    exact en ⟨rfl,wk []⟩
  ·rcases iK k h with⟨k,h⟩|⟨k,h⟩
   ·refine xt<|xs<|rz ?_
    refine es<|xr<|er ?_
    cases h
    exact en fr
   ·refine xf<|xk<|es<|xs<|xs<|rz ?_
    refine es<|xb ?_
    obtain⟨e26,h97,h⟩:=bs h
    refine rb_loop (fun x25=>⟨envL [(1,.sl (l_1.map T_api_Bound.d)),(2,.sl (indices_2.map (D.int .i64))),(29,.sl (indices_2.map (D.int .i64))),(30,.int .i64 (indices_2.length:Int)),(31,.int .i64 x25)],heapL [],0,82⟩) (fun w=>match w with|Sum.inl _=>.ret|Sum.inr (_)=>.exit 0) (fun w=>match w with|Sum.inl e26=>⟨envL [(6,.int .i64 6)],heapL [],0,82⟩|Sum.inr (e26)=>⟨envL [(1,.sl (l_1.map T_api_Bound.d)),(2,.sl (indices_2.map (D.int .i64)))],heapL [],0,82⟩) h97 (wk []) (by intro w;rcases w with w|w<;>simp) ?_ ?_
    ·clear h
     intro x25 y h
     unfold g_diffcon_Refutes_s1 at h
     refine xs<|rz ?_
     refine es<|xs ?_
     rcases iK k h with⟨k,h⟩|⟨k,h⟩
     ·refine xt<|xk<|es<|xs<|xb<|xs<|rK fun K84 RK84 hK84 gK84=>zz ?_
      obtain⟨y85,q,h⟩:=bK q h
      refine zz ?_
      subst hK84 gK84
      refine es<|xs<|rK fun K89 RK89 hK89 gK89=>zz ?_
      rcases iK k h with⟨k,h⟩|⟨k,h⟩
      ·refine zz ?_
       subst hK89 gK89
       refine es<|xt<|xs<|rz ?_
       refine es<|xr<|br<|er ?_
       cases h
       exact en ⟨rfl,wk []⟩
      ·refine zz ?_
       subst hK89 gK89
       refine es ?_
       rcases iK k h with⟨k,h⟩|⟨k,h⟩
       ·refine xt<|xs<|rz ?_
        refine es<|xr<|br<|er ?_
        cases h
        exact en ⟨rfl,wk []⟩
       ·refine xf<|xk<|bn<|es<|rz ?_
        cases h
        exact en ⟨rfl,wk []⟩
     ·refine xf<|xx<|ee ?_
      cases h
      exact en ⟨rfl,wk []⟩
    ·rcases e26 with e26|e26
     ·try dsimp only at h ⊢
      refine br<|er ?_
      cases h
      exact en fr
     ·try dsimp only at h ⊢
      refine bh<|es<|xs<|rK fun K103 RK103 hK103 gK103=>zz ?_
      obtain⟨y104,q,h⟩:=bK q h
      refine zz ?_
      obtain⟨y106,q,h⟩:=bK q h
      refine zz ?_
      subst hK103 gK103
      refine es<|xs<|rz ?_
      refine es<|xs<|xs<|rz ?_
      refine es<|xb ?_
      obtain⟨e113,h196,h⟩:=bs h
      refine rb_loop (fun x112=>⟨envL [(1,.sl (l_1.map T_api_Bound.d)),(10,.int .i64 x112.1),(11,.int .i64 x112.2.1),(54,.sl (indices_2.map (D.int .i64))),(55,.int .i64 (indices_2.length:Int)),(56,.int .i64 x112.2.2)],heapL [],0,82⟩) (fun w=>match w with|Sum.inl _=>.ret|Sum.inr (_)=>.exit 2) (fun w=>match w with|Sum.inl e113=>⟨envL [(6,.int .i64 8)],heapL [],0,82⟩|Sum.inr (e113)=>⟨envL [(11,.int .i64 e113)],heapL [],0,82⟩) h196 (wk []) (by intro w;rcases w with w|w<;>simp) ?_ ?_
      ·clear h
       intro x112 y h
       unfold g_diffcon_Refutes_s2 at h
       refine xs<|rz ?_
       refine es<|xs ?_
       rcases iK k h with⟨k,h⟩|⟨k,h⟩
       ·refine xt<|xk<|es<|xs<|xb<|xs<|rK fun K180 RK180 hK180 gK180=>zz ?_
        obtain⟨y181,q,h⟩:=bK q h
        refine zz ?_
        subst hK180 gK180
        refine es<|xs<|xs<|rK fun K186 RK186 hK186 gK186=>zz ?_
        obtain⟨y187,q,h⟩:=bK q h
        refine zz ?_
        subst hK186 gK186
        refine es ?_
        rcases iK k h with⟨k,h⟩|⟨k,h⟩
        ·refine xt<|xs<|rz ?_
         refine es<|xr<|er<|br<|er ?_
         cases h
         exact en ⟨rfl,wk []⟩
        ·refine xf<|xk<|es<|xs<|rz ?_
         refine es<|rz ?_
         refine bn<|es<|rz ?_
         cases h
         exact en ⟨rfl,wk []⟩
       ·refine xf<|xx<|ee ?_
        cases h
        exact en ⟨rfl,wk []⟩
      ·rcases e113 with e113|e113
       ·try dsimp only at h ⊢
        refine br<|er ?_
        cases h
        exact en fr
       ·try dsimp only at h ⊢
        refine bh<|es<|xs<|xs<|rz ?_
        refine es ?_
        rcases iK k h with⟨k,h⟩|⟨k,h⟩
        ·refine xt<|xs<|rz ?_
         refine es<|xr<|er ?_
         cases h
         exact en fr
        ·refine xf<|xk<|es<|xs<|rz ?_
         refine es<|xr ?_
         cases h
         exact en fr
end Go.Proofs.YtobglplholhkcaaGreatDoor

namespace Go.Proofs.YtobglplholhkcaaGreatDoor
open Go.RowKit
set_option maxRecDepth 100000
set_option maxHeartbeats 10000000
structure T_api_Head where
 Title:List UInt8
 Lang:List UInt8
 Rate:Int
 Drop:Bool
 Last:Int
 deriving DecidableEq
def T_api_Head.d (x:T_api_Head):D:=.agg [.str x.Title,.str x.Lang,.int .u8 x.Rate,.bool x.Drop,.int .i64 x.Last]
def g_ref08_Repertoire  : Option ((List UInt8)) :=
 (some [32,33,34,35,36,37,38,39,40,41,42,43,44,45,46,47,48,49,50,51,52,53,54,55,56,57,58,59,60,61,62,63,64,65,66,67,68,69,70,71,72,73,74,75,76,77,78,79,80,81,82,83,84,85,86,87,88,89,90,91,92,93,94,95,96,97,98,99,100,101,102,103,104,105,106,107,108,109,110,111,112,113,114,115,116,117,118,119,120,121,122,123,124,125,126,194,161,194,162,194,163,194,164,194,165,194,166,194,167,194,169,194,171,194,174,194,176,194,183,194,187,194,189,194,191,195,128,195,129,195,130,195,131,195,132,195,133,195,134,195,135,195,136,195,137,195,138,195,139,195,140,195,141,195,142,195,143,195,145,195,146,195,147,195,148,195,149,195,150,195,152,195,153,195,154,195,155,195,156,195,159,195,160,195,161,195,162,195,163,195,164,195,165,195,166,195,167,195,168,195,169,195,170,195,171,195,172,195,173,195,174,195,175,195,177,195,178,195,179,195,180,195,181,195,182,195,184,195,185,195,186,195,187,195,188,197,146,197,147,226,128,148,226,128,152,226,128,153,226,128,156,226,128,157,226,128,162,226,128,166,226,132,162,226,153,170])
def g_ref08_Index_s1 (r_0:Int) (r18:(List UInt8)) (x20:Int × Nat):Option (Nx (Int × Nat) (Int ⊕ Unit)) :=
 (if(decide (x20.2 < r18.length)) then(if((runeAt r18 x20.2) == r_0) then(some (.out (.inl x20.1))) else(some (.go ((IntKind.i64.wrap (x20.1+1)),(x20.2+widthAt r18 x20.2))))) else(some (.out (.inr ()))))
def g_ref08_Index (r_0:Int):Option (Int) :=
 (((if(decide (32≤r_0)) then(some (decide (r_0≤126))) else(some false)):Option (Bool)).bind fun v5=>(if v5 then(some (IntKind.i64.wrap (IntKind.i32.wrap (r_0 - 32)))) else((g_ref08_Repertoire).bind fun r18=>((iter (g_ref08_Index_s1 r_0 r18) (0,0)).bind fun e21=>(match e21 with|Sum.inl e21=>(some e21)|Sum.inr (e21)=>(some (-1)))))))
def nmB (b:UInt8):Bool:=(decide (65≤b.toNat)&&decide (b.toNat≤90))||(decide (48≤b.toNat)&&decide (b.toNat≤57))||b.toNat == 95||b.toNat == 45
def isNm (s:List UInt8):Bool:=match s with
 | []=>false
 | b::_=>decide (s.length≤16)&&(decide (65≤b.toNat)&&decide (b.toNat≤90))&&s.all nmB
theorem isNm_at (s:List UInt8) (h1:1≤s.length):isNm s=true ↔ (s.length≤16∧(65≤s[0].toNat∧s[0].toNat≤90)∧∀ i (h:i < s.length),nmB s[i]=true):=by
 match s,h1 with
 | b::t,_ =>
  simp only[isNm,Bool.and_eq_true,decide_eq_true_eq,List.all_eq_true]
  constructor
  ·rintro⟨⟨h1,h2⟩,h3⟩
   exact⟨h1,by simpa using h2,fun i h=>h3 _ (List.getElem_mem h)⟩
  ·rintro⟨h1,h2,h3⟩
   refine⟨⟨h1,by simpa using h2⟩,fun x hx=>?_⟩
   obtain⟨i,hi,rfl⟩:=List.getElem_of_mem hx
   exact h3 i hi
theorem lines_Name_loop (s:List UInt8) (hs:s.length≤16):∃ e,iter (g_lines_Name_s1 s) 0=some e∧(e=.inr () ↔ ∀ i (h:i < s.length),nmB s[i]=true):=by
 refine iter_cnt s.length (by omega) (fun n=>∀ i (h:i < s.length),i < n→nmB s[i]=true) _ (by intro i _ h;omega) ?_ ?_
 ·intro i hi hI
  have hw:=wrap_i64 ((i:Int)+1) (by omega) (by omega)
  simp only[g_lines_Name_s1,atI_nat hi,Option.bind_some,hw]
  have hb:=u8lt s[i]
  have hk:nmB s[i]=true∨nmB s[i]=false:=by cases nmB s[i]<;>simp
  rcases hk with hk|hk
  ·left
   refine⟨?_,fun j hj hlt=>?_⟩
   ·simp only[nmB] at hk;grind
   ·by_cases hji:j=i
    ·subst hji;exact hk
    ·exact hI j hj (by omega)
  ·right
   refine⟨.inl (),?_,?_⟩
   ·simp only[nmB] at hk;grind
   ·simp only[reduceCtorEq,false_iff]
    intro h
    have:=h i hi
    simp[hk] at this
 ·intro hI
  refine⟨.inr (),by simp[g_lines_Name_s1],?_⟩
  simp only[true_iff]
  exact fun i h=>hI i h h
theorem lines_Name_eq (s:List UInt8):g_lines_Name s=some (isNm s):=by
 by_cases h0:s.length < 1
 ·match s,h0 with
  | [],_=>rfl
 ·by_cases h1:s.length≤16
  ·obtain⟨e,he,hi⟩:=lines_Name_loop s h1
   have hn:=isNm_at s (by omega)
   have h0':atI s 0=some s[0]:=atI_nat (n:=0) (by omega)
   simp only[g_lines_Name,he,h0',Option.bind_some]
   rcases e with⟨⟩|⟨⟩<;>grind
  ·have:isNm s=false:=by
    cases hh:isNm s with
    | false=>rfl
    | true=>exact absurd ((isNm_at s (by omega)).1 hh).1 h1
   simp only[g_lines_Name,this]
   grind
theorem decL_dec {l:List UInt8} (h:l≠[]):decL l=Lib.decodeL l:=by
 unfold Lib.decodeL
 have:=decL_eq l 0 ((List.length_pos_iff.2 h))
 rw[this];simp
theorem decL_wd {l:List UInt8} (h:l≠[]):1≤(decL l).2:=by rw[decL_dec h];exact Lib.decodeL_width l
theorem wd_pos {s:List UInt8} {p:Nat} (h:p < s.length):1≤widthAt s p:=by
 unfold widthAt
 refine decL_wd fun h0=>?_
 have:=congrArg List.length h0
 simp at this;omega
theorem place_same (s:List UInt8) (r:Int):g_charset_place_s1 s r=g_ref08_Index_s1 r s:=by
 funext x
 unfold g_charset_place_s1 g_ref08_Index_s1
 rfl
theorem place_total (s:List UInt8) (hs:s.length≤1000) (r:Int):∃ e,iter (g_ref08_Index_s1 r s) (0,0)=some e:=by
 have:=iter_post (step:=g_ref08_Index_s1 r s) (fun x=>0≤x.1∧x.1≤x.2) (fun x=>s.length - x.2) (fun _=>True) (x:=(0,0)) ⟨Int.le_refl _,by simp⟩ (by show s.length - 0 < _;omega) ?_
 ·obtain⟨e,h,_⟩:=this;exact⟨e,h⟩
 ·rintro⟨n,p⟩ ⟨h0,h1⟩
  dsimp only at h0 h1
  unfold g_ref08_Index_s1
  dsimp only
  by_cases hp:p < s.length
  ·rw[if_pos (by simpa using hp)]
   by_cases hr:(runeAt s p == r)=true
   ·right;rw[if_pos hr];exact⟨_,rfl,trivial⟩
   ·left;rw[if_neg hr]
    have hw:=wd_pos hp
    refine⟨_,rfl,?_,?_⟩
    ·dsimp only
     rw[wr64 (by omega)]
     omega
    ·dsimp only;omega
  ·right;rw[if_neg (by simpa using hp)];exact⟨_,rfl,trivial⟩
theorem Index_same (r:Int):∃ v,g_charset_Index r=some v∧g_ref08_Index r=some v:=by
 unfold g_charset_Index g_ref08_Index g_charset_place
 by_cases h:32≤r∧r≤126
 ·rw[if_pos (by simpa using h.1)]
  simp only[Option.bind_some]
  rw[if_pos (by simpa using h.2),if_pos (by simpa using h.2)]
  exact⟨_,rfl,rfl⟩
 ·have:(if decide (32≤r)=true then some (decide (r≤126)) else some false:Option Bool)=some false:=by
   by_cases h1:32≤r
   ·have:¬ r≤126:=fun h2=>h ⟨h1,h2⟩
    simp[h1,this]
   ·simp[h1]
  rw[this]
  simp only[Option.bind_some,Bool.false_eq_true,if_false,place_same,g_ref08_Repertoire]
  obtain⟨e,he⟩:=place_total g_ref08_Repertoire.get! (by decide) r
  simp only[g_ref08_Repertoire,Option.get!] at he
  rw[he]
  cases e<;>exact⟨_,rfl,rfl⟩
def ixv (r:Int):Int:=(g_ref08_Index r).getD 0
theorem ix_eq (r:Int):g_charset_Index r=some (ixv r)∧g_ref08_Index r=some (ixv r):=by
 obtain⟨v,h1,h2⟩:=Index_same r
 unfold ixv
 rw[h2]
 exact⟨h1,rfl⟩
theorem ixv_bad:g_ref08_Index 65533=some (-1):=by decide +kernel
def gv (l:List UInt8):Bool:=if h:l=[] then true else decide (0≤ixv (decL l).1)&&gv (l.drop (decL l).2)
termination_by l.length
decreasing_by
 have:=decL_wd h
 have:=(List.length_pos_iff.2 h)
 simp;omega
theorem gv_nil:gv []=true:=by unfold gv;simp
theorem gv_ne {l:List UInt8} (h:l≠[]):gv l=(decide (0≤ixv (decL l).1)&&gv (l.drop (decL l).2)):=by
 rw[gv,dif_neg h]
theorem gv_loop {step:Nat→Option (Nx Nat (Unit ⊕ Unit))} (s:List UInt8) (hs:s.length < 73786976294838206464) (hst:∀ p,step p=(if decide (p < s.length)=true then(if decide (ixv (runeAt s p) < 0)=true then some (.out (.inl ())) else some (.go (p+widthAt s p))) else some (.out (.inr ())))) :
  iter step 0=some (if gv s then .inr () else .inl ()):=by
 refine iter_of (fun p e=>e=if gv (s.drop p) then .inr () else .inl ()) (fun p=>s.length - p) ?_ (x:=0) (by simp) (by show s.length - 0 < _;omega)
 rintro p e rfl
 rw[hst]
 by_cases hp:p < s.length
 ·rw[if_pos (by simpa using hp)]
  have hne:s.drop p≠[]:=fun h0=>by have:=congrArg List.length h0;simp at this;omega
  by_cases hr:ixv (runeAt s p) < 0
  ·right
   rw[if_pos (by simpa using hr),gv_ne hne]
   have:¬ 0≤ixv (decL (s.drop p)).1:=by unfold runeAt at hr;omega
   simp[this]
  ·left
   rw[if_neg (by simpa using hr)]
   have hw:=wd_pos hp
   refine⟨_,rfl,?_,by omega⟩
   rw[gv_ne hne]
   have:0≤ixv (decL (s.drop p)).1:=by unfold runeAt at hr;omega
   simp only[this,decide_true,Bool.true_and,List.drop_drop]
   rfl
 ·right
  rw[if_neg (by simpa using hp),List.drop_eq_nil_of_le (by omega),gv_nil];rfl
theorem gv_valid:∀ (n:Nat) (l:List UInt8),l.length≤n→gv l=true→Lib.validD l=true:=by
 intro n
 induction n with
 | zero=>intro l hl _;have:l=[]:=List.eq_nil_of_length_eq_zero (by omega);subst this;rfl
 | succ n ih =>
  intro l hl h
  by_cases hne:l=[]
  ·subst hne;rfl
  ·rw[gv_ne hne,Bool.and_eq_true,decide_eq_true_eq] at h
   have hw:=decL_wd hne
   have hlen:=List.length_pos_iff.2 hne
   rw[Lib.validD_step l hne,← decL_dec hne,if_neg]
   ·exact ih _ (by simp;omega) h.2
   ·rintro⟨h1,_⟩
    have h2:=h.1
    rw[h1] at h2
    unfold ixv at h2
    rw[show(((65533:Nat):Nat):Int)=65533 from rfl,ixv_bad] at h2
    simp at h2
theorem prog_Valid_eq (s:List UInt8) (hs:s.length≤140737488355328):g_charset_Valid s=some (gv s):=by
 unfold g_charset_Valid g_unicode_utf8_ValidString
 simp only[Option.bind_some]
 rw[gv_loop s (by omega) (fun p=>by unfold g_charset_Valid_s1;simp only[(ix_eq _).1,Option.bind_some])]
 cases hg:gv s
 ·cases Lib.validD s<;>rfl
 ·rw[gv_valid s.length s (Nat.le_refl _) hg];rfl
def rnL (l:List UInt8):List Int:=if h:l=[] then[] else(((decL l).1:Nat):Int)::rnL (l.drop (decL l).2)
termination_by l.length
decreasing_by
 have h1:=decL_wd h
 have h2:=List.length_pos_iff.2 h
 simp only[List.length_drop];omega
theorem rnL_nil:rnL []=[]:=by unfold rnL;simp
theorem rnL_ne {l:List UInt8} (h:l≠[]):rnL l=(((decL l).1:Nat):Int)::rnL (l.drop (decL l).2):=by rw[rnL,dif_neg h]
theorem rnL_at {s:List UInt8} {p:Nat} (h:p < s.length):rnL (s.drop p)=runeAt s p::rnL (s.drop (p+widthAt s p)):=by
 have hne:s.drop p≠[]:=by
  intro e
  have:=congrArg List.length e
  simp at this;omega
 rw[rnL_ne hne]
 unfold runeAt widthAt
 rw[List.drop_drop]
theorem rnL_end {s:List UInt8} {p:Nat} (h:s.length≤p):rnL (s.drop p)=[]:=by rw[List.drop_eq_nil_of_le h,rnL_nil]
def ascF:Int→List Int→Bool
 | _,[]=>true
 | a,x::l=>decide (a < x)&&ascF x l
theorem prog_asc (p:T_api_Profile) (hs:p.Forbidden.length≤1048576):iter (g_profile_Check_s2 p) (-1,0)=some (if ascF (-1) (rnL p.Forbidden) then .inr () else .inl ()):=by
 refine iter_of (fun x e=>e=if ascF x.1 (rnL (p.Forbidden.drop x.2)) then .inr () else .inl ()) (fun x=>p.Forbidden.length - x.2) ?_ (x:=(-1,0)) (by simp) (by show p.Forbidden.length - 0 < _;omega)
 rintro⟨a,q⟩ e rfl
 dsimp only
 unfold g_profile_Check_s2
 dsimp only
 by_cases h:q < p.Forbidden.length
 ·have hw:1≤widthAt p.Forbidden q:=wd_pos h
  rw[if_pos (by simpa using h),rnL_at h]
  by_cases hr:runeAt p.Forbidden q≤a
  ·right
   rw[if_pos (by simpa using hr)]
   simp[ascF,show ¬ a < runeAt p.Forbidden q from by omega]
  ·left
   rw[if_neg (by simpa using hr)]
   refine⟨_,rfl,?_,by dsimp only;omega⟩
   simp[ascF,show a < runeAt p.Forbidden q from by omega]
 ·right
  rw[if_neg (by simpa using h),rnL_end (by omega)]
  simp[ascF]
def okR (p:T_api_Profile):Prop:=(1≤p.Reading∧p.Reading≤10000)∧(1≤p.MinFrames∧p.MinFrames≤5184000)∧(1≤p.MaxFrames∧p.MaxFrames≤5184000)∧(0≤p.MinGap∧p.MinGap≤1000)∧(0≤p.ShotBefore∧p.ShotBefore≤1000)∧(0≤p.ShotAfter∧p.ShotAfter≤1000)∧(1≤p.Rows∧p.Rows≤4)∧(1≤p.Cols∧p.Cols≤32)∧(0≤p.SafeTop∧p.SafeTop≤31)∧(0≤p.SafeBottom∧p.SafeBottom≤31)∧(0≤p.SafeLeft∧p.SafeLeft≤31)∧(0≤p.SafeRight∧p.SafeRight≤31)
instance (p:T_api_Profile):Decidable (okR p):=by unfold okR;infer_instance
def ckS (p:T_api_Profile):Int :=
 if isNm p.Name=false then 5 else if ¬ okR p then 2 else if 15≤p.SafeTop+p.SafeBottom∨32≤p.SafeLeft+p.SafeRight then 2 else if p.MaxFrames < p.MinFrames then 8 else if gv p.Forbidden=false then 10 else if ascF (-1) (rnL p.Forbidden) then 0 else 8
def lmL (p:T_api_Profile):List T_profile_limit:=[⟨p.Reading,1,10000⟩,⟨p.MinFrames,1,5184000⟩,⟨p.MaxFrames,1,5184000⟩,⟨p.MinGap,0,1000⟩,⟨p.ShotBefore,0,1000⟩,⟨p.ShotAfter,0,1000⟩,⟨p.Rows,1,4⟩,⟨p.Cols,1,32⟩,⟨p.SafeTop,0,31⟩,⟨p.SafeBottom,0,31⟩,⟨p.SafeLeft,0,31⟩,⟨p.SafeRight,0,31⟩]
theorem limits_eq (p:T_api_Profile):g_profile_limits p=some (lmL p):=by
 unfold g_profile_limits
 rw[show iter (g_profile_limits_s1 p) (0,[(T_profile_limit.mk p.Reading 1 10000),(T_profile_limit.mk p.MinFrames 1 5184000),(T_profile_limit.mk p.MaxFrames 1 5184000),(T_profile_limit.mk p.MinGap 0 1000),(T_profile_limit.mk p.ShotBefore 0 1000),(T_profile_limit.mk p.ShotAfter 0 1000),(T_profile_limit.mk p.Rows 1 4),(T_profile_limit.mk p.Cols 1 32)])=some (lmL p) from rfl]
 rfl
theorem limits_loop (l:List T_profile_limit) (hl:l.length≤1048576):iter (g_profile_Check_s1 l) 0=some (if l.all fun y=>decide (y.lo_≤y.n_)&&decide (y.n_≤y.hi_) then .inr () else .inl ()):=by
 have:=iter_idx (step:=g_profile_Check_s1 l) l.length (by omega) (fun i=>if(l.drop i).all fun y=>decide (y.lo_≤y.n_)&&decide (y.n_≤y.hi_) then .inr () else .inl ()) (fun i hi=>?_) ?_
 ·simpa using this
 ·unfold g_profile_Check_s1
  rw[if_pos (by simpa using hi),atI_nat hi,List.drop_eq_getElem_cons hi,wr64 (by omega)]
  simp only[Option.bind_some,List.all_cons]
  by_cases h1:l[i].n_ < l[i].lo_
  ·right;simp[h1,show ¬ l[i].lo_≤l[i].n_ from by omega]
  ·by_cases h2:l[i].hi_ < l[i].n_
   ·right;simp[h1,h2,show ¬ l[i].n_≤l[i].hi_ from by omega]
   ·left;simp[h1,h2,show l[i].lo_≤l[i].n_ from by omega,show l[i].n_≤l[i].hi_ from by omega]
 ·unfold g_profile_Check_s1
  rw[if_neg (by simp)]
  simp
theorem lm_all (p:T_api_Profile):((lmL p).all fun y=>decide (y.lo_≤y.n_)&&decide (y.n_≤y.hi_))=decide (okR p):=by
 rw[Bool.eq_iff_iff,decide_eq_true_iff]
 unfold lmL okR
 simp only[List.all_cons,List.all_nil,Bool.and_true,Bool.and_eq_true,decide_eq_true_eq]
theorem prog_Check (p:T_api_Profile) (h1:p.Name.length≤1048576) (h2:p.Forbidden.length≤1048576):g_profile_Check p=some (ckS p):=by
 unfold g_profile_Check ckS
 rw[lines_Name_eq p.Name,limits_eq,prog_Valid_eq p.Forbidden (by omega)]
 simp only[Option.bind_some]
 cases hn:isNm p.Name
 ·rfl
 rw[limits_loop _ (by simp[lmL]),lm_all,prog_asc p h2]
 simp only[Option.bind_some,if_true,Bool.true_eq_false,if_false]
 by_cases hr:okR p
 ·have hr':=hr
  unfold okR at hr'
  rw[wr64 (by omega),wr64 (by omega)]
  simp only[hr,decide_true,if_true,not_true,if_false]
  by_cases q1:15≤p.SafeTop+p.SafeBottom
  ·simp[q1]
  ·by_cases q2:32≤p.SafeLeft+p.SafeRight
   ·simp[q1,q2]
   ·simp only[q1,q2,decide_false,Bool.false_eq_true,if_false,Option.bind_some,false_or]
    by_cases q3:p.MaxFrames < p.MinFrames
    ·simp[q3]
    ·simp only[q3,decide_false,Bool.false_eq_true,if_false]
     cases gv p.Forbidden
     ·rfl
     ·cases ascF (-1) (rnL p.Forbidden)<;>rfl
 ·simp only[hr,decide_false,Bool.false_eq_true,if_false,not_false_eq_true,if_true]
def g_ref02_Valid (r_0:Int):Option (Bool) :=
 (if(decide (1≤r_0)) then(some (decide (r_0≤7))) else(some false))
def g_ref40_within (n_0:Int) (lo_1:Int) (hi_2:Int):Option (Bool) :=
 (if(decide (lo_1≤n_0)) then(some (decide (n_0≤hi_2))) else(some false))
def g_ref02_Ticks (r_0:Int):Option (Int) :=
 ((g_ref02_Valid r_0).bind fun r7=>(if r7 then((atI [5005,5000,4800,4004,4000,2400,2002] (IntKind.u8.wrap (r_0 - 1))).bind fun y17=>(some y17)) else(some 0)))
def g_ref40_Needed (rate_0:Int) (chars_1:Int) (limit_2:Int):Option (Int × Int) :=
 ((g_ref02_Valid rate_0).bind fun r7=>(if r7 then((((g_ref40_within chars_1 0 10000).bind fun r18=>(if r18 then((g_ref40_within limit_2 1 10000).bind fun r21=>(some (!r21))) else(some true))):Option (Bool)).bind fun v16=>(if v16 then(some (0,2)) else((g_ref02_Ticks rate_0).bind fun r31=>(if ¬ (IntKind.i64.wrap (limit_2 * r31))=0 then(some ((IntKind.i64.wrap (Int.tdiv (IntKind.i64.wrap ((IntKind.i64.wrap ((IntKind.i64.wrap ((IntKind.i64.wrap (chars_1 * 100)) * 120000))+(IntKind.i64.wrap (limit_2 * r31)))) - 1)) (IntKind.i64.wrap (limit_2 * r31)))),0)) else none)))) else(some (0,3))))
def rtV (r:Int):Bool:=decide (1≤r)&&decide (r≤7)
def rtT (r:Int):Int:=if r=1 then 5005 else if r=2 then 5000 else if r=3 then 4800 else if r=4 then 4004 else if r=5 then 4000 else if r=6 then 2400 else if r=7 then 2002 else 0
theorem rates_fin:∀ r:Fin 256,g_timebase_Valid ((r.val:Nat):Int)=some (rtV ((r.val:Nat):Int))∧g_ref02_Valid ((r.val:Nat):Int)=some (rtV ((r.val:Nat):Int))∧g_timebase_Ticks ((r.val:Nat):Int)=some (rtT ((r.val:Nat):Int)) ∧
  (rtV ((r.val:Nat):Int)=true→g_ref02_Ticks ((r.val:Nat):Int)=some (rtT ((r.val:Nat):Int))∧2002≤rtT ((r.val:Nat):Int)∧rtT ((r.val:Nat):Int)≤5005):=by decide +kernel
theorem rates (r:Int) (h0:0≤r) (h1:r≤255):g_timebase_Valid r=some (rtV r)∧g_ref02_Valid r=some (rtV r)∧g_timebase_Ticks r=some (rtT r)∧(rtV r=true→g_ref02_Ticks r=some (rtT r)∧2002≤rtT r∧rtT r≤5005):=by
 have:=rates_fin ⟨r.toNat,by omega⟩
 have e:((r.toNat:Nat):Int)=r:=by omega
 simp only[e] at this
 exact this
def wiB (n lo hi:Int):Bool:=decide (lo≤n)&&decide (n≤hi)
theorem rwithin_eq (n lo hi:Int):g_reading_within n lo hi=some (wiB n lo hi):=by
 unfold g_reading_within wiB
 cases decide (lo≤n)<;>simp
theorem within_ref (n lo hi:Int):g_ref40_within n lo hi=some (wiB n lo hi):=by
 unfold g_ref40_within wiB
 cases decide (lo≤n)<;>simp
theorem wiB_t {n lo hi:Int} (h:wiB n lo hi=true):lo≤n∧n≤hi:=by
 unfold wiB at h;simpa using h
def upQ (a b:Int):Int:=Int.tdiv (a+b - 1) b
theorem upQ_le {a b f:Int} (ha:0≤a) (hb:0 < b):upQ a b≤f ↔ a≤f * b:=by
 unfold upQ
 rw[Int.tdiv_eq_ediv_of_nonneg (by omega)]
 constructor
 ·intro h
  have h1:=Int.lt_mul_ediv_self_add (x:=a+b - 1) hb
  have h2:b * ((a+b - 1) / b)≤b * f:=Int.mul_le_mul_of_nonneg_left h (by omega)
  rw[Int.mul_comm f b]
  omega
 ·intro h
  have:(a+b - 1) / b < f+1:=by
   refine Int.ediv_lt_of_lt_mul hb ?_
   rw[Int.add_mul]
   omega
  omega
def needS (r c l:Int):Int × Int:=if rtV r then(if wiB c 0 10000&&wiB l 1 10000 then(upQ (c * 12000000) (l * rtT r),0) else(0,2)) else(0,3)
theorem mul_small {x t:Int} (k:Int) (hx:1≤x) (hk:x≤k) (h1:2002≤t) (h2:t≤5005) (hkk:k≤5184000):1≤x * t∧x * t≤25945920000:=by
 have a1:x * t≤5184000 * t:=Int.mul_le_mul_of_nonneg_right (by omega) (by omega)
 have a2:5184000 * t≤5184000 * 5005:=Int.mul_le_mul_of_nonneg_left h2 (by omega)
 have a3:1 * t≤x * t:=Int.mul_le_mul_of_nonneg_right hx (by omega)
 omega
theorem Needed_eq (r c l:Int) (h0:0≤r) (h1:r≤255):g_reading_Needed r c l=some (needS r c l)∧g_ref40_Needed r c l=some (needS r c l):=by
 obtain⟨e1,e2,e3,e4⟩:=rates r h0 h1
 unfold g_reading_Needed g_ref40_Needed needS
 simp only[e1,e2,rwithin_eq,within_ref,Option.bind_some]
 cases hv:rtV r with
 | false=>simp
 | true =>
  obtain⟨e5,t0,t1⟩:=e4 hv
  simp only[if_true,e3,e5,Option.bind_some]
  cases hc:wiB c 0 10000 with
  | false=>simp
  | true =>
   cases hl:wiB l 1 10000 with
   | false=>simp
   | true =>
    have hc':=wiB_t hc
    have hl':=wiB_t hl
    obtain⟨m1,m2⟩:=mul_small 10000 hl'.1 hl'.2 t0 t1 (by omega)
    generalize l * rtT r=b at m1 m2
    have w0:=wrap_i64 (c * 100) (by omega) (by omega)
    have w1:=wrap_i64 (c * 100 * 120000) (by omega) (by omega)
    have w2:=wrap_i64 b (by omega) (by omega)
    have w3:=wrap_i64 (c * 100 * 120000+b) (by omega) (by omega)
    have w4:=wrap_i64 (c * 100 * 120000+b - 1) (by omega) (by omega)
    have hb:¬ b=0:=by omega
    have hq:=upQ_le (a:=c * 12000000) (b:=b) (f:=120000000000) (by omega) (by omega)
    have hq1:upQ (c * 12000000) b≤120000000000:=hq.2 (by have:=Int.mul_le_mul_of_nonneg_left m1 (show(0:Int)≤120000000000 by omega);omega)
    have hq0:0≤upQ (c * 12000000) b:=by unfold upQ;exact Int.tdiv_nonneg (by omega) (by omega)
    have eu:Int.tdiv (c * 100 * 120000+b - 1) b=upQ (c * 12000000) b:=by unfold upQ;congr 1;omega
    have w5:=wrap_i64 (upQ (c * 12000000) b) (by omega) (by omega)
    simp only[Bool.not_true,Bool.false_eq_true,if_false,Bool.and_self,if_true,g_reading_load,g_reading_up,Option.bind_some,w0,w1,w2,w3,w4,hb,not_false_eq_true,eu,w5,and_self]
theorem shots_total (l:List Int) (hl:l.length≤1000):∃ v,g_shots_Check l=some v:=by
 unfold g_shots_Check
 by_cases h:400 < (l.length:Int)
 ·exact⟨9,by simp[h]⟩
 ·rw[if_neg (by simpa using h)]
  have hh:∃ e,iter (g_shots_Check_s1 l) 0=some e:=by
   refine iter_ends l.length (by omega) (fun i hi=>?_) ?_
   ·unfold g_shots_Check_s1
    rw[if_pos (by simpa using hi),atI_nat hi,wr64 (x:=(i:Int)+1) (by omega)]
    simp only[Option.bind_some]
    have hv:∃ b:Bool,(if decide (l[i] < 1)=true then some true else some (decide (5184000 < l[i])):Option Bool)=some b:=by
     by_cases q:l[i] < 1
     ·exact⟨true,by simp[q]⟩
     ·exact⟨_,by simp[q];rfl⟩
    obtain⟨b,hb⟩:=hv
    rw[hb]
    simp only[Option.bind_some]
    cases b
    ·simp only[Bool.false_eq_true,if_false]
     by_cases q:0 < (i:Int)
     ·rw[if_pos (by simpa using q),wr64 (by omega),show((i:Int) - 1)=((i - 1:Nat):Int) by omega,atI_nat (show i - 1 < l.length by omega)]
      simp only[Option.bind_some]
      by_cases q2:l[i]≤l[i - 1]
      ·exact .inr ⟨_,by rw[if_pos (by simpa using q2)]⟩
      ·exact .inl (by rw[if_neg (by simpa using q2)])
     ·exact .inl (by rw[if_neg (by simpa using q)])
    ·exact .inr ⟨_,rfl⟩
   ·unfold g_shots_Check_s1
    exact⟨_,by rw[if_neg (by simp)]⟩
  obtain⟨e,he⟩:=hh
  rw[he]
  cases e<;>exact⟨_,rfl⟩
def shC (l:List Int):Int:=(g_shots_Check l).getD 0
theorem shC_eq (l:List Int) (hl:l.length≤1000):g_shots_Check l=some (shC l):=by
 obtain⟨v,h⟩:=shots_total l hl
 unfold shC;rw[h];rfl
def frB (f:Int):Bool:=decide (0≤f)&&decide (f≤5184000)
theorem frame_eq (f:Int):g_shots_frame f=some (frB f):=by
 unfold g_shots_frame frB
 by_cases h:0≤f<;>simp[h]
theorem close_total (l:List Int) (hl:l.length≤1000) (f b a:Int):∃ r,g_shots_tooClose l f b a=some r:=by
 have hh:∃ e,iter (g_shots_tooClose_s1 l f b a) 0=some e:=by
  refine iter_ends l.length (by omega) (fun i hi=>?_) ?_
  ·unfold g_shots_tooClose_s1
   rw[if_pos (by simpa using hi),atI_nat hi,wr64 (x:=(i:Int)+1) (by omega)]
   simp only[Option.bind_some]
   split
   ·split
    ·exact .inr ⟨_,rfl⟩
    ·split
     ·simp only[Option.bind_some];split
      ·exact .inr ⟨_,rfl⟩
      ·exact .inl rfl
     ·exact .inl rfl
   ·split
    ·simp only[Option.bind_some];split
     ·exact .inr ⟨_,rfl⟩
     ·exact .inl rfl
    ·exact .inl rfl
  ·unfold g_shots_tooClose_s1
   exact⟨_,by rw[if_neg (by simp)]⟩
 obtain⟨e,he⟩:=hh
 unfold g_shots_tooClose
 rw[he]
 cases e<;>exact⟨_,rfl⟩
theorem size_eq (n:Int):∃ r,g_shots_size n=some r:=⟨_,rfl⟩
theorem Snap_total (l:List Int) (hl:l.length≤1000) (f b a:Int):∃ r,g_shots_Snap l f b a=some r∧(r.2=true→frB r.1=true):=by
 have h0:∃ v,g_shots_usable l f b a=some v:=by
  unfold g_shots_usable
  rw[shC_eq l hl]
  simp only[Option.bind_some,frame_eq]
  cases shC l == 0<;>cases frB f<;>cases frB b<;>exact⟨_,rfl⟩
 obtain⟨v,hv⟩:=h0
 unfold g_shots_Snap
 rw[hv]
 simp only[Option.bind_some]
 cases v with
 | false=>exact⟨_,rfl,by simp⟩
 | true =>
  simp only[if_true]
  have h1:=iter_run (step:=g_shots_Snap_s1 l b a) l (by omega) (fun i s=>(i,s)) (fun s y=>.inr (s++[IntKind.i64.wrap (y - b),y,IntKind.i64.wrap (y+a)])) id (fun i s=>s.length=3 * i+1) (s0:=[f]) rfl
   (fun i hi s hs=>.inr ⟨_,rfl,by
    unfold g_shots_Snap_s1
    rw[if_pos (by simpa using hi),atI_nat hi,wr64 (x:=(i:Int)+1) (by omega)]
    simp only[Option.bind_some]
    rw[if_pos (by omega)],by simp[hs];omega⟩)
   (fun s hs=>by unfold g_shots_Snap_s1;rw[if_neg (by simp)];rfl)
  rw[h1]
  simp only[Option.bind_some]
  generalize hE:runF (E:=List Int) _ _ _ l=E0
  have hlen:E0.length≤3001:=by
   have:∀ (t:List Int) (s:List Int),(runF (fun(s:List Int) y=>(.inr (s++[IntKind.i64.wrap (y - b),y,IntKind.i64.wrap (y+a)]):List Int ⊕ List Int)) id s t).length=s.length+3 * t.length:=by
    intro t
    induction t with
    | nil=>intro s;simp[runF]
    | cons c t ih=>intro s;simp only[runF];rw[ih];simp;omega
   have:=this l [f]
   rw[hE] at this
   rw[this];simp;omega
  obtain⟨e,he,hp⟩:=iter_post (step:=g_shots_Snap_s2 l f b a E0) (fun x=>0≤x.2.2∧x.2.2≤(E0.length:Int)∧(x.2.1=true→frB x.1=true)) (fun x=>E0.length - x.2.2.toNat) (fun e=>e.2=true→frB e.1=true) (x:=(0,false,0)) ⟨by simp,by simp,by simp⟩ (by dsimp only;omega) (by
   rintro⟨bst,ok,i⟩ ⟨q1,q2,q3⟩
   dsimp only at q1 q2 q3
   obtain⟨i,rfl⟩:=Int.eq_ofNat_of_zero_le q1
   unfold g_shots_Snap_s2
   dsimp only
   by_cases hi:i < E0.length
   ·left
    rw[if_pos (by simpa using hi),atI_nat hi,wr64 (x:=(i:Int)+1) (by omega)]
    simp only[Option.bind_some,frame_eq]
    cases hf:frB E0[i] with
    | false=>exact⟨_,rfl,⟨by dsimp only;omega,by dsimp only;omega,q3⟩,by dsimp only;omega⟩
    | true =>
     simp only[if_true]
     obtain⟨r,hr⟩:=close_total l hl E0[i] b a
     rw[hr]
     simp only[Option.bind_some]
     cases r.2 with
     | true=>exact⟨_,rfl,⟨by dsimp only;omega,by dsimp only;omega,q3⟩,by dsimp only;omega⟩
     | false =>
      simp only[Bool.false_eq_true,if_false]
      have hv:∃ v:Bool,(if ok=true then((g_shots_size (IntKind.i64.wrap (E0[i] - f))).bind fun r365=>((g_shots_size (IntKind.i64.wrap (bst - f))).bind fun r367=>(if(decide (r365 < r367)) then(some true) else((g_shots_size (IntKind.i64.wrap (E0[i] - f))).bind fun r370=>((g_shots_size (IntKind.i64.wrap (bst - f))).bind fun r372=>(if(r370 == r372) then(some (decide (E0[i] < bst))) else(some false))))))) else(some true):Option Bool)=some v:=by
       cases ok with
       | false=>exact⟨_,rfl⟩
       | true =>
        obtain⟨r1,e1⟩:=size_eq (IntKind.i64.wrap (E0[i] - f))
        obtain⟨r2,e2⟩:=size_eq (IntKind.i64.wrap (bst - f))
        simp only[e1,e2,Option.bind_some,if_true]
        split
        ·exact⟨_,rfl⟩
        ·split<;>exact⟨_,rfl⟩
      obtain⟨v,hv⟩:=hv
      rw[hv]
      simp only[Option.bind_some]
      cases v with
      | true=>exact⟨_,rfl,⟨by dsimp only;omega,by dsimp only;omega,fun _=>hf⟩,by dsimp only;omega⟩
      | false=>exact⟨_,rfl,⟨by dsimp only;omega,by dsimp only;omega,q3⟩,by dsimp only;omega⟩
   ·right
    rw[if_neg (by simpa using hi)]
    exact⟨_,rfl,q3⟩)
  rw[he]
  exact⟨_,rfl,hp⟩
def snS (l:List Int) (f b a:Int):Int × Bool:=(g_shots_Snap l f b a).getD (0,false)
theorem snS_eq (l:List Int) (hl:l.length≤1000) (f b a:Int):g_shots_Snap l f b a=some (snS l f b a)∧((snS l f b a).2=true→0≤(snS l f b a).1∧(snS l f b a).1≤5184000):=by
 obtain⟨r,h,hr⟩:=Snap_total l hl f b a
 unfold snS
 rw[h]
 refine⟨rfl,fun q=>?_⟩
 have:=hr q
 unfold frB at this
 simpa using this
def cutS (t0:Int) (s:Int × Int) (from' below:Int):Int × Int:=if below≤from' then s else(if below≤t0 then(if below > s.1 then below else s.1) else s.1,if t0 < from' then(if from' < s.2 then from' else s.2) else s.2)
theorem zone_1_eq (from' below t0:Int) (s:T_api_Span):g_repair_zone_1 from' below t0 s=some (t0,⟨(cutS t0 (s.In,s.Out) from' below).1,(cutS t0 (s.In,s.Out) from' below).2⟩):=by
 unfold g_repair_zone_1 cutS
 by_cases h1:below≤from'<;>by_cases h2:below≤t0<;>by_cases h3:t0 < from'<;>simp[h1,h2,h3]
def zoF (p:T_api_Profile) (t0:Int) (s:Int × Int) (y:Int):Int × Int :=
 cutS t0 (cutS t0 s (IntKind.i64.wrap (IntKind.i64.wrap (y - p.ShotBefore)+1)) y) (IntKind.i64.wrap (y+1)) (IntKind.i64.wrap (y+p.ShotAfter))
def zoR (p:T_api_Profile) (t0:Int) (l:List Int):Int × Int:=runF (fun s y=>.inr (zoF p t0 s y)) id (0,5184001) l
theorem cutS_in {t0:Int} {s:Int × Int} {f b:Int} (h:0≤s.1∧s.1≤t0∧t0 < s.2∧s.2≤5184001):0≤(cutS t0 s f b).1∧(cutS t0 s f b).1≤t0∧t0 < (cutS t0 s f b).2∧(cutS t0 s f b).2≤5184001:=by
 unfold cutS
 split
 ·exact h
 ·refine⟨?_,?_,?_,?_⟩<;>dsimp only<;>(repeat' split)<;>omega
theorem zoR_in (p:T_api_Profile) {t0:Int} (h0:0≤t0∧t0≤5184000) (l:List Int):0≤(zoR p t0 l).1∧(zoR p t0 l).1≤t0∧t0 < (zoR p t0 l).2∧(zoR p t0 l).2≤5184001:=by
 have:∀ (l:List Int) (s:Int × Int),(0≤s.1∧s.1≤t0∧t0 < s.2∧s.2≤5184001)→0≤(runF (fun s y=>(.inr (zoF p t0 s y):(Int × Int) ⊕ (Int × Int))) id s l).1∧(runF (fun s y=>(.inr (zoF p t0 s y):(Int × Int) ⊕ (Int × Int))) id s l).1≤t0∧t0 < (runF (fun s y=>(.inr (zoF p t0 s y):(Int × Int) ⊕ (Int × Int))) id s l).2∧(runF (fun s y=>(.inr (zoF p t0 s y):(Int × Int) ⊕ (Int × Int))) id s l).2≤5184001:=by
  intro l
  induction l with
  | nil=>intro s h;exact h
  | cons y t ih=>intro s h;simp only[runF];exact ih _ (cutS_in (cutS_in h))
 exact this l (0,5184001) (by dsimp only;omega)
def zoS (l:List Int) (f:Int) (p:T_api_Profile):T_api_Span × Int :=
 if(snS l f p.ShotBefore p.ShotAfter).2 then(⟨(zoR p (snS l f p.ShotBefore p.ShotAfter).1 l).1,(zoR p (snS l f p.ShotBefore p.ShotAfter).1 l).2⟩,0) else(⟨0,0⟩,6)
theorem zone_eq (l:List Int) (hl:l.length≤1000) (f:Int) (p:T_api_Profile):g_repair_zone l f p=some (zoS l f p):=by
 unfold g_repair_zone zoS
 rw[(snS_eq l hl f _ _).1]
 simp only[Option.bind_some]
 cases h:(snS l f p.ShotBefore p.ShotAfter).2 with
 | false=>rfl
 | true =>
  simp only[if_true]
  generalize (snS l f p.ShotBefore p.ShotAfter).1=t0
  have:=iter_run (step:=g_repair_zone_s1 l p) l (by omega) (fun i (s:Int × Int)=>(i,s.1,s.2,t0)) (fun s y=>.inr (zoF p t0 s y)) id (fun _ _=>True) (s0:=(0,5184001)) trivial
   (fun i hi s _=>.inr ⟨_,rfl,by
    unfold g_repair_zone_s1
    rw[if_pos (by simpa using hi),atI_nat hi,wr64 (x:=(i:Int)+1) (by omega)]
    simp only[Option.bind_some,zone_1_eq]
    rfl,trivial⟩)
   (fun s _=>by unfold g_repair_zone_s1;rw[if_neg (by simp)];rfl)
  rw[show(((0:Int),(0:Int),(5184001:Int),t0):Int × Int × Int × Int)=(fun i (s:Int × Int)=>(i,s.1,s.2,t0)) 0 (0,5184001) from rfl,this]
  rfl
theorem from_eq (n lo hi:Int):g_region_from n lo hi=some (decide (lo≤n)&&decide (n≤hi)):=by
 unfold g_region_from
 by_cases h:lo≤n<;>simp[h]
theorem regCheck_tot (r:T_api_Region):∃ v,g_region_Check r=some v:=by
 unfold g_region_Check
 rw[lines_Name_eq]
 simp only[Option.bind_some,from_eq]
 cases isNm r.Name with
 | false=>exact⟨_,rfl⟩
 | true =>
  simp only[if_true]
  generalize (decide (0≤r.Top)&&decide (r.Top≤14))=b1
  generalize (decide (1≤r.Height)&&decide (r.Height≤IntKind.i64.wrap (15 - r.Top)))=b2
  generalize (decide (0≤r.Left)&&decide (r.Left≤31))=b3
  generalize (decide (1≤r.Width)&&decide (r.Width≤IntKind.i64.wrap (32 - r.Left)))=b4
  cases b1<;>cases b2<;>cases b3<;>cases b4<;>simp only[Bool.false_eq_true,if_false,if_true,Option.bind_some,Bool.not_true,Bool.not_false]<;>first|exact⟨_,rfl⟩|(split<;>first|exact⟨_,rfl⟩|(split<;>exact⟨_,rfl⟩))
theorem regList_tot (l:List T_api_Region):∃ v,g_region_CheckList l=some v:=by
 unfold g_region_CheckList
 by_cases h:16 < (l.length:Int)
 ·exact⟨9,by simp[h]⟩
 ·rw[if_neg (by simpa using h)]
  obtain⟨e,he⟩:∃ e,iter (g_region_CheckList_s1 l) 0=some e:=by
   refine iter_ends l.length (by omega) (fun i hi=>?_) ?_
   ·unfold g_region_CheckList_s1
    rw[if_pos (by simpa using hi),atI_nat hi,wr64 (x:=(i:Int)+1) (by omega)]
    simp only[Option.bind_some]
    obtain⟨v,hv⟩:=regCheck_tot l[i]
    rw[hv]
    simp only[Option.bind_some]
    split
    ·exact .inr ⟨_,rfl⟩
    ·by_cases q:0 < (i:Int)
     ·rw[if_pos (by simpa using q),if_pos (by simpa using q),wr64 (by omega),show((i:Int) - 1)=((i - 1:Nat):Int) by omega,atI_nat (show i - 1 < l.length by omega)]
      simp only[Option.bind_some]
      split
      ·exact .inr ⟨_,rfl⟩
      ·split
       ·exact .inr ⟨_,rfl⟩
       ·exact .inl rfl
     ·rw[if_neg (by simpa using q),if_neg (by simpa using q)]
      simp only[Option.bind_some,Bool.false_eq_true,if_false]
      exact .inl trivial
   ·unfold g_region_CheckList_s1
    exact⟨_,by rw[if_neg (by simp)]⟩
  rw[he]
  cases e<;>exact⟨_,rfl⟩
theorem regFind_tot (l:List T_api_Region) (hl:l.length≤9223372036854775807) (n:List UInt8):∃ v,g_region_Find l n=some v:=by
 unfold g_region_Find
 split
 ·exact⟨_,rfl⟩
 ·obtain⟨e,he⟩:∃ e,iter (g_region_Find_s1 l n) 0=some e:=by
   refine iter_ends l.length hl (fun i hi=>?_) ?_
   ·unfold g_region_Find_s1
    rw[if_pos (by simpa using hi),atI_nat hi,wr64 (x:=(i:Int)+1) (by omega)]
    simp only[Option.bind_some]
    split
    ·exact .inr ⟨_,rfl⟩
    ·exact .inl rfl
   ·unfold g_region_Find_s1
    exact⟨_,by rw[if_neg (by simp)]⟩
  rw[he]
  cases e<;>exact⟨_,rfl⟩
theorem rate_fin:∀ r:Fin 256,(g_document_rate ((r.val:Nat):Int) true).isSome=true∧(g_document_rate ((r.val:Nat):Int) false).isSome=true:=by decide +kernel
theorem rate_tot (r:Int) (h0:0≤r) (h1:r≤255) (d:Bool):∃ v,g_document_rate r d=some v:=by
 have:=rate_fin ⟨r.toNat,by omega⟩
 simp only[Int.toNat_of_nonneg h0] at this
 cases d
 ·exact Option.isSome_iff_exists.1 this.2
 ·exact Option.isSome_iff_exists.1 this.1
theorem header_tot (d:T_api_Document) (ht:d.Title.length≤1048576) (h0:0≤d.Rate) (h1:d.Rate≤255):∃ v,g_document_header d=some v:=by
 unfold g_document_header
 rw[prog_Valid_eq _ (by omega),lines_Name_eq]
 obtain⟨v,hv⟩:=rate_tot d.Rate h0 h1 d.Drop
 rw[hv]
 simp only[Option.bind_some]
 cases gv d.Title with
 | false=>exact⟨_,rfl⟩
 | true =>
  simp only[if_true]
  split
  ·exact⟨_,rfl⟩
  ·split
   ·simp only[Option.bind_some]
    (repeat' split)<;>exact⟨_,rfl⟩
   ·cases isNm d.Lang
    ·exact⟨_,rfl⟩
    ·simp only[if_true,Option.bind_some]
     (repeat' split)<;>exact⟨_,rfl⟩
def spB (s:T_api_Span):Bool:=decide (0≤s.In)&&decide (s.In < s.Out)&&decide (s.Out≤5184000)
theorem spans_eq (s:T_api_Span):g_event_spans s=some (spB s):=by
 unfold g_event_spans spB
 by_cases h1:0≤s.In<;>by_cases h2:s.In < s.Out<;>simp[h1,h2]
theorem kind_tot (k:Int):∃ v,g_event_KindName k=some v:=by
 unfold g_event_KindName
 by_cases h1:k < 1
 ·exact⟨[],by simp[h1]⟩
 ·by_cases h2:4 < k
  ·exact⟨[],by simp[h1,h2]⟩
  ·simp only[h1,h2,decide_false,Bool.false_eq_true,if_false,Option.bind_some]
   have:k=1∨k=2∨k=3∨k=4:=by omega
   rcases this with rfl|rfl|rfl|rfl<;>exact⟨_,rfl⟩
theorem alike_tot (a b:T_api_Run):∃ v,g_style_alike a b=some v:=by
 unfold g_style_alike
 (repeat' split)<;>exact⟨_,rfl⟩
def RowZ (r:T_api_Row):Prop:=∀ u ∈ r.Runs,u.Text.length≤1048576∧u.Ruby.length≤1048576
theorem styCheck_tot (r:T_api_Row) (h:RowZ r):∃ v,g_style_Check r=some v∧(v=0→r.Runs.length≤16):=by
 unfold g_style_Check
 by_cases h16:16 < (r.Runs.length:Int)
 ·exact⟨9,by simp[h16],by simp⟩
 ·rw[if_neg (by simpa using h16)]
  obtain⟨e,he⟩:∃ e,iter (g_style_Check_s1 r) 0=some e:=by
   refine iter_ends r.Runs.length (by omega) (fun i hi=>?_) ?_
   ·unfold g_style_Check_s1
    rw[if_pos (by simpa using hi),atI_nat hi,wr64 (x:=(i:Int)+1) (by omega)]
    simp only[Option.bind_some]
    have hz:=h _ (List.getElem_mem hi)
    rw[prog_Valid_eq _ (by omega),prog_Valid_eq _ (by omega)]
    simp only[Option.bind_some,g_style_Valid]
    split
    ·split
     ·exact .inr ⟨_,rfl⟩
     ·split
      ·split
       ·by_cases q:0 < (i:Int)
        ·rw[if_pos (by simpa using q),wr64 (by omega),show((i:Int) - 1)=((i - 1:Nat):Int) by omega,atI_nat (show i - 1 < r.Runs.length by omega)]
         simp only[Option.bind_some]
         obtain⟨v,hv⟩:=alike_tot (r.Runs[i - 1]'(by omega)) r.Runs[i]
         rw[hv]
         simp only[Option.bind_some]
         split
         ·exact .inr ⟨_,rfl⟩
         ·exact .inl rfl
        ·rw[if_neg (by simpa using q)]
         exact .inl rfl
       ·exact .inr ⟨_,rfl⟩
      ·exact .inr ⟨_,rfl⟩
    ·exact .inr ⟨_,rfl⟩
   ·unfold g_style_Check_s1
    exact⟨_,by rw[if_neg (by simp)]⟩
  rw[he]
  cases e<;>exact⟨_,rfl,fun _=>by omega⟩
theorem plain_tot (r:T_api_Row) (h:RowZ r) (h16:r.Runs.length≤16):∃ s,g_style_Plain r=some s∧s.length≤16777216:=by
 obtain⟨e,he,hp⟩:=iter_post (step:=g_style_Plain_s1 r) (fun x=>0≤x.1∧x.1≤(r.Runs.length:Int)∧(x.2.length:Int)≤x.1 * 1048576) (fun x=>r.Runs.length - x.1.toNat) (fun e=>e.length≤16777216) (x:=(0,[])) ⟨by simp,by simp,by simp⟩ (by dsimp only;omega) (by
  rintro⟨i,s⟩ ⟨q1,q2,q3⟩
  dsimp only at q1 q2 q3
  obtain⟨i,rfl⟩:=Int.eq_ofNat_of_zero_le q1
  unfold g_style_Plain_s1
  dsimp only
  by_cases hi:i < r.Runs.length
  ·left
   have hz:=h _ (List.getElem_mem hi)
   rw[if_pos (by simpa using hi),atI_nat hi,wr64 (x:=(i:Int)+1) (by omega)]
   simp only[Option.bind_some]
   rw[if_pos (by omega)]
   refine⟨_,rfl,⟨by dsimp only;omega,by dsimp only;omega,?_⟩,by dsimp only;omega⟩
   simp only[List.length_append,toI,List.length_map]
   omega
  ·right
   rw[if_neg (by simpa using hi)]
   exact⟨_,rfl,by omega⟩)
 unfold g_style_Plain
 rw[he]
 exact⟨_,rfl,by simpa[bytesOf] using hp⟩
theorem chLen_tot (s:List UInt8) (h:s.length≤1048576):∃ v,g_charset_Len s=some v:=by
 unfold g_charset_Len
 rw[prog_Valid_eq _ (by omega)]
 simp only[Option.bind_some]
 cases gv s with
 | false=>exact⟨_,rfl⟩
 | true =>
  simp only[if_true,g_unicode_utf8_RuneCountInString]
  rw[if_pos (by omega)]
  exact⟨_,rfl⟩
theorem styLen_tot (r:T_api_Row) (h:RowZ r) (hr:r.Runs.length≤1048576):∃ v,g_style_Len r=some v:=by
 obtain⟨e,he,hp⟩:=iter_post (step:=g_style_Len_s1 r) (fun x=>0≤x.2∧x.2≤(r.Runs.length:Int)) (fun x=>r.Runs.length - x.2.toNat) (fun e=>True) (x:=(0,0)) ⟨by simp,by simp⟩ (by dsimp only;omega) (by
  rintro⟨s,i⟩ ⟨q1,q2⟩
  dsimp only at q1 q2
  obtain⟨i,rfl⟩:=Int.eq_ofNat_of_zero_le q1
  unfold g_style_Len_s1
  dsimp only
  by_cases hi:i < r.Runs.length
  ·have hz:=h _ (List.getElem_mem hi)
   rw[if_pos (by simpa using hi),atI_nat hi,wr64 (x:=(i:Int)+1) (by omega)]
   simp only[Option.bind_some]
   obtain⟨v,hv⟩:=chLen_tot _ hz.1
   rw[hv]
   simp only[Option.bind_some]
   split
   ·exact .inr ⟨_,rfl,trivial⟩
   ·exact .inl ⟨_,rfl,⟨by dsimp only;omega,by dsimp only;omega⟩,by dsimp only;omega⟩
  ·right
   rw[if_neg (by simpa using hi)]
   exact⟨_,rfl,trivial⟩)
 unfold g_style_Len
 rw[he]
 cases e<;>exact⟨_,rfl⟩
theorem row_tot (r:T_api_Row) (h:RowZ r):∃ v,g_event_row r=some v∧(v=0→r.Runs.length≤16):=by
 unfold g_event_row
 obtain⟨v,hv,h16⟩:=styCheck_tot r h
 rw[hv]
 simp only[Option.bind_some]
 by_cases h0:v=0
 ·have hl:=h16 h0
  rw[if_neg (by simpa using h0)]
  obtain⟨s,hs,hsl⟩:=plain_tot r h hl
  obtain⟨n,hn⟩:=styLen_tot r h (by omega)
  rw[hs,hn]
  simp only[Option.bind_some]
  obtain⟨b,hb⟩:∃ b:Bool,(if(s == ([]:List UInt8)) then(some true) else((atI s 0).bind fun b33=>(if((b33.toNat:Int) == 32) then(some true) else((atI s (IntKind.i64.wrap ((s.length:Int) - 1))).bind fun b36=>(if((b36.toNat:Int) == 32) then(some true) else((g_strings_Contains s [32,32]).bind fun r39=>(some r39)))))))=some b:=by
   by_cases he:s=[]
   ·exact⟨true,by simp[he]⟩
   ·have hp:0 < s.length:=List.length_pos_iff.2 he
    rw[if_neg (by simpa using he),show(0:Int)=((0:Nat):Int) from rfl,atI_nat hp,wr64 (by omega),show((s.length:Int) - 1)=((s.length - 1:Nat):Int) by omega,atI_nat (show s.length - 1 < s.length by omega)]
    simp only[Option.bind_some,g_strings_Contains]
    rw[if_pos (show s.length < 4294967281 by omega)]
    simp only[Option.bind_some]
    (repeat' split)<;>exact⟨_,rfl⟩
  rw[hb]
  simp only[Option.bind_some]
  split
  ·exact⟨_,rfl,fun _=>hl⟩
  ·split<;>exact⟨_,rfl,fun _=>hl⟩
 ·rw[if_pos (by simpa using h0)]
  exact⟨_,rfl,fun e=>absurd e h0⟩
def EvZ (e:T_api_Event):Prop:=e.Rows.length≤1048576∧∀ r ∈ e.Rows,RowZ r∧r.Runs.length≤1048576
theorem lens_tot (e:T_api_Event) (h:EvZ e):∃ l,g_event_lens e=some l∧l.length≤1048576:=by
 obtain⟨x,he,hp⟩:=iter_post (step:=g_event_lens_s1 e) (fun x=>0≤x.2∧x.2≤(e.Rows.length:Int)∧(x.1.length:Int)=x.2) (fun x=>e.Rows.length - x.2.toNat) (fun l=>l.length≤1048576) (x:=([],0)) ⟨by simp,by simp,by simp⟩ (by have:=h.1;dsimp only;omega) (by
  rintro⟨s,i⟩ ⟨q1,q2,q3⟩
  dsimp only at q1 q2 q3
  obtain⟨i,rfl⟩:=Int.eq_ofNat_of_zero_le q1
  have h1:=h.1
  unfold g_event_lens_s1
  dsimp only
  by_cases hi:i < e.Rows.length
  ·have hz:=h.2 _ (List.getElem_mem hi)
   rw[if_pos (by simpa using hi),atI_nat hi,wr64 (x:=(i:Int)+1) (by omega)]
   simp only[Option.bind_some]
   obtain⟨v,hv⟩:=styLen_tot _ hz.1 hz.2
   rw[hv]
   simp only[Option.bind_some]
   rw[if_pos (by omega)]
   exact .inl ⟨_,rfl,⟨by dsimp only;omega,by dsimp only;omega,by simp;omega⟩,by dsimp only;omega⟩
  ·right
   rw[if_neg (by simpa using hi)]
   exact⟨_,rfl,by omega⟩)
 unfold g_event_lens
 rw[he]
 exact⟨_,rfl,hp⟩
theorem usable_tot (r:T_api_Region):∃ v,g_region_usable r=some v:=by
 unfold g_region_usable g_region_Default
 simp only[Option.bind_some]
 split
 ·exact⟨_,rfl⟩
 ·obtain⟨v,hv⟩:=regCheck_tot r
  rw[hv]
  exact⟨_,rfl⟩
theorem place_s1 (r:T_api_Region) (l:List Int) (hl:l.length≤1048576):∃ e,iter (g_region_Place_s1 r l) ([],0)=some e:=by
 obtain⟨x,he,_⟩:=iter_post (step:=g_region_Place_s1 r l) (fun x=>0≤x.2∧x.2≤(l.length:Int)∧(x.1.length:Int)=x.2) (fun x=>l.length - x.2.toNat) (fun _=>True) (x:=([],0)) ⟨by simp,by simp,by simp⟩ (by dsimp only;omega) (by
  rintro⟨s,i⟩ ⟨q1,q2,q3⟩
  dsimp only at q1 q2 q3
  obtain⟨i,rfl⟩:=Int.eq_ofNat_of_zero_le q1
  unfold g_region_Place_s1
  dsimp only
  by_cases hi:i < l.length
  ·rw[if_pos (by simpa using hi),atI_nat hi,wr64 (x:=(i:Int)+1) (by omega)]
   simp only[Option.bind_some]
   have hc:(s.length+1) * 24≤140737488355328:=by omega
   simp only[hc,if_true]
   split
   ·exact .inr ⟨_,rfl,trivial⟩
   ·split
    ·exact .inr ⟨_,rfl,trivial⟩
    ·(repeat' split)<;>exact .inl ⟨_,rfl,⟨by dsimp only;omega,by dsimp only;omega,by simp;omega⟩,by dsimp only;omega⟩
  ·right
   rw[if_neg (by simpa using hi)]
   exact⟨_,rfl,trivial⟩)
 exact⟨x,he⟩
theorem place_s2 (r:T_api_Region) (l:List Int) (hl:l.length≤1048576):∃ e,iter (g_region_Place_s2 r l) ([],0)=some e:=by
 obtain⟨x,he,_⟩:=iter_post (step:=g_region_Place_s2 r l) (fun x=>0≤x.2∧x.2≤(l.length:Int)∧(x.1.length:Int)=x.2) (fun x=>l.length - x.2.toNat) (fun _=>True) (x:=([],0)) ⟨by simp,by simp,by simp⟩ (by dsimp only;omega) (by
  rintro⟨s,i⟩ ⟨q1,q2,q3⟩
  dsimp only at q1 q2 q3
  obtain⟨i,rfl⟩:=Int.eq_ofNat_of_zero_le q1
  unfold g_region_Place_s2
  dsimp only
  by_cases hi:i < l.length
  ·rw[if_pos (by simpa using hi),atI_nat hi,wr64 (x:=(i:Int)+1) (by omega)]
   simp only[Option.bind_some]
   have hc:(s.length+1) * 24≤140737488355328:=by omega
   simp only[hc,if_true]
   split
   ·exact .inr ⟨_,rfl,trivial⟩
   ·split
    ·exact .inr ⟨_,rfl,trivial⟩
    ·(repeat' split)<;>exact .inl ⟨_,rfl,⟨by dsimp only;omega,by dsimp only;omega,by simp;omega⟩,by dsimp only;omega⟩
  ·right
   rw[if_neg (by simpa using hi)]
   exact⟨_,rfl,trivial⟩)
 exact⟨x,he⟩
theorem place_tot (r:T_api_Region) (l:List Int) (hl:l.length≤1048576):∃ v,g_region_Place r l=some v:=by
 unfold g_region_Place
 obtain⟨v,hv⟩:=usable_tot r
 obtain⟨e1,h1⟩:=place_s1 r l hl
 obtain⟨e2,h2⟩:=place_s2 r l hl
 rw[hv,h1,h2]
 simp only[Option.bind_some]
 cases v<;>cases e1<;>cases e2<;>simp only[Bool.false_eq_true,if_false,if_true]<;>(repeat' split)<;>exact⟨_,rfl⟩
structure EvOK (e:T_api_Event):Prop where
 id:1≤e.ID∧e.ID≤1099511627776
 span:0≤e.Span.In∧e.Span.In < e.Span.Out∧e.Span.Out≤5184000
 rows:e.Rows.length≤4
 runs:∀ r ∈ e.Rows,r.Runs.length≤16
theorem evCheck_tot (e:T_api_Event) (h:EvZ e) (l:List T_api_Region) (hl:l.length≤1048576):∃ v,g_event_Check e l=some v∧(v=0→EvOK e):=by
 unfold g_event_Check
 obtain⟨f,hf⟩:=regFind_tot l (by omega) e.Region
 obtain⟨kn,hk⟩:=kind_tot e.Kind
 rw[hf,spans_eq,hk,lines_Name_eq]
 simp only[Option.bind_some]
 by_cases a1:e.ID < 1
 ·exact⟨2,by simp[a1],by simp⟩
 by_cases a2:1099511627776 < e.ID
 ·exact⟨2,by simp[a1,a2],by simp⟩
 cases a3:spB e.Span with
 | false=>exact⟨2,by simp[a1,a2],by simp⟩
 | true =>
  simp only[a1,a2,decide_false,Bool.false_eq_true,if_false,Option.bind_some,Bool.not_true]
  cases f.2 with
  | false=>exact⟨6,rfl,by simp⟩
  | true =>
   simp only[if_true]
   by_cases a4:kn=[]
   ·exact⟨3,by simp[a4],by simp⟩
   rw[if_neg (by simpa using a4)]
   obtain⟨b,hb⟩:∃ b:Bool,(if(e.Speaker == ([]:List UInt8))=true then(some false) else(some (!isNm e.Speaker)):Option Bool)=some b:=by split<;>exact⟨_,rfl⟩
   rw[hb]
   simp only[Option.bind_some]
   cases b with
   | true=>exact⟨5,rfl,by simp⟩
   | false =>
    simp only[Bool.false_eq_true,if_false]
    by_cases a5:e.Rows.length=0
    ·exact⟨9,by simp[a5],by simp⟩
    by_cases a6:4 < (e.Rows.length:Int)
    ·exact⟨9,by simp[a5,a6],by simp⟩
    rw[if_neg (by simpa using a5)]
    simp only[a6,decide_false,Option.bind_some,Bool.false_eq_true,if_false]
    have hrows:e.Rows.length≤4:=by omega
    obtain⟨x,hx,hxp⟩:=iter_cnt (step:=g_event_Check_s1 e) e.Rows.length (by omega) (fun i=>∀ j (hj:j < e.Rows.length),j < i→e.Rows[j].Runs.length≤16) (fun x=>(∀ v,x=.inl v→v≠0)∧(x=.inr ()→∀ j (hj:j < e.Rows.length),e.Rows[j].Runs.length≤16)) (fun j _ h=>by omega) (fun i hi hI=>by
     unfold g_event_Check_s1
     rw[if_pos (by simpa using hi),atI_nat hi,wr64 (x:=(i:Int)+1) (by omega)]
     simp only[Option.bind_some]
     obtain⟨v,hv,hv0⟩:=row_tot e.Rows[i] (h.2 _ (List.getElem_mem hi)).1
     rw[hv]
     simp only[Option.bind_some]
     by_cases q:v=0
     ·rw[if_neg (by simpa using q)]
      exact .inl ⟨rfl,fun j hj hji=>by
       rcases Nat.lt_succ_iff_lt_or_eq.1 hji with h1|h1
       ·exact hI j hj h1
       ·subst h1;exact hv0 q⟩
     ·rw[if_pos (by simpa using q)]
      exact .inr ⟨_,rfl,fun w hw=>by cases hw;exact q,by simp⟩) (fun hI=>by
     unfold g_event_Check_s1
     exact⟨_,by rw[if_neg (by simp)],by simp,fun _ j hj=>hI j hj hj⟩)
    rw[hx]
    simp only[Option.bind_some]
    have hok:(x=.inr ())→EvOK e:=fun hx1=>⟨by omega,by unfold spB at a3;simp at a3;omega,hrows,fun r hr=>by
     obtain⟨j,hj,rfl⟩:=List.getElem_of_mem hr
     exact hxp.2 hx1 j hj⟩
    cases x with
    | inl v =>
     exact⟨v,rfl,fun hv=>absurd hv (hxp.1 v rfl)⟩
    | inr u =>
     obtain⟨ls,hls,hlen⟩:=lens_tot e h
     obtain⟨pl,hpl⟩:=place_tot f.1 ls hlen
     simp only[hls,hpl,Option.bind_some]
     exact⟨_,rfl,fun _=>hok rfl⟩
theorem cmp_eq (x y:Int):g_cmp_Compare_int64 x y=some (if x < y then -1 else if y < x then 1 else 0):=by
 unfold g_cmp_Compare_int64 g_cmp_isNaN_int64
 simp only[bne_self_eq_false,Option.bind_some,Bool.false_eq_true,if_false]
 by_cases h1:x < y<;>by_cases h2:y < x<;>simp[h1,h2]
theorem or_loop (L:List Int) (hL:L.length≤1000):iter (g_cmp_Or_int_s1 L) 0=some (runF (fun(_:Unit) (y:Int)=>if y≠0 then .inl (.inl y:Int ⊕ Unit) else .inr ()) (fun _=>(.inr ():Int ⊕ Unit)) () L):=by
 have hst:∀ (i:Nat) (hi:i < L.length),g_cmp_Or_int_s1 L (i:Int)=if(L[i] != 0)=true then some (.out (.inl L[i])) else some (.go ((i:Int)+1)):=fun i hi=>by
  unfold g_cmp_Or_int_s1
  rw[if_pos (by simpa using hi),atI_nat hi,wr64 (x:=(i:Int)+1) (by omega)]
  simp only[Option.bind_some]
 refine iter_run (step:=g_cmp_Or_int_s1 L) L (by omega) (fun i (_:Unit)=>i) (fun _ y=>if y≠0 then .inl (.inl y) else .inr ()) (fun _=>(.inr ():Int ⊕ Unit)) (fun _ _=>True) (s0:=()) trivial
  (fun i hi s _=>?_) (fun s _=>by unfold g_cmp_Or_int_s1;rw[if_neg (by simp)])
 rw[hst i hi]
 by_cases q:L[i]=0
 ·exact .inr ⟨(),by simp[q],by simp[q],trivial⟩
 ·exact .inl ⟨.inl L[i],by simp[q],by simp[q]⟩
theorem or2_eq (a b:Int):g_cmp_Or_int [a,b]=some (if a≠0 then a else b):=by
 unfold g_cmp_Or_int
 rw[or_loop _ (by simp)]
 by_cases ha:a=0<;>by_cases hb:b=0<;>simp[runF,ha,hb]
def ltE (a b:T_api_Event):Bool:=decide (a.Span.In < b.Span.In)||(decide (a.Span.In=b.Span.In)&&decide (a.ID < b.ID))
theorem less_eq (a b:T_api_Event):g_event_Less a b=some (ltE a b):=by
 unfold g_event_Less ltE
 rw[cmp_eq,cmp_eq]
 simp only[Option.bind_some,or2_eq]
 congr 1
 by_cases h1:a.Span.In < b.Span.In
 ·simp[h1]
 ·by_cases h2:b.Span.In < a.Span.In
  ·have:¬ a.Span.In=b.Span.In:=by omega
   simp[h1,h2,this]
  ·have:a.Span.In=b.Span.In:=by omega
   by_cases h3:a.ID < b.ID
   ·simp[h1,h2,this,h3]
   ·by_cases h4:b.ID < a.ID<;>simp[h1,h2,this,h3,h4]
theorem evLen_tot (e:T_api_Event) (h:EvZ e):∃ v,g_event_Len e=some v:=by
 unfold g_event_Len
 obtain⟨l,hl,hlen⟩:=lens_tot e h
 rw[hl]
 simp only[Option.bind_some]
 generalize (if 0 > (IntKind.i64.wrap ((e.Rows.length:Int) - 1)) then 0 else(IntKind.i64.wrap ((e.Rows.length:Int) - 1)))=c0
 obtain⟨x,he,_⟩:=iter_post (step:=g_event_Len_s1 l) (fun x=>0≤x.2∧x.2≤(l.length:Int)) (fun x=>l.length - x.2.toNat) (fun _=>True) (x:=(c0,0)) ⟨by simp,by simp⟩ (by dsimp only;omega) (by
  rintro⟨s,i⟩ ⟨q1,q2⟩
  dsimp only at q1 q2
  obtain⟨i,rfl⟩:=Int.eq_ofNat_of_zero_le q1
  unfold g_event_Len_s1
  dsimp only
  by_cases hi:i < l.length
  ·rw[if_pos (by simpa using hi),atI_nat hi,wr64 (x:=(i:Int)+1) (by omega)]
   simp only[Option.bind_some]
   split
   ·exact .inr ⟨_,rfl,trivial⟩
   ·exact .inl ⟨_,rfl,⟨by dsimp only;omega,by dsimp only;omega⟩,by dsimp only;omega⟩
  ·right
   rw[if_neg (by simpa using hi)]
   exact⟨_,rfl,trivial⟩)
 rw[he]
 cases x<;>exact⟨_,rfl⟩
structure DocZ (d:T_api_Document):Prop where
 title:d.Title.length≤1048576
 rate:0≤d.Rate∧d.Rate≤255
 regs:d.Regions.length≤1048576
 evs:d.Events.length≤1048576
 ev:∀ e ∈ d.Events,EvZ e
 coms:d.Comments.length≤1048576
 com:∀ c ∈ d.Comments,c.Text.length≤1048576
structure MapZ (n:Nat) (m:MI Int):Prop where
 len:m.ks.length=m.vs.length
 val:∀ v ∈ m.vs,0≤v∧v < (n:Int)
theorem lookV_mem:∀ (ks vs:List Int) (c z:Int),ks.length=vs.length→ks.contains c=true→lookV ks vs c z ∈ vs
 | [],_,c,z,_,h=>by simp at h
 | k::ks,[],c,z,h,_=>by simp at h
 | k::ks,v::vs,c,z,h,hc=>by
  unfold lookV
  by_cases q:k=c
  ·rw[if_pos q];simp
  ·rw[if_neg q]
   have:ks.contains c=true:=by
    simp only[List.contains_cons,Bool.or_eq_true,beq_iff_eq] at hc
    rcases hc with hc|hc
    ·exact absurd hc.symm q
    ·exact hc
   exact List.mem_cons_of_mem _ (lookV_mem ks vs c z (by simpa using h) this)
theorem anch_tot (d:T_api_Document) (hd:DocZ d) (c:T_api_Comment) (m:MI Int) (hm:MapZ d.Events.length m):∃ v,g_document_anchored d c m=some v:=by
 unfold g_document_anchored
 by_cases h1:c.Event < 1
 ·exact⟨2,by simp[h1]⟩
 by_cases h2:d.Last < c.Event
 ·exact⟨2,by simp[h1,h2]⟩
 rw[if_neg (by simpa using h1),if_neg (by simpa using h2)]
 cases c.Lost with
 | true =>
  simp only[if_true]
  by_cases h3:c.From=0<;>by_cases h4:c.To=0<;>simp[h3,h4]
 | false =>
  simp only[Bool.false_eq_true,if_false]
  cases h3:m.ks.contains c.Event with
  | false=>exact⟨6,by simp⟩
  | true =>
   simp only[if_true]
   have hv:=hm.val _ (lookV_mem m.ks m.vs c.Event 0 hm.len h3)
   generalize hk:lookV m.ks m.vs c.Event 0=k at hv
   obtain⟨k,rfl⟩:=Int.eq_ofNat_of_zero_le hv.1
   have hlt:k < d.Events.length:=by omega
   rw[atI_nat hlt]
   simp only[Option.bind_some]
   obtain⟨v,hv2⟩:=evLen_tot _ (hd.ev _ (List.getElem_mem hlt))
   rw[hv2]
   simp only[Option.bind_some]
   (repeat' split)<;>exact⟨_,rfl⟩
theorem coms_tot (d:T_api_Document) (hd:DocZ d) (m:MI Int) (hm:MapZ d.Events.length m):∃ v,g_document_comments d m=some v:=by
 unfold g_document_comments
 by_cases h:64 < (d.Comments.length:Int)
 ·exact⟨9,by simp[h]⟩
 ·rw[if_neg (by simpa using h)]
  obtain⟨e,he⟩:∃ e,iter (g_document_comments_s1 d m) 0=some e:=by
   refine iter_ends d.Comments.length (by omega) (fun i hi=>?_) ?_
   ·unfold g_document_comments_s1
    rw[if_pos (by simpa using hi),atI_nat hi,wr64 (x:=(i:Int)+1) (by omega)]
    simp only[Option.bind_some]
    obtain⟨v,hv⟩:=anch_tot d hd d.Comments[i] m hm
    rw[hv,lines_Name_eq,prog_Valid_eq _ (by have:=hd.com _ (List.getElem_mem hi);omega)]
    simp only[Option.bind_some]
    have hp:0 < (i:Int)→∃ w,atI d.Comments (IntKind.i64.wrap ((i:Int) - 1))=some w:=fun q=>by
     rw[wr64 (by omega),show((i:Int) - 1)=((i - 1:Nat):Int) by omega,atI_nat (show i - 1 < d.Comments.length by omega)]
     exact⟨_,rfl⟩
    generalize d.Comments[i]=cm at *
    generalize m.ks.contains cm.ID=b1
    generalize (v != 0)=b2
    generalize isNm cm.Author=b3
    generalize gv cm.Text=b4
    generalize (cm.Text == ([]:List UInt8))=b5
    generalize decide (400 < (cm.Text.length:Int))=b6
    generalize decide (cm.ID < 1)=b7
    generalize decide (d.Last < cm.ID)=b8
    cases b7
    case true=>exact .inr ⟨_,rfl⟩
    cases b8
    case true=>exact .inr ⟨_,rfl⟩
    simp only[Bool.false_eq_true,if_false]
    by_cases q:0 < (i:Int)
    ·obtain⟨w,hw⟩:=hp q
     rw[if_pos (by simpa using q),hw]
     simp only[Option.bind_some]
     generalize decide (cm.ID≤w.ID)=b9
     cases b9<;>cases b1<;>cases b2<;>cases b3<;>cases b4<;>cases b5<;>cases b6<;>first|exact .inr ⟨_,rfl⟩|exact .inl rfl
    ·rw[if_neg (by simpa using q)]
     cases b1<;>cases b2<;>cases b3<;>cases b4<;>cases b5<;>cases b6<;>first|exact .inr ⟨_,rfl⟩|exact .inl rfl
   ·unfold g_document_comments_s1
    exact⟨_,by rw[if_neg (by simp)]⟩
  rw[he]
  cases e<;>exact⟨_,rfl⟩
theorem putK_new:∀ (ks:List Int) (n:Int),ks.contains n=false→putK ks n=ks++[n]
 | [],n,_=>rfl
 | k::ks,n,h=>by
  simp only[List.contains_cons,Bool.or_eq_false_iff,beq_eq_false_iff_ne,ne_eq] at h
  unfold putK
  rw[if_neg (fun e=>h.1 e.symm),putK_new ks n h.2]
  rfl
theorem putV_new:∀ (ks vs:List Int) (n y:Int),ks.contains n=false→ks.length=vs.length→putV ks vs n y=vs++[y]
 | [],[],n,y,_,_=>rfl
 | [],v::vs,n,y,_,h=>by simp at h
 | k::ks,[],n,y,_,h=>by simp at h
 | k::ks,v::vs,n,y,h,hl=>by
  simp only[List.contains_cons,Bool.or_eq_false_iff,beq_eq_false_iff_ne,ne_eq] at h
  unfold putV
  rw[if_neg (fun e=>h.1 e.symm),putV_new ks vs n y h.2 (by simpa using hl)]
  rfl
structure DocOK (d:T_api_Document):Prop where
 num:d.Events.length≤400
 ev:∀ e ∈ d.Events,EvOK e
 ids:(d.Events.map (·.ID)).Nodup
 ord:∀ i (h:i+1 < d.Events.length),ltE d.Events[i] d.Events[i+1]=true
structure ChI (d:T_api_Document) (i:Nat) (ks vs:List Int):Prop where
 kq:ks=(d.Events.take i).map (·.ID)
 nd:ks.Nodup
 len:vs.length=i
 val:∀ v ∈ vs,0≤v∧v < (d.Events.length:Int)
 ev:∀ j (h:j < d.Events.length),j < i→EvOK d.Events[j]
 ord:∀ j (h:j+1 < d.Events.length),j+1 < i→ltE d.Events[j] d.Events[j+1]=true
theorem check_loop (d:T_api_Document) (hd:DocZ d):∃ e,iter (g_document_Check_s1 d) (0,[],[])=some e∧(∀ v,e=.inl v→v≠0)∧(∀ ks vs,e=.inr (ks,vs)→ChI d d.Events.length ks vs):=by
 refine iter_post (step:=g_document_Check_s1 d) (fun x=>∃ i:Nat,x.1=i∧i≤d.Events.length∧ChI d i x.2.1 x.2.2) (fun x=>d.Events.length - x.1.toNat) (fun e=>(∀ v,e=.inl v→v≠0)∧(∀ ks vs,e=.inr (ks,vs)→ChI d d.Events.length ks vs)) (x:=(0,[],[])) ⟨0,rfl,by omega,⟨by simp,by simp,rfl,by simp,fun _ _ h=>by omega,fun _ _ h=>by omega⟩⟩ (by have:=hd.evs;dsimp only;omega) ?_
 rintro⟨x,ks,vs⟩ ⟨i,h1,hi,hI⟩
 dsimp only at h1 hI
 subst h1
 have hn:=hd.evs
 unfold g_document_Check_s1
 dsimp only
 by_cases hlt:i < d.Events.length
 ·rw[if_pos (by simpa using hlt),atI_nat hlt,wr64 (x:=(i:Int)+1) (by omega)]
  simp only[Option.bind_some]
  obtain⟨v,hv,hv0⟩:=evCheck_tot _ (hd.ev _ (List.getElem_mem hlt)) d.Regions hd.regs
  rw[hv]
  simp only[Option.bind_some]
  by_cases q:v=0
  ·rw[if_neg (by simpa using q)]
   by_cases q1:d.Last < d.Events[i].ID
   ·right
    rw[if_pos (by simpa using q1)]
    exact⟨_,rfl,fun w hw=>by cases hw;decide,fun _ _ hw=>by cases hw⟩
   ·rw[if_neg (by simpa using q1)]
    have next:ks.contains d.Events[i].ID=false→(0 < i→ltE (d.Events[i - 1]'(by omega)) d.Events[i]=true)→ChI d (i+1) (putK ks d.Events[i].ID) (putV ks vs d.Events[i].ID (i:Int)):=by
     intro hc ho
     rw[putK_new _ _ hc,putV_new _ _ _ _ hc (by rw[hI.kq,hI.len];simp;omega)]
     refine⟨?_,?_,?_,?_,?_,?_⟩
     ·rw[hI.kq,List.take_succ_eq_append_getElem hlt,List.map_append];rfl
     ·rw[List.nodup_append]
      refine⟨hI.nd,by simp,fun a ha b hb=>?_⟩
      simp only[List.mem_singleton] at hb
      subst hb
      intro e
      subst e
      have:ks.contains d.Events[i].ID=true:=List.contains_iff_mem.2 ha
      rw[hc] at this;cases this
     ·simp[hI.len]
     ·intro v hv
      rcases List.mem_append.1 hv with hv|hv
      ·exact hI.val v hv
      ·simp only[List.mem_singleton] at hv;subst hv;omega
     ·intro j hj hji
      rcases Nat.lt_succ_iff_lt_or_eq.1 hji with h2|h2
      ·exact hI.ev j hj h2
      ·subst h2;exact hv0 q
     ·intro j hj hji
      rcases Nat.lt_succ_iff_lt_or_eq.1 hji with h2|h2
      ·exact hI.ord j hj h2
      ·have:=ho (by omega)
       obtain rfl:i=j+1:=h2.symm
       exact this
    by_cases q2:0 < (i:Int)
    ·rw[if_pos (by simpa using q2),wr64 (by omega),show((i:Int) - 1)=((i - 1:Nat):Int) by omega,atI_nat (show i - 1 < d.Events.length by omega)]
     simp only[Option.bind_some,less_eq]
     cases q3:ltE (d.Events[i - 1]'(by omega)) d.Events[i] with
     | false=>exact .inr ⟨_,rfl,fun w hw=>by cases hw;decide,fun _ _ hw=>by cases hw⟩
     | true =>
      simp only[if_true]
      cases q4:ks.contains d.Events[i].ID with
      | true=>exact .inr ⟨_,rfl,fun w hw=>by cases hw;decide,fun _ _ hw=>by cases hw⟩
      | false=>exact .inl ⟨_,rfl,⟨i+1,by simp,by omega,next q4 (fun _=>q3)⟩,by dsimp only;omega⟩
    ·rw[if_neg (by simpa using q2)]
     cases q4:ks.contains d.Events[i].ID with
     | true=>exact .inr ⟨_,rfl,fun w hw=>by cases hw;decide,fun _ _ hw=>by cases hw⟩
     | false=>exact .inl ⟨_,rfl,⟨i+1,by simp,by omega,next q4 (fun h=>by omega)⟩,by dsimp only;omega⟩
  ·right
   rw[if_pos (by simpa using q)]
   exact⟨_,rfl,fun w hw=>by cases hw;exact q,fun _ _ hw=>by cases hw⟩
 ·obtain rfl:i=d.Events.length:=by omega
  right
  rw[if_neg (by simp)]
  exact⟨_,rfl,fun w hw=>(by cases hw),fun ks' vs' hw=>(by cases hw;exact hI)⟩
theorem docCheck (d:T_api_Document) (hd:DocZ d):∃ v,g_document_Check d=some v∧(v=0→DocOK d):=by
 unfold g_document_Check
 obtain⟨v1,h1⟩:=header_tot d hd.title hd.rate.1 hd.rate.2
 obtain⟨v2,h2⟩:=regList_tot d.Regions
 obtain⟨e,he,h3,h4⟩:=check_loop d hd
 rw[h1,h2,he]
 simp only[Option.bind_some]
 split
 ·rename_i q;exact⟨_,rfl,fun e=>by simp[e] at q⟩
 ·split
  ·rename_i q;exact⟨_,rfl,fun e=>by simp[e] at q⟩
  ·split
   ·exact⟨_,rfl,by simp⟩
   ·rename_i q
    cases e with
    | inl v=>exact⟨_,rfl,fun e=>absurd e (h3 v rfl)⟩
    | inr p =>
     obtain⟨ks,vs⟩:=p
     have hc:=h4 ks vs rfl
     obtain⟨v,hv⟩:=coms_tot d hd ⟨ks,vs⟩ ⟨by rw[hc.kq,hc.len];simp,hc.val⟩
     simp only[hv,Option.bind_some]
     refine⟨_,rfl,fun _=>⟨by simp at q;omega,fun e he=>?_,?_,fun i h=>hc.ord i h h⟩⟩
     ·obtain⟨j,hj,rfl⟩:=List.getElem_of_mem he
      exact hc.ev j hj hj
     ·have:=hc.nd
      rw[hc.kq,List.take_length] at this
      exact this
structure Ed where
 i:Nat
 j:Nat
 c:Int
inductive Wlk (p:Ed→Prop):Nat→Nat→List Ed→Prop
 | nil (u:Nat):Wlk p u u []
 | cons {e:Ed} {v:Nat} {L:List Ed}:p e→Wlk p e.j v L→Wlk p e.i v (e::L)
theorem Wlk.nil_eq {p:Ed→Prop} {u v:Nat} (h:Wlk p u v []):u=v:=by
 cases h
 rfl
def sumE:List Ed→Int
 | []=>0
 | e::L=>e.c+sumE L
theorem sumE_app:∀ (x y:List Ed),sumE (x++y)=sumE x+sumE y
 | [],y=>by simp[sumE]
 | e::x,y=>by simp only[List.cons_append,sumE,sumE_app x y];omega
theorem Wlk.app {p:Ed→Prop} {u v w:Nat} {x y:List Ed} (h:Wlk p u v x) (k:Wlk p v w y):Wlk p u w (x++y):=by
 induction h with
 | nil=>exact k
 | cons h1 _ ih=>exact .cons h1 (ih k)
theorem Wlk.split {p:Ed→Prop} {u w:Nat}:∀ {x y:List Ed},Wlk p u w (x++y)→∃ v,Wlk p u v x∧Wlk p v w y
 | [],y,h=>⟨u,.nil u,h⟩
 | e::x,y,h=>by
  cases h with
  | cons h1 h2 =>
   obtain⟨v,a,b⟩:=Wlk.split (x:=x) h2
   exact⟨v,.cons h1 a,b⟩
theorem Wlk.mono {p q:Ed→Prop} {u v:Nat} {L:List Ed} (h:Wlk p u v L) (hpq:∀ e ∈ L,p e→q e):Wlk q u v L:=by
 induction h with
 | nil=>exact .nil _
 | cons h1 _ ih=>exact .cons (hpq _ (by simp) h1) (ih fun e he=>hpq e (by simp[he]))
theorem Wlk.mem {p:Ed→Prop} {u v:Nat} {L:List Ed} (h:Wlk p u v L):∀ e ∈ L,p e:=by
 induction h with
 | nil=>simp
 | cons h1 _ ih =>
  intro e he
  rcases List.mem_cons.1 he with rfl|he
  ·exact h1
  ·exact ih e he
def NoNeg (p:Ed→Prop):Prop:=∀ u L,Wlk p u u L→0≤sumE L
def In (p:Ed→Prop) (n:Nat):Prop:=∀ e,p e→e.i < n∧e.j < n
theorem nodup_le:∀ (n:Nat) (l:List Nat),l.Nodup→(∀ x ∈ l,x < n)→l.length≤n
 | 0,l,_,h=>by
  cases l with
  | nil=>simp
  | cons a l=>exact absurd (h a (by simp)) (by omega)
 | n+1,l,hd,h=>by
  by_cases hn:n ∈ l
  ·have h1:(l.erase n).length≤n:=nodup_le n (l.erase n) (hd.erase n) (fun x hx=>by
    have h2:=(hd.mem_erase_iff).1 hx
    have:=h x h2.2
    have:=h2.1
    omega)
   rw[List.length_erase_of_mem hn] at h1
   omega
  ·have:=nodup_le n l hd (fun x hx=>by
    have:=h x hx
    have:x≠n:=fun e=>hn (e ▸ hx)
    omega)
   omega
theorem dup_split:∀ (l:List Nat),¬ l.Nodup→∃ (a b c:List Nat) (x:Nat),l=a++x::(b++x::c)
 | [],h=>absurd List.nodup_nil h
 | y::l,h=>by
  by_cases hy:y ∈ l
  ·obtain⟨b,c,rfl⟩:=List.append_of_mem hy
   exact⟨[],b,c,y,rfl⟩
  ·have:¬ l.Nodup:=fun hn=>h (List.nodup_cons.2 ⟨hy,hn⟩)
   obtain⟨a,b,c,x,rfl⟩:=dup_split l this
   exact⟨y::a,b,c,x,rfl⟩
theorem cut_walk {p:Ed→Prop} {u v:Nat} {L:List Ed} (h:Wlk p u v L) (hd:¬ (L.map (·.i)).Nodup):∃ (x y z:List Ed) (m:Nat),L=x++y++z∧y≠[]∧Wlk p u m x∧Wlk p m m y∧Wlk p m v z∧z≠[]:=by
 obtain⟨a,b,c,m,e⟩:=dup_split _ hd
 obtain⟨x,r,rfl,hx,hr⟩:=List.map_eq_append_iff.1 e
 obtain⟨e1,r1,rfl,he1,hr1⟩:=List.map_eq_cons_iff.1 hr
 obtain⟨y,r2,rfl,hy,hr2⟩:=List.map_eq_append_iff.1 hr1
 obtain⟨e2,z,rfl,he2,hz⟩:=List.map_eq_cons_iff.1 hr2
 obtain⟨m1,w1,w2⟩:=Wlk.split h
 have h1:m1=m:=by
  cases w2 with
  | cons _ _=>exact he1
 subst h1
 rw[show e1::(y++e2::z)=(e1::y)++(e2::z) from rfl] at w2
 obtain⟨m2,w3,w4⟩:=Wlk.split w2
 have h2:m2=m1:=by
  cases w4 with
  | cons _ _=>exact he2
 subst h2
 exact⟨x,e1::y,e2::z,m2,by simp,by simp,w1,w3,w4,by simp⟩
theorem shorten1 {p:Ed→Prop} {n:Nat} (hn:NoNeg p) (hi:In p n) {u v:Nat} {L:List Ed} (hv:v < n) (h:Wlk p u v L):∃ L',Wlk p u v L'∧L'.length < n∧sumE L'≤sumE L:=by
 have key:∀ (k:Nat) {u:Nat} {L:List Ed},L.length≤k→Wlk p u v L→∃ L',Wlk p u v L'∧(L'.map (·.i)++[v]).Nodup∧sumE L'≤sumE L:=by
  intro k
  induction k with
  | zero =>
   intro u L hk h
   obtain rfl:L=[]:=List.eq_nil_of_length_eq_zero (by omega)
   exact⟨[],h,by simp,Int.le_refl _⟩
  | succ k ih =>
   intro u L hk h
   by_cases hd:(L.map (·.i)).Nodup
   ·by_cases hm:v ∈ L.map (·.i)
    ·obtain⟨e,he,hev⟩:=List.mem_map.1 hm
     obtain⟨x,y,rfl⟩:=List.append_of_mem he
     obtain⟨m,w1,w2⟩:=Wlk.split h
     have hmv:m=v:=by
      cases w2 with
      | cons _ _=>exact hev
     subst hmv
     obtain⟨L',a1,a2,a3⟩:=ih (L:=x) (by simp only[List.length_append,List.length_cons] at hk;omega) w1
     refine⟨L',a1,a2,Int.le_trans a3 ?_⟩
     have:=hn m _ w2
     rw[sumE_app]
     omega
    ·refine⟨L,h,?_,Int.le_refl _⟩
     rw[List.nodup_append]
     refine⟨hd,by simp,fun a ha b hb=>?_⟩
     simp only[List.mem_singleton] at hb
     subst hb
     exact fun e=>hm (e ▸ ha)
   ·obtain⟨x,y,z,m,rfl,hy,w1,w2,w3,_⟩:=cut_walk h hd
    have hyl:0 < y.length:=List.length_pos_iff.2 hy
    obtain⟨L',a1,a2,a3⟩:=ih (L:=x++z) (by simp only[List.length_append] at hk ⊢;omega) (w1.app w3)
    refine⟨L',a1,a2,Int.le_trans a3 ?_⟩
    have:=hn m y w2
    simp only[sumE_app]
    omega
 obtain⟨L',a1,a2,a3⟩:=key L.length (Nat.le_refl _) h
 refine⟨L',a1,?_,a3⟩
 have:=nodup_le n _ a2 (fun x hx=>by
  rcases List.mem_append.1 hx with hx|hx
  ·obtain⟨e,he,rfl⟩:=List.mem_map.1 hx
   exact(hi e (a1.mem e he)).1
  ·simp at hx;omega)
 simp at this
 omega
def low (x:List Int) (e:Ed):List Int:=if x.getD e.i 0+e.c < x.getD e.j 0 then x.set e.j (x.getD e.i 0+e.c) else x
def rnd (l:List Ed) (x:List Int):List Int:=l.foldl low x
theorem low_len (x:List Int) (e:Ed):(low x e).length=x.length:=by unfold low;split<;>simp
theorem rnd_len:∀ (l:List Ed) (x:List Int),(rnd l x).length=x.length
 | [],x=>rfl
 | e::l,x=>by
  show(rnd l (low x e)).length=_
  rw[rnd_len l,low_len]
theorem set_getD (x:List Int) (i v:Nat) (y:Int):(x.set i y).getD v 0=if i=v∧v < x.length then y else x.getD v 0:=by
 simp only[List.getD,List.getElem?_set]
 by_cases h:i=v
 ·subst h
  by_cases hv:i < x.length
  ·simp[hv]
  ·simp[hv]
 ·simp[h]
theorem low_le (x:List Int) (e:Ed) (v:Nat):(low x e).getD v 0≤x.getD v 0:=by
 unfold low
 split
 ·rw[set_getD]
  split
  ·rename_i h1 h2;rw[← h2.1];omega
  ·exact Int.le_refl _
 ·exact Int.le_refl _
theorem rnd_le:∀ (l:List Ed) (x:List Int) (v:Nat),(rnd l x).getD v 0≤x.getD v 0
 | [],x,v=>Int.le_refl _
 | e::l,x,v=>Int.le_trans (rnd_le l (low x e) v) (low_le x e v)
theorem rnd_edge:∀ (l:List Ed) (x:List Int),(∀ e ∈ l,e.j < x.length)→∀ e ∈ l,(rnd l x).getD e.j 0≤x.getD e.i 0+e.c
 | [],x,_,e,h=>by simp at h
 | e::l,x,hj,e',h=>by
  show(rnd l (low x e)).getD e'.j 0≤_
  rcases List.mem_cons.1 h with rfl|h
  ·refine Int.le_trans (rnd_le l _ _) ?_
   unfold low
   split
   ·rw[set_getD,if_pos ⟨rfl,hj _ (by simp)⟩];exact Int.le_refl _
   ·omega
  ·have h1:=rnd_edge l (low x e) (fun e2 he2=>by rw[low_len];exact hj e2 (by simp[he2])) e' h
   have h2:=low_le x e e'.i
   omega
def SumW (p:Ed→Prop) (n:Nat) (x:List Int):Prop:=∀ v,v < n→∃ u L,u < n∧Wlk p u v L∧sumE L=x.getD v 0
theorem Wlk.snoc {p:Ed→Prop} {u v:Nat} {L:List Ed} {e:Ed} (h:Wlk p u v L) (he:p e) (hv:v=e.i):Wlk p u e.j (L++[e]):=by
 subst hv
 exact h.app (.cons he (.nil _))
theorem low_sumW {p:Ed→Prop} {n:Nat} {x:List Int} {e:Ed} (h:SumW p n x) (hi:In p n) (he:p e):SumW p n (low x e):=by
 intro v hv
 unfold low
 split
 ·rw[set_getD]
  split
  ·rename_i h1 h2
   obtain⟨u,L,hu,w,s⟩:=h e.i (hi e he).1
   refine⟨u,L++[e],hu,?_,?_⟩
   ·rw[← h2.1];exact w.snoc he rfl
   ·rw[sumE_app,s];simp[sumE]
  ·exact h v hv
 ·exact h v hv
theorem rnd_sumW {p:Ed→Prop} {n:Nat} (hi:In p n):∀ (l:List Ed) {x:List Int},(∀ e ∈ l,p e)→SumW p n x→SumW p n (rnd l x)
 | [],x,_,h=>h
 | e::l,x,hl,h=>rnd_sumW hi l (fun e' he'=>hl e' (by simp[he'])) (low_sumW h hi (hl e (by simp)))
def rnds (l:List Ed) (x:List Int):Nat→List Int
 | 0=>x
 | k+1=>rnd l (rnds l x k)
theorem rnds_len (l:List Ed) (x:List Int):∀ k,(rnds l x k).length=x.length
 | 0=>rfl
 | k+1=>by show(rnd l _).length=_;rw[rnd_len,rnds_len l x k]
theorem rnds_walk {l:List Ed} {x:List Int} (hx:∀ v,x.getD v 0=0) (hj:∀ e ∈ l,e.j < x.length):∀ (k:Nat) {u v:Nat} {L:List Ed},L.length≤k→Wlk (· ∈ l) u v L→(rnds l x k).getD v 0≤sumE L:=by
 intro k
 induction k with
 | zero =>
  intro u v L hk h
  obtain rfl:L=[]:=List.eq_nil_of_length_eq_zero (by omega)
  show x.getD v 0≤0
  rw[hx];exact Int.le_refl _
 | succ k ih =>
  intro u v L hk h
  show(rnd l (rnds l x k)).getD v 0≤sumE L
  rcases List.eq_nil_or_concat L with rfl|⟨M,e,rfl⟩
  ·refine Int.le_trans (rnd_le l _ v) (ih (L:=[]) (by simp) h)
  ·rw[List.concat_eq_append] at h hk ⊢
   obtain⟨m,w1,w2⟩:=Wlk.split h
   cases w2 with
   | cons he w3 =>
    have hev:=w3.nil_eq
    subst hev
    have h1:=rnd_edge l (rnds l x k) (fun e he=>by rw[rnds_len];exact hj e he) e he
    have h2:=ih (L:=M) (by simp only[List.length_append,List.length_cons,List.length_nil] at hk;omega) w1
    rw[sumE_app]
    simp only[sumE]
    omega
theorem low_same {x:List Int} {e:Ed} (h:x.getD e.j 0≤x.getD e.i 0+e.c):low x e=x:=if_neg (by omega)
theorem rnd_same:∀ (l:List Ed) (x:List Int),(∀ e ∈ l,x.getD e.j 0≤x.getD e.i 0+e.c)→rnd l x=x
 | [],x,_=>rfl
 | e::l,x,h=>by
  show rnd l (low x e)=x
  rw[low_same (h e (by simp))]
  exact rnd_same l x fun e' he'=>h e' (by simp[he'])
theorem rnds_done {l:List Ed} {x:List Int} {n:Nat} (hx:∀ v,x.getD v 0=0) (hl:x.length=n) (hi:In (· ∈ l) n) (hn:NoNeg (· ∈ l)) (hn0:0 < n):∀ e ∈ l,(rnds l x (n - 1)).getD e.j 0≤(rnds l x (n - 1)).getD e.i 0+e.c:=by
 intro e he
 have hj:∀ e ∈ l,e.j < x.length:=fun e he=>by rw[hl];exact(hi e he).2
 have hs:∀ k,SumW (· ∈ l) n (rnds l x k):=by
  intro k
  induction k with
  | zero=>exact fun v hv=>⟨v,[],hv,.nil v,by show(0:Int)=x.getD v 0;rw[hx]⟩
  | succ k ih=>exact rnd_sumW hi l (fun _ h=>h) ih
 obtain⟨u,L,hu,w,s⟩:=hs (n - 1) e.i (hi e he).1
 obtain⟨L',a1,a2,a3⟩:=shorten1 hn hi (hi e he).2 (w.snoc he rfl)
 have:=rnds_walk hx hj (n - 1) (by omega) a1
 rw[sumE_app,s] at a3
 simp only[sumE] at a3
 omega
theorem noNeg_of {p:Ed→Prop} (x:Nat→Int) (h:∀ e,p e→x e.j≤x e.i+e.c):NoNeg p:=by
 have key:∀ u v L,Wlk p u v L→x v≤x u+sumE L:=by
  intro u v L hw
  induction hw with
  | nil=>simp[sumE]
  | cons h1 _ ih=>have:=h _ h1;simp only[sumE];omega
 intro u L hw
 have:=key u u L hw
 omega
theorem noNeg_rank {p:Ed→Prop} (r:Nat→Nat) (h:∀ e,p e→r e.i < r e.j):NoNeg p:=by
 have key:∀ u v L,Wlk p u v L→L≠[]→r u < r v:=by
  intro u v L hw
  induction hw with
  | nil=>intro h;exact absurd rfl h
  | @cons e v L h1 h2 ih =>
   intro _
   have:=h _ h1
   by_cases hL:L=[]
   ·subst hL
    have hev:=h2.nil_eq
    subst hev
    exact this
   ·have:=ih hL;omega
 intro u L hw
 by_cases hL:L=[]
 ·subst hL;exact Int.le_refl _
 ·have:=key u u L hw hL;omega
def far:Int:=1152921504606846976
def tlow (src dst:Ed→Nat) (old:List Int) (r:List Int) (e:Ed):List Int :=
 if old.getD (src e) 0≠far∧old.getD (src e) 0+e.c < r.getD (dst e) 0 then r.set (dst e) (old.getD (src e) 0+e.c) else r
def trow (src dst:Ed→Nat) (l:List Ed) (old:List Int) (n:Nat):List Int:=l.foldl (tlow src dst old) (List.replicate n far)
def RowS (R:Nat→Int→Prop) (n:Nat) (r:List Int):Prop:=r.length=n∧∀ v,v < n→(r.getD v 0≠far→R v (r.getD v 0))∧∀ c,R v c→r.getD v 0≤c
theorem tlow_len (src dst:Ed→Nat) (old r:List Int) (e:Ed):(tlow src dst old r e).length=r.length:=by unfold tlow;split<;>simp
theorem tlow_le (src dst:Ed→Nat) (old r:List Int) (e:Ed) (v:Nat):(tlow src dst old r e).getD v 0≤r.getD v 0:=by
 unfold tlow
 split
 ·rename_i h
  rw[set_getD]
  split
  ·rename_i h1;rw[← h1.1];omega
  ·exact Int.le_refl _
 ·exact Int.le_refl _
theorem tfold_le (src dst:Ed→Nat) (old:List Int):∀ (l:List Ed) (r:List Int) (v:Nat),(l.foldl (tlow src dst old) r).getD v 0≤r.getD v 0
 | [],_,_=>Int.le_refl _
 | e::l,r,v=>Int.le_trans (tfold_le src dst old l _ v) (tlow_le src dst old r e v)
theorem tfold_len (src dst:Ed→Nat) (old:List Int):∀ (l:List Ed) (r:List Int),(l.foldl (tlow src dst old) r).length=r.length
 | [],_=>rfl
 | e::l,r=>by rw[List.foldl_cons,tfold_len src dst old l,tlow_len]
theorem tfold_from (src dst:Ed→Nat) (old:List Int) (n:Nat):∀ (l:List Ed) (r:List Int),r.length=n→∀ v,v < n→(l.foldl (tlow src dst old) r).getD v 0=r.getD v 0∨∃ e ∈ l,dst e=v∧old.getD (src e) 0≠far∧(l.foldl (tlow src dst old) r).getD v 0=old.getD (src e) 0+e.c
 | [],_,_,_,_=>.inl rfl
 | e::l,r,hr,v,hv=>by
  rw[List.foldl_cons]
  rcases tfold_from src dst old n l (tlow src dst old r e) (by rw[tlow_len,hr]) v hv with h|⟨e',he',h⟩
  ·rw[h]
   unfold tlow
   split
   ·rename_i hc
    rw[set_getD]
    split
    ·rename_i h1;exact .inr ⟨e,by simp,h1.1,hc.1,rfl⟩
    ·exact .inl rfl
   ·exact .inl rfl
  ·exact .inr ⟨e',by simp[he'],h⟩
theorem tfold_edge (src dst:Ed→Nat) (old:List Int) (n:Nat):∀ (l:List Ed) (r:List Int),r.length=n→∀ e ∈ l,dst e < n→old.getD (src e) 0≠far→(l.foldl (tlow src dst old) r).getD (dst e) 0≤old.getD (src e) 0+e.c
 | [],_,_,e,h,_,_=>by simp at h
 | e'::l,r,hr,e,h,hd,ho=>by
  rw[List.foldl_cons]
  rcases List.mem_cons.1 h with rfl|h
  ·refine Int.le_trans (tfold_le src dst old l _ _) ?_
   unfold tlow
   split
   ·rw[set_getD,if_pos ⟨rfl,by omega⟩];exact Int.le_refl _
   ·rename_i hc
    have:¬ (old.getD (src e) 0+e.c < r.getD (dst e) 0):=fun q=>hc ⟨ho,q⟩
    omega
  ·exact tfold_edge src dst old n l _ (by rw[tlow_len,hr]) e h hd ho
theorem rep_getD {n v:Nat} (hv:v < n):(List.replicate n far).getD v 0=far:=by simp[List.getD,hv]
theorem trow_spec {src dst:Ed→Nat} {l:List Ed} {old:List Int} {n:Nat} {R R':Nat→Int→Prop} (hb:∀ v c,R v c→c < far) (hb':∀ v c,R' v c→c < far) (hi:∀ e ∈ l,src e < n∧dst e < n) (ho:RowS R n old)
  (hR:∀ v c,R' v c ↔ ∃ e ∈ l,dst e=v∧∃ c',R (src e) c'∧c=c'+e.c):RowS R' n (trow src dst l old n):=by
 refine⟨by unfold trow;rw[tfold_len];simp,fun v hv=>⟨fun hne=>?_,fun c hc=>?_⟩⟩
 ·rcases tfold_from src dst old n l (List.replicate n far) (by simp) v hv with h|⟨e,he,h1,h2,h3⟩
  ·exact absurd (h.trans (rep_getD hv)) hne
  ·refine(hR v _).2 ⟨e,he,h1,_,(ho.2 _ (hi e he).1).1 h2,h3⟩
 ·obtain⟨e,he,rfl,c',hc',rfl⟩:=(hR v c).1 hc
  have h1:=(ho.2 _ (hi e he).1).2 c' hc'
  have h2:=hb _ _ hc'
  have:=tfold_edge src dst old n l (List.replicate n far) (by simp) e he (hi e he).2 (by omega)
  show(l.foldl (tlow src dst old) (List.replicate n far)).getD _ 0≤_
  omega
def FW (l:List Ed) (s k v:Nat) (c:Int):Prop:=∃ L,Wlk (· ∈ l) s v L∧L.length=k∧sumE L=c
theorem sumE_bd {l:List Ed} (hc:∀ e ∈ l,-1099511627776≤e.c∧e.c≤1099511627776):∀ (L:List Ed),(∀ e ∈ L,e ∈ l)→-((L.length:Int) * 1099511627776)≤sumE L∧sumE L≤(L.length:Int) * 1099511627776
 | [],_=>by simp[sumE]
 | e::L,h=>by
  have h1:=sumE_bd hc L fun e he=>h e (by simp[he])
  have h2:=hc e (h e (by simp))
  simp only[sumE,List.length_cons,Int.natCast_add,Int.natCast_one,Int.add_mul]
  omega
theorem fw_bd {l:List Ed} (hc:∀ e ∈ l,-1099511627776≤e.c∧e.c≤1099511627776) {s k v:Nat} {c:Int} (h:FW l s k v c):-((k:Int) * 1099511627776)≤c∧c≤(k:Int) * 1099511627776:=by
 obtain⟨L,w,rfl,rfl⟩:=h
 exact sumE_bd hc L w.mem
theorem fw_0 {l:List Ed} {s v:Nat} {c:Int}:FW l s 0 v c ↔ v=s∧c=0:=by
 constructor
 ·rintro⟨L,w,h,rfl⟩
  obtain rfl:=List.eq_nil_of_length_eq_zero h
  exact⟨w.nil_eq.symm,rfl⟩
 ·rintro⟨rfl,rfl⟩
  exact⟨[],.nil _,rfl,rfl⟩
theorem fw_snoc {l:List Ed} {s k v:Nat} {c:Int}:FW l s (k+1) v c ↔ ∃ e ∈ l,e.j=v∧∃ c',FW l s k e.i c'∧c=c'+e.c:=by
 constructor
 ·rintro⟨L,w,h,rfl⟩
  rcases List.eq_nil_or_concat L with rfl|⟨M,e,rfl⟩
  ·simp at h
  ·rw[List.concat_eq_append] at w h ⊢
   obtain⟨m,w1,w2⟩:=Wlk.split w
   cases w2 with
   | cons he w3 =>
    refine⟨e,he,w3.nil_eq,_,⟨M,w1,by simpa using h,rfl⟩,?_⟩
    rw[sumE_app];simp[sumE]
 ·rintro⟨e,he,rfl,c',⟨M,w,h,rfl⟩,rfl⟩
  exact⟨M++[e],w.snoc he rfl,by simp[h],by rw[sumE_app];simp[sumE]⟩
theorem fw_cons {l:List Ed} {k u t:Nat} {c:Int}:FW l u (k+1) t c ↔ ∃ e ∈ l,e.i=u∧∃ c',FW l e.j k t c'∧c=c'+e.c:=by
 constructor
 ·rintro⟨L,w,h,rfl⟩
  cases w with
  | nil=>simp at h
  | @cons e _ M he w2=>exact⟨e,he,rfl,_,⟨M,w2,by simpa using h,rfl⟩,by simp only[sumE];omega⟩
 ·rintro⟨e,he,rfl,c',⟨M,w,h,rfl⟩,rfl⟩
  exact⟨e::M,.cons he w,by simp[h],by simp only[sumE];omega⟩
theorem row_0 {l:List Ed} {n s:Nat} (hs:s < n):RowS (fun v c=>FW l s 0 v c) n ((List.replicate n far).set s 0):=by
 refine⟨by simp,fun v hv=>⟨fun h=>?_,fun c hc=>?_⟩⟩
 ·rw[set_getD] at h ⊢
  by_cases hsv:s=v
  ·rw[if_pos ⟨hsv,by simpa using hv⟩];exact fw_0.2 ⟨hsv.symm,rfl⟩
  ·rw[if_neg (fun q=>hsv q.1),rep_getD hv] at h;exact absurd rfl h
 ·obtain⟨rfl,rfl⟩:=fw_0.1 hc
  rw[set_getD,if_pos ⟨rfl,by simpa using hv⟩]
  exact Int.le_refl _
theorem row_0b {l:List Ed} {n t:Nat} (ht:t < n):RowS (fun u c=>FW l u 0 t c) n ((List.replicate n far).set t 0):=by
 have h:=row_0 (l:=l) (n:=n) (s:=t) ht
 refine⟨h.1,fun v hv=>⟨fun q=>?_,fun c hc=>?_⟩⟩
 ·have:=fw_0.1 ((h.2 v hv).1 q)
  exact fw_0.2 ⟨this.1.symm,this.2⟩
 ·have:=fw_0.1 hc
  exact(h.2 v hv).2 c (fw_0.2 ⟨this.1.symm,this.2⟩)
section
variable {l:List Ed} {n:Nat} (hc:∀ e ∈ l,-1099511627776≤e.c∧e.c≤1099511627776) (hi:In (· ∈ l) n)
include hc hi
theorem row_f {s k:Nat} {old:List Int} (hk:k≤1000000) (h:RowS (fun v c=>FW l s k v c) n old):RowS (fun v c=>FW l s (k+1) v c) n (trow (·.i) (·.j) l old n):=by
 refine trow_spec (fun v c q=>?_) (fun v c q=>?_) (fun e he=>hi e he) h (fun v c=>fw_snoc)
 ·have:=fw_bd hc q;unfold far;omega
 ·have:=fw_bd hc q;unfold far;omega
theorem row_b {t k:Nat} {old:List Int} (hk:k≤1000000) (h:RowS (fun u c=>FW l u k t c) n old):RowS (fun u c=>FW l u (k+1) t c) n (trow (·.j) (·.i) l old n):=by
 refine trow_spec (fun v c q=>?_) (fun v c q=>?_) (fun e he=>⟨(hi e he).2,(hi e he).1⟩) h (fun v c=>fw_cons)
 ·have:=fw_bd hc q;unfold far;omega
 ·have:=fw_bd hc q;unfold far;omega
end
def Cyc (p:Ed→Prop) (k:Nat):Prop:=∃ u L,Wlk p u u L∧L.length=k∧sumE L < 0
def Least (p:Ed→Prop) (k:Nat):Prop:=∀ k',k' < k→¬ Cyc p k'
theorem cyc_simple {p:Ed→Prop} {u:Nat} {L:List Ed} (hl:Least p L.length) (w:Wlk p u u L) (hs:sumE L < 0):(L.map (·.i)).Nodup:=by
 refine Classical.byContradiction fun hd=>?_
 obtain⟨x,y,z,m,rfl,hy,w1,w2,w3,hz⟩:=cut_walk w hd
 have hyl:0 < y.length:=List.length_pos_iff.2 hy
 have hzl:0 < z.length:=List.length_pos_iff.2 hz
 simp only[sumE_app] at hs
 by_cases h:sumE y < 0
 ·exact hl y.length (by simp only[List.length_append];omega) ⟨m,y,w2,rfl,h⟩
 ·exact hl (x++z).length (by simp only[List.length_append];omega) ⟨u,x++z,w1.app w3,rfl,by rw[sumE_app];omega⟩
theorem cyc_of {p:Ed→Prop} {n:Nat} (hi:In p n) (hn:¬ NoNeg p):∃ k,0 < k∧k≤n∧Cyc p k∧Least p k:=by
 have h1:∃ k,Cyc p k:=by
  refine Classical.byContradiction fun h=>hn fun u L w=>?_
  refine Classical.byContradiction fun hs=>h ⟨L.length,u,L,w,rfl,by omega⟩
 have hmin:∀ k,Cyc p k→∃ m,Cyc p m∧Least p m:=by
  intro k
  induction k using Nat.strongRecOn with
  | ind k ih =>
   intro hk
   by_cases hl:Least p k
   ·exact⟨k,hk,hl⟩
   ·have:∃ k',k' < k∧Cyc p k':=by
     refine Classical.byContradiction fun q=>hl fun k' hk' hc=>q ⟨k',hk',hc⟩
    obtain⟨k',hk',hc⟩:=this
    exact ih k' hk' hc
 obtain⟨k,hk⟩:=h1
 obtain⟨m,⟨u,L,w,rfl,hs⟩,hl⟩:=hmin k hk
 have hd:=cyc_simple hl w hs
 have hle:=nodup_le n _ hd (fun x hx=>by
  obtain⟨e,he,rfl⟩:=List.mem_map.1 hx
  exact(hi e (w.mem e he)).1)
 refine⟨L.length,?_,by simpa using hle,⟨u,L,w,rfl,hs⟩,hl⟩
 rcases Nat.eq_zero_or_pos L.length with h|h
 ·obtain rfl:=List.eq_nil_of_length_eq_zero h
  simp[sumE] at hs
 ·exact h
theorem Wlk.head {p:Ed→Prop} {u v:Nat} {L:List Ed} (h:Wlk p u v L):(L.map (·.i)++[v]).head? = some u:=by
 cases h<;>rfl
theorem drop_one {p:Ed→Prop} {u:Nat} {x y:List Ed} {e:Ed} (w:Wlk p u u (x++e::y)) (hd:((x++e::y).map (·.i)).Nodup):NoNeg (· ∈ x++y):=by
 obtain⟨m,w1,w2⟩:=Wlk.split w
 have hm:m=e.i:=by
  cases w2 with
  | cons _ _=>rfl
 cases w2 with
 | cons he w3 =>
 -- the walk from behind e round to e
 have w4:Wlk p e.j e.i (y++x):=by rw[← hm];exact w3.app (hm ▸ w1)
 have hd2:(((y++x).map (·.i))++[e.i]).Nodup:=by
  refine(List.Perm.nodup_iff ?_).1 hd
  simp only[List.map_append,List.map_cons]
  refine(List.perm_append_comm).trans ?_
  simp only[List.cons_append]
  refine(List.perm_append_singleton _ _).symm.trans (List.Perm.append ?_ (List.Perm.refl _))
  exact List.Perm.refl _
 -- the place in this walk is a rank
 refine noNeg_rank (fun v=>((y++x).map (·.i)++[e.i]).idxOf v) (fun f hf=>?_)
 have hf':f ∈ y++x:=by
  rcases List.mem_append.1 hf with h|h
  ·exact List.mem_append.2 (.inr h)
  ·exact List.mem_append.2 (.inl h)
 obtain⟨a,b,hab⟩:=List.append_of_mem hf'
 rw[hab] at w4 hd2 ⊢
 obtain⟨m2,w5,w6⟩:=Wlk.split w4
 cases w6 with
 | cons hf2 w7 =>
 -- what comes behind f begins at f.j
 have hj:(b.map (·.i)++[e.i]).head? = some f.j:=w7.head
 simp only[List.map_append,List.map_cons,List.append_assoc,List.cons_append] at hd2 ⊢
 obtain⟨c,hcj⟩:∃ c,b.map (·.i)++[e.i]=f.j::c:=by
  cases hb:b.map (·.i)++[e.i] with
  | nil=>rw[hb] at hj;cases hj
  | cons g c=>rw[hb] at hj;simp at hj;subst hj;exact⟨c,rfl⟩
 rw[hcj] at hd2 ⊢
 rw[List.nodup_append] at hd2
 obtain⟨_,n2,n3⟩:=hd2
 have hfa:f.i ∉ a.map (·.i):=fun q=>n3 _ q f.i (by simp) rfl
 have hja:f.j ∉ a.map (·.i):=fun q=>n3 _ q f.j (by simp) rfl
 have hfj:f.i≠f.j:=fun q=>by
  rw[List.nodup_cons] at n2
  exact n2.1 (by rw[q];simp)
 have i1:(a.map (·.i)++f.i::f.j::c).idxOf f.i=(a.map (·.i)).length:=by
  rw[List.idxOf_append,if_neg hfa,List.idxOf_cons_self]
  simp
 have i2:(a.map (·.i)++f.i::f.j::c).idxOf f.j=(a.map (·.i)).length+1:=by
  rw[List.idxOf_append,if_neg hja,List.idxOf_cons,show(f.i == f.j)=false by simpa using hfj,List.idxOf_cons_self]
  simp
  omega
 rw[i1,i2]
 omega
def ed (b:T_api_Bound):Ed:=⟨b.I.toNat,b.J.toNat,b.C⟩
def eds (l:List T_api_Bound):List Ed:=l.map ed
structure BdsOK (n:Nat) (l:List T_api_Bound):Prop where
 n1:1≤n
 n2:n≤512
 len:l.length≤4000
 bd:∀ b ∈ l,0≤b.I∧b.I < (n:Int)∧0≤b.J∧b.J < (n:Int)∧-1099511627776≤b.C∧b.C≤1099511627776
theorem BdsOK.inn {n:Nat} {l:List T_api_Bound} (h:BdsOK n l):In (· ∈ eds l) n:=by
 intro e he
 obtain⟨b,hb,rfl⟩:=List.mem_map.1 he
 have:=h.bd b hb
 simp only[ed]
 omega
theorem BdsOK.cc {n:Nat} {l:List T_api_Bound} (h:BdsOK n l):∀ e ∈ eds l,-1099511627776≤e.c∧e.c≤1099511627776:=by
 intro e he
 obtain⟨b,hb,rfl⟩:=List.mem_map.1 he
 have:=h.bd b hb
 simp only[ed]
 omega
theorem atI_getD {x:List Int} {k:Int} (h0:0≤k) (h1:k < (x.length:Int)):atI x k=some (x.getD k.toNat 0):=by
 obtain⟨k,rfl⟩:=Int.eq_ofNat_of_zero_le h0
 rw[atI_nat (show k < x.length by omega)]
 simp[List.getD,show k < x.length by omega]
theorem setI_nat {α:Type} {l:List α} {n:Nat} (x:α) (h:n < l.length):setI l (n:Int) x=some (l.set n x):=by
 unfold setI
 rw[if_pos (by omega)]
 rfl
theorem setI_toNat {α:Type} {l:List α} {k:Int} (x:α) (h0:0≤k) (h1:k < (l.length:Int)):setI l k x=some (l.set k.toNat x):=by
 obtain⟨k,rfl⟩:=Int.eq_ofNat_of_zero_le h0
 exact setI_nat x (by omega)
theorem runF_inr {S α E:Type} (F:S→α→S) (fin:S→E):∀ (L:List α) (s:S),runF (fun s a=>.inr (F s a)) fin s L=fin (L.foldl F s)
 | [],s=>rfl
 | a::L,s=>by simp only[runF,List.foldl_cons];exact runF_inr F fin L _
def heed (x:List Int) (e:Ed):Prop:=x.getD e.j 0≤x.getD e.i 0+e.c
def Bd (n:Nat) (K:Int) (x:List Int):Prop:=x.length=n∧∀ v,v < n→-(K * 1099511627776)≤x.getD v 0∧x.getD v 0≤0
def chF (s:Bool × List Int) (b:T_api_Bound):Bool × List Int:=if s.2.getD (ed b).i 0+(ed b).c < s.2.getD (ed b).j 0 then(true,s.2.set (ed b).j (s.2.getD (ed b).i 0+(ed b).c)) else s
theorem chF_snd (s:Bool × List Int) (b:T_api_Bound):(chF s b).2=low s.2 (ed b):=by unfold chF low;split<;>rfl
theorem chF_fold:∀ (l:List T_api_Bound) (s:Bool × List Int),(l.foldl chF s).2=rnd (eds l) s.2
 | [],s=>rfl
 | b::l,s=>by
  rw[List.foldl_cons,chF_fold l]
  show rnd (eds l) (chF s b).2=rnd (eds l) (low s.2 (ed b))
  rw[chF_snd]
theorem chF_true:∀ (l:List T_api_Bound) (x:List Int),(l.foldl chF (true,x)).1=true
 | [],_=>rfl
 | b::l,x=>by
  rw[List.foldl_cons]
  rw[show chF (true,x) b=(true,(chF (true,x) b).2) from by unfold chF;split<;>rfl]
  exact chF_true l _
theorem chF_false:∀ (l:List T_api_Bound) (x:List Int),(l.foldl chF (false,x)).1=false ↔ ∀ e ∈ eds l,heed x e
 | [],x=>by simp[eds]
 | b::l,x=>by
  rw[List.foldl_cons]
  by_cases h:x.getD (ed b).i 0+(ed b).c < x.getD (ed b).j 0
  ·have h1:chF (false,x) b=(true,x.set (ed b).j (x.getD (ed b).i 0+(ed b).c)):=by unfold chF;rw[if_pos h]
   rw[h1,chF_true]
   constructor
   ·intro q;cases q
   ·intro q
    have:=q (ed b) (by simp[eds])
    unfold heed at this
    omega
  ·have h1:chF (false,x) b=(false,x):=by unfold chF;rw[if_neg h]
   rw[h1,chF_false l x]
   constructor
   ·intro q e he
    rcases List.mem_cons.1 he with rfl|he
    ·unfold heed;omega
    ·exact q e he
   ·intro q e he
    exact q e (List.mem_cons_of_mem _ he)
theorem low_bd {n:Nat} {l:List T_api_Bound} (hl:BdsOK n l) {b:T_api_Bound} (hb:b ∈ l) {K:Int} {x:List Int} (h:Bd n K x):Bd n (K+1) (low x (ed b)):=by
 refine⟨by rw[low_len];exact h.1,fun v hv=>?_⟩
 have hq:=hl.bd b hb
 have h1:=h.2 v hv
 unfold low
 split
 ·rename_i hlt
  rw[set_getD]
  split
  ·rename_i hvj
   have h2:=h.2 (ed b).i (by simp only[ed];omega)
   have h3:=h.2 (ed b).j (by simp only[ed];omega)
   have h4:(ed b).c=b.C:=rfl
   omega
  ·omega
 ·omega
theorem round_eq {n:Nat} {l:List T_api_Bound} (hl:BdsOK n l) {K:Int} (hK:K≤3000000) {x:List Int} (hx:Bd n K x):iter (g_diffcon_relax_w_s2 l) (false,0,x)=some ((l.foldl chF (false,x)).2,(l.foldl chF (false,x)).1):=by
 have hn:=hl.n2
 have hlen:=hl.len
 have:=iter_run (step:=g_diffcon_relax_w_s2 l) l (by omega) (fun i (s:Bool × List Int)=>(s.1,i,s.2)) (fun s b=>.inr (chF s b)) (fun s=>(s.2,s.1)) (fun i s=>Bd n (K+i) s.2) (s0:=(false,x)) (by simpa using hx)
  (fun i hi s hs=>.inr ⟨_,rfl,by
   have hb:=hl.bd _ (List.getElem_mem hi)
   unfold g_diffcon_relax_w_s2
   rw[if_pos (by simpa using hi),atI_nat hi,wr64 (x:=(i:Int)+1) (by omega)]
   simp only[Option.bind_some]
   generalize l[i]=b at hb
   have hs1:=hs.1
   have h1:=hs.2 b.I.toNat (by omega)
   have h2:=hs.2 b.J.toNat (by omega)
   rw[atI_getD hb.1 (by omega),atI_getD hb.2.2.1 (by omega)]
   simp only[Option.bind_some]
   rw[if_pos (by rw[bne_iff_ne];omega),wr64 (x:=s.2.getD b.I.toNat 0+b.C) (by omega)]
   by_cases q:s.2.getD b.I.toNat 0+b.C < s.2.getD b.J.toNat 0
   ·have e1:chF s b=(true,s.2.set b.J.toNat (s.2.getD b.I.toNat 0+b.C)):=by unfold chF ed;rw[if_pos q]
    simp only[q,decide_true,Option.bind_some,if_true]
    rw[setI_toNat _ hb.2.2.1 (by omega),e1]
    rfl
   ·have e1:chF s b=s:=by unfold chF ed;rw[if_neg q]
    simp only[q,decide_false,Option.bind_some,Bool.false_eq_true,if_false]
    rw[e1],by
   rw[chF_snd]
   have:=low_bd hl (List.getElem_mem hi) hs
   rw[show K+((i+1:Nat):Int)=K+(i:Int)+1 by omega]
   exact this⟩)
  (fun s hs=>by unfold g_diffcon_relax_w_s2;rw[if_neg (by simp)])
 rw[runF_inr] at this
 exact this
theorem fold_bd {n:Nat} {l:List T_api_Bound} (hl:BdsOK n l) {K:Int} {x:List Int} (hx:Bd n K x):Bd n (K+4000) (rnd (eds l) x):=by
 have key:∀ (t:List T_api_Bound) (K:Int) (x:List Int),(∀ b ∈ t,b ∈ l)→Bd n K x→Bd n (K+t.length) (rnd (eds t) x):=by
  intro t
  induction t with
  | nil=>intro K x _ h;simpa[eds,rnd] using h
  | cons b t ih =>
   intro K x ht h
   have:=ih (K+1) (low x (ed b)) (fun c hc=>ht c (by simp[hc])) (low_bd hl (ht b (by simp)) h)
   show Bd n _ (rnd (eds t) (low x (ed b)))
   rw[show K+((b::t).length:Int)=K+1+(t.length:Int) by simp;omega]
   exact this
 have h1:=key l K x (fun _ h=>h) hx
 refine⟨h1.1,fun v hv=>?_⟩
 have:=h1.2 v hv
 have:=hl.len
 have h2:(K+(l.length:Int)) * 1099511627776≤(K+4000) * 1099511627776:=by omega
 omega
def x0 (n:Nat):List Int:=List.replicate n 0
theorem x0_0 (n v:Nat):(x0 n).getD v 0=0:=by
 unfold x0
 by_cases h:v < n<;>simp[List.getD,h]
theorem rnds_bd {n:Nat} {l:List T_api_Bound} (hl:BdsOK n l):∀ k:Nat,Bd n ((k:Int) * 4000) (rnds (eds l) (x0 n) k)
 | 0=>⟨by simp[rnds,x0],fun v hv=>by rw[show rnds (eds l) (x0 n) 0=x0 n from rfl,x0_0];omega⟩
 | k+1=>by
  have:=fold_bd hl (rnds_bd hl k)
  rw[show((k+1:Nat):Int) * 4000=(k:Int) * 4000+4000 by omega]
  exact this
theorem rnds_stay {l:List Ed} {x:List Int} {k:Nat} (h:∀ e ∈ l,heed (rnds l x k) e):∀ m,rnds l x (k+m)=rnds l x k
 | 0=>rfl
 | m+1=>by
  show rnd l (rnds l x (k+m))=_
  rw[rnds_stay h m]
  exact rnd_same l _ h
def sol (n:Nat) (l:List T_api_Bound):List Int:=rnds (eds l) (x0 n) (n - 1)
theorem sol_heed {n:Nat} {l:List T_api_Bound} (hl:BdsOK n l) (hn:NoNeg (· ∈ eds l)):∀ e ∈ eds l,heed (sol n l) e :=
 rnds_done (x0_0 n) (by simp[x0]) hl.inn hn hl.n1
theorem relax_eq {n:Nat} {l:List T_api_Bound} (hl:BdsOK n l):∃ r,g_diffcon_relax l (x0 n)=some r∧((NoNeg (· ∈ eds l)∧r=(true,sol n l))∨(¬ NoNeg (· ∈ eds l)∧r.1=false)):=by
 have hn:=hl.n2
 have hn1:=hl.n1
 have hx0:(x0 n).length=n:=by simp[x0]
 obtain⟨e,he,hp⟩:=iter_post (step:=g_diffcon_relax_w_s1 l (x0 n)) (fun x=>∃ i:Nat,x.1=i∧i≤n+1∧x.2=rnds (eds l) (x0 n) i∧∀ k,k < i→¬ ∀ e ∈ eds l,heed (rnds (eds l) (x0 n) k) e) (fun x=>n+1 - x.1.toNat)
  (fun e=>e.elim (fun x=>∃ k,k≤n∧x=rnds (eds l) (x0 n) k∧(∀ e ∈ eds l,heed (rnds (eds l) (x0 n) k) e)∧∀ j,j < k→¬ ∀ e ∈ eds l,heed (rnds (eds l) (x0 n) j) e) (fun x=>x.length=n∧∀ k,k < n+1→¬ ∀ e ∈ eds l,heed (rnds (eds l) (x0 n) k) e))
  (x:=(0,x0 n)) ⟨0,rfl,by omega,rfl,fun k h=>by omega⟩ (by dsimp only;omega) (by
   rintro⟨x,y⟩ ⟨i,h1,h2,h3,h4⟩
   dsimp only at h1 h3
   subst h1 h3
   unfold g_diffcon_relax_w_s1
   dsimp only
   rw[hx0,wr64 (x:=(n:Int)+1) (by omega)]
   by_cases q:i < n+1
   ·rw[if_pos (by simp;omega),round_eq hl (by omega) (rnds_bd hl i),wr64 (x:=(i:Int)+1) (by omega)]
    simp only[Option.bind_some]
    cases hc:(l.foldl chF (false,rnds (eds l) (x0 n) i)).1 with
    | true =>
     left
     simp only[if_true]
     refine⟨_,rfl,⟨i+1,by simp,by omega,?_,fun k hk=>?_⟩,by dsimp only;omega⟩
     ·dsimp only;rw[chF_fold];rfl
     ·rcases Nat.lt_succ_iff_lt_or_eq.1 hk with hk|rfl
      ·exact h4 k hk
      ·intro hh
       rw[(chF_false l _).2 hh] at hc
       cases hc
    | false =>
     right
     simp only[Bool.false_eq_true,if_false]
     have hh:=(chF_false l _).1 hc
     refine⟨_,rfl,i,by omega,?_,hh,h4⟩
     rw[chF_fold]
     exact rnd_same _ _ hh
   ·right
    rw[if_neg (by simp;omega)]
    obtain rfl:i=n+1:=by omega
    exact⟨_,rfl,by rw[rnds_len];exact hx0,h4⟩)
 have hw:g_diffcon_relax_w l (x0 n)=some (e.elim (fun x=>(true,x)) (fun x=>(false,x))):=by
  unfold g_diffcon_relax_w
  rw[he]
  cases e<;>rfl
 cases e with
 | inl x =>
  obtain⟨k,hk,rfl,hh,hf⟩:=hp
  have hnn:NoNeg (· ∈ eds l):=noNeg_of (fun v=>(rnds (eds l) (x0 n) k).getD v 0) hh
  have hkn:k≤n - 1:=by
   by_cases q:n - 1 < k
   ·exact absurd (sol_heed hl hnn) (hf (n - 1) q)
   ·omega
  have hs:rnds (eds l) (x0 n) k=sol n l:=by
   have:=rnds_stay hh (n - 1 - k)
   rw[show k+(n - 1 - k)=n - 1 by omega] at this
   exact this.symm
  refine⟨(true,sol n l),?_,.inl ⟨hnn,rfl⟩⟩
  unfold g_diffcon_relax
  rw[hw]
  simp only[Option.bind_some]
  exact(if_pos (show(rnds (eds l) (x0 n) k).length=(x0 n).length from rnds_len _ _ _)).trans (by rw[hs];rfl)
 | inr x =>
  refine⟨(false,x),?_,.inr ⟨fun hnn=>?_,rfl⟩⟩
  ·unfold g_diffcon_relax
   rw[hw]
   simp only[Option.bind_some]
   exact if_pos (show x.length=(x0 n).length by rw[hx0];exact hp.1)
  ·exact hp.2 (n - 1) (by omega) (sol_heed hl hnn)
theorem letters_tot (e:T_api_Event) (hz:EvZ e) (hr:∀ r ∈ e.Rows,r.Runs.length≤16):∃ c,g_repair_letters e=some c:=by
 obtain⟨x,he,_⟩:=iter_post (step:=g_repair_letters_s1 e) (fun x=>0≤x.2∧x.2≤(e.Rows.length:Int)) (fun x=>e.Rows.length - x.2.toNat) (fun _=>True) (x:=(0,0)) ⟨by simp,by simp⟩ (by have:=hz.1;dsimp only;omega) (by
  rintro⟨c,i⟩ ⟨q1,q2⟩
  dsimp only at q1 q2
  obtain⟨i,rfl⟩:=Int.eq_ofNat_of_zero_le q1
  have hn:=hz.1
  unfold g_repair_letters_s1
  dsimp only
  by_cases hi:i < e.Rows.length
  ·have hm:=List.getElem_mem hi
   rw[if_pos (by simpa using hi),atI_nat hi,wr64 (x:=(i:Int)+1) (by omega)]
   simp only[Option.bind_some]
   obtain⟨s,hs,hsl⟩:=plain_tot _ (hz.2 _ hm).1 (hr _ hm)
   rw[hs]
   simp only[Option.bind_some]
   obtain⟨y,hy,_⟩:=iter_post (step:=g_repair_letters_s2 s) (fun x=>True) (fun x=>s.length - x.2) (fun _=>True) (x:=(c,0)) trivial (by dsimp only;omega) (by
    rintro⟨c',p⟩ _
    unfold g_repair_letters_s2
    dsimp only
    by_cases hp:p < s.length
    ·have hw:=wd_pos hp
     rw[if_pos (by simpa using hp)]
     split
     ·exact .inl ⟨_,rfl,trivial,by dsimp only;omega⟩
     ·exact .inl ⟨_,rfl,trivial,by dsimp only;omega⟩
    ·right
     rw[if_neg (by simpa using hp)]
     exact⟨_,rfl,trivial⟩)
   rw[hy]
   exact .inl ⟨_,rfl,⟨by dsimp only;omega,by dsimp only;omega⟩,by dsimp only;omega⟩
  ·right
   rw[if_neg (by simpa using hi)]
   exact⟨_,rfl,trivial⟩)
 unfold g_repair_letters
 rw[he]
 exact⟨_,rfl⟩
def letS (e:T_api_Event):Int:=(g_repair_letters e).getD 0
theorem letS_eq (e:T_api_Event) (hz:EvZ e) (hr:∀ r ∈ e.Rows,r.Runs.length≤16):g_repair_letters e=some (letS e):=by
 obtain⟨c,h⟩:=letters_tot e hz hr
 unfold letS;rw[h];rfl
theorem needS_bd (r c l:Int) (h0:0≤r) (h1:r≤255):0≤(needS r c l).1∧(needS r c l).1≤120000000000:=by
 unfold needS
 split
 ·rename_i hv
  split
  ·rename_i hw
   have hw':wiB c 0 10000=true∧wiB l 1 10000=true:=by simpa using hw
   have hc:=wiB_t hw'.1
   have hl:=wiB_t hw'.2
   obtain⟨_,_,_,ht⟩:=rates r h0 h1
   obtain⟨_,t1,t2⟩:=ht hv
   have hm:=mul_small 10000 hl.1 hl.2 t1 t2 (by omega)
   generalize l * rtT r=b at hm
   have hle:upQ (c * 12000000) b≤120000000000:=(upQ_le (by omega) (by omega)).2 (by
    have:120000000000 * 1≤120000000000 * b:=Int.mul_le_mul_of_nonneg_left hm.1 (by omega)
    omega)
   refine⟨?_,hle⟩
   show 0≤upQ (c * 12000000) b
   unfold upQ
   exact Int.tdiv_nonneg (by omega) (by omega)
  ·simp
 ·simp
def bsA (d:T_api_Document) (p:T_api_Profile) (i:Int) (x:T_api_Event):List T_api_Bound :=
 [⟨2 * i+2,2 * i+1,-(needS d.Rate (letS x) p.Reading).1,1,x.ID,0⟩,⟨2 * i+2,2 * i+1,-p.MinFrames,2,x.ID,0⟩,⟨2 * i+1,2 * i+2,p.MaxFrames,3,x.ID,0⟩]
def bsZ (v:Int) (z:T_api_Span) (id:Int):List T_api_Bound:=[⟨v,0,-z.In,6,id,0⟩,⟨0,v,z.Out - 1,6,id,0⟩]
def bsT (v f tol id:Int):List T_api_Bound:=[⟨v,0,-(f - tol),11,id,0⟩,⟨0,v,f+tol,11,id,0⟩]
def bsG (p:T_api_Profile) (i id:Int):Option T_api_Event→List T_api_Bound
 | some y=>[⟨2 * i+3,2 * i+2,-p.MinGap,4,id,y.ID⟩]
 | none=>[]
def bsE (d:T_api_Document) (p:T_api_Profile) (l:List Int) (tol:Int) (i:Nat) (x:T_api_Event):Int ⊕ List T_api_Bound :=
 if(zoS l x.Span.In p).2≠0 then .inl (zoS l x.Span.In p).2 else if(zoS l x.Span.Out p).2≠0 then .inl (zoS l x.Span.Out p).2 else
  .inr (bsA d p i x++(bsZ (2 * i+1) (zoS l x.Span.In p).1 x.ID++bsZ (2 * i+2) (zoS l x.Span.Out p).1 x.ID)++(bsT (2 * i+1) x.Span.In tol x.ID++bsT (2 * i+2) x.Span.Out tol x.ID)++bsG p i x.ID d.Events[i+1]?)
theorem zoS_bd (l:List Int) (hl:l.length≤1000) (f:Int) (p:T_api_Profile):(zoS l f p).2=0→0≤(zoS l f p).1.In∧(zoS l f p).1.In≤5184000∧1≤(zoS l f p).1.Out∧(zoS l f p).1.Out≤5184001:=by
 obtain⟨_,h⟩:=snS_eq l hl f p.ShotBefore p.ShotAfter
 unfold zoS
 cases hs:(snS l f p.ShotBefore p.ShotAfter).2 with
 | false=>intro q;cases q
 | true =>
  intro _
  have:=zoR_in p (h hs) l
  simp only[if_true]
  have:=h hs
  omega
theorem win_eq (out:List T_api_Bound) (ho:out.length≤1000000) (v lo hi rule id:Int) (h:-9000000≤lo∧lo≤9000000):g_repair_window out v lo hi rule id=some (out++[⟨v,0,-lo,rule,id,0⟩,⟨0,v,hi,rule,id,0⟩]):=by
 unfold g_repair_window
 rw[if_pos (by omega),wr64 (x:=0 - lo) (by omega),Int.zero_sub]
theorem bs2_eq (p:T_api_Profile) (l:List Int) (hl:l.length≤1000) (out0:List T_api_Bound) (i:Nat) (hi:i≤1000) (y:T_api_Event) (out:List T_api_Bound) (ho:out.length≤900000) :
  iter (g_repair_Bounds_s2 p l (out0,(i:Int)) y) (0,out)=some (if(zoS l y.Span.In p).2≠0 then .inl (zoS l y.Span.In p).2 else if(zoS l y.Span.Out p).2≠0 then .inl (zoS l y.Span.Out p).2 else .inr (out++bsZ (2 * i+1) (zoS l y.Span.In p).1 y.ID++bsZ (2 * i+2) (zoS l y.Span.Out p).1 y.ID)):=by
 have hst:∀ (k:Nat) (f:Int) (s:List T_api_Bound),(k=0∧f=y.Span.In∨k=1∧f=y.Span.Out)→s.length≤999999→g_repair_Bounds_s2 p l (out0,(i:Int)) y ((k:Int),s)=if(zoS l f p).2≠0 then some (.out (.inl (zoS l f p).2)) else some (.go ((k:Int)+1,s++bsZ (2 * i+1+k) (zoS l f p).1 y.ID)):=by
  intro k f s hk hs
  have hsel:((if(k:Int) == 0 then(some (y.Span.In,0)) else(if(k:Int) == 1 then(some (y.Span.Out,1)) else none)):Option (Int × Int))=some (f,(k:Int)):=by
   rcases hk with⟨rfl,rfl⟩|⟨rfl,rfl⟩<;>rfl
  unfold g_repair_Bounds_s2
  dsimp only
  rw[if_pos (by rw[decide_eq_true_eq];omega),hsel]
  simp only[Option.bind_some]
  rw[zone_eq l hl]
  simp only[Option.bind_some]
  by_cases q:(zoS l f p).2=0
  ·have hb:=zoS_bd l hl f p q
   rw[if_neg (by rw[bne_iff_ne];exact fun h=>h q),if_neg (fun h=>h q),win_eq _ (by omega) _ _ _ _ _ (by omega)]
   simp only[Option.bind_some]
   rw[wr64 (x:=2 * (i:Int)) (by omega),wr64 (x:=2 * (i:Int)+1) (by omega),wr64 (x:=2 * (i:Int)+1+(k:Int)) (by omega),wr64 (x:=(zoS l f p).1.Out - 1) (by omega),wr64 (x:=(k:Int)+1) (by omega)]
   rfl
  ·rw[if_pos (by rw[bne_iff_ne];exact q),if_pos q]
 have hend:∀ s,g_repair_Bounds_s2 p l (out0,(i:Int)) y (2,s)=some (.out (.inr s)):=fun s=>by unfold g_repair_Bounds_s2;rw[if_neg (by simp)]
 refine iter_of (fun x e=>(x=(0,out)∧e=(if(zoS l y.Span.In p).2≠0 then .inl (zoS l y.Span.In p).2 else if(zoS l y.Span.Out p).2≠0 then .inl (zoS l y.Span.Out p).2 else .inr (out++bsZ (2 * i+1) (zoS l y.Span.In p).1 y.ID++bsZ (2 * i+2) (zoS l y.Span.Out p).1 y.ID)))∨(x=(1,out++bsZ (2 * i+1) (zoS l y.Span.In p).1 y.ID)∧e=(if(zoS l y.Span.Out p).2≠0 then .inl (zoS l y.Span.Out p).2 else .inr (out++bsZ (2 * i+1) (zoS l y.Span.In p).1 y.ID++bsZ (2 * i+2) (zoS l y.Span.Out p).1 y.ID)))∨(x=(2,out++bsZ (2 * i+1) (zoS l y.Span.In p).1 y.ID++bsZ (2 * i+2) (zoS l y.Span.Out p).1 y.ID)∧e=.inr (out++bsZ (2 * i+1) (zoS l y.Span.In p).1 y.ID++bsZ (2 * i+2) (zoS l y.Span.Out p).1 y.ID))) (fun x=>2 - x.1.toNat) ?_ (x:=(0,out)) (.inl ⟨rfl,rfl⟩) (by dsimp only;omega)
 rintro x e (⟨rfl,rfl⟩|⟨rfl,rfl⟩|⟨rfl,rfl⟩)
 ·have h:=hst 0 y.Span.In out (.inl ⟨rfl,rfl⟩) (by omega)
  rw[show(((0:Nat):Int),out)=((0:Int),out) from rfl] at h
  rw[h]
  by_cases q:(zoS l y.Span.In p).2=0
  ·rw[if_neg (fun h=>h q),if_neg (fun h=>h q)]
   exact .inl ⟨_,rfl,.inr (.inl ⟨by simp,rfl⟩),by simp⟩
  ·rw[if_pos q,if_pos q];exact .inr rfl
 ·have h:=hst 1 y.Span.Out (out++bsZ (2 * i+1) (zoS l y.Span.In p).1 y.ID) (.inr ⟨rfl,rfl⟩) (by simp[bsZ];omega)
  rw[show(((1:Nat):Int),out++bsZ (2 * i+1) (zoS l y.Span.In p).1 y.ID)=((1:Int),out++bsZ (2 * i+1) (zoS l y.Span.In p).1 y.ID) from rfl] at h
  rw[h]
  by_cases q:(zoS l y.Span.Out p).2=0
  ·rw[if_neg (fun h=>h q),if_neg (fun h=>h q)]
   exact .inl ⟨_,rfl,.inr (.inr ⟨by rw[show(2 * (i:Int)+1+((1:Nat):Int))=2 * (i:Int)+2 by omega];rfl,rfl⟩),by simp⟩
  ·rw[if_pos q,if_pos q];exact .inr rfl
 ·exact .inr (hend _)
theorem bs3_eq (tol:Int) (ht:0≤tol∧tol≤5184000) (out0:List T_api_Bound) (i:Nat) (hi:i≤1000) (y:T_api_Event) (hy:EvOK y) (out:List T_api_Bound) (ho:out.length≤900000) :
  iter (g_repair_Bounds_s3 tol (out0,(i:Int)) y) (0,out)=some (out++bsT (2 * i+1) y.Span.In tol y.ID++bsT (2 * i+2) y.Span.Out tol y.ID):=by
 have hsp:=hy.span
 have hst:∀ (k:Nat) (f:Int) (s:List T_api_Bound),(k=0∧f=y.Span.In∨k=1∧f=y.Span.Out)→s.length≤999999→g_repair_Bounds_s3 tol (out0,(i:Int)) y ((k:Int),s)=some (.go ((k:Int)+1,s++bsT (2 * i+1+k) f tol y.ID)):=by
  intro k f s hk hs
  have hf:0≤f∧f≤5184000:=by rcases hk with⟨_,rfl⟩|⟨_,rfl⟩<;>omega
  have hsel:((if(k:Int) == 0 then(some (y.Span.In,0)) else(if(k:Int) == 1 then(some (y.Span.Out,1)) else none)):Option (Int × Int))=some (f,(k:Int)):=by
   rcases hk with⟨rfl,rfl⟩|⟨rfl,rfl⟩<;>rfl
  unfold g_repair_Bounds_s3
  dsimp only
  rw[if_pos (by rw[decide_eq_true_eq];omega),hsel]
  simp only[Option.bind_some]
  rw[wr64 (x:=f - tol) (by omega),wr64 (x:=f+tol) (by omega),win_eq _ (by omega) _ _ _ _ _ (by omega)]
  simp only[Option.bind_some]
  rw[wr64 (x:=2 * (i:Int)) (by omega),wr64 (x:=2 * (i:Int)+1) (by omega),wr64 (x:=2 * (i:Int)+1+(k:Int)) (by omega),wr64 (x:=(k:Int)+1) (by omega)]
  rfl
 have hend:∀ s,g_repair_Bounds_s3 tol (out0,(i:Int)) y (2,s)=some (.out s):=fun s=>by unfold g_repair_Bounds_s3;rw[if_neg (by simp)]
 refine iter_of (fun x e=>e=out++bsT (2 * i+1) y.Span.In tol y.ID++bsT (2 * i+2) y.Span.Out tol y.ID∧(x=(0,out)∨x=(1,out++bsT (2 * i+1) y.Span.In tol y.ID)∨x=(2,out++bsT (2 * i+1) y.Span.In tol y.ID++bsT (2 * i+2) y.Span.Out tol y.ID))) (fun x=>2 - x.1.toNat) ?_ (x:=(0,out)) ⟨rfl,.inl rfl⟩ (by dsimp only;omega)
 rintro x e ⟨rfl,rfl|rfl|rfl⟩
 ·have h:=hst 0 y.Span.In out (.inl ⟨rfl,rfl⟩) (by omega)
  exact .inl ⟨_,h,⟨rfl,.inr (.inl (by simp))⟩,by simp⟩
 ·have h:=hst 1 y.Span.Out (out++bsT (2 * i+1) y.Span.In tol y.ID) (.inr ⟨rfl,rfl⟩) (by simp[bsT];omega)
  exact .inl ⟨_,h,⟨rfl,.inr (.inr (by rw[show(2 * (i:Int)+1+((1:Nat):Int))=2 * (i:Int)+2 by omega];rfl))⟩,by simp⟩
 ·exact .inr (hend _)
end Go.Proofs.YtobglplholhkcaaGreatDoor
