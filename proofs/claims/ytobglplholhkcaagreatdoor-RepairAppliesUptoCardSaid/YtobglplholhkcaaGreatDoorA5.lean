/- Texts of one proof, put together (GCl, GSm, ED, EE, EF, EG, EI, V1). No condition but those that each theorem states. -/
import Derived.Test.YtobglplholhkcaaGreatDoorA4
import Derived.Lib.Walk
import Derived.Lib.SliceRun
import Derived.Lib.ValidLaws
set_option linter.unusedSimpArgs false
set_option linter.unusedVariables false
namespace Go.Proofs.YtobglplholhkcaaGreatDoor
open Go.RowKit
set_option maxRecDepth 100000
set_option maxHeartbeats 4000000
theorem sl_cells {w:World} {C:Cx} {v:Value} {xs:List D} {k:Nat} (h:Rep w C v (.sl xs)) (hne:xs≠[]) (hk:∀ x ∈ xs,x.cells.length=k) :
  ∃ b off c vals,v=.slice (some ⟨b,off,none⟩) xs.length c∧vals.length=xs.length * k∧(∀ u ∈ vals,u.oneCell'=true)∧(∀ j u,vals[j]? = some u→w.cell? ((⟨b,off,none⟩:Addr).add j)=some u)∧RepL (cF C.F) w vals (xs.flatMap D.cells)∧xs.length≤maxLen:=by
 cases h with
 | sl0 A c hm=>exact absurd rfl hne
 | sl b off k' c _ vals hc hm hk' hlv hone hF hcell hrep =>
  refine⟨b,off,c,vals,rfl,?_,hone,fun j u hj=>?_,⟨hlv,hone,hrep⟩,Nat.le_trans hc hm⟩
  ·rw[hlv]
   have:∀ (l:List D),(∀ x ∈ l,x.cells.length=k)→(l.flatMap D.cells).length=l.length * k:=by
    intro l
    induction l with
    | nil=>intro _;simp
    | cons x l ih=>intro hl;rw[List.flatMap_cons,List.length_append,hl x (by simp),ih (fun y hy=>hl y (by simp[hy])),List.length_cons,Nat.succ_mul];omega
   exact this xs hk
  ·rw[Addr.add_lit];exact hcell j u hj
theorem info_Region:(Tryz.prog.info? 102).map (fun i=>(i.zero,i.size,i.bytes))=some (some (Value.agg #[Value.string ⟨#[]⟩,Value.int .i64 0,Value.int .i64 0,Value.int .i64 0,Value.int .i64 0,Value.int .u8 0,Value.bool false]),7,56):=by kernel_rfl
theorem run_Clone_Region (ad:Addr) (n c:Nat) (vals:List Value) (w:World) (hl:vals.length=n * 7) (hone:∀ u ∈ vals,u.oneCell'=true) (hcell:∀ j u,vals[j]? = some u→w.cell? (ad.add j)=some u) (hn:n≤maxLen) (hbig:n * 56≤140737488355328) :
  Calls Tryz.prog 63 #[.slice (some ad) n c] w fun e w'=>∃ v',e=.returned v'∧w'.ownsRow w.heap.size 102 7 v' n vals∧Below w.heap.size w w':=by
 obtain⟨i0,hi,hz0,hz1,hz2⟩:=info_parts info_Region
 have tS:Tryz.prog.underlying 33=some (.slice 102):=Tryz.underlying33
 have qS:∀ (w:World) (a:Option Addr) (n c n' c':Nat),(binOp .eql 33 (.slice a n c) (.slice none n' c')).run Tryz.prog w=.ok (.bool a.isNone) w:=fun w a n c n' c'=>Lib.run_eql_slice_nil w _ _ a n c n' c' tS
 have uS:∀ w,Sem.run Tryz.prog (underlying 33) w=.ok (TypeDesc.slice 102) w:=run_underlying tS
 have A1:Aside (∀ j u,vals[j]? = some u→w.cell? (ad.add j)=some u):=hcell
 have A2:Aside (∀ u ∈ vals,u.oneCell'=true):=hone
 have A3:Aside (vals.length=n * 7):=hl
 clear hcell hone hl
 go_enter Tryz.func63,Tryz.ntmps63
 go_wp2_with (at_builtin;refine wpList_append_own _ rfl _ _ 33 rfl w.heap.size 102 i0 (Value.agg #[Value.string ⟨#[]⟩,Value.int .i64 0,Value.int .i64 0,Value.int .i64 0,Value.int .i64 0,Value.int .u8 0,Value.bool false]) 7 56 tS hi hz0 hz1 hz2 rfl (by decide) _ _ _ rfl (World.ownsRow_made w #[] 0 (Nat.le_refl _) (Nat.zero_le _) rfl) ad n c vals rfl A3.out ?qc2 A2.out (by omega) (by omega) (by simp) ?_)
 case qc2 =>
  intro j u hj
  exact Lib.cell?_alloc_some _ (A1.out j u hj)
 intro v' w1 hown hgrow hnil
 go_wp2
 go_ret
 exact⟨v',rfl,by simpa using hown,((Below.refl _ w).alloc (Nat.le_refl _) _).grown hgrow (by simp) (by intro k hk;simp[Value.ownBlock] at hk;omega)⟩
theorem run_Clone0_Region (n c:Nat) (w:World):Calls Tryz.prog 63 #[.slice none n c] w fun e w'=>e=.returned (.slice none 0 0)∧w'=w:=by
 have tS:Tryz.prog.underlying 33=some (.slice 102):=Tryz.underlying33
 have qS:∀ (w:World) (a:Option Addr) (n c n' c':Nat),(binOp .eql 33 (.slice a n c) (.slice none n' c')).run Tryz.prog w=.ok (.bool a.isNone) w:=fun w a n c n' c'=>Lib.run_eql_slice_nil w _ _ a n c n' c' tS
 go_enter Tryz.func63,Tryz.ntmps63
 go_wp2
 go_ret
 exact⟨rfl,rfl⟩
def g_slices_Clone_api_Region_api_Region (s:List T_api_Region):Option (List T_api_Region):=if s.length * 56≤140737488355328 then some s else none
def g_slices_Clone_api_Region_api_Region_nw (s:List T_api_Region):Option (List T_api_Region):=if s.isEmpty then none else g_slices_Clone_api_Region_api_Region s
theorem a_slices_Clone_api_Region_api_Region_nw {I:World→Prop} (hI:Stab I) {H:Nat→Option Blk} {nid:Nat} {s r:List T_api_Region} (h:g_slices_Clone_api_Region_api_Region_nw s=some r):CallOK Tryz.prog I 63 [.sl (s.map T_api_Region.d)] H nid (.own nid r.length) [(nid,some (.vec 102 7 (r.map T_api_Region.d) false))]:=by
 unfold g_slices_Clone_api_Region_api_Region_nw at h
 split at h
 ·cases h
 rename_i hne
 unfold g_slices_Clone_api_Region_api_Region at h
 obtain⟨hb,h⟩:=ite_on h
 cases h
 have hne':s.map T_api_Region.d≠[]:=by simpa using hne
 have hk:∀ x ∈ s.map T_api_Region.d,x.cells.length=7:=fun x hx=>by obtain⟨y,_,rfl⟩:=List.mem_map.1 hx;rfl
 have hm:(s.map T_api_Region.d).length≤maxLen:=by rw[List.length_map];unfold maxLen;omega
 have:=CallOK.of_run (P:=Tryz.prog) (I:=I) (f:=63) (ds:=[.sl (s.map T_api_Region.d)]) (e:=102) (k:=7) (xs:=s.map T_api_Region.d) (v0:=fun _=>True) (H:=H) (nid:=nid) (by kernel_rfl) hk hm (fun w F args hIw hfb hl hr=>?_) (fun d hd=>by
  simp only[List.mem_singleton] at hd
  subst hd
  exact⟨_,rfl,rfl⟩) hI
 ·simpa using this
 ·match args,hl with
  | [v],_ =>
   obtain⟨b,off,c,vals,rfl,h1,h2,h3,h4,h5⟩:=sl_cells (hr 0 v _ rfl rfl) hne' hk
   refine⟨vals,h4,?_⟩
   refine run_Clone_Region ⟨b,off,none⟩ _ c vals w h1 h2 h3 h5 (by rw[List.length_map];exact hb)
theorem a_slices_Clone_api_Region_api_Region {I:World→Prop} (hI:Stab I) {s r:List T_api_Region} (h:g_slices_Clone_api_Region_api_Region s=some r):AFun Tryz.prog I 63 [.sl (s.map T_api_Region.d)] (.sl (r.map T_api_Region.d)):=by
 by_cases hs:s=[]
 ·subst hs
  cases h
  refine⟨by kernel_rfl,fun w F args hIw hfb hl hr=>?_⟩
  match args,hl with
  | [v],_ =>
   have key:∃ A c,v=.slice A 0 c:=by
    have hv:=hr 0 v _ rfl rfl
    generalize hx:([]:List T_api_Region).map T_api_Region.d=xs at hv
    simp at hx
    subst hx
    cases hv with
    | sl0 A c hm=>exact⟨A,c,rfl⟩
    | sl b off k' c _ vals hc hm hk' hlv hone hF hcell hrep=>exact⟨_,c,rfl⟩
   obtain⟨A,c,rfl⟩:=key
   cases A with
   | none =>
    refine(run_Clone0_Region 0 c w).mono ?_
    rintro e w' ⟨rfl,rfl⟩
    exact⟨_,F,rfl,Below.refl _ _,Ext.refl _ _,hfb,fun _ _ h=>.inl h,.sl0 none 0 (Nat.zero_le _)⟩
   | some ad =>
    refine(run_Clone_Region ad 0 c [] w rfl (by simp) (by simp) (Nat.zero_le _) (by omega)).mono ?_
    rintro e w' ⟨v',rfl,hown,hb⟩
    have hx:∃ A c,v'=.slice A 0 c∧c≤maxLen:=by
     rcases hown.2 with⟨h0,_⟩|⟨g',cap,cur,hv,_,_,_,h5,_⟩
     ·exact⟨none,0,h0,Nat.zero_le _⟩
     ·exact⟨_,cap,hv,h5⟩
    obtain⟨A',c',rfl,hc'⟩:=hx
    exact⟨_,F,rfl,hb,⟨fun _ _ h=>h,fun b o h=>hb.block b (hfb b o h),fun _ h=>h.elim,fun _ h=>h.elim⟩,fun b o h=>Nat.lt_of_lt_of_le (hfb b o h) hb.size,fun _ _ h=>.inl h,.sl0 A' c' hc'⟩
 ·have hw:g_slices_Clone_api_Region_api_Region_nw s=some r:=by
   unfold g_slices_Clone_api_Region_api_Region_nw
   rw[if_neg (by simpa using hs)]
   exact h
  refine AFun.of_own (e:=102) (k:=7) fun H nid=>?_
  have:=a_slices_Clone_api_Region_api_Region_nw (I:=I) hI (H:=H) (nid:=nid) hw
  simpa using this
theorem info_Comment:(Tryz.prog.info? 107).map (fun i=>(i.zero,i.size,i.bytes))=some (some (Value.agg #[Value.int .i64 0,Value.int .i64 0,Value.int .i64 0,Value.int .i64 0,Value.string ⟨#[]⟩,Value.string ⟨#[]⟩,Value.bool false,Value.bool false]),8,72):=by kernel_rfl
theorem run_Clone_Comment (ad:Addr) (n c:Nat) (vals:List Value) (w:World) (hl:vals.length=n * 8) (hone:∀ u ∈ vals,u.oneCell'=true) (hcell:∀ j u,vals[j]? = some u→w.cell? (ad.add j)=some u) (hn:n≤maxLen) (hbig:n * 72≤140737488355328) :
  Calls Tryz.prog 64 #[.slice (some ad) n c] w fun e w'=>∃ v',e=.returned v'∧w'.ownsRow w.heap.size 107 8 v' n vals∧Below w.heap.size w w':=by
 obtain⟨i0,hi,hz0,hz1,hz2⟩:=info_parts info_Comment
 have tS:Tryz.prog.underlying 35=some (.slice 107):=Tryz.underlying35
 have qS:∀ (w:World) (a:Option Addr) (n c n' c':Nat),(binOp .eql 35 (.slice a n c) (.slice none n' c')).run Tryz.prog w=.ok (.bool a.isNone) w:=fun w a n c n' c'=>Lib.run_eql_slice_nil w _ _ a n c n' c' tS
 have uS:∀ w,Sem.run Tryz.prog (underlying 35) w=.ok (TypeDesc.slice 107) w:=run_underlying tS
 have A1:Aside (∀ j u,vals[j]? = some u→w.cell? (ad.add j)=some u):=hcell
 have A2:Aside (∀ u ∈ vals,u.oneCell'=true):=hone
 have A3:Aside (vals.length=n * 8):=hl
 clear hcell hone hl
 go_enter Tryz.func64,Tryz.ntmps64
 go_wp2_with (at_builtin;refine wpList_append_own _ rfl _ _ 35 rfl w.heap.size 107 i0 (Value.agg #[Value.int .i64 0,Value.int .i64 0,Value.int .i64 0,Value.int .i64 0,Value.string ⟨#[]⟩,Value.string ⟨#[]⟩,Value.bool false,Value.bool false]) 8 72 tS hi hz0 hz1 hz2 rfl (by decide) _ _ _ rfl (World.ownsRow_made w #[] 0 (Nat.le_refl _) (Nat.zero_le _) rfl) ad n c vals rfl A3.out ?qc2 A2.out (by omega) (by omega) (by simp) ?_)
 case qc2 =>
  intro j u hj
  exact Lib.cell?_alloc_some _ (A1.out j u hj)
 intro v' w1 hown hgrow hnil
 go_wp2
 go_ret
 exact⟨v',rfl,by simpa using hown,((Below.refl _ w).alloc (Nat.le_refl _) _).grown hgrow (by simp) (by intro k hk;simp[Value.ownBlock] at hk;omega)⟩
theorem run_Clone0_Comment (n c:Nat) (w:World):Calls Tryz.prog 64 #[.slice none n c] w fun e w'=>e=.returned (.slice none 0 0)∧w'=w:=by
 have tS:Tryz.prog.underlying 35=some (.slice 107):=Tryz.underlying35
 have qS:∀ (w:World) (a:Option Addr) (n c n' c':Nat),(binOp .eql 35 (.slice a n c) (.slice none n' c')).run Tryz.prog w=.ok (.bool a.isNone) w:=fun w a n c n' c'=>Lib.run_eql_slice_nil w _ _ a n c n' c' tS
 go_enter Tryz.func64,Tryz.ntmps64
 go_wp2
 go_ret
 exact⟨rfl,rfl⟩
def g_slices_Clone_api_Comment_api_Comment (s:List T_api_Comment):Option (List T_api_Comment):=if s.length * 72≤140737488355328 then some s else none
def g_slices_Clone_api_Comment_api_Comment_nw (s:List T_api_Comment):Option (List T_api_Comment):=if s.isEmpty then none else g_slices_Clone_api_Comment_api_Comment s
theorem a_slices_Clone_api_Comment_api_Comment_nw {I:World→Prop} (hI:Stab I) {H:Nat→Option Blk} {nid:Nat} {s r:List T_api_Comment} (h:g_slices_Clone_api_Comment_api_Comment_nw s=some r):CallOK Tryz.prog I 64 [.sl (s.map T_api_Comment.d)] H nid (.own nid r.length) [(nid,some (.vec 107 8 (r.map T_api_Comment.d) false))]:=by
 unfold g_slices_Clone_api_Comment_api_Comment_nw at h
 split at h
 ·cases h
 rename_i hne
 unfold g_slices_Clone_api_Comment_api_Comment at h
 obtain⟨hb,h⟩:=ite_on h
 cases h
 have hne':s.map T_api_Comment.d≠[]:=by simpa using hne
 have hk:∀ x ∈ s.map T_api_Comment.d,x.cells.length=8:=fun x hx=>by obtain⟨y,_,rfl⟩:=List.mem_map.1 hx;rfl
 have hm:(s.map T_api_Comment.d).length≤maxLen:=by rw[List.length_map];unfold maxLen;omega
 have:=CallOK.of_run (P:=Tryz.prog) (I:=I) (f:=64) (ds:=[.sl (s.map T_api_Comment.d)]) (e:=107) (k:=8) (xs:=s.map T_api_Comment.d) (v0:=fun _=>True) (H:=H) (nid:=nid) (by kernel_rfl) hk hm (fun w F args hIw hfb hl hr=>?_) (fun d hd=>by
  simp only[List.mem_singleton] at hd
  subst hd
  exact⟨_,rfl,rfl⟩) hI
 ·simpa using this
 ·match args,hl with
  | [v],_ =>
   obtain⟨b,off,c,vals,rfl,h1,h2,h3,h4,h5⟩:=sl_cells (hr 0 v _ rfl rfl) hne' hk
   refine⟨vals,h4,?_⟩
   refine run_Clone_Comment ⟨b,off,none⟩ _ c vals w h1 h2 h3 h5 (by rw[List.length_map];exact hb)
theorem a_slices_Clone_api_Comment_api_Comment {I:World→Prop} (hI:Stab I) {s r:List T_api_Comment} (h:g_slices_Clone_api_Comment_api_Comment s=some r):AFun Tryz.prog I 64 [.sl (s.map T_api_Comment.d)] (.sl (r.map T_api_Comment.d)):=by
 by_cases hs:s=[]
 ·subst hs
  cases h
  refine⟨by kernel_rfl,fun w F args hIw hfb hl hr=>?_⟩
  match args,hl with
  | [v],_ =>
   have key:∃ A c,v=.slice A 0 c:=by
    have hv:=hr 0 v _ rfl rfl
    generalize hx:([]:List T_api_Comment).map T_api_Comment.d=xs at hv
    simp at hx
    subst hx
    cases hv with
    | sl0 A c hm=>exact⟨A,c,rfl⟩
    | sl b off k' c _ vals hc hm hk' hlv hone hF hcell hrep=>exact⟨_,c,rfl⟩
   obtain⟨A,c,rfl⟩:=key
   cases A with
   | none =>
    refine(run_Clone0_Comment 0 c w).mono ?_
    rintro e w' ⟨rfl,rfl⟩
    exact⟨_,F,rfl,Below.refl _ _,Ext.refl _ _,hfb,fun _ _ h=>.inl h,.sl0 none 0 (Nat.zero_le _)⟩
   | some ad =>
    refine(run_Clone_Comment ad 0 c [] w rfl (by simp) (by simp) (Nat.zero_le _) (by omega)).mono ?_
    rintro e w' ⟨v',rfl,hown,hb⟩
    have hx:∃ A c,v'=.slice A 0 c∧c≤maxLen:=by
     rcases hown.2 with⟨h0,_⟩|⟨g',cap,cur,hv,_,_,_,h5,_⟩
     ·exact⟨none,0,h0,Nat.zero_le _⟩
     ·exact⟨_,cap,hv,h5⟩
    obtain⟨A',c',rfl,hc'⟩:=hx
    exact⟨_,F,rfl,hb,⟨fun _ _ h=>h,fun b o h=>hb.block b (hfb b o h),fun _ h=>h.elim,fun _ h=>h.elim⟩,fun b o h=>Nat.lt_of_lt_of_le (hfb b o h) hb.size,fun _ _ h=>.inl h,.sl0 A' c' hc'⟩
 ·have hw:g_slices_Clone_api_Comment_api_Comment_nw s=some r:=by
   unfold g_slices_Clone_api_Comment_api_Comment_nw
   rw[if_neg (by simpa using hs)]
   exact h
  refine AFun.of_own (e:=107) (k:=8) fun H nid=>?_
  have:=a_slices_Clone_api_Comment_api_Comment_nw (I:=I) hI (H:=H) (nid:=nid) hw
  simpa using this
theorem info_Event:(Tryz.prog.info? 64).map (fun i=>(i.zero,i.size,i.bytes))=some (some (Value.agg #[Value.int .i64 0,Value.int .i64 0,Value.int .i64 0,Value.string ⟨#[]⟩,Value.int .u8 0,Value.string ⟨#[]⟩,Value.slice none 0 0]),7,88):=by kernel_rfl
theorem run_Clone_Event (ad:Addr) (n c:Nat) (vals:List Value) (w:World) (hl:vals.length=n * 7) (hone:∀ u ∈ vals,u.oneCell'=true) (hcell:∀ j u,vals[j]? = some u→w.cell? (ad.add j)=some u) (hn:n≤maxLen) (hbig:n * 88≤140737488355328) :
  Calls Tryz.prog 65 #[.slice (some ad) n c] w fun e w'=>∃ v',e=.returned v'∧w'.ownsRow w.heap.size 64 7 v' n vals∧Below w.heap.size w w':=by
 obtain⟨i0,hi,hz0,hz1,hz2⟩:=info_parts info_Event
 have tS:Tryz.prog.underlying 34=some (.slice 64):=Tryz.underlying34
 have qS:∀ (w:World) (a:Option Addr) (n c n' c':Nat),(binOp .eql 34 (.slice a n c) (.slice none n' c')).run Tryz.prog w=.ok (.bool a.isNone) w:=fun w a n c n' c'=>Lib.run_eql_slice_nil w _ _ a n c n' c' tS
 have uS:∀ w,Sem.run Tryz.prog (underlying 34) w=.ok (TypeDesc.slice 64) w:=run_underlying tS
 have A1:Aside (∀ j u,vals[j]? = some u→w.cell? (ad.add j)=some u):=hcell
 have A2:Aside (∀ u ∈ vals,u.oneCell'=true):=hone
 have A3:Aside (vals.length=n * 7):=hl
 clear hcell hone hl
 go_enter Tryz.func65,Tryz.ntmps65
 go_wp2_with (at_builtin;refine wpList_append_own _ rfl _ _ 34 rfl w.heap.size 64 i0 (Value.agg #[Value.int .i64 0,Value.int .i64 0,Value.int .i64 0,Value.string ⟨#[]⟩,Value.int .u8 0,Value.string ⟨#[]⟩,Value.slice none 0 0]) 7 88 tS hi hz0 hz1 hz2 rfl (by decide) _ _ _ rfl (World.ownsRow_made w #[] 0 (Nat.le_refl _) (Nat.zero_le _) rfl) ad n c vals rfl A3.out ?qc2 A2.out (by omega) (by omega) (by simp) ?_)
 case qc2 =>
  intro j u hj
  exact Lib.cell?_alloc_some _ (A1.out j u hj)
 intro v' w1 hown hgrow hnil
 go_wp2
 go_ret
 exact⟨v',rfl,by simpa using hown,((Below.refl _ w).alloc (Nat.le_refl _) _).grown hgrow (by simp) (by intro k hk;simp[Value.ownBlock] at hk;omega)⟩
theorem run_Clone0_Event (n c:Nat) (w:World):Calls Tryz.prog 65 #[.slice none n c] w fun e w'=>e=.returned (.slice none 0 0)∧w'=w:=by
 have tS:Tryz.prog.underlying 34=some (.slice 64):=Tryz.underlying34
 have qS:∀ (w:World) (a:Option Addr) (n c n' c':Nat),(binOp .eql 34 (.slice a n c) (.slice none n' c')).run Tryz.prog w=.ok (.bool a.isNone) w:=fun w a n c n' c'=>Lib.run_eql_slice_nil w _ _ a n c n' c' tS
 go_enter Tryz.func65,Tryz.ntmps65
 go_wp2
 go_ret
 exact⟨rfl,rfl⟩
def g_slices_Clone_api_Event_api_Event (s:List T_api_Event):Option (List T_api_Event):=if s.length * 88≤140737488355328 then some s else none
def g_slices_Clone_api_Event_api_Event_nw (s:List T_api_Event):Option (List T_api_Event):=if s.isEmpty then none else g_slices_Clone_api_Event_api_Event s
theorem a_slices_Clone_api_Event_api_Event_nw {I:World→Prop} (hI:Stab I) {H:Nat→Option Blk} {nid:Nat} {s r:List T_api_Event} (h:g_slices_Clone_api_Event_api_Event_nw s=some r):CallOK Tryz.prog I 65 [.sl (s.map T_api_Event.d)] H nid (.own nid r.length) [(nid,some (.vec 64 7 (r.map T_api_Event.d) false))]:=by
 unfold g_slices_Clone_api_Event_api_Event_nw at h
 split at h
 ·cases h
 rename_i hne
 unfold g_slices_Clone_api_Event_api_Event at h
 obtain⟨hb,h⟩:=ite_on h
 cases h
 have hne':s.map T_api_Event.d≠[]:=by simpa using hne
 have hk:∀ x ∈ s.map T_api_Event.d,x.cells.length=7:=fun x hx=>by obtain⟨y,_,rfl⟩:=List.mem_map.1 hx;rfl
 have hm:(s.map T_api_Event.d).length≤maxLen:=by rw[List.length_map];unfold maxLen;omega
 have:=CallOK.of_run (P:=Tryz.prog) (I:=I) (f:=65) (ds:=[.sl (s.map T_api_Event.d)]) (e:=64) (k:=7) (xs:=s.map T_api_Event.d) (v0:=fun _=>True) (H:=H) (nid:=nid) (by kernel_rfl) hk hm (fun w F args hIw hfb hl hr=>?_) (fun d hd=>by
  simp only[List.mem_singleton] at hd
  subst hd
  exact⟨_,rfl,rfl⟩) hI
 ·simpa using this
 ·match args,hl with
  | [v],_ =>
   obtain⟨b,off,c,vals,rfl,h1,h2,h3,h4,h5⟩:=sl_cells (hr 0 v _ rfl rfl) hne' hk
   refine⟨vals,h4,?_⟩
   refine run_Clone_Event ⟨b,off,none⟩ _ c vals w h1 h2 h3 h5 (by rw[List.length_map];exact hb)
theorem a_slices_Clone_api_Event_api_Event {I:World→Prop} (hI:Stab I) {s r:List T_api_Event} (h:g_slices_Clone_api_Event_api_Event s=some r):AFun Tryz.prog I 65 [.sl (s.map T_api_Event.d)] (.sl (r.map T_api_Event.d)):=by
 by_cases hs:s=[]
 ·subst hs
  cases h
  refine⟨by kernel_rfl,fun w F args hIw hfb hl hr=>?_⟩
  match args,hl with
  | [v],_ =>
   have key:∃ A c,v=.slice A 0 c:=by
    have hv:=hr 0 v _ rfl rfl
    generalize hx:([]:List T_api_Event).map T_api_Event.d=xs at hv
    simp at hx
    subst hx
    cases hv with
    | sl0 A c hm=>exact⟨A,c,rfl⟩
    | sl b off k' c _ vals hc hm hk' hlv hone hF hcell hrep=>exact⟨_,c,rfl⟩
   obtain⟨A,c,rfl⟩:=key
   cases A with
   | none =>
    refine(run_Clone0_Event 0 c w).mono ?_
    rintro e w' ⟨rfl,rfl⟩
    exact⟨_,F,rfl,Below.refl _ _,Ext.refl _ _,hfb,fun _ _ h=>.inl h,.sl0 none 0 (Nat.zero_le _)⟩
   | some ad =>
    refine(run_Clone_Event ad 0 c [] w rfl (by simp) (by simp) (Nat.zero_le _) (by omega)).mono ?_
    rintro e w' ⟨v',rfl,hown,hb⟩
    have hx:∃ A c,v'=.slice A 0 c∧c≤maxLen:=by
     rcases hown.2 with⟨h0,_⟩|⟨g',cap,cur,hv,_,_,_,h5,_⟩
     ·exact⟨none,0,h0,Nat.zero_le _⟩
     ·exact⟨_,cap,hv,h5⟩
    obtain⟨A',c',rfl,hc'⟩:=hx
    exact⟨_,F,rfl,hb,⟨fun _ _ h=>h,fun b o h=>hb.block b (hfb b o h),fun _ h=>h.elim,fun _ h=>h.elim⟩,fun b o h=>Nat.lt_of_lt_of_le (hfb b o h) hb.size,fun _ _ h=>.inl h,.sl0 A' c' hc'⟩
 ·have hw:g_slices_Clone_api_Event_api_Event_nw s=some r:=by
   unfold g_slices_Clone_api_Event_api_Event_nw
   rw[if_neg (by simpa using hs)]
   exact h
  refine AFun.of_own (e:=64) (k:=7) fun H nid=>?_
  have:=a_slices_Clone_api_Event_api_Event_nw (I:=I) hI (H:=H) (nid:=nid) hw
  simpa using this
theorem info_Row:(Tryz.prog.info? 129).map (fun i=>(i.zero,i.size,i.bytes))=some (some (Value.agg #[Value.slice none 0 0]),1,24):=by kernel_rfl
theorem run_Clone_Row (ad:Addr) (n c:Nat) (vals:List Value) (w:World) (hl:vals.length=n * 1) (hone:∀ u ∈ vals,u.oneCell'=true) (hcell:∀ j u,vals[j]? = some u→w.cell? (ad.add j)=some u) (hn:n≤maxLen) (hbig:n * 24≤140737488355328) :
  Calls Tryz.prog 157 #[.slice (some ad) n c] w fun e w'=>∃ v',e=.returned v'∧w'.ownsRow w.heap.size 129 1 v' n vals∧Below w.heap.size w w':=by
 obtain⟨i0,hi,hz0,hz1,hz2⟩:=info_parts info_Row
 have tS:Tryz.prog.underlying 62=some (.slice 129):=Tryz.underlying62
 have qS:∀ (w:World) (a:Option Addr) (n c n' c':Nat),(binOp .eql 62 (.slice a n c) (.slice none n' c')).run Tryz.prog w=.ok (.bool a.isNone) w:=fun w a n c n' c'=>Lib.run_eql_slice_nil w _ _ a n c n' c' tS
 have uS:∀ w,Sem.run Tryz.prog (underlying 62) w=.ok (TypeDesc.slice 129) w:=run_underlying tS
 have A1:Aside (∀ j u,vals[j]? = some u→w.cell? (ad.add j)=some u):=hcell
 have A2:Aside (∀ u ∈ vals,u.oneCell'=true):=hone
 have A3:Aside (vals.length=n * 1):=hl
 clear hcell hone hl
 go_enter Tryz.func157,Tryz.ntmps157
 go_wp2_with (at_builtin;refine wpList_append_own _ rfl _ _ 62 rfl w.heap.size 129 i0 (Value.agg #[Value.slice none 0 0]) 1 24 tS hi hz0 hz1 hz2 rfl (by decide) _ _ _ rfl (World.ownsRow_made w #[] 0 (Nat.le_refl _) (Nat.zero_le _) rfl) ad n c vals rfl A3.out ?qc2 A2.out (by omega) (by omega) (by simp) ?_)
 case qc2 =>
  intro j u hj
  exact Lib.cell?_alloc_some _ (A1.out j u hj)
 intro v' w1 hown hgrow hnil
 go_wp2
 go_ret
 exact⟨v',rfl,by simpa using hown,((Below.refl _ w).alloc (Nat.le_refl _) _).grown hgrow (by simp) (by intro k hk;simp[Value.ownBlock] at hk;omega)⟩
theorem run_Clone0_Row (n c:Nat) (w:World):Calls Tryz.prog 157 #[.slice none n c] w fun e w'=>e=.returned (.slice none 0 0)∧w'=w:=by
 have tS:Tryz.prog.underlying 62=some (.slice 129):=Tryz.underlying62
 have qS:∀ (w:World) (a:Option Addr) (n c n' c':Nat),(binOp .eql 62 (.slice a n c) (.slice none n' c')).run Tryz.prog w=.ok (.bool a.isNone) w:=fun w a n c n' c'=>Lib.run_eql_slice_nil w _ _ a n c n' c' tS
 go_enter Tryz.func157,Tryz.ntmps157
 go_wp2
 go_ret
 exact⟨rfl,rfl⟩
def g_slices_Clone_api_Row_api_Row (s:List T_api_Row):Option (List T_api_Row):=if s.length * 24≤140737488355328 then some s else none
def g_slices_Clone_api_Row_api_Row_nw (s:List T_api_Row):Option (List T_api_Row):=if s.isEmpty then none else g_slices_Clone_api_Row_api_Row s
theorem a_slices_Clone_api_Row_api_Row_nw {I:World→Prop} (hI:Stab I) {H:Nat→Option Blk} {nid:Nat} {s r:List T_api_Row} (h:g_slices_Clone_api_Row_api_Row_nw s=some r):CallOK Tryz.prog I 157 [.sl (s.map T_api_Row.d)] H nid (.own nid r.length) [(nid,some (.vec 129 1 (r.map T_api_Row.d) false))]:=by
 unfold g_slices_Clone_api_Row_api_Row_nw at h
 split at h
 ·cases h
 rename_i hne
 unfold g_slices_Clone_api_Row_api_Row at h
 obtain⟨hb,h⟩:=ite_on h
 cases h
 have hne':s.map T_api_Row.d≠[]:=by simpa using hne
 have hk:∀ x ∈ s.map T_api_Row.d,x.cells.length=1:=fun x hx=>by obtain⟨y,_,rfl⟩:=List.mem_map.1 hx;rfl
 have hm:(s.map T_api_Row.d).length≤maxLen:=by rw[List.length_map];unfold maxLen;omega
 have:=CallOK.of_run (P:=Tryz.prog) (I:=I) (f:=157) (ds:=[.sl (s.map T_api_Row.d)]) (e:=129) (k:=1) (xs:=s.map T_api_Row.d) (v0:=fun _=>True) (H:=H) (nid:=nid) (by kernel_rfl) hk hm (fun w F args hIw hfb hl hr=>?_) (fun d hd=>by
  simp only[List.mem_singleton] at hd
  subst hd
  exact⟨_,rfl,rfl⟩) hI
 ·simpa using this
 ·match args,hl with
  | [v],_ =>
   obtain⟨b,off,c,vals,rfl,h1,h2,h3,h4,h5⟩:=sl_cells (hr 0 v _ rfl rfl) hne' hk
   refine⟨vals,h4,?_⟩
   refine run_Clone_Row ⟨b,off,none⟩ _ c vals w h1 h2 h3 h5 (by rw[List.length_map];exact hb)
theorem a_slices_Clone_api_Row_api_Row {I:World→Prop} (hI:Stab I) {s r:List T_api_Row} (h:g_slices_Clone_api_Row_api_Row s=some r):AFun Tryz.prog I 157 [.sl (s.map T_api_Row.d)] (.sl (r.map T_api_Row.d)):=by
 by_cases hs:s=[]
 ·subst hs
  cases h
  refine⟨by kernel_rfl,fun w F args hIw hfb hl hr=>?_⟩
  match args,hl with
  | [v],_ =>
   have key:∃ A c,v=.slice A 0 c:=by
    have hv:=hr 0 v _ rfl rfl
    generalize hx:([]:List T_api_Row).map T_api_Row.d=xs at hv
    simp at hx
    subst hx
    cases hv with
    | sl0 A c hm=>exact⟨A,c,rfl⟩
    | sl b off k' c _ vals hc hm hk' hlv hone hF hcell hrep=>exact⟨_,c,rfl⟩
   obtain⟨A,c,rfl⟩:=key
   cases A with
   | none =>
    refine(run_Clone0_Row 0 c w).mono ?_
    rintro e w' ⟨rfl,rfl⟩
    exact⟨_,F,rfl,Below.refl _ _,Ext.refl _ _,hfb,fun _ _ h=>.inl h,.sl0 none 0 (Nat.zero_le _)⟩
   | some ad =>
    refine(run_Clone_Row ad 0 c [] w rfl (by simp) (by simp) (Nat.zero_le _) (by omega)).mono ?_
    rintro e w' ⟨v',rfl,hown,hb⟩
    have hx:∃ A c,v'=.slice A 0 c∧c≤maxLen:=by
     rcases hown.2 with⟨h0,_⟩|⟨g',cap,cur,hv,_,_,_,h5,_⟩
     ·exact⟨none,0,h0,Nat.zero_le _⟩
     ·exact⟨_,cap,hv,h5⟩
    obtain⟨A',c',rfl,hc'⟩:=hx
    exact⟨_,F,rfl,hb,⟨fun _ _ h=>h,fun b o h=>hb.block b (hfb b o h),fun _ h=>h.elim,fun _ h=>h.elim⟩,fun b o h=>Nat.lt_of_lt_of_le (hfb b o h) hb.size,fun _ _ h=>.inl h,.sl0 A' c' hc'⟩
 ·have hw:g_slices_Clone_api_Row_api_Row_nw s=some r:=by
   unfold g_slices_Clone_api_Row_api_Row_nw
   rw[if_neg (by simpa using hs)]
   exact h
  refine AFun.of_own (e:=129) (k:=1) fun H nid=>?_
  have:=a_slices_Clone_api_Row_api_Row_nw (I:=I) hI (H:=H) (nid:=nid) hw
  simpa using this
theorem info_Run:(Tryz.prog.info? 126).map (fun i=>(i.zero,i.size,i.bytes))=some (some (Value.agg #[Value.string ⟨#[]⟩,Value.int .u8 0,Value.bool false,Value.bool false,Value.string ⟨#[]⟩]),5,40):=by kernel_rfl
theorem run_Clone_Run (ad:Addr) (n c:Nat) (vals:List Value) (w:World) (hl:vals.length=n * 5) (hone:∀ u ∈ vals,u.oneCell'=true) (hcell:∀ j u,vals[j]? = some u→w.cell? (ad.add j)=some u) (hn:n≤maxLen) (hbig:n * 40≤140737488355328) :
  Calls Tryz.prog 158 #[.slice (some ad) n c] w fun e w'=>∃ v',e=.returned v'∧w'.ownsRow w.heap.size 126 5 v' n vals∧Below w.heap.size w w':=by
 obtain⟨i0,hi,hz0,hz1,hz2⟩:=info_parts info_Run
 have tS:Tryz.prog.underlying 127=some (.slice 126):=Tryz.underlying127
 have qS:∀ (w:World) (a:Option Addr) (n c n' c':Nat),(binOp .eql 127 (.slice a n c) (.slice none n' c')).run Tryz.prog w=.ok (.bool a.isNone) w:=fun w a n c n' c'=>Lib.run_eql_slice_nil w _ _ a n c n' c' tS
 have uS:∀ w,Sem.run Tryz.prog (underlying 127) w=.ok (TypeDesc.slice 126) w:=run_underlying tS
 have A1:Aside (∀ j u,vals[j]? = some u→w.cell? (ad.add j)=some u):=hcell
 have A2:Aside (∀ u ∈ vals,u.oneCell'=true):=hone
 have A3:Aside (vals.length=n * 5):=hl
 clear hcell hone hl
 go_enter Tryz.func158,Tryz.ntmps158
 go_wp2_with (at_builtin;refine wpList_append_own _ rfl _ _ 127 rfl w.heap.size 126 i0 (Value.agg #[Value.string ⟨#[]⟩,Value.int .u8 0,Value.bool false,Value.bool false,Value.string ⟨#[]⟩]) 5 40 tS hi hz0 hz1 hz2 rfl (by decide) _ _ _ rfl (World.ownsRow_made w #[] 0 (Nat.le_refl _) (Nat.zero_le _) rfl) ad n c vals rfl A3.out ?qc2 A2.out (by omega) (by omega) (by simp) ?_)
 case qc2 =>
  intro j u hj
  exact Lib.cell?_alloc_some _ (A1.out j u hj)
 intro v' w1 hown hgrow hnil
 go_wp2
 go_ret
 exact⟨v',rfl,by simpa using hown,((Below.refl _ w).alloc (Nat.le_refl _) _).grown hgrow (by simp) (by intro k hk;simp[Value.ownBlock] at hk;omega)⟩
theorem run_Clone0_Run (n c:Nat) (w:World):Calls Tryz.prog 158 #[.slice none n c] w fun e w'=>e=.returned (.slice none 0 0)∧w'=w:=by
 have tS:Tryz.prog.underlying 127=some (.slice 126):=Tryz.underlying127
 have qS:∀ (w:World) (a:Option Addr) (n c n' c':Nat),(binOp .eql 127 (.slice a n c) (.slice none n' c')).run Tryz.prog w=.ok (.bool a.isNone) w:=fun w a n c n' c'=>Lib.run_eql_slice_nil w _ _ a n c n' c' tS
 go_enter Tryz.func158,Tryz.ntmps158
 go_wp2
 go_ret
 exact⟨rfl,rfl⟩
def g_slices_Clone_api_Run_api_Run (s:List T_api_Run):Option (List T_api_Run):=if s.length * 40≤140737488355328 then some s else none
def g_slices_Clone_api_Run_api_Run_nw (s:List T_api_Run):Option (List T_api_Run):=if s.isEmpty then none else g_slices_Clone_api_Run_api_Run s
theorem a_slices_Clone_api_Run_api_Run_nw {I:World→Prop} (hI:Stab I) {H:Nat→Option Blk} {nid:Nat} {s r:List T_api_Run} (h:g_slices_Clone_api_Run_api_Run_nw s=some r):CallOK Tryz.prog I 158 [.sl (s.map T_api_Run.d)] H nid (.own nid r.length) [(nid,some (.vec 126 5 (r.map T_api_Run.d) false))]:=by
 unfold g_slices_Clone_api_Run_api_Run_nw at h
 split at h
 ·cases h
 rename_i hne
 unfold g_slices_Clone_api_Run_api_Run at h
 obtain⟨hb,h⟩:=ite_on h
 cases h
 have hne':s.map T_api_Run.d≠[]:=by simpa using hne
 have hk:∀ x ∈ s.map T_api_Run.d,x.cells.length=5:=fun x hx=>by obtain⟨y,_,rfl⟩:=List.mem_map.1 hx;rfl
 have hm:(s.map T_api_Run.d).length≤maxLen:=by rw[List.length_map];unfold maxLen;omega
 have:=CallOK.of_run (P:=Tryz.prog) (I:=I) (f:=158) (ds:=[.sl (s.map T_api_Run.d)]) (e:=126) (k:=5) (xs:=s.map T_api_Run.d) (v0:=fun _=>True) (H:=H) (nid:=nid) (by kernel_rfl) hk hm (fun w F args hIw hfb hl hr=>?_) (fun d hd=>by
  simp only[List.mem_singleton] at hd
  subst hd
  exact⟨_,rfl,rfl⟩) hI
 ·simpa using this
 ·match args,hl with
  | [v],_ =>
   obtain⟨b,off,c,vals,rfl,h1,h2,h3,h4,h5⟩:=sl_cells (hr 0 v _ rfl rfl) hne' hk
   refine⟨vals,h4,?_⟩
   refine run_Clone_Run ⟨b,off,none⟩ _ c vals w h1 h2 h3 h5 (by rw[List.length_map];exact hb)
theorem a_slices_Clone_api_Run_api_Run {I:World→Prop} (hI:Stab I) {s r:List T_api_Run} (h:g_slices_Clone_api_Run_api_Run s=some r):AFun Tryz.prog I 158 [.sl (s.map T_api_Run.d)] (.sl (r.map T_api_Run.d)):=by
 by_cases hs:s=[]
 ·subst hs
  cases h
  refine⟨by kernel_rfl,fun w F args hIw hfb hl hr=>?_⟩
  match args,hl with
  | [v],_ =>
   have key:∃ A c,v=.slice A 0 c:=by
    have hv:=hr 0 v _ rfl rfl
    generalize hx:([]:List T_api_Run).map T_api_Run.d=xs at hv
    simp at hx
    subst hx
    cases hv with
    | sl0 A c hm=>exact⟨A,c,rfl⟩
    | sl b off k' c _ vals hc hm hk' hlv hone hF hcell hrep=>exact⟨_,c,rfl⟩
   obtain⟨A,c,rfl⟩:=key
   cases A with
   | none =>
    refine(run_Clone0_Run 0 c w).mono ?_
    rintro e w' ⟨rfl,rfl⟩
    exact⟨_,F,rfl,Below.refl _ _,Ext.refl _ _,hfb,fun _ _ h=>.inl h,.sl0 none 0 (Nat.zero_le _)⟩
   | some ad =>
    refine(run_Clone_Run ad 0 c [] w rfl (by simp) (by simp) (Nat.zero_le _) (by omega)).mono ?_
    rintro e w' ⟨v',rfl,hown,hb⟩
    have hx:∃ A c,v'=.slice A 0 c∧c≤maxLen:=by
     rcases hown.2 with⟨h0,_⟩|⟨g',cap,cur,hv,_,_,_,h5,_⟩
     ·exact⟨none,0,h0,Nat.zero_le _⟩
     ·exact⟨_,cap,hv,h5⟩
    obtain⟨A',c',rfl,hc'⟩:=hx
    exact⟨_,F,rfl,hb,⟨fun _ _ h=>h,fun b o h=>hb.block b (hfb b o h),fun _ h=>h.elim,fun _ h=>h.elim⟩,fun b o h=>Nat.lt_of_lt_of_le (hfb b o h) hb.size,fun _ _ h=>.inl h,.sl0 A' c' hc'⟩
 ·have hw:g_slices_Clone_api_Run_api_Run_nw s=some r:=by
   unfold g_slices_Clone_api_Run_api_Run_nw
   rw[if_neg (by simpa using hs)]
   exact h
  refine AFun.of_own (e:=126) (k:=5) fun H nid=>?_
  have:=a_slices_Clone_api_Run_api_Run_nw (I:=I) hI (H:=H) (nid:=nid) hw
  simpa using this
def g_slices_symMergeCmpFunc_api_Event (data:List T_api_Event) (a m b:Int):Option (List T_api_Event):=none
theorem a_slices_symMergeCmpFunc_api_Event_len {data:List T_api_Event} {a m b:Int} {r:List T_api_Event} (h:g_slices_symMergeCmpFunc_api_Event data a m b=some r):data.length=r.length:=by cases h
theorem a_slices_symMergeCmpFunc_api_Event_l {I:World→Prop} (hI:Stab I) {H:Nat→Option Blk} {nid i0:Nat} {u:Value} {data:List T_api_Event} {a m b:Int} {r:List T_api_Event} (h:g_slices_symMergeCmpFunc_api_Event data a m b=some r) (b0:H i0=some (.lrow u 64 7 (data.map T_api_Event.d))) :
  CallOK Tryz.prog I 169 [.own i0 data.length,.int .i64 a,.int .i64 m,.int .i64 b,.fn 103 []] H nid (.tup []) [(i0,some (.lrow u 64 7 (r.map T_api_Event.d)))]:=by cases h
set_option maxHeartbeats 10000000
structure T_api_Shift where
 ID:Int
 In:Int
 Out:Int
 deriving DecidableEq
def T_api_Shift.d (x:T_api_Shift):D:=.agg [.int .i64 x.ID,.int .i64 x.In,.int .i64 x.Out]
structure T_api_Repair where
 Doc:T_api_Document
 Shifts:List T_api_Shift
 Needed:Int
 Conflict:List T_api_Bound
 deriving DecidableEq
def T_api_Repair.d (x:T_api_Repair):D:=.agg [.str x.Doc.Title,.str x.Doc.Lang,.int .u8 x.Doc.Rate,.bool x.Doc.Drop,.int .i64 x.Doc.Last,.sl (x.Doc.Regions.map T_api_Region.d),.sl (x.Doc.Events.map T_api_Event.d),.sl (x.Doc.Comments.map T_api_Comment.d),.sl (x.Shifts.map T_api_Shift.d),.int .i64 x.Needed,.sl (x.Conflict.map T_api_Bound.d)]
theorem dd_ED:(∀ x,T_api_Region.d x=.agg [.str x.Name,.int .i64 x.Top,.int .i64 x.Height,.int .i64 x.Left,.int .i64 x.Width,.int .u8 x.Align,.bool x.Bottom])∧(∀ x,T_api_Comment.d x=.agg [.int .i64 x.ID,.int .i64 x.Event,.int .i64 x.From,.int .i64 x.To,.str x.Author,.str x.Text,.bool x.Done,.bool x.Lost])∧(∀ x,T_api_Span.d x=.agg [.int .i64 x.In,.int .i64 x.Out])∧(∀ x,T_api_Style.d x=.agg [.int .u8 x.Color,.bool x.Italic,.bool x.Underline])∧(∀ x,T_api_Run.d x=.agg [.str x.Text,.int .u8 x.Style.Color,.bool x.Style.Italic,.bool x.Style.Underline,.str x.Ruby])∧(∀ x,T_api_Row.d x=.agg [.sl (x.Runs.map T_api_Run.d)])∧(∀ x,T_api_Event.d x=.agg [.int .i64 x.ID,.int .i64 x.Span.In,.int .i64 x.Span.Out,.str x.Region,.int .u8 x.Kind,.str x.Speaker,.sl (x.Rows.map T_api_Row.d)])∧(∀ x,T_api_Bound.d x=.agg [.int .i64 x.I,.int .i64 x.J,.int .i64 x.C,.int .u8 x.Rule,.int .i64 x.ID,.int .i64 x.Other])∧(∀ x,T_api_Document.d x=.agg [.str x.Title,.str x.Lang,.int .u8 x.Rate,.bool x.Drop,.int .i64 x.Last,.sl (x.Regions.map T_api_Region.d),.sl (x.Events.map T_api_Event.d),.sl (x.Comments.map T_api_Comment.d)])∧(∀ x,T_api_Profile.d x=.agg [.str x.Name,.int .i64 x.Reading,.int .i64 x.MinFrames,.int .i64 x.MaxFrames,.int .i64 x.MinGap,.int .i64 x.ShotBefore,.int .i64 x.ShotAfter,.int .i64 x.Rows,.int .i64 x.Cols,.str x.Forbidden,.int .i64 x.SafeTop,.int .i64 x.SafeBottom,.int .i64 x.SafeLeft,.int .i64 x.SafeRight])∧(∀ x,T_api_Shift.d x=.agg [.int .i64 x.ID,.int .i64 x.In,.int .i64 x.Out])∧(∀ x,T_api_Repair.d x=.agg [.str x.Doc.Title,.str x.Doc.Lang,.int .u8 x.Doc.Rate,.bool x.Doc.Drop,.int .i64 x.Doc.Last,.sl (x.Doc.Regions.map T_api_Region.d),.sl (x.Doc.Events.map T_api_Event.d),.sl (x.Doc.Comments.map T_api_Comment.d),.sl (x.Shifts.map T_api_Shift.d),.int .i64 x.Needed,.sl (x.Conflict.map T_api_Bound.d)]):=⟨fun _=>rfl,fun _=>rfl,fun _=>rfl,fun _=>rfl,fun _=>rfl,fun _=>rfl,fun _=>rfl,fun _=>rfl,fun _=>rfl,fun _=>rfl,fun _=>rfl,fun _=>rfl⟩
def g_repair_Plan_1 (t_0:Int) (a_1:T_api_Document) (a_2:T_api_Profile) (a_3:List Int) (a_4:Int):Option ((List Int) × Bool) :=
 ((g_repair_Bounds a_1 a_2 a_3 t_0).bind fun r7=>((g_diffcon_Solve a_4 r7.1).bind fun r13=>(some (r13.1,(r13.2.2 == 0)))))
theorem a_repair_Plan_1 {I:World→Prop} (hI:Stab I) (hShp:∀ w,I w→Shp w) (hU8T:∀ w,I w→U8T w) {t_0:Int} {a_1:T_api_Document} {a_2:T_api_Profile} {a_3:List Int} {a_4:Int} {r:(List Int) × Bool} (h:g_repair_Plan_1 t_0 a_1 a_2 a_3 a_4=some r):AFun Tryz.prog I 44 [.int .i64 t_0,.iptr [.str a_1.Title,.str a_1.Lang,.int .u8 a_1.Rate,.bool a_1.Drop,.int .i64 a_1.Last,.sl (a_1.Regions.map T_api_Region.d),.sl (a_1.Events.map T_api_Event.d),.sl (a_1.Comments.map T_api_Comment.d)],.iptr [.str a_2.Name,.int .i64 a_2.Reading,.int .i64 a_2.MinFrames,.int .i64 a_2.MaxFrames,.int .i64 a_2.MinGap,.int .i64 a_2.ShotBefore,.int .i64 a_2.ShotAfter,.int .i64 a_2.Rows,.int .i64 a_2.Cols,.str a_2.Forbidden,.int .i64 a_2.SafeTop,.int .i64 a_2.SafeBottom,.int .i64 a_2.SafeLeft,.int .i64 a_2.SafeRight],.iptr [.sl (a_3.map (D.int .i64))],.iptr [.int .i64 a_4]] (.tup [.sl (r.1.map (D.int .i64)),.bool r.2]):=by
 have dd:=dd_ED;have k:=True.intro;have q:=k;have rs:=Tryz.results44
 unfold g_repair_Plan_1 at h
 refine .en hI Tryz.func44 Tryz.ntmps44 ?_
 refine xs<|rz ?_
 refine es<|xs<|rK fun K6 RK6 hK6 gK6=>zz ?_
 obtain⟨r7,h8,h⟩:=bs h
 refine cw (a_repair_Bounds hI hShp hU8T h8)<|zz ?_
 subst hK6 gK6
 refine es<|xs<|rK fun K12 RK12 hK12 gK12=>zz ?_
 obtain⟨r13,h14,h⟩:=bs h
 refine cw (a_diffcon_Solve hI h14)<|zz ?_
 subst hK12 gK12
 refine es<|xs<|rz ?_
 refine es<|xr ?_
 cases h
 exact en fr
def g_repair_Plan_2 (t_0:Int) (a_1_0:T_api_Document) (a_1_1:T_api_Profile) (a_1_2:List Int) (a_1_3:Int):Option (Bool) :=
 ((g_repair_Plan_1 t_0 a_1_0 a_1_1 a_1_2 a_1_3).bind fun r9=>(some r9.2))
theorem a_repair_Plan_2 {I:World→Prop} (hI:Stab I) (hShp:∀ w,I w→Shp w) (hU8T:∀ w,I w→U8T w) {t_0:Int} {a_1_0:T_api_Document} {a_1_1:T_api_Profile} {a_1_2:List Int} {a_1_3:Int} {r:Bool} (h:g_repair_Plan_2 t_0 a_1_0 a_1_1 a_1_2 a_1_3=some r):AFun Tryz.prog I 46 [.int .i64 t_0,.iptr [.fn 44 [.iptr [.str a_1_0.Title,.str a_1_0.Lang,.int .u8 a_1_0.Rate,.bool a_1_0.Drop,.int .i64 a_1_0.Last,.sl (a_1_0.Regions.map T_api_Region.d),.sl (a_1_0.Events.map T_api_Event.d),.sl (a_1_0.Comments.map T_api_Comment.d)],.iptr [.str a_1_1.Name,.int .i64 a_1_1.Reading,.int .i64 a_1_1.MinFrames,.int .i64 a_1_1.MaxFrames,.int .i64 a_1_1.MinGap,.int .i64 a_1_1.ShotBefore,.int .i64 a_1_1.ShotAfter,.int .i64 a_1_1.Rows,.int .i64 a_1_1.Cols,.str a_1_1.Forbidden,.int .i64 a_1_1.SafeTop,.int .i64 a_1_1.SafeBottom,.int .i64 a_1_1.SafeLeft,.int .i64 a_1_1.SafeRight],.iptr [.sl (a_1_2.map (D.int .i64))],.iptr [.int .i64 a_1_3]]]] (.bool r):=by
 have dd:=dd_ED;have k:=True.intro;have q:=k;have rs:=Tryz.results46
 unfold g_repair_Plan_2 at h
 refine .en hI Tryz.func46 Tryz.ntmps46 ?_
 refine xs<|rz ?_
 refine es<|xs<|rK fun K7 RK7 hK7 gK7=>zz ?_
 have h8:=(show aggT Tryz.prog 86=some false by kernel_rfl)
 have q:=And.intro @h8<|q
 refine zz ?_
 obtain⟨r9,h10,h⟩:=bs h
 refine cw (a_repair_Plan_1 hI hShp hU8T h10)<|zz ?_
 subst hK7 gK7
 refine es<|xs<|rz ?_
 refine es<|xr ?_
 cases h
 exact en fr
def g_sort_Search_s1 (c1_0_0:T_api_Document) (c1_0_1:T_api_Profile) (c1_0_2:List Int) (c1_0_3:Int) (x36:Int × Int):Option (Nx (Int × Int) (Int)) :=
 (if(decide (x36.1 < x36.2)) then((g_repair_Plan_2 (IntKind.i64.wrap (Int.fdiv (IntKind.u64.wrap (IntKind.i64.wrap (x36.1+x36.2))) 2)) c1_0_0 c1_0_1 c1_0_2 c1_0_3).bind fun r61=>(if r61 then(some (.go (x36.1,(IntKind.i64.wrap (Int.fdiv (IntKind.u64.wrap (IntKind.i64.wrap (x36.1+x36.2))) 2))))) else(some (.go ((IntKind.i64.wrap ((IntKind.i64.wrap (Int.fdiv (IntKind.u64.wrap (IntKind.i64.wrap (x36.1+x36.2))) 2))+1)),x36.2))))) else(some (.out x36.1)))
def g_sort_Search (n_0:Int) (c1_0_0:T_api_Document) (c1_0_1:T_api_Profile) (c1_0_2:List Int) (c1_0_3:Int):Option (Int) :=
 ((iter (g_sort_Search_s1 c1_0_0 c1_0_1 c1_0_2 c1_0_3) (0,n_0)).bind fun e37=>(some e37))
theorem a_sort_Search {I:World→Prop} (hI:Stab I) (hShp:∀ w,I w→Shp w) (hU8T:∀ w,I w→U8T w) {n_0:Int} {c1_0_0:T_api_Document} {c1_0_1:T_api_Profile} {c1_0_2:List Int} {c1_0_3:Int} {r:Int} (h:g_sort_Search n_0 c1_0_0 c1_0_1 c1_0_2 c1_0_3=some r):AFun Tryz.prog I 45 [.int .i64 n_0,.fn 46 [.iptr [.fn 44 [.iptr [.str c1_0_0.Title,.str c1_0_0.Lang,.int .u8 c1_0_0.Rate,.bool c1_0_0.Drop,.int .i64 c1_0_0.Last,.sl (c1_0_0.Regions.map T_api_Region.d),.sl (c1_0_0.Events.map T_api_Event.d),.sl (c1_0_0.Comments.map T_api_Comment.d)],.iptr [.str c1_0_1.Name,.int .i64 c1_0_1.Reading,.int .i64 c1_0_1.MinFrames,.int .i64 c1_0_1.MaxFrames,.int .i64 c1_0_1.MinGap,.int .i64 c1_0_1.ShotBefore,.int .i64 c1_0_1.ShotAfter,.int .i64 c1_0_1.Rows,.int .i64 c1_0_1.Cols,.str c1_0_1.Forbidden,.int .i64 c1_0_1.SafeTop,.int .i64 c1_0_1.SafeBottom,.int .i64 c1_0_1.SafeLeft,.int .i64 c1_0_1.SafeRight],.iptr [.sl (c1_0_2.map (D.int .i64))],.iptr [.int .i64 c1_0_3]]]]] (.int .i64 r):=by
 have dd:=dd_ED;have k:=True.intro;have q:=k;have rs:=Tryz.results45
 unfold g_sort_Search at h
 refine .en hI Tryz.func45 Tryz.ntmps45 ?_
 refine xs<|rz ?_
 refine es<|xs<|rz ?_
 refine es<|xs<|xb ?_
 obtain⟨e37,h66,h⟩:=bs h
 refine rb_loop (fun x36=>⟨envL [(1,.fn 46 [.iptr [.fn 44 [.iptr [.str c1_0_0.Title,.str c1_0_0.Lang,.int .u8 c1_0_0.Rate,.bool c1_0_0.Drop,.int .i64 c1_0_0.Last,.sl (c1_0_0.Regions.map T_api_Region.d),.sl (c1_0_0.Events.map T_api_Event.d),.sl (c1_0_0.Comments.map T_api_Comment.d)],.iptr [.str c1_0_1.Name,.int .i64 c1_0_1.Reading,.int .i64 c1_0_1.MinFrames,.int .i64 c1_0_1.MaxFrames,.int .i64 c1_0_1.MinGap,.int .i64 c1_0_1.ShotBefore,.int .i64 c1_0_1.ShotAfter,.int .i64 c1_0_1.Rows,.int .i64 c1_0_1.Cols,.str c1_0_1.Forbidden,.int .i64 c1_0_1.SafeTop,.int .i64 c1_0_1.SafeBottom,.int .i64 c1_0_1.SafeLeft,.int .i64 c1_0_1.SafeRight],.iptr [.sl (c1_0_2.map (D.int .i64))],.iptr [.int .i64 c1_0_3]]]]),(5,.int .i64 x36.1),(6,.int .i64 x36.2)],heapL [],0,26⟩) (fun _=>.exit 0) (fun e37=>⟨envL [(5,.int .i64 e37)],heapL [],0,26⟩) h66 (wk []) (by intro w;simp) ?_ ?_
 ·clear h
  intro x36 y h
  unfold g_sort_Search_s1 at h
  refine xs<|xs<|rz ?_
  refine es ?_
  rcases iK k h with⟨k,h⟩|⟨k,h⟩
  ·refine xt<|xk<|es<|xb<|xs<|rz ?_
   refine es<|xs<|rK fun K60 RK60 hK60 gK60=>zz ?_
   obtain⟨r61,h62,h⟩:=bs h
   refine cw (a_repair_Plan_2 hI hShp hU8T h62)<|zz ?_
   subst hK60 gK60
   refine es ?_
   rcases iK k h with⟨k,h⟩|⟨k,h⟩
   ·refine xf<|rz ?_
    refine bn ?_
    cases h
    exact en ⟨rfl,wk []⟩
   ·refine xt<|rz ?_
    refine bn ?_
    cases h
    exact en ⟨rfl,wk []⟩
  ·refine xf<|xx<|ee ?_
   cases h
   exact en ⟨rfl,wk []⟩
 ·refine bh<|es<|xs<|rz ?_
  refine es<|xr ?_
  cases h
  exact en fr
def g_style_Clone_s1 (r9:(List T_api_Row)) (x13:Unit):Option (Nx (Unit) (Unit)) :=
 (if(decide (0 < (r9.length:Int))) then((atI r9 0).bind fun y75=>(if y75.Runs.isEmpty then((g_slices_Clone_api_Run_api_Run y75.Runs).bind fun r77=>none) else((g_slices_Clone_api_Run_api_Run_nw y75.Runs).bind fun r79=>none))) else(some (.out ())))
def g_style_Clone_s2 (r84:(List T_api_Row)) (x88:Int × (List T_api_Row)):Option (Nx (Int × (List T_api_Row)) ((List T_api_Row))) :=
 (if(decide (x88.1 < ((r84.length:Nat):Int))) then((atI x88.2 x88.1).bind fun y163=>(if y163.Runs.isEmpty then((g_slices_Clone_api_Run_api_Run y163.Runs).bind fun r164=>((setI x88.2 x88.1 (T_api_Row.mk r164)).bind fun m166=>(some (.go ((IntKind.i64.wrap (x88.1+1)),m166))))) else((g_slices_Clone_api_Run_api_Run_nw y163.Runs).bind fun r173=>((setI x88.2 x88.1 (T_api_Row.mk r173)).bind fun m175=>(some (.go ((IntKind.i64.wrap (x88.1+1)),m175))))))) else(some (.out x88.2)))
def g_style_Clone (rows_0:List T_api_Row):Option ((List T_api_Row)) :=
 (if rows_0.isEmpty then((g_slices_Clone_api_Row_api_Row rows_0).bind fun r9=>((iter (g_style_Clone_s1 r9) ()).bind fun e14=>(some r9))) else((g_slices_Clone_api_Row_api_Row_nw rows_0).bind fun r84=>((iter (g_style_Clone_s2 r84) (0,r84)).bind fun e89=>(some e89))))
theorem a_style_Clone {I:World→Prop} (hI:Stab I) {rows_0:List T_api_Row} {r:(List T_api_Row)} (h:g_style_Clone rows_0=some r):AFun Tryz.prog I 117 [.sl (rows_0.map T_api_Row.d)] (.sl (r.map T_api_Row.d)):=by
 have dd:=dd_ED;have k:=True.intro;have q:=k;have rs:=Tryz.results117
 unfold g_style_Clone at h
 refine .en hI Tryz.func117 Tryz.ntmps117 ?_
 refine xs<|rz ?_
 refine es<|xs<|rK fun K8 RK8 hK8 gK8=>zz ?_
 rcases iK k h with⟨k,h⟩|⟨k,h⟩
 ·obtain⟨r9,h10,h⟩:=bs h
  refine cw (a_slices_Clone_api_Row_api_Row hI h10)<|zz ?_
  subst hK8 gK8
  refine es<|xs<|xs<|rz ?_
  refine es<|xb ?_
  obtain⟨e14,h81,h⟩:=bs h
  refine rb_loop (fun x13=>⟨envL [(3,.sl (r9.map T_api_Row.d)),(8,.int .i64 (r9.length:Int)),(9,.int .i64 0)],heapL [],0,24⟩) (fun _=>.exit 0) (fun e14=>⟨envL [(3,.sl (r9.map T_api_Row.d))],heapL [],0,24⟩) h81 (wk []) (by intro w;simp) ?_ ?_
  ·clear h
   intro x13 y h
   unfold g_style_Clone_s1 at h
   refine xs<|rz ?_
   refine es<|xs ?_
   rcases iK k h with⟨k,h⟩|⟨k,h⟩
   ·refine xt<|xk<|es<|xs<|xb<|xs<|rz ?_
    refine es<|rK fun K74 RK74 hK74 gK74=>zz ?_
    obtain⟨y75,q,h⟩:=bK q h
    refine zz ?_
    rcases iK k h with⟨k,h⟩|⟨k,h⟩
    ·obtain⟨r77,h78,h⟩:=bs h
     refine cw (a_slices_Clone_api_Run_api_Run hI h78)<|zz ?_
     cases h
    ·obtain⟨r79,h80,h⟩:=bs h
     refine cW.introE (a_slices_Clone_api_Run_api_Run_nw hI (nid:=10) h80) fz rfl<|zz ?_
     cases h
   ·refine xf<|xx<|ee ?_
    cases h
    exact en ⟨rfl,wk []⟩
  ·refine bh<|es<|xs<|rz ?_
   refine es<|xr ?_
   cases h
   exact en fr
 ·obtain⟨r84,h85,h⟩:=bs h
  refine cW.introE (a_slices_Clone_api_Row_api_Row_nw hI (nid:=2) h85) fz rfl<|zz ?_
  subst hK8 gK8
  refine es<|xs<|xs<|rz ?_
  refine es<|xb ?_
  obtain⟨e89,h182,h⟩:=bs h
  refine rb_loop (fun x88=>⟨envL [(3,.own 0 x88.2.length),(8,.int .i64 ((r84.length:Nat):Int)),(9,.int .i64 x88.1)],heapL [(0,.vec 129 1 (x88.2.map T_api_Row.d) false)],1,24⟩) (fun _=>.exit 0) (fun e89=>⟨envL [(3,.own 0 e89.length)],heapL [(0,.vec 129 1 (e89.map T_api_Row.d) false)],1,24⟩) h182 (wk [(0,some 2)]) (by intro w;simp) ?_ ?_
  ·clear h
   intro x88 y h
   unfold g_style_Clone_s2 at h
   refine xs<|rz ?_
   refine es<|xs ?_
   rcases iK k h with⟨k,h⟩|⟨k,h⟩
   ·refine xt<|xk<|es<|xs<|xb<|xs<|rz ?_
    refine es<|rK fun K162 RK162 hK162 gK162=>zz ?_
    obtain⟨y163,q,h⟩:=oN q h
    refine zz ?_
    rcases iK k h with⟨k,h⟩|⟨k,h⟩
    ·obtain⟨r164,h165,h⟩:=bs h
     refine cw (a_slices_Clone_api_Run_api_Run hI h165)<|zz ?_
     obtain⟨m166,h167,h⟩:=bind_some h
     obtain⟨h168,h169,h170,h171⟩:=setI_some h167
     have h171:=h171 T_api_Row.d
     try simp only[sevalprocAttr,List.map_nil,dd] at h171
     have q:=And.intro @h168<|And.intro @h169<|And.intro @h170<|And.intro @h171<|q
     refine zz ?_
     subst hK162 gK162
     refine bn<|es<|rz ?_
     cases h
     exact en ⟨rfl,wk []⟩
    ·obtain⟨r173,h174,h⟩:=bs h
     refine cW.introE (a_slices_Clone_api_Run_api_Run_nw hI (nid:=11) h174) fz rfl<|zz ?_
     obtain⟨m175,h176,h⟩:=bind_some h
     obtain⟨h177,h178,h179,h180⟩:=setI_some h176
     have h180:=h180 T_api_Row.d
     try simp only[sevalprocAttr,List.map_nil,dd] at h180
     have q:=And.intro @h177<|And.intro @h178<|And.intro @h179<|And.intro @h180<|q
     refine zz ?_
     subst hK162 gK162
     refine bn<|es<|rz ?_
     cases h
     exact en ⟨rfl,wk []⟩
   ·refine xf<|xx<|ee ?_
    cases h
    exact en ⟨rfl,wk []⟩
  ·refine bh<|es<|xs<|rz ?_
   refine es<|xr ?_
   cases h
   exact en fr
def g_event_Clone (e_0:T_api_Event):Option (T_api_Event) :=
 ((g_style_Clone e_0.Rows).bind fun r7=>(some (T_api_Event.mk e_0.ID e_0.Span e_0.Region e_0.Kind e_0.Speaker r7)))
theorem a_event_Clone {I:World→Prop} (hI:Stab I) {e_0:T_api_Event} {r:T_api_Event} (h:g_event_Clone e_0=some r):AFun Tryz.prog I 66 [T_api_Event.d e_0] (T_api_Event.d r):=by
 have dd:=dd_ED;have k:=True.intro;have q:=k;have rs:=Tryz.results66
 unfold g_event_Clone at h
 refine .en hI Tryz.func66 Tryz.ntmps66 ?_
 refine xs<|rz ?_
 refine es<|xs<|rK fun K6 RK6 hK6 gK6=>zz ?_
 obtain⟨r7,h8,h⟩:=bs h
 refine cw (a_style_Clone hI h8)<|zz ?_
 subst hK6 gK6
 refine es<|xs<|rz ?_
 refine es<|xr ?_
 cases h
 exact en fr
def g_document_Clone_s1 (r27:(List T_api_Event)) (x31:Unit):Option (Nx (Unit) (Unit)) :=
 (if(decide (0 < (r27.length:Int))) then((atI r27 0).bind fun y98=>((g_event_Clone y98).bind fun r101=>none)) else(some (.out ())))
def g_document_Clone_s2 (r106:(List T_api_Event)) (x110:Int × (List T_api_Event)):Option (Nx (Int × (List T_api_Event)) ((List T_api_Event))) :=
 (if(decide (x110.1 < ((r106.length:Nat):Int))) then((atI x110.2 x110.1).bind fun y194=>((g_event_Clone y194).bind fun r196=>((setI x110.2 x110.1 r196).bind fun m198=>(some (.go ((IntKind.i64.wrap (x110.1+1)),m198)))))) else(some (.out x110.2)))
def g_document_Clone_s3 (r216:(List T_api_Event)) (x220:Unit):Option (Nx (Unit) (Unit)) :=
 (if(decide (0 < (r216.length:Int))) then((atI r216 0).bind fun y287=>((g_event_Clone y287).bind fun r290=>none)) else(some (.out ())))
def g_document_Clone_s4 (r295:(List T_api_Event)) (x299:Int × (List T_api_Event)):Option (Nx (Int × (List T_api_Event)) ((List T_api_Event))) :=
 (if(decide (x299.1 < ((r295.length:Nat):Int))) then((atI x299.2 x299.1).bind fun y383=>((g_event_Clone y383).bind fun r385=>((setI x299.2 x299.1 r385).bind fun m387=>(some (.go ((IntKind.i64.wrap (x299.1+1)),m387)))))) else(some (.out x299.2)))
def g_document_Clone_s5 (r407:(List T_api_Event)) (x411:Unit):Option (Nx (Unit) (Unit)) :=
 (if(decide (0 < (r407.length:Int))) then((atI r407 0).bind fun y478=>((g_event_Clone y478).bind fun r481=>none)) else(some (.out ())))
def g_document_Clone_s6 (r486:(List T_api_Event)) (x490:Int × (List T_api_Event)):Option (Nx (Int × (List T_api_Event)) ((List T_api_Event))) :=
 (if(decide (x490.1 < ((r486.length:Nat):Int))) then((atI x490.2 x490.1).bind fun y574=>((g_event_Clone y574).bind fun r576=>((setI x490.2 x490.1 r576).bind fun m578=>(some (.go ((IntKind.i64.wrap (x490.1+1)),m578)))))) else(some (.out x490.2)))
def g_document_Clone_s7 (r596:(List T_api_Event)) (x600:Unit):Option (Nx (Unit) (Unit)) :=
 (if(decide (0 < (r596.length:Int))) then((atI r596 0).bind fun y667=>((g_event_Clone y667).bind fun r670=>none)) else(some (.out ())))
def g_document_Clone_s8 (r675:(List T_api_Event)) (x679:Int × (List T_api_Event)):Option (Nx (Int × (List T_api_Event)) ((List T_api_Event))) :=
 (if(decide (x679.1 < ((r675.length:Nat):Int))) then((atI x679.2 x679.1).bind fun y763=>((g_event_Clone y763).bind fun r765=>((setI x679.2 x679.1 r765).bind fun m767=>(some (.go ((IntKind.i64.wrap (x679.1+1)),m767)))))) else(some (.out x679.2)))
def g_document_Clone (d_0:T_api_Document):Option (T_api_Document) :=
 (if d_0.Regions.isEmpty then((g_slices_Clone_api_Region_api_Region d_0.Regions).bind fun r17=>(if d_0.Comments.isEmpty then((g_slices_Clone_api_Comment_api_Comment d_0.Comments).bind fun r19=>(if d_0.Events.isEmpty then((g_slices_Clone_api_Event_api_Event d_0.Events).bind fun r27=>((iter (g_document_Clone_s1 r27) ()).bind fun e32=>(some (T_api_Document.mk d_0.Title d_0.Lang d_0.Rate d_0.Drop d_0.Last r17 r27 r19)))) else((g_slices_Clone_api_Event_api_Event_nw d_0.Events).bind fun r106=>((iter (g_document_Clone_s2 r106) (0,r106)).bind fun e111=>(some (T_api_Document.mk d_0.Title d_0.Lang d_0.Rate d_0.Drop d_0.Last r17 e111 r19)))))) else((g_slices_Clone_api_Comment_api_Comment_nw d_0.Comments).bind fun r208=>(if d_0.Events.isEmpty then((g_slices_Clone_api_Event_api_Event d_0.Events).bind fun r216=>((iter (g_document_Clone_s3 r216) ()).bind fun e221=>(some (T_api_Document.mk d_0.Title d_0.Lang d_0.Rate d_0.Drop d_0.Last r17 r216 r208)))) else((g_slices_Clone_api_Event_api_Event_nw d_0.Events).bind fun r295=>((iter (g_document_Clone_s4 r295) (0,r295)).bind fun e300=>(some (T_api_Document.mk d_0.Title d_0.Lang d_0.Rate d_0.Drop d_0.Last r17 e300 r208)))))))) else((g_slices_Clone_api_Region_api_Region_nw d_0.Regions).bind fun r397=>(if d_0.Comments.isEmpty then((g_slices_Clone_api_Comment_api_Comment d_0.Comments).bind fun r399=>(if d_0.Events.isEmpty then((g_slices_Clone_api_Event_api_Event d_0.Events).bind fun r407=>((iter (g_document_Clone_s5 r407) ()).bind fun e412=>(some (T_api_Document.mk d_0.Title d_0.Lang d_0.Rate d_0.Drop d_0.Last r397 r407 r399)))) else((g_slices_Clone_api_Event_api_Event_nw d_0.Events).bind fun r486=>((iter (g_document_Clone_s6 r486) (0,r486)).bind fun e491=>(some (T_api_Document.mk d_0.Title d_0.Lang d_0.Rate d_0.Drop d_0.Last r397 e491 r399)))))) else((g_slices_Clone_api_Comment_api_Comment_nw d_0.Comments).bind fun r588=>(if d_0.Events.isEmpty then((g_slices_Clone_api_Event_api_Event d_0.Events).bind fun r596=>((iter (g_document_Clone_s7 r596) ()).bind fun e601=>(some (T_api_Document.mk d_0.Title d_0.Lang d_0.Rate d_0.Drop d_0.Last r397 r596 r588)))) else((g_slices_Clone_api_Event_api_Event_nw d_0.Events).bind fun r675=>((iter (g_document_Clone_s8 r675) (0,r675)).bind fun e680=>(some (T_api_Document.mk d_0.Title d_0.Lang d_0.Rate d_0.Drop d_0.Last r397 e680 r588)))))))))
theorem a_document_Clone {I:World→Prop} (hI:Stab I) {d_0:T_api_Document} {r:T_api_Document} (h:g_document_Clone d_0=some r):AFun Tryz.prog I 24 [T_api_Document.d d_0] (T_api_Document.d r):=by
 have dd:=dd_ED;have k:=True.intro;have q:=k;have rs:=Tryz.results24
 unfold g_document_Clone at h
 refine .en hI Tryz.func24 Tryz.ntmps24 ?_
 refine xs<|rz ?_
 refine es<|xs<|rD hI fun K16 RK16 hK16 gK16=>zz ?_
 rcases iK k h with⟨k,h⟩|⟨k,h⟩
 ·obtain⟨r17,h18,h⟩:=bs h
  refine cd (a_slices_Clone_api_Region_api_Region hI h18)<|zz ?_
  rcases iK k h with⟨k,h⟩|⟨k,h⟩
  ·obtain⟨r19,h20,h⟩:=bs h
   refine cd (a_slices_Clone_api_Comment_api_Comment hI h20)<|zz ?_
   refine hd<|zz ?_
   refine hd<|zz ?_
   subst hK16 gK16
   refine es<|xs<|rK fun K26 RK26 hK26 gK26=>zz ?_
   rcases iK k h with⟨k,h⟩|⟨k,h⟩
   ·obtain⟨r27,h28,h⟩:=bs h
    refine cw (a_slices_Clone_api_Event_api_Event hI h28)<|zz ?_
    subst hK26 gK26
    refine es<|xs<|xs<|rz ?_
    refine es<|xb ?_
    obtain⟨e32,h103,h⟩:=bs h
    refine rb_loop (fun x31=>⟨envL [(1,.ptr 0 0),(2,.ptr 1 0),(18,.sl (r27.map T_api_Event.d)),(19,.int .i64 (r27.length:Int)),(20,.int .i64 0)],heapL [(0,.box none [.str d_0.Title,.str d_0.Lang,.int .u8 d_0.Rate,.bool d_0.Drop,.int .i64 d_0.Last,.sl (r17.map T_api_Region.d),.sl (r27.map T_api_Event.d),.sl (r19.map T_api_Comment.d)]),(1,.box none [.str [],.str [],.int .u8 0,.bool false,.int .i64 0,.nils,.nils,.nils])],2,33⟩) (fun _=>.exit 0) (fun e32=>⟨envL [(1,.ptr 0 0),(2,.ptr 1 0)],heapL [(0,.box none [.str d_0.Title,.str d_0.Lang,.int .u8 d_0.Rate,.bool d_0.Drop,.int .i64 d_0.Last,.sl (r17.map T_api_Region.d),.sl (r27.map T_api_Event.d),.sl (r19.map T_api_Comment.d)]),(1,.box none [.str [],.str [],.int .u8 0,.bool false,.int .i64 0,.nils,.nils,.nils])],2,33⟩) h103 (wk []) (by intro w;simp) ?_ ?_
    ·clear h
     intro x31 y h
     unfold g_document_Clone_s1 at h
     refine xs<|rz ?_
     refine es<|xs ?_
     rcases iK k h with⟨k,h⟩|⟨k,h⟩
     ·refine xt<|xk<|es<|xs<|xb<|xs<|rK fun K97 RK97 hK97 gK97=>zz ?_
      obtain⟨y98,q,h⟩:=bK q h
      refine zz ?_
      subst hK97 gK97
      refine es<|rD hI fun K100 RK100 hK100 gK100=>zz ?_
      obtain⟨r101,h102,h⟩:=bs h
      refine cd (a_event_Clone hI h102)<|zz ?_
      cases h
     ·refine xf<|xx<|ee ?_
      cases h
      exact en ⟨rfl,wk []⟩
    ·refine bh<|es<|xs<|rz ?_
     refine es<|xr ?_
     cases h
     exact en fr
   ·obtain⟨r106,h107,h⟩:=bs h
    refine cW.introE (a_slices_Clone_api_Event_api_Event_nw hI (nid:=14) h107) fz rfl<|zz ?_
    subst hK26 gK26
    refine es<|xs<|xs<|rz ?_
    refine es<|xb ?_
    obtain⟨e111,h205,h⟩:=bs h
    refine rb_loop (fun x110=>⟨envL [(1,.ptr 0 0),(2,.ptr 2 0),(18,.own 1 x110.2.length),(19,.int .i64 ((r106.length:Nat):Int)),(20,.int .i64 x110.1)],heapL [(0,.box none [.str d_0.Title,.str d_0.Lang,.int .u8 d_0.Rate,.bool d_0.Drop,.int .i64 d_0.Last,.sl (r17.map T_api_Region.d),.own 1 x110.2.length,.sl (r19.map T_api_Comment.d)]),(1,.vec 64 7 (x110.2.map T_api_Event.d) false),(2,.box none [.str [],.str [],.int .u8 0,.bool false,.int .i64 0,.nils,.nils,.nils])],3,33⟩) (fun _=>.exit 0) (fun e111=>⟨envL [(1,.ptr 0 0),(2,.ptr 2 0)],heapL [(0,.box none [.str d_0.Title,.str d_0.Lang,.int .u8 d_0.Rate,.bool d_0.Drop,.int .i64 d_0.Last,.sl (r17.map T_api_Region.d),.own 1 e111.length,.sl (r19.map T_api_Comment.d)]),(1,.vec 64 7 (e111.map T_api_Event.d) false),(2,.box none [.str [],.str [],.int .u8 0,.bool false,.int .i64 0,.nils,.nils,.nils])],3,33⟩) h205 (wk [(1,some 14),(2,some 1)]) (by intro w;simp) ?_ ?_
    ·clear h
     intro x110 y h
     unfold g_document_Clone_s2 at h
     refine xs<|rz ?_
     refine es<|xs ?_
     rcases iK k h with⟨k,h⟩|⟨k,h⟩
     ·refine xt<|xk<|es<|xs<|xb<|xs<|rK fun K193 RK193 hK193 gK193=>zz ?_
      obtain⟨y194,q,h⟩:=oN q h
      refine zz ?_
      subst hK193 gK193
      refine es<|rD hI fun K195 RK195 hK195 gK195=>zz ?_
      obtain⟨r196,h197,h⟩:=bs h
      refine cd (a_event_Clone hI h197)<|zz ?_
      obtain⟨m198,h199,h⟩:=bind_some h
      obtain⟨h200,h201,h202,h203⟩:=setI_some h199
      have h203:=h203 T_api_Event.d
      try simp only[sevalprocAttr,List.map_nil,dd] at h203
      have q:=And.intro @h200<|And.intro @h201<|And.intro @h202<|And.intro @h203<|q
      refine zz ?_
      refine hd<|zz ?_
      subst hK195 gK195
      refine bn<|es<|rz ?_
      cases h
      exact en ⟨rfl,wk []⟩
     ·refine xf<|xx<|ee ?_
      cases h
      exact en ⟨rfl,wk []⟩
    ·refine bh<|es<|xs<|rz ?_
     refine es<|xr ?_
     cases h
     exact en fr
  ·obtain⟨r208,h209,h⟩:=bs h
   refine cD'.introE (fun H' ho hs=>a_slices_Clone_api_Comment_api_Comment_nw hI (H:=H') (nid:=7) h209) fz rfl fk ?_
   refine zz ?_
   refine hd<|zz ?_
   refine hd<|zz ?_
   subst hK16 gK16
   refine es<|xs<|rK fun K215 RK215 hK215 gK215=>zz ?_
   rcases iK k h with⟨k,h⟩|⟨k,h⟩
   ·obtain⟨r216,h217,h⟩:=bs h
    refine cw (a_slices_Clone_api_Event_api_Event hI h217)<|zz ?_
    subst hK215 gK215
    refine es<|xs<|xs<|rz ?_
    refine es<|xb ?_
    obtain⟨e221,h292,h⟩:=bs h
    refine rb_loop (fun x220=>⟨envL [(1,.ptr 0 0),(2,.ptr 2 0),(18,.sl (r216.map T_api_Event.d)),(19,.int .i64 (r216.length:Int)),(20,.int .i64 0)],heapL [(0,.box none [.str d_0.Title,.str d_0.Lang,.int .u8 d_0.Rate,.bool d_0.Drop,.int .i64 d_0.Last,.sl (r17.map T_api_Region.d),.sl (r216.map T_api_Event.d),.own 1 r208.length]),(1,.vec 107 8 (r208.map T_api_Comment.d) false),(2,.box none [.str [],.str [],.int .u8 0,.bool false,.int .i64 0,.nils,.nils,.nils])],3,33⟩) (fun _=>.exit 0) (fun e221=>⟨envL [(1,.ptr 0 0),(2,.ptr 2 0)],heapL [(0,.box none [.str d_0.Title,.str d_0.Lang,.int .u8 d_0.Rate,.bool d_0.Drop,.int .i64 d_0.Last,.sl (r17.map T_api_Region.d),.sl (r216.map T_api_Event.d),.own 1 r208.length]),(1,.vec 107 8 (r208.map T_api_Comment.d) false),(2,.box none [.str [],.str [],.int .u8 0,.bool false,.int .i64 0,.nils,.nils,.nils])],3,33⟩) h292 (wk [(1,some 7),(2,some 1)]) (by intro w;simp) ?_ ?_
    ·clear h
     intro x220 y h
     unfold g_document_Clone_s3 at h
     refine xs<|rz ?_
     refine es<|xs ?_
     rcases iK k h with⟨k,h⟩|⟨k,h⟩
     ·refine xt<|xk<|es<|xs<|xb<|xs<|rK fun K286 RK286 hK286 gK286=>zz ?_
      obtain⟨y287,q,h⟩:=bK q h
      refine zz ?_
      subst hK286 gK286
      refine es<|rD hI fun K289 RK289 hK289 gK289=>zz ?_
      obtain⟨r290,h291,h⟩:=bs h
      refine cd (a_event_Clone hI h291)<|zz ?_
      cases h
     ·refine xf<|xx<|ee ?_
      cases h
      exact en ⟨rfl,wk []⟩
    ·refine bh<|es<|xs<|rz ?_
     refine es<|xr ?_
     cases h
     exact en fr
   ·obtain⟨r295,h296,h⟩:=bs h
    refine cW.introE (a_slices_Clone_api_Event_api_Event_nw hI (nid:=14) h296) fz rfl<|zz ?_
    subst hK215 gK215
    refine es<|xs<|xs<|rz ?_
    refine es<|xb ?_
    obtain⟨e300,h394,h⟩:=bs h
    refine rb_loop (fun x299=>⟨envL [(1,.ptr 0 0),(2,.ptr 3 0),(18,.own 1 x299.2.length),(19,.int .i64 ((r295.length:Nat):Int)),(20,.int .i64 x299.1)],heapL [(0,.box none [.str d_0.Title,.str d_0.Lang,.int .u8 d_0.Rate,.bool d_0.Drop,.int .i64 d_0.Last,.sl (r17.map T_api_Region.d),.own 1 x299.2.length,.own 2 r208.length]),(1,.vec 64 7 (x299.2.map T_api_Event.d) false),(2,.vec 107 8 (r208.map T_api_Comment.d) false),(3,.box none [.str [],.str [],.int .u8 0,.bool false,.int .i64 0,.nils,.nils,.nils])],4,33⟩) (fun _=>.exit 0) (fun e300=>⟨envL [(1,.ptr 0 0),(2,.ptr 3 0)],heapL [(0,.box none [.str d_0.Title,.str d_0.Lang,.int .u8 d_0.Rate,.bool d_0.Drop,.int .i64 d_0.Last,.sl (r17.map T_api_Region.d),.own 1 e300.length,.own 2 r208.length]),(1,.vec 64 7 (e300.map T_api_Event.d) false),(2,.vec 107 8 (r208.map T_api_Comment.d) false),(3,.box none [.str [],.str [],.int .u8 0,.bool false,.int .i64 0,.nils,.nils,.nils])],4,33⟩) h394 (wk [(1,some 14),(2,some 7),(3,some 1)]) (by intro w;simp) ?_ ?_
    ·clear h
     intro x299 y h
     unfold g_document_Clone_s4 at h
     refine xs<|rz ?_
     refine es<|xs ?_
     rcases iK k h with⟨k,h⟩|⟨k,h⟩
     ·refine xt<|xk<|es<|xs<|xb<|xs<|rK fun K382 RK382 hK382 gK382=>zz ?_
      obtain⟨y383,q,h⟩:=oN q h
      refine zz ?_
      subst hK382 gK382
      refine es<|rD hI fun K384 RK384 hK384 gK384=>zz ?_
      obtain⟨r385,h386,h⟩:=bs h
      refine cd (a_event_Clone hI h386)<|zz ?_
      obtain⟨m387,h388,h⟩:=bind_some h
      obtain⟨h389,h390,h391,h392⟩:=setI_some h388
      have h392:=h392 T_api_Event.d
      try simp only[sevalprocAttr,List.map_nil,dd] at h392
      have q:=And.intro @h389<|And.intro @h390<|And.intro @h391<|And.intro @h392<|q
      refine zz ?_
      refine hd<|zz ?_
      subst hK384 gK384
      refine bn<|es<|rz ?_
      cases h
      exact en ⟨rfl,wk []⟩
     ·refine xf<|xx<|ee ?_
      cases h
      exact en ⟨rfl,wk []⟩
    ·refine bh<|es<|xs<|rz ?_
     refine es<|xr ?_
     cases h
     exact en fr
 ·obtain⟨r397,h398,h⟩:=bs h
  refine cD'.introE (fun H' ho hs=>a_slices_Clone_api_Region_api_Region_nw hI (H:=H') (nid:=4) h398) fz rfl fk ?_
  refine zz ?_
  rcases iK k h with⟨k,h⟩|⟨k,h⟩
  ·obtain⟨r399,h400,h⟩:=bs h
   refine cd (a_slices_Clone_api_Comment_api_Comment hI h400)<|zz ?_
   refine hd<|zz ?_
   refine hd<|zz ?_
   subst hK16 gK16
   refine es<|xs<|rK fun K406 RK406 hK406 gK406=>zz ?_
   rcases iK k h with⟨k,h⟩|⟨k,h⟩
   ·obtain⟨r407,h408,h⟩:=bs h
    refine cw (a_slices_Clone_api_Event_api_Event hI h408)<|zz ?_
    subst hK406 gK406
    refine es<|xs<|xs<|rz ?_
    refine es<|xb ?_
    obtain⟨e412,h483,h⟩:=bs h
    refine rb_loop (fun x411=>⟨envL [(1,.ptr 0 0),(2,.ptr 2 0),(18,.sl (r407.map T_api_Event.d)),(19,.int .i64 (r407.length:Int)),(20,.int .i64 0)],heapL [(0,.box none [.str d_0.Title,.str d_0.Lang,.int .u8 d_0.Rate,.bool d_0.Drop,.int .i64 d_0.Last,.own 1 r397.length,.sl (r407.map T_api_Event.d),.sl (r399.map T_api_Comment.d)]),(1,.vec 102 7 (r397.map T_api_Region.d) false),(2,.box none [.str [],.str [],.int .u8 0,.bool false,.int .i64 0,.nils,.nils,.nils])],3,33⟩) (fun _=>.exit 0) (fun e412=>⟨envL [(1,.ptr 0 0),(2,.ptr 2 0)],heapL [(0,.box none [.str d_0.Title,.str d_0.Lang,.int .u8 d_0.Rate,.bool d_0.Drop,.int .i64 d_0.Last,.own 1 r397.length,.sl (r407.map T_api_Event.d),.sl (r399.map T_api_Comment.d)]),(1,.vec 102 7 (r397.map T_api_Region.d) false),(2,.box none [.str [],.str [],.int .u8 0,.bool false,.int .i64 0,.nils,.nils,.nils])],3,33⟩) h483 (wk [(1,some 4),(2,some 1)]) (by intro w;simp) ?_ ?_
    ·clear h
     intro x411 y h
     unfold g_document_Clone_s5 at h
     refine xs<|rz ?_
     refine es<|xs ?_
     rcases iK k h with⟨k,h⟩|⟨k,h⟩
     ·refine xt<|xk<|es<|xs<|xb<|xs<|rK fun K477 RK477 hK477 gK477=>zz ?_
      obtain⟨y478,q,h⟩:=bK q h
      refine zz ?_
      subst hK477 gK477
      refine es<|rD hI fun K480 RK480 hK480 gK480=>zz ?_
      obtain⟨r481,h482,h⟩:=bs h
      refine cd (a_event_Clone hI h482)<|zz ?_
      cases h
     ·refine xf<|xx<|ee ?_
      cases h
      exact en ⟨rfl,wk []⟩
    ·refine bh<|es<|xs<|rz ?_
     refine es<|xr ?_
     cases h
     exact en fr
   ·obtain⟨r486,h487,h⟩:=bs h
    refine cW.introE (a_slices_Clone_api_Event_api_Event_nw hI (nid:=14) h487) fz rfl<|zz ?_
    subst hK406 gK406
    refine es<|xs<|xs<|rz ?_
    refine es<|xb ?_
    obtain⟨e491,h585,h⟩:=bs h
    refine rb_loop (fun x490=>⟨envL [(1,.ptr 0 0),(2,.ptr 3 0),(18,.own 2 x490.2.length),(19,.int .i64 ((r486.length:Nat):Int)),(20,.int .i64 x490.1)],heapL [(0,.box none [.str d_0.Title,.str d_0.Lang,.int .u8 d_0.Rate,.bool d_0.Drop,.int .i64 d_0.Last,.own 1 r397.length,.own 2 x490.2.length,.sl (r399.map T_api_Comment.d)]),(1,.vec 102 7 (r397.map T_api_Region.d) false),(2,.vec 64 7 (x490.2.map T_api_Event.d) false),(3,.box none [.str [],.str [],.int .u8 0,.bool false,.int .i64 0,.nils,.nils,.nils])],4,33⟩) (fun _=>.exit 0) (fun e491=>⟨envL [(1,.ptr 0 0),(2,.ptr 3 0)],heapL [(0,.box none [.str d_0.Title,.str d_0.Lang,.int .u8 d_0.Rate,.bool d_0.Drop,.int .i64 d_0.Last,.own 1 r397.length,.own 2 e491.length,.sl (r399.map T_api_Comment.d)]),(1,.vec 102 7 (r397.map T_api_Region.d) false),(2,.vec 64 7 (e491.map T_api_Event.d) false),(3,.box none [.str [],.str [],.int .u8 0,.bool false,.int .i64 0,.nils,.nils,.nils])],4,33⟩) h585 (wk [(1,some 4),(2,some 14),(3,some 1)]) (by intro w;simp) ?_ ?_
    ·clear h
     intro x490 y h
     unfold g_document_Clone_s6 at h
     refine xs<|rz ?_
     refine es<|xs ?_
     rcases iK k h with⟨k,h⟩|⟨k,h⟩
     ·refine xt<|xk<|es<|xs<|xb<|xs<|rK fun K573 RK573 hK573 gK573=>zz ?_
      obtain⟨y574,q,h⟩:=oN q h
      refine zz ?_
      subst hK573 gK573
      refine es<|rD hI fun K575 RK575 hK575 gK575=>zz ?_
      obtain⟨r576,h577,h⟩:=bs h
      refine cd (a_event_Clone hI h577)<|zz ?_
      obtain⟨m578,h579,h⟩:=bind_some h
      obtain⟨h580,h581,h582,h583⟩:=setI_some h579
      have h583:=h583 T_api_Event.d
      try simp only[sevalprocAttr,List.map_nil,dd] at h583
      have q:=And.intro @h580<|And.intro @h581<|And.intro @h582<|And.intro @h583<|q
      refine zz ?_
      refine hd<|zz ?_
      subst hK575 gK575
      refine bn<|es<|rz ?_
      cases h
      exact en ⟨rfl,wk []⟩
     ·refine xf<|xx<|ee ?_
      cases h
      exact en ⟨rfl,wk []⟩
    ·refine bh<|es<|xs<|rz ?_
     refine es<|xr ?_
     cases h
     exact en fr
  ·obtain⟨r588,h589,h⟩:=bs h
   refine cD'.introE (fun H' ho hs=>a_slices_Clone_api_Comment_api_Comment_nw hI (H:=H') (nid:=7) h589) fz rfl fk ?_
   refine zz ?_
   refine hd<|zz ?_
   refine hd<|zz ?_
   subst hK16 gK16
   refine es<|xs<|rK fun K595 RK595 hK595 gK595=>zz ?_
   rcases iK k h with⟨k,h⟩|⟨k,h⟩
   ·obtain⟨r596,h597,h⟩:=bs h
    refine cw (a_slices_Clone_api_Event_api_Event hI h597)<|zz ?_
    subst hK595 gK595
    refine es<|xs<|xs<|rz ?_
    refine es<|xb ?_
    obtain⟨e601,h672,h⟩:=bs h
    refine rb_loop (fun x600=>⟨envL [(1,.ptr 0 0),(2,.ptr 3 0),(18,.sl (r596.map T_api_Event.d)),(19,.int .i64 (r596.length:Int)),(20,.int .i64 0)],heapL [(0,.box none [.str d_0.Title,.str d_0.Lang,.int .u8 d_0.Rate,.bool d_0.Drop,.int .i64 d_0.Last,.own 1 r397.length,.sl (r596.map T_api_Event.d),.own 2 r588.length]),(1,.vec 102 7 (r397.map T_api_Region.d) false),(2,.vec 107 8 (r588.map T_api_Comment.d) false),(3,.box none [.str [],.str [],.int .u8 0,.bool false,.int .i64 0,.nils,.nils,.nils])],4,33⟩) (fun _=>.exit 0) (fun e601=>⟨envL [(1,.ptr 0 0),(2,.ptr 3 0)],heapL [(0,.box none [.str d_0.Title,.str d_0.Lang,.int .u8 d_0.Rate,.bool d_0.Drop,.int .i64 d_0.Last,.own 1 r397.length,.sl (r596.map T_api_Event.d),.own 2 r588.length]),(1,.vec 102 7 (r397.map T_api_Region.d) false),(2,.vec 107 8 (r588.map T_api_Comment.d) false),(3,.box none [.str [],.str [],.int .u8 0,.bool false,.int .i64 0,.nils,.nils,.nils])],4,33⟩) h672 (wk [(1,some 4),(2,some 7),(3,some 1)]) (by intro w;simp) ?_ ?_
    ·clear h
     intro x600 y h
     unfold g_document_Clone_s7 at h
     refine xs<|rz ?_
     refine es<|xs ?_
     rcases iK k h with⟨k,h⟩|⟨k,h⟩
     ·refine xt<|xk<|es<|xs<|xb<|xs<|rK fun K666 RK666 hK666 gK666=>zz ?_
      obtain⟨y667,q,h⟩:=bK q h
      refine zz ?_
      subst hK666 gK666
      refine es<|rD hI fun K669 RK669 hK669 gK669=>zz ?_
      obtain⟨r670,h671,h⟩:=bs h
      refine cd (a_event_Clone hI h671)<|zz ?_
      cases h
     ·refine xf<|xx<|ee ?_
      cases h
      exact en ⟨rfl,wk []⟩
    ·refine bh<|es<|xs<|rz ?_
     refine es<|xr ?_
     cases h
     exact en fr
   ·obtain⟨r675,h676,h⟩:=bs h
    refine cW.introE (a_slices_Clone_api_Event_api_Event_nw hI (nid:=14) h676) fz rfl<|zz ?_
    subst hK595 gK595
    refine es<|xs<|xs<|rz ?_
    refine es<|xb ?_
    obtain⟨e680,h774,h⟩:=bs h
    refine rb_loop (fun x679=>⟨envL [(1,.ptr 0 0),(2,.ptr 4 0),(18,.own 2 x679.2.length),(19,.int .i64 ((r675.length:Nat):Int)),(20,.int .i64 x679.1)],heapL [(0,.box none [.str d_0.Title,.str d_0.Lang,.int .u8 d_0.Rate,.bool d_0.Drop,.int .i64 d_0.Last,.own 1 r397.length,.own 2 x679.2.length,.own 3 r588.length]),(1,.vec 102 7 (r397.map T_api_Region.d) false),(2,.vec 64 7 (x679.2.map T_api_Event.d) false),(3,.vec 107 8 (r588.map T_api_Comment.d) false),(4,.box none [.str [],.str [],.int .u8 0,.bool false,.int .i64 0,.nils,.nils,.nils])],5,33⟩) (fun _=>.exit 0) (fun e680=>⟨envL [(1,.ptr 0 0),(2,.ptr 4 0)],heapL [(0,.box none [.str d_0.Title,.str d_0.Lang,.int .u8 d_0.Rate,.bool d_0.Drop,.int .i64 d_0.Last,.own 1 r397.length,.own 2 e680.length,.own 3 r588.length]),(1,.vec 102 7 (r397.map T_api_Region.d) false),(2,.vec 64 7 (e680.map T_api_Event.d) false),(3,.vec 107 8 (r588.map T_api_Comment.d) false),(4,.box none [.str [],.str [],.int .u8 0,.bool false,.int .i64 0,.nils,.nils,.nils])],5,33⟩) h774 (wk [(1,some 4),(2,some 14),(3,some 7),(4,some 1)]) (by intro w;simp) ?_ ?_
    ·clear h
     intro x679 y h
     unfold g_document_Clone_s8 at h
     refine xs<|rz ?_
     refine es<|xs ?_
     rcases iK k h with⟨k,h⟩|⟨k,h⟩
     ·refine xt<|xk<|es<|xs<|xb<|xs<|rK fun K762 RK762 hK762 gK762=>zz ?_
      obtain⟨y763,q,h⟩:=oN q h
      refine zz ?_
      subst hK762 gK762
      refine es<|rD hI fun K764 RK764 hK764 gK764=>zz ?_
      obtain⟨r765,h766,h⟩:=bs h
      refine cd (a_event_Clone hI h766)<|zz ?_
      obtain⟨m767,h768,h⟩:=bind_some h
      obtain⟨h769,h770,h771,h772⟩:=setI_some h768
      have h772:=h772 T_api_Event.d
      try simp only[sevalprocAttr,List.map_nil,dd] at h772
      have q:=And.intro @h769<|And.intro @h770<|And.intro @h771<|And.intro @h772<|q
      refine zz ?_
      refine hd<|zz ?_
      subst hK764 gK764
      refine bn<|es<|rz ?_
      cases h
      exact en ⟨rfl,wk []⟩
     ·refine xf<|xx<|ee ?_
      cases h
      exact en ⟨rfl,wk []⟩
    ·refine bh<|es<|xs<|rz ?_
     refine es<|xr ?_
     cases h
     exact en fr
def g_document_Clone_nw_s1 (r27:(List T_api_Event)) (x31:Unit):Option (Nx (Unit) (Unit)) :=
 (if(decide (0 < (r27.length:Int))) then((atI r27 0).bind fun y98=>((g_event_Clone y98).bind fun r101=>none)) else(some (.out ())))
def g_document_Clone_nw_s2 (r106:(List T_api_Event)) (x110:Int × (List T_api_Event)):Option (Nx (Int × (List T_api_Event)) ((List T_api_Event))) :=
 (if(decide (x110.1 < ((r106.length:Nat):Int))) then((atI x110.2 x110.1).bind fun y194=>((g_event_Clone y194).bind fun r196=>((setI x110.2 x110.1 r196).bind fun m198=>(some (.go ((IntKind.i64.wrap (x110.1+1)),m198)))))) else(some (.out x110.2)))
def g_document_Clone_nw_s3 (r216:(List T_api_Event)) (x220:Unit):Option (Nx (Unit) (Unit)) :=
 (if(decide (0 < (r216.length:Int))) then((atI r216 0).bind fun y287=>((g_event_Clone y287).bind fun r290=>none)) else(some (.out ())))
def g_document_Clone_nw_s4 (r295:(List T_api_Event)) (x299:Int × (List T_api_Event)):Option (Nx (Int × (List T_api_Event)) ((List T_api_Event))) :=
 (if(decide (x299.1 < ((r295.length:Nat):Int))) then((atI x299.2 x299.1).bind fun y383=>((g_event_Clone y383).bind fun r385=>((setI x299.2 x299.1 r385).bind fun m387=>(some (.go ((IntKind.i64.wrap (x299.1+1)),m387)))))) else(some (.out x299.2)))
def g_document_Clone_nw_s5 (r407:(List T_api_Event)) (x411:Unit):Option (Nx (Unit) (Unit)) :=
 (if(decide (0 < (r407.length:Int))) then((atI r407 0).bind fun y478=>((g_event_Clone y478).bind fun r481=>none)) else(some (.out ())))
def g_document_Clone_nw_s6 (r486:(List T_api_Event)) (x490:Int × (List T_api_Event)):Option (Nx (Int × (List T_api_Event)) ((List T_api_Event))) :=
 (if(decide (x490.1 < ((r486.length:Nat):Int))) then((atI x490.2 x490.1).bind fun y574=>((g_event_Clone y574).bind fun r576=>((setI x490.2 x490.1 r576).bind fun m578=>(some (.go ((IntKind.i64.wrap (x490.1+1)),m578)))))) else(some (.out x490.2)))
def g_document_Clone_nw_s7 (r596:(List T_api_Event)) (x600:Unit):Option (Nx (Unit) (Unit)) :=
 (if(decide (0 < (r596.length:Int))) then((atI r596 0).bind fun y667=>((g_event_Clone y667).bind fun r670=>none)) else(some (.out ())))
def g_document_Clone_nw_s8 (r675:(List T_api_Event)) (x679:Int × (List T_api_Event)):Option (Nx (Int × (List T_api_Event)) ((List T_api_Event))) :=
 (if(decide (x679.1 < ((r675.length:Nat):Int))) then((atI x679.2 x679.1).bind fun y763=>((g_event_Clone y763).bind fun r765=>((setI x679.2 x679.1 r765).bind fun m767=>(some (.go ((IntKind.i64.wrap (x679.1+1)),m767)))))) else(some (.out x679.2)))
def g_document_Clone_nw (d_0:T_api_Document):Option (T_api_Document) :=
 (if d_0.Regions.isEmpty then((g_slices_Clone_api_Region_api_Region d_0.Regions).bind fun r17=>(if d_0.Comments.isEmpty then((g_slices_Clone_api_Comment_api_Comment d_0.Comments).bind fun r19=>(if d_0.Events.isEmpty then((g_slices_Clone_api_Event_api_Event d_0.Events).bind fun r27=>((iter (g_document_Clone_nw_s1 r27) ()).bind fun e32=>none)) else((g_slices_Clone_api_Event_api_Event_nw d_0.Events).bind fun r106=>((iter (g_document_Clone_nw_s2 r106) (0,r106)).bind fun e111=>(some (T_api_Document.mk d_0.Title d_0.Lang d_0.Rate d_0.Drop d_0.Last r17 e111 r19)))))) else((g_slices_Clone_api_Comment_api_Comment_nw d_0.Comments).bind fun r208=>(if d_0.Events.isEmpty then((g_slices_Clone_api_Event_api_Event d_0.Events).bind fun r216=>((iter (g_document_Clone_nw_s3 r216) ()).bind fun e221=>none)) else((g_slices_Clone_api_Event_api_Event_nw d_0.Events).bind fun r295=>((iter (g_document_Clone_nw_s4 r295) (0,r295)).bind fun e300=>(some (T_api_Document.mk d_0.Title d_0.Lang d_0.Rate d_0.Drop d_0.Last r17 e300 r208)))))))) else((g_slices_Clone_api_Region_api_Region_nw d_0.Regions).bind fun r397=>(if d_0.Comments.isEmpty then((g_slices_Clone_api_Comment_api_Comment d_0.Comments).bind fun r399=>(if d_0.Events.isEmpty then((g_slices_Clone_api_Event_api_Event d_0.Events).bind fun r407=>((iter (g_document_Clone_nw_s5 r407) ()).bind fun e412=>none)) else((g_slices_Clone_api_Event_api_Event_nw d_0.Events).bind fun r486=>((iter (g_document_Clone_nw_s6 r486) (0,r486)).bind fun e491=>(some (T_api_Document.mk d_0.Title d_0.Lang d_0.Rate d_0.Drop d_0.Last r397 e491 r399)))))) else((g_slices_Clone_api_Comment_api_Comment_nw d_0.Comments).bind fun r588=>(if d_0.Events.isEmpty then((g_slices_Clone_api_Event_api_Event d_0.Events).bind fun r596=>((iter (g_document_Clone_nw_s7 r596) ()).bind fun e601=>none)) else((g_slices_Clone_api_Event_api_Event_nw d_0.Events).bind fun r675=>((iter (g_document_Clone_nw_s8 r675) (0,r675)).bind fun e680=>(some (T_api_Document.mk d_0.Title d_0.Lang d_0.Rate d_0.Drop d_0.Last r397 e680 r588)))))))))
theorem a_document_Clone_nw {I:World→Prop} (hI:Stab I) {H:Nat→Option Blk} {nid:Nat} {d_0:T_api_Document} {r:T_api_Document} (h:g_document_Clone_nw d_0=some r):CallOK Tryz.prog I 24 [T_api_Document.d d_0] H nid (.agg [.str r.Title,.str r.Lang,.int .u8 r.Rate,.bool r.Drop,.int .i64 r.Last,.sl (r.Regions.map T_api_Region.d),.own nid r.Events.length,.sl (r.Comments.map T_api_Comment.d)]) [(nid,some (.vec 64 7 (r.Events.map T_api_Event.d) false))]:=by
 refine CallOK.own hI Tryz.func24 rfl (by decide) (by simp[Tryz.f24]) (by kernel_rfl) rfl rfl ?_
 have dd:=dd_ED;have k:=True.intro;have q:=k;have rs:=Tryz.results24
 unfold g_document_Clone_nw at h
 simp only[List.length_cons,List.length_nil,Nat.zero_add,Nat.reduceAdd,Tryz.ntmps24,dd]
 refine xs<|rz ?_
 refine es<|xs<|rD hI fun K16 RK16 hK16 gK16=>zz ?_
 rcases iK k h with⟨k,h⟩|⟨k,h⟩
 ·obtain⟨r17,h18,h⟩:=bs h
  refine cd (a_slices_Clone_api_Region_api_Region hI h18)<|zz ?_
  rcases iK k h with⟨k,h⟩|⟨k,h⟩
  ·obtain⟨r19,h20,h⟩:=bs h
   refine cd (a_slices_Clone_api_Comment_api_Comment hI h20)<|zz ?_
   refine hd<|zz ?_
   refine hd<|zz ?_
   subst hK16 gK16
   refine es<|xs<|rK fun K26 RK26 hK26 gK26=>zz ?_
   rcases iK k h with⟨k,h⟩|⟨k,h⟩
   ·obtain⟨r27,h28,h⟩:=bs h
    refine cw (a_slices_Clone_api_Event_api_Event hI h28)<|zz ?_
    subst hK26 gK26
    refine es<|xs<|xs<|rz ?_
    refine es<|xb ?_
    obtain⟨e32,h103,h⟩:=bs h
    refine rb_loop (fun x31=>⟨envL [(1,.ptr 0 0),(2,.ptr 1 0),(18,.sl (r27.map T_api_Event.d)),(19,.int .i64 (r27.length:Int)),(20,.int .i64 0)],heapL [(0,.box none [.str d_0.Title,.str d_0.Lang,.int .u8 d_0.Rate,.bool d_0.Drop,.int .i64 d_0.Last,.sl (r17.map T_api_Region.d),.sl (r27.map T_api_Event.d),.sl (r19.map T_api_Comment.d)]),(1,.box none [.str [],.str [],.int .u8 0,.bool false,.int .i64 0,.nils,.nils,.nils])],2,33⟩) (fun _=>.exit 0) (fun e32=>⟨envL [(1,.ptr 0 0),(2,.ptr 1 0)],heapL [(0,.box none [.str d_0.Title,.str d_0.Lang,.int .u8 d_0.Rate,.bool d_0.Drop,.int .i64 d_0.Last,.sl (r17.map T_api_Region.d),.sl (r27.map T_api_Event.d),.sl (r19.map T_api_Comment.d)]),(1,.box none [.str [],.str [],.int .u8 0,.bool false,.int .i64 0,.nils,.nils,.nils])],2,33⟩) h103 (wk []) (by intro w;simp) ?_ ?_
    ·clear h
     intro x31 y h
     unfold g_document_Clone_nw_s1 at h
     refine xs<|rz ?_
     refine es<|xs ?_
     rcases iK k h with⟨k,h⟩|⟨k,h⟩
     ·refine xt<|xk<|es<|xs<|xb<|xs<|rK fun K97 RK97 hK97 gK97=>zz ?_
      obtain⟨y98,q,h⟩:=bK q h
      refine zz ?_
      subst hK97 gK97
      refine es<|rD hI fun K100 RK100 hK100 gK100=>zz ?_
      obtain⟨r101,h102,h⟩:=bs h
      refine cd (a_event_Clone hI h102)<|zz ?_
      cases h
     ·refine xf<|xx<|ee ?_
      cases h
      exact en ⟨rfl,wk []⟩
    ·refine bh<|es<|xs<|rz ?_
     refine es<|xr ?_
     cases h
   ·obtain⟨r106,h107,h⟩:=bs h
    refine cW.introE (a_slices_Clone_api_Event_api_Event_nw hI (nid:=14) h107) fz rfl<|zz ?_
    subst hK26 gK26
    refine es<|xs<|xs<|rz ?_
    refine es<|xb ?_
    obtain⟨e111,h205,h⟩:=bs h
    refine rb_loop (fun x110=>⟨envL [(1,.ptr 0 0),(2,.ptr 2 0),(18,.own 1 x110.2.length),(19,.int .i64 ((r106.length:Nat):Int)),(20,.int .i64 x110.1)],heapL [(0,.box none [.str d_0.Title,.str d_0.Lang,.int .u8 d_0.Rate,.bool d_0.Drop,.int .i64 d_0.Last,.sl (r17.map T_api_Region.d),.own 1 x110.2.length,.sl (r19.map T_api_Comment.d)]),(1,.vec 64 7 (x110.2.map T_api_Event.d) false),(2,.box none [.str [],.str [],.int .u8 0,.bool false,.int .i64 0,.nils,.nils,.nils])],3,33⟩) (fun _=>.exit 0) (fun e111=>⟨envL [(1,.ptr 0 0),(2,.ptr 2 0)],heapL [(0,.box none [.str d_0.Title,.str d_0.Lang,.int .u8 d_0.Rate,.bool d_0.Drop,.int .i64 d_0.Last,.sl (r17.map T_api_Region.d),.own 1 e111.length,.sl (r19.map T_api_Comment.d)]),(1,.vec 64 7 (e111.map T_api_Event.d) false),(2,.box none [.str [],.str [],.int .u8 0,.bool false,.int .i64 0,.nils,.nils,.nils])],3,33⟩) h205 (wk [(1,some 14),(2,some 1)]) (by intro w;simp) ?_ ?_
    ·clear h
     intro x110 y h
     unfold g_document_Clone_nw_s2 at h
     refine xs<|rz ?_
     refine es<|xs ?_
     rcases iK k h with⟨k,h⟩|⟨k,h⟩
     ·refine xt<|xk<|es<|xs<|xb<|xs<|rK fun K193 RK193 hK193 gK193=>zz ?_
      obtain⟨y194,q,h⟩:=oN q h
      refine zz ?_
      subst hK193 gK193
      refine es<|rD hI fun K195 RK195 hK195 gK195=>zz ?_
      obtain⟨r196,h197,h⟩:=bs h
      refine cd (a_event_Clone hI h197)<|zz ?_
      obtain⟨m198,h199,h⟩:=bind_some h
      obtain⟨h200,h201,h202,h203⟩:=setI_some h199
      have h203:=h203 T_api_Event.d
      try simp only[sevalprocAttr,List.map_nil,dd] at h203
      have q:=And.intro @h200<|And.intro @h201<|And.intro @h202<|And.intro @h203<|q
      refine zz ?_
      refine hd<|zz ?_
      subst hK195 gK195
      refine bn<|es<|rz ?_
      cases h
      exact en ⟨rfl,wk []⟩
     ·refine xf<|xx<|ee ?_
      cases h
      exact en ⟨rfl,wk []⟩
    ·refine bh<|es<|xs<|rz ?_
     refine es<|xr ?_
     cases h
     exact en (fO 1)
  ·obtain⟨r208,h209,h⟩:=bs h
   refine cD'.introE (fun H' ho hs=>a_slices_Clone_api_Comment_api_Comment_nw hI (H:=H') (nid:=7) h209) fz rfl fk ?_
   refine zz ?_
   refine hd<|zz ?_
   refine hd<|zz ?_
   subst hK16 gK16
   refine es<|xs<|rK fun K215 RK215 hK215 gK215=>zz ?_
   rcases iK k h with⟨k,h⟩|⟨k,h⟩
   ·obtain⟨r216,h217,h⟩:=bs h
    refine cw (a_slices_Clone_api_Event_api_Event hI h217)<|zz ?_
    subst hK215 gK215
    refine es<|xs<|xs<|rz ?_
    refine es<|xb ?_
    obtain⟨e221,h292,h⟩:=bs h
    refine rb_loop (fun x220=>⟨envL [(1,.ptr 0 0),(2,.ptr 2 0),(18,.sl (r216.map T_api_Event.d)),(19,.int .i64 (r216.length:Int)),(20,.int .i64 0)],heapL [(0,.box none [.str d_0.Title,.str d_0.Lang,.int .u8 d_0.Rate,.bool d_0.Drop,.int .i64 d_0.Last,.sl (r17.map T_api_Region.d),.sl (r216.map T_api_Event.d),.own 1 r208.length]),(1,.vec 107 8 (r208.map T_api_Comment.d) false),(2,.box none [.str [],.str [],.int .u8 0,.bool false,.int .i64 0,.nils,.nils,.nils])],3,33⟩) (fun _=>.exit 0) (fun e221=>⟨envL [(1,.ptr 0 0),(2,.ptr 2 0)],heapL [(0,.box none [.str d_0.Title,.str d_0.Lang,.int .u8 d_0.Rate,.bool d_0.Drop,.int .i64 d_0.Last,.sl (r17.map T_api_Region.d),.sl (r216.map T_api_Event.d),.own 1 r208.length]),(1,.vec 107 8 (r208.map T_api_Comment.d) false),(2,.box none [.str [],.str [],.int .u8 0,.bool false,.int .i64 0,.nils,.nils,.nils])],3,33⟩) h292 (wk [(1,some 7),(2,some 1)]) (by intro w;simp) ?_ ?_
    ·clear h
     intro x220 y h
     unfold g_document_Clone_nw_s3 at h
     refine xs<|rz ?_
     refine es<|xs ?_
     rcases iK k h with⟨k,h⟩|⟨k,h⟩
     ·refine xt<|xk<|es<|xs<|xb<|xs<|rK fun K286 RK286 hK286 gK286=>zz ?_
      obtain⟨y287,q,h⟩:=bK q h
      refine zz ?_
      subst hK286 gK286
      refine es<|rD hI fun K289 RK289 hK289 gK289=>zz ?_
      obtain⟨r290,h291,h⟩:=bs h
      refine cd (a_event_Clone hI h291)<|zz ?_
      cases h
     ·refine xf<|xx<|ee ?_
      cases h
      exact en ⟨rfl,wk []⟩
    ·refine bh<|es<|xs<|rz ?_
     refine es<|xr ?_
     cases h
   ·obtain⟨r295,h296,h⟩:=bs h
    refine cW.introE (a_slices_Clone_api_Event_api_Event_nw hI (nid:=14) h296) fz rfl<|zz ?_
    subst hK215 gK215
    refine es<|xs<|xs<|rz ?_
    refine es<|xb ?_
    obtain⟨e300,h394,h⟩:=bs h
    refine rb_loop (fun x299=>⟨envL [(1,.ptr 0 0),(2,.ptr 3 0),(18,.own 1 x299.2.length),(19,.int .i64 ((r295.length:Nat):Int)),(20,.int .i64 x299.1)],heapL [(0,.box none [.str d_0.Title,.str d_0.Lang,.int .u8 d_0.Rate,.bool d_0.Drop,.int .i64 d_0.Last,.sl (r17.map T_api_Region.d),.own 1 x299.2.length,.own 2 r208.length]),(1,.vec 64 7 (x299.2.map T_api_Event.d) false),(2,.vec 107 8 (r208.map T_api_Comment.d) false),(3,.box none [.str [],.str [],.int .u8 0,.bool false,.int .i64 0,.nils,.nils,.nils])],4,33⟩) (fun _=>.exit 0) (fun e300=>⟨envL [(1,.ptr 0 0),(2,.ptr 3 0)],heapL [(0,.box none [.str d_0.Title,.str d_0.Lang,.int .u8 d_0.Rate,.bool d_0.Drop,.int .i64 d_0.Last,.sl (r17.map T_api_Region.d),.own 1 e300.length,.own 2 r208.length]),(1,.vec 64 7 (e300.map T_api_Event.d) false),(2,.vec 107 8 (r208.map T_api_Comment.d) false),(3,.box none [.str [],.str [],.int .u8 0,.bool false,.int .i64 0,.nils,.nils,.nils])],4,33⟩) h394 (wk [(1,some 14),(2,some 7),(3,some 1)]) (by intro w;simp) ?_ ?_
    ·clear h
     intro x299 y h
     unfold g_document_Clone_nw_s4 at h
     refine xs<|rz ?_
     refine es<|xs ?_
     rcases iK k h with⟨k,h⟩|⟨k,h⟩
     ·refine xt<|xk<|es<|xs<|xb<|xs<|rK fun K382 RK382 hK382 gK382=>zz ?_
      obtain⟨y383,q,h⟩:=oN q h
      refine zz ?_
      subst hK382 gK382
      refine es<|rD hI fun K384 RK384 hK384 gK384=>zz ?_
      obtain⟨r385,h386,h⟩:=bs h
      refine cd (a_event_Clone hI h386)<|zz ?_
      obtain⟨m387,h388,h⟩:=bind_some h
      obtain⟨h389,h390,h391,h392⟩:=setI_some h388
      have h392:=h392 T_api_Event.d
      try simp only[sevalprocAttr,List.map_nil,dd] at h392
      have q:=And.intro @h389<|And.intro @h390<|And.intro @h391<|And.intro @h392<|q
      refine zz ?_
      refine hd<|zz ?_
      subst hK384 gK384
      refine bn<|es<|rz ?_
      cases h
      exact en ⟨rfl,wk []⟩
     ·refine xf<|xx<|ee ?_
      cases h
      exact en ⟨rfl,wk []⟩
    ·refine bh<|es<|xs<|rz ?_
     refine es<|xr ?_
     cases h
     exact en (fO 1)
 ·obtain⟨r397,h398,h⟩:=bs h
  refine cD'.introE (fun H' ho hs=>a_slices_Clone_api_Region_api_Region_nw hI (H:=H') (nid:=4) h398) fz rfl fk ?_
  refine zz ?_
  rcases iK k h with⟨k,h⟩|⟨k,h⟩
  ·obtain⟨r399,h400,h⟩:=bs h
   refine cd (a_slices_Clone_api_Comment_api_Comment hI h400)<|zz ?_
   refine hd<|zz ?_
   refine hd<|zz ?_
   subst hK16 gK16
   refine es<|xs<|rK fun K406 RK406 hK406 gK406=>zz ?_
   rcases iK k h with⟨k,h⟩|⟨k,h⟩
   ·obtain⟨r407,h408,h⟩:=bs h
    refine cw (a_slices_Clone_api_Event_api_Event hI h408)<|zz ?_
    subst hK406 gK406
    refine es<|xs<|xs<|rz ?_
    refine es<|xb ?_
    obtain⟨e412,h483,h⟩:=bs h
    refine rb_loop (fun x411=>⟨envL [(1,.ptr 0 0),(2,.ptr 2 0),(18,.sl (r407.map T_api_Event.d)),(19,.int .i64 (r407.length:Int)),(20,.int .i64 0)],heapL [(0,.box none [.str d_0.Title,.str d_0.Lang,.int .u8 d_0.Rate,.bool d_0.Drop,.int .i64 d_0.Last,.own 1 r397.length,.sl (r407.map T_api_Event.d),.sl (r399.map T_api_Comment.d)]),(1,.vec 102 7 (r397.map T_api_Region.d) false),(2,.box none [.str [],.str [],.int .u8 0,.bool false,.int .i64 0,.nils,.nils,.nils])],3,33⟩) (fun _=>.exit 0) (fun e412=>⟨envL [(1,.ptr 0 0),(2,.ptr 2 0)],heapL [(0,.box none [.str d_0.Title,.str d_0.Lang,.int .u8 d_0.Rate,.bool d_0.Drop,.int .i64 d_0.Last,.own 1 r397.length,.sl (r407.map T_api_Event.d),.sl (r399.map T_api_Comment.d)]),(1,.vec 102 7 (r397.map T_api_Region.d) false),(2,.box none [.str [],.str [],.int .u8 0,.bool false,.int .i64 0,.nils,.nils,.nils])],3,33⟩) h483 (wk [(1,some 4),(2,some 1)]) (by intro w;simp) ?_ ?_
    ·clear h
     intro x411 y h
     unfold g_document_Clone_nw_s5 at h
     refine xs<|rz ?_
     refine es<|xs ?_
     rcases iK k h with⟨k,h⟩|⟨k,h⟩
     ·refine xt<|xk<|es<|xs<|xb<|xs<|rK fun K477 RK477 hK477 gK477=>zz ?_
      obtain⟨y478,q,h⟩:=bK q h
      refine zz ?_
      subst hK477 gK477
      refine es<|rD hI fun K480 RK480 hK480 gK480=>zz ?_
      obtain⟨r481,h482,h⟩:=bs h
      refine cd (a_event_Clone hI h482)<|zz ?_
      cases h
     ·refine xf<|xx<|ee ?_
      cases h
      exact en ⟨rfl,wk []⟩
    ·refine bh<|es<|xs<|rz ?_
     refine es<|xr ?_
     cases h
   ·obtain⟨r486,h487,h⟩:=bs h
    refine cW.introE (a_slices_Clone_api_Event_api_Event_nw hI (nid:=14) h487) fz rfl<|zz ?_
    subst hK406 gK406
    refine es<|xs<|xs<|rz ?_
    refine es<|xb ?_
    obtain⟨e491,h585,h⟩:=bs h
    refine rb_loop (fun x490=>⟨envL [(1,.ptr 0 0),(2,.ptr 3 0),(18,.own 2 x490.2.length),(19,.int .i64 ((r486.length:Nat):Int)),(20,.int .i64 x490.1)],heapL [(0,.box none [.str d_0.Title,.str d_0.Lang,.int .u8 d_0.Rate,.bool d_0.Drop,.int .i64 d_0.Last,.own 1 r397.length,.own 2 x490.2.length,.sl (r399.map T_api_Comment.d)]),(1,.vec 102 7 (r397.map T_api_Region.d) false),(2,.vec 64 7 (x490.2.map T_api_Event.d) false),(3,.box none [.str [],.str [],.int .u8 0,.bool false,.int .i64 0,.nils,.nils,.nils])],4,33⟩) (fun _=>.exit 0) (fun e491=>⟨envL [(1,.ptr 0 0),(2,.ptr 3 0)],heapL [(0,.box none [.str d_0.Title,.str d_0.Lang,.int .u8 d_0.Rate,.bool d_0.Drop,.int .i64 d_0.Last,.own 1 r397.length,.own 2 e491.length,.sl (r399.map T_api_Comment.d)]),(1,.vec 102 7 (r397.map T_api_Region.d) false),(2,.vec 64 7 (e491.map T_api_Event.d) false),(3,.box none [.str [],.str [],.int .u8 0,.bool false,.int .i64 0,.nils,.nils,.nils])],4,33⟩) h585 (wk [(1,some 4),(2,some 14),(3,some 1)]) (by intro w;simp) ?_ ?_
    ·clear h
     intro x490 y h
     unfold g_document_Clone_nw_s6 at h
     refine xs<|rz ?_
     refine es<|xs ?_
     rcases iK k h with⟨k,h⟩|⟨k,h⟩
     ·refine xt<|xk<|es<|xs<|xb<|xs<|rK fun K573 RK573 hK573 gK573=>zz ?_
      obtain⟨y574,q,h⟩:=oN q h
      refine zz ?_
      subst hK573 gK573
      refine es<|rD hI fun K575 RK575 hK575 gK575=>zz ?_
      obtain⟨r576,h577,h⟩:=bs h
      refine cd (a_event_Clone hI h577)<|zz ?_
      obtain⟨m578,h579,h⟩:=bind_some h
      obtain⟨h580,h581,h582,h583⟩:=setI_some h579
      have h583:=h583 T_api_Event.d
      try simp only[sevalprocAttr,List.map_nil,dd] at h583
      have q:=And.intro @h580<|And.intro @h581<|And.intro @h582<|And.intro @h583<|q
      refine zz ?_
      refine hd<|zz ?_
      subst hK575 gK575
      refine bn<|es<|rz ?_
      cases h
      exact en ⟨rfl,wk []⟩
     ·refine xf<|xx<|ee ?_
      cases h
      exact en ⟨rfl,wk []⟩
    ·refine bh<|es<|xs<|rz ?_
     refine es<|xr ?_
     cases h
     exact en (fO 2)
  ·obtain⟨r588,h589,h⟩:=bs h
   refine cD'.introE (fun H' ho hs=>a_slices_Clone_api_Comment_api_Comment_nw hI (H:=H') (nid:=7) h589) fz rfl fk ?_
   refine zz ?_
   refine hd<|zz ?_
   refine hd<|zz ?_
   subst hK16 gK16
   refine es<|xs<|rK fun K595 RK595 hK595 gK595=>zz ?_
   rcases iK k h with⟨k,h⟩|⟨k,h⟩
   ·obtain⟨r596,h597,h⟩:=bs h
    refine cw (a_slices_Clone_api_Event_api_Event hI h597)<|zz ?_
    subst hK595 gK595
    refine es<|xs<|xs<|rz ?_
    refine es<|xb ?_
    obtain⟨e601,h672,h⟩:=bs h
    refine rb_loop (fun x600=>⟨envL [(1,.ptr 0 0),(2,.ptr 3 0),(18,.sl (r596.map T_api_Event.d)),(19,.int .i64 (r596.length:Int)),(20,.int .i64 0)],heapL [(0,.box none [.str d_0.Title,.str d_0.Lang,.int .u8 d_0.Rate,.bool d_0.Drop,.int .i64 d_0.Last,.own 1 r397.length,.sl (r596.map T_api_Event.d),.own 2 r588.length]),(1,.vec 102 7 (r397.map T_api_Region.d) false),(2,.vec 107 8 (r588.map T_api_Comment.d) false),(3,.box none [.str [],.str [],.int .u8 0,.bool false,.int .i64 0,.nils,.nils,.nils])],4,33⟩) (fun _=>.exit 0) (fun e601=>⟨envL [(1,.ptr 0 0),(2,.ptr 3 0)],heapL [(0,.box none [.str d_0.Title,.str d_0.Lang,.int .u8 d_0.Rate,.bool d_0.Drop,.int .i64 d_0.Last,.own 1 r397.length,.sl (r596.map T_api_Event.d),.own 2 r588.length]),(1,.vec 102 7 (r397.map T_api_Region.d) false),(2,.vec 107 8 (r588.map T_api_Comment.d) false),(3,.box none [.str [],.str [],.int .u8 0,.bool false,.int .i64 0,.nils,.nils,.nils])],4,33⟩) h672 (wk [(1,some 4),(2,some 7),(3,some 1)]) (by intro w;simp) ?_ ?_
    ·clear h
     intro x600 y h
     unfold g_document_Clone_nw_s7 at h
     refine xs<|rz ?_
     refine es<|xs ?_
     rcases iK k h with⟨k,h⟩|⟨k,h⟩
     ·refine xt<|xk<|es<|xs<|xb<|xs<|rK fun K666 RK666 hK666 gK666=>zz ?_
      obtain⟨y667,q,h⟩:=bK q h
      refine zz ?_
      subst hK666 gK666
      refine es<|rD hI fun K669 RK669 hK669 gK669=>zz ?_
      obtain⟨r670,h671,h⟩:=bs h
      refine cd (a_event_Clone hI h671)<|zz ?_
      cases h
     ·refine xf<|xx<|ee ?_
      cases h
      exact en ⟨rfl,wk []⟩
    ·refine bh<|es<|xs<|rz ?_
     refine es<|xr ?_
     cases h
   ·obtain⟨r675,h676,h⟩:=bs h
    refine cW.introE (a_slices_Clone_api_Event_api_Event_nw hI (nid:=14) h676) fz rfl<|zz ?_
    subst hK595 gK595
    refine es<|xs<|xs<|rz ?_
    refine es<|xb ?_
    obtain⟨e680,h774,h⟩:=bs h
    refine rb_loop (fun x679=>⟨envL [(1,.ptr 0 0),(2,.ptr 4 0),(18,.own 2 x679.2.length),(19,.int .i64 ((r675.length:Nat):Int)),(20,.int .i64 x679.1)],heapL [(0,.box none [.str d_0.Title,.str d_0.Lang,.int .u8 d_0.Rate,.bool d_0.Drop,.int .i64 d_0.Last,.own 1 r397.length,.own 2 x679.2.length,.own 3 r588.length]),(1,.vec 102 7 (r397.map T_api_Region.d) false),(2,.vec 64 7 (x679.2.map T_api_Event.d) false),(3,.vec 107 8 (r588.map T_api_Comment.d) false),(4,.box none [.str [],.str [],.int .u8 0,.bool false,.int .i64 0,.nils,.nils,.nils])],5,33⟩) (fun _=>.exit 0) (fun e680=>⟨envL [(1,.ptr 0 0),(2,.ptr 4 0)],heapL [(0,.box none [.str d_0.Title,.str d_0.Lang,.int .u8 d_0.Rate,.bool d_0.Drop,.int .i64 d_0.Last,.own 1 r397.length,.own 2 e680.length,.own 3 r588.length]),(1,.vec 102 7 (r397.map T_api_Region.d) false),(2,.vec 64 7 (e680.map T_api_Event.d) false),(3,.vec 107 8 (r588.map T_api_Comment.d) false),(4,.box none [.str [],.str [],.int .u8 0,.bool false,.int .i64 0,.nils,.nils,.nils])],5,33⟩) h774 (wk [(1,some 4),(2,some 14),(3,some 7),(4,some 1)]) (by intro w;simp) ?_ ?_
    ·clear h
     intro x679 y h
     unfold g_document_Clone_nw_s8 at h
     refine xs<|rz ?_
     refine es<|xs ?_
     rcases iK k h with⟨k,h⟩|⟨k,h⟩
     ·refine xt<|xk<|es<|xs<|xb<|xs<|rK fun K762 RK762 hK762 gK762=>zz ?_
      obtain⟨y763,q,h⟩:=oN q h
      refine zz ?_
      subst hK762 gK762
      refine es<|rD hI fun K764 RK764 hK764 gK764=>zz ?_
      obtain⟨r765,h766,h⟩:=bs h
      refine cd (a_event_Clone hI h766)<|zz ?_
      obtain⟨m767,h768,h⟩:=bind_some h
      obtain⟨h769,h770,h771,h772⟩:=setI_some h768
      have h772:=h772 T_api_Event.d
      try simp only[sevalprocAttr,List.map_nil,dd] at h772
      have q:=And.intro @h769<|And.intro @h770<|And.intro @h771<|And.intro @h772<|q
      refine zz ?_
      refine hd<|zz ?_
      subst hK764 gK764
      refine bn<|es<|rz ?_
      cases h
      exact en ⟨rfl,wk []⟩
     ·refine xf<|xx<|ee ?_
      cases h
      exact en ⟨rfl,wk []⟩
    ·refine bh<|es<|xs<|rz ?_
     refine es<|xr ?_
     cases h
     exact en (fO 2)
def g_document_Find_1 (x_0:T_api_Event) (a_1:Int):Option (Bool) :=
 (some (x_0.ID == a_1))
theorem a_document_Find_1 {I:World→Prop} (hI:Stab I) {x_0:T_api_Event} {a_1:Int} {r:Bool} (h:g_document_Find_1 x_0 a_1=some r):AFun Tryz.prog I 68 [T_api_Event.d x_0,.iptr [.int .i64 a_1]] (.bool r):=by
 have dd:=dd_ED;have k:=True.intro;have q:=k;have rs:=Tryz.results68
 unfold g_document_Find_1 at h
 refine .en hI Tryz.func68 Tryz.ntmps68 ?_
 refine xs<|rz ?_
 refine es<|xs<|rz ?_
 refine es<|xr ?_
 cases h
 exact en fr
def g_slices_IndexFunc_api_Event_api_Event_s1 (s_0:List T_api_Event) (c1_0:Int) (x5:Int):Option (Nx (Int) (Int ⊕ Unit)) :=
 (if(decide (x5 < (s_0.length:Int))) then((atI s_0 x5).bind fun y69=>((g_document_Find_1 y69 c1_0).bind fun r71=>(if r71 then(some (.out (.inl x5))) else(some (.go (IntKind.i64.wrap (x5+1))))))) else(some (.out (.inr ()))))
def g_slices_IndexFunc_api_Event_api_Event (s_0:List T_api_Event) (c1_0:Int):Option (Int) :=
 ((iter (g_slices_IndexFunc_api_Event_api_Event_s1 s_0 c1_0) 0).bind fun e6=>(match e6 with|Sum.inl e6=>(some e6)|Sum.inr (e6)=>(some (-1))))
theorem a_slices_IndexFunc_api_Event_api_Event {I:World→Prop} (hI:Stab I) {s_0:List T_api_Event} {c1_0:Int} {r:Int} (h:g_slices_IndexFunc_api_Event_api_Event s_0 c1_0=some r):AFun Tryz.prog I 67 [.sl (s_0.map T_api_Event.d),.fn 68 [.iptr [.int .i64 c1_0]]] (.int .i64 r):=by
 have dd:=dd_ED;have k:=True.intro;have q:=k;have rs:=Tryz.results67
 unfold g_slices_IndexFunc_api_Event_api_Event at h
 refine .en hI Tryz.func67 Tryz.ntmps67 ?_
 refine xs<|rz ?_
 refine es<|xs<|xs<|rz ?_
 refine es<|xb ?_
 obtain⟨e6,h77,h⟩:=bs h
 refine rb_loop (fun x5=>⟨envL [(0,.sl (s_0.map T_api_Event.d)),(1,.fn 68 [.iptr [.int .i64 c1_0]]),(7,.int .i64 (s_0.length:Int)),(8,.int .i64 x5)],heapL [],0,19⟩) (fun w=>match w with|Sum.inl _=>.ret|Sum.inr (_)=>.exit 0) (fun w=>match w with|Sum.inl e6=>⟨envL [(4,.int .i64 e6)],heapL [],0,19⟩|Sum.inr (e6)=>⟨envL [],heapL [],0,19⟩) h77 (wk []) (by intro w;rcases w with w|w<;>simp) ?_ ?_
 ·clear h
  intro x5 y h
  unfold g_slices_IndexFunc_api_Event_api_Event_s1 at h
  refine xs<|rz ?_
  refine es<|xs ?_
  rcases iK k h with⟨k,h⟩|⟨k,h⟩
  ·refine xt<|xk<|es<|xs<|xb<|xs<|rz ?_
   refine es<|xs<|rK fun K68 RK68 hK68 gK68=>zz ?_
   obtain⟨y69,q,h⟩:=bK q h
   refine zz ?_
   obtain⟨r71,h72,h⟩:=bs h
   refine cw (a_document_Find_1 hI h72)<|zz ?_
   subst hK68 gK68
   refine es ?_
   rcases iK k h with⟨k,h⟩|⟨k,h⟩
   ·refine xt<|xs<|rz ?_
    refine es<|xr<|br<|er ?_
    cases h
    exact en ⟨rfl,wk []⟩
   ·refine xf<|xk<|bn<|es<|rz ?_
    cases h
    exact en ⟨rfl,wk []⟩
  ·refine xf<|xx<|ee ?_
   cases h
   exact en ⟨rfl,wk []⟩
 ·rcases e6 with e6|e6
  ·try dsimp only at h ⊢
   refine br<|er ?_
   cases h
   exact en fr
  ·try dsimp only at h ⊢
   refine bh<|es<|xs<|rz ?_
   refine es<|xr ?_
   cases h
   exact en fr
def g_slices_IndexFunc_api_Event_api_Event_ro_s1 (s_0:List T_api_Event) (c1_0:Int) (x5:Int):Option (Nx (Int) (Int ⊕ Unit)) :=
 (if(decide (x5 < ((s_0.length:Nat):Int))) then((atI s_0 x5).bind fun y93=>((g_document_Find_1 y93 c1_0).bind fun r94=>(if r94 then(some (.out (.inl x5))) else(some (.go (IntKind.i64.wrap (x5+1))))))) else(some (.out (.inr ()))))
def g_slices_IndexFunc_api_Event_api_Event_ro (s_0:List T_api_Event) (c1_0:Int):Option (Int) :=
 ((iter (g_slices_IndexFunc_api_Event_api_Event_ro_s1 s_0 c1_0) 0).bind fun e6=>(match e6 with|Sum.inl e6=>(some e6)|Sum.inr (e6)=>(some (-1))))
theorem a_slices_IndexFunc_api_Event_api_Event_ro0 {I:World→Prop} (hI:Stab I) {H:Nat→Option Blk} {nid i0:Nat} {pn:Option Value} {s_0:List T_api_Event} {c1_0:Int} {r:Int} (h:g_slices_IndexFunc_api_Event_api_Event_ro s_0 c1_0=some r) (b0:H i0=some (rowB pn 64 7 (s_0.map T_api_Event.d))):CallOK Tryz.prog I 67 [.own i0 s_0.length,.fn 68 [.iptr [.int .i64 c1_0]]] H nid (.int .i64 r) []:=by
 refine CallOK.ro (eff:=[(i0,some (rowB pn 64 7 (s_0.map T_api_Event.d)))]) (CallOK.inrow (i0:=i0) (ds0:=[.own 0 s_0.length,.fn 68 [.iptr [.int .i64 c1_0]]]) hI Tryz.func67 rfl (by decide) (by simp[Tryz.f67]) (by kernel_rfl) rfl rfl b0 fun uv=>?_) (ro1 b0)
 have dd:=dd_ED;have k:=True.intro;have q:=k;have rs:=Tryz.results67
 unfold g_slices_IndexFunc_api_Event_api_Event_ro at h
 simp only[List.length_cons,List.length_nil,Nat.zero_add,Nat.reduceAdd,Tryz.ntmps67,dd]
 refine xs<|rz ?_
 refine es<|xs<|xs<|rz ?_
 refine es<|xb ?_
 obtain⟨e6,h100,h⟩:=bs h
 refine rb_loop (fun x5=>⟨envL [(0,.own 0 s_0.length),(1,.fn 68 [.iptr [.int .i64 c1_0]]),(7,.int .i64 ((s_0.length:Nat):Int)),(8,.int .i64 x5)],heapL [(0,.lrow uv 64 7 (s_0.map T_api_Event.d))],1,19⟩) (fun w=>match w with|Sum.inl _=>.ret|Sum.inr (_)=>.exit 0) (fun w=>match w with|Sum.inl e6=>⟨envL [(0,.own 0 s_0.length),(4,.int .i64 e6)],heapL [(0,.lrow uv 64 7 (s_0.map T_api_Event.d))],1,19⟩|Sum.inr (e6)=>⟨envL [(0,.own 0 s_0.length)],heapL [(0,.lrow uv 64 7 (s_0.map T_api_Event.d))],1,19⟩) h100 (wk []) (by intro w;rcases w with w|w<;>simp) ?_ ?_
 ·clear h
  intro x5 y h
  unfold g_slices_IndexFunc_api_Event_api_Event_ro_s1 at h
  refine xs<|rz ?_
  refine es<|xs ?_
  rcases iK k h with⟨k,h⟩|⟨k,h⟩
  ·refine xt<|xk<|es<|xs<|xb<|xs<|rz ?_
   refine es<|xs<|rK fun K92 RK92 hK92 gK92=>zz ?_
   obtain⟨y93,q,h⟩:=oN q h
   refine zz ?_
   obtain⟨r94,h95,h⟩:=bs h
   refine cw (a_document_Find_1 hI h95)<|zz ?_
   subst hK92 gK92
   refine es ?_
   rcases iK k h with⟨k,h⟩|⟨k,h⟩
   ·refine xt<|xs<|rz ?_
    refine es<|xr<|br<|er ?_
    cases h
    exact en ⟨rfl,wk []⟩
   ·refine xf<|xk<|bn<|es<|rz ?_
    cases h
    exact en ⟨rfl,wk []⟩
  ·refine xf<|xx<|ee ?_
   cases h
   exact en ⟨rfl,wk []⟩
 ·rcases e6 with e6|e6
  ·try dsimp only at h ⊢
   refine br<|er ?_
   cases h
   exact en (fI 0)
  ·try dsimp only at h ⊢
   refine bh<|es<|xs<|rz ?_
   refine es<|xr ?_
   cases h
   exact en (fI 0)
theorem a_slices_IndexFunc_api_Event_api_Event_ro_l {I:World→Prop} (hI:Stab I) {H:Nat→Option Blk} {nid i0:Nat} {u:Value} {s_0:List T_api_Event} {c1_0:Int} {r:Int} (h:g_slices_IndexFunc_api_Event_api_Event_ro s_0 c1_0=some r) (b0:H i0=some (.lrow u 64 7 (s_0.map T_api_Event.d))):CallOK Tryz.prog I 67 [.own i0 s_0.length,.fn 68 [.iptr [.int .i64 c1_0]]] H nid (.int .i64 r) [] :=
 a_slices_IndexFunc_api_Event_api_Event_ro0 hI (pn:=some u) h b0
def g_document_Find (d_0:T_api_Document) (id_1:Int):Option (Int) :=
 ((g_slices_IndexFunc_api_Event_api_Event d_0.Events id_1).bind fun r7=>(some r7))
theorem a_document_Find {I:World→Prop} (hI:Stab I) {d_0:T_api_Document} {id_1:Int} {r:Int} (h:g_document_Find d_0 id_1=some r):AFun Tryz.prog I 25 [T_api_Document.d d_0,.int .i64 id_1] (.int .i64 r):=by
 have dd:=dd_ED;have k:=True.intro;have q:=k;have rs:=Tryz.results25
 unfold g_document_Find at h
 refine .en hI Tryz.func25 Tryz.ntmps25 ?_
 refine xs<|rz ?_
 refine eWk _ ((Wk.freeze (id:=1) (cs:=[.int .i64 id_1]) fz fz).trans (wkF (l:=[(2,.ptr 0 0),(3,.iptr [.int .i64 id_1])]) (h:=[(0,.box none [.str d_0.Title,.str d_0.Lang,.int .u8 d_0.Rate,.bool d_0.Drop,.int .i64 d_0.Last,.sl (d_0.Regions.map T_api_Region.d),.sl (d_0.Events.map T_api_Event.d),.sl (d_0.Comments.map T_api_Comment.d)])]) (n:=3) []))<|xs<|rK fun K6 RK6 hK6 gK6=>zz ?_
 obtain⟨r7,h8,h⟩:=bs h
 refine cw (a_slices_IndexFunc_api_Event_api_Event hI h8)<|zz ?_
 subst hK6 gK6
 refine es<|xr ?_
 cases h
 exact en fr
def g_document_Find_ro (d_0:T_api_Document) (id_1:Int):Option (Int) :=
 ((g_slices_IndexFunc_api_Event_api_Event_ro d_0.Events id_1).bind fun r7=>(some r7))
theorem a_document_Find_ro0 {I:World→Prop} (hI:Stab I) {H:Nat→Option Blk} {nid i0:Nat} {pn:Option Value} {d_0:T_api_Document} {id_1:Int} {r:Int} (h:g_document_Find_ro d_0 id_1=some r) (b0:H i0=some (rowB pn 64 7 (d_0.Events.map T_api_Event.d))):CallOK Tryz.prog I 25 [.agg [.str d_0.Title,.str d_0.Lang,.int .u8 d_0.Rate,.bool d_0.Drop,.int .i64 d_0.Last,.sl (d_0.Regions.map T_api_Region.d),.own i0 d_0.Events.length,.sl (d_0.Comments.map T_api_Comment.d)],.int .i64 id_1] H nid (.int .i64 r) []:=by
 refine CallOK.ro (eff:=[(i0,some (rowB pn 64 7 (d_0.Events.map T_api_Event.d)))]) (CallOK.inrow (i0:=i0) (ds0:=[.agg [.str d_0.Title,.str d_0.Lang,.int .u8 d_0.Rate,.bool d_0.Drop,.int .i64 d_0.Last,.sl (d_0.Regions.map T_api_Region.d),.own 0 d_0.Events.length,.sl (d_0.Comments.map T_api_Comment.d)],.int .i64 id_1]) hI Tryz.func25 rfl (by decide) (by simp[Tryz.f25]) (by kernel_rfl) rfl rfl b0 fun uv=>?_) (ro1 b0)
 have dd:=dd_ED;have k:=True.intro;have q:=k;have rs:=Tryz.results25
 unfold g_document_Find_ro at h
 simp only[List.length_cons,List.length_nil,Nat.zero_add,Nat.reduceAdd,Tryz.ntmps25,dd]
 refine xs<|rz ?_
 refine eWk _ ((Wk.freeze (id:=2) (cs:=[.int .i64 id_1]) fz fz).trans (wkF (l:=[(0,.agg [.str d_0.Title,.str d_0.Lang,.int .u8 d_0.Rate,.bool d_0.Drop,.int .i64 d_0.Last,.sl (d_0.Regions.map T_api_Region.d),.own 0 d_0.Events.length,.sl (d_0.Comments.map T_api_Comment.d)]),(2,.ptr 1 0),(3,.iptr [.int .i64 id_1])]) (h:=[(0,.lrow uv 64 7 (d_0.Events.map T_api_Event.d)),(1,.box none [.str d_0.Title,.str d_0.Lang,.int .u8 d_0.Rate,.bool d_0.Drop,.int .i64 d_0.Last,.sl (d_0.Regions.map T_api_Region.d),.own 0 d_0.Events.length,.sl (d_0.Comments.map T_api_Comment.d)])]) (n:=4) []))<|xs<|rK fun K6 RK6 hK6 gK6=>zz ?_
 obtain⟨r7,h8,h⟩:=bs h
 refine rW.intro (a_slices_IndexFunc_api_Event_api_Event_ro_l hI (nid:=7) (i0:=0) (u:=uv) h8 fz) fi rfl<|zz ?_
 subst hK6 gK6
 refine es<|xr ?_
 cases h
 exact en (fI 0)
theorem a_document_Find_ro {I:World→Prop} (hI:Stab I) {H:Nat→Option Blk} {nid i0:Nat} {d_0:T_api_Document} {id_1:Int} {r:Int} (h:g_document_Find_ro d_0 id_1=some r) (b0:H i0=some (.vec 64 7 (d_0.Events.map T_api_Event.d) false)):CallOK Tryz.prog I 25 [.agg [.str d_0.Title,.str d_0.Lang,.int .u8 d_0.Rate,.bool d_0.Drop,.int .i64 d_0.Last,.sl (d_0.Regions.map T_api_Region.d),.own i0 d_0.Events.length,.sl (d_0.Comments.map T_api_Comment.d)],.int .i64 id_1] H nid (.int .i64 r) [] :=
 a_document_Find_ro0 hI (pn:=none) h b0
def g_document_Sort_1 (a_0:T_api_Event) (b_1:T_api_Event):Option (Int) :=
 ((g_cmp_Compare_int64 a_0.Span.In b_1.Span.In).bind fun r11=>((g_cmp_Compare_int64 a_0.ID b_1.ID).bind fun r13=>((g_cmp_Or_int [r11,r13]).bind fun r15=>(some r15))))
theorem a_document_Sort_1 {I:World→Prop} (hI:Stab I) {a_0:T_api_Event} {b_1:T_api_Event} {r:Int} (h:g_document_Sort_1 a_0 b_1=some r):AFun Tryz.prog I 103 [T_api_Event.d a_0,T_api_Event.d b_1] (.int .i64 r):=by
 have dd:=dd_ED;have k:=True.intro;have q:=k;have rs:=Tryz.results103
 unfold g_document_Sort_1 at h
 refine .en hI Tryz.func103 Tryz.ntmps103 ?_
 refine xs<|rz ?_
 refine es<|xs<|rD hI fun K10 RK10 hK10 gK10=>zz ?_
 obtain⟨r11,h12,h⟩:=bs h
 refine cd (a_cmp_Compare_int64 hI h12)<|zz ?_
 obtain⟨r13,h14,h⟩:=bs h
 refine cd (a_cmp_Compare_int64 hI h14)<|zz ?_
 obtain⟨r15,h16,h⟩:=bs h
 refine cd (a_cmp_Or_int hI h16)<|zz ?_
 subst hK10 gK10
 refine es<|xr ?_
 cases h
 exact en fr
def g_slices_insertionSortCmpFunc_api_Event_w_s2 (a_1:Int) (x317:Int × (List T_api_Event)):Option (Nx (Int × (List T_api_Event)) ((List T_api_Event))) :=
 (((if(decide (a_1 < x317.1)) then((atI x317.2 x317.1).bind fun y376=>((atI x317.2 (IntKind.i64.wrap (x317.1 - 1))).bind fun y377=>((g_document_Sort_1 y376 y377).bind fun r378=>(some (decide (r378 < 0)))))) else(some false)):Option (Bool)).bind fun v373=>(if v373 then((atI x317.2 (IntKind.i64.wrap (x317.1 - 1))).bind fun y399=>((atI x317.2 x317.1).bind fun y400=>((setI x317.2 x317.1 y399).bind fun m401=>((atI m401 (IntKind.i64.wrap (x317.1 - 1))).bind fun y407=>((setI m401 (IntKind.i64.wrap (x317.1 - 1)) y400).bind fun m408=>(some (.go ((IntKind.i64.wrap (x317.1 - 1)),m408)))))))) else(some (.out x317.2))))
def g_slices_insertionSortCmpFunc_api_Event_w_s1 (a_1:Int) (b_2:Int) (x3:Int × (List T_api_Event)):Option (Nx (Int × (List T_api_Event)) ((List T_api_Event))) :=
 (if(decide (x3.1 < b_2)) then((iter (g_slices_insertionSortCmpFunc_api_Event_w_s2 a_1) (x3.1,x3.2)).bind fun e318=>(some (.go ((IntKind.i64.wrap (x3.1+1)),e318)))) else(some (.out x3.2)))
def g_slices_insertionSortCmpFunc_api_Event_w (data_0:List T_api_Event) (a_1:Int) (b_2:Int):Option ((List T_api_Event)) :=
 ((iter (g_slices_insertionSortCmpFunc_api_Event_w_s1 a_1 b_2) ((IntKind.i64.wrap (a_1+1)),data_0)).bind fun e4=>(some e4))
theorem a_slices_insertionSortCmpFunc_api_Event_w {I:World→Prop} (hI:Stab I) {H:Nat→Option Blk} {nid i0:Nat} {pn:Option Value} {data_0:List T_api_Event} {a_1:Int} {b_2:Int} {r:(List T_api_Event)} (h:g_slices_insertionSortCmpFunc_api_Event_w data_0 a_1 b_2=some r) (b0:H i0=some (rowB pn 64 7 (data_0.map T_api_Event.d))):CallOK Tryz.prog I 168 [.own i0 data_0.length,.int .i64 a_1,.int .i64 b_2,.fn 103 []] H nid (.tup []) [(i0,some (rowB pn 64 7 (r.map T_api_Event.d)))]:=by
 refine CallOK.inrow (i0:=i0) (ds0:=[.own 0 data_0.length,.int .i64 a_1,.int .i64 b_2,.fn 103 []]) hI Tryz.func168 rfl (by decide) (by simp[Tryz.f168]) (by kernel_rfl) rfl rfl b0 fun uv=>?_
 have dd:=dd_ED;have k:=True.intro;have q:=k;have rs:=Tryz.results168
 unfold g_slices_insertionSortCmpFunc_api_Event_w at h
 simp only[List.length_cons,List.length_nil,Nat.zero_add,Nat.reduceAdd,Tryz.ntmps168,dd]
 refine xs<|rz ?_
 refine es<|xb ?_
 obtain⟨e4,h417,h⟩:=bs h
 refine rb_loop (fun x3=>⟨envL [(0,.own 0 x3.2.length),(1,.int .i64 a_1),(2,.int .i64 b_2),(3,.fn 103 []),(8,.int .i64 x3.1)],heapL [(0,.lrow uv 64 7 (x3.2.map T_api_Event.d))],1,53⟩) (fun _=>.exit 0) (fun e4=>⟨envL [(0,.own 0 e4.length)],heapL [(0,.lrow uv 64 7 (e4.map T_api_Event.d))],1,53⟩) h417 (wk []) (by intro w;simp) ?_ ?_
 ·clear h
  intro x3 y h
  unfold g_slices_insertionSortCmpFunc_api_Event_w_s1 at h
  refine xs<|xs<|rz ?_
  refine es ?_
  rcases iK k h with⟨k,h⟩|⟨k,h⟩
  ·refine xt<|xk<|es<|xs<|xb<|xs<|rz ?_
   refine es<|xb ?_
   obtain⟨e318,h415,h⟩:=bs h
   refine rb_loop (fun x317=>⟨envL [(0,.own 0 x317.2.length),(1,.int .i64 a_1),(2,.int .i64 b_2),(3,.fn 103 []),(8,.int .i64 x3.1),(9,.int .i64 x317.1)],heapL [(0,.lrow uv 64 7 (x317.2.map T_api_Event.d))],1,53⟩) (fun _=>.exit 2) (fun e318=>⟨envL [(0,.own 0 e318.length),(1,.int .i64 a_1),(2,.int .i64 b_2),(3,.fn 103 []),(8,.int .i64 x3.1)],heapL [(0,.lrow uv 64 7 (e318.map T_api_Event.d))],1,53⟩) h415 (wk []) (by intro w;simp) ?_ ?_
   ·clear h
    intro x317 y h
    unfold g_slices_insertionSortCmpFunc_api_Event_w_s2 at h
    refine xs ?_
    obtain⟨v373,h380,h⟩:=bs h
    refine rb_cut (fun v373=>⟨envL [(0,.own 0 x317.2.length),(1,.int .i64 a_1),(2,.int .i64 b_2),(3,.fn 103 []),(8,.int .i64 x3.1),(9,.int .i64 x317.1),(34,.bool v373)],heapL [(0,.lrow uv 64 7 (x317.2.map T_api_Event.d))],1,53⟩) h380 ?_ ?_
    ·clear h
     intro v373 h
     refine rD hI fun K374 RK374 hK374 gK374=>zz ?_
     rcases iK k h with⟨k,h⟩|⟨k,h⟩
     ·refine zz ?_
      obtain⟨y376,q,h⟩:=oN q h
      refine zz ?_
      obtain⟨y377,q,h⟩:=oN q h
      refine zz ?_
      obtain⟨r378,h379,h⟩:=bs h
      refine cd (a_document_Sort_1 hI h379)<|zz ?_
      subst hK374 gK374
      cases h
      exact en ⟨rfl,wk []⟩
     ·refine zz ?_
      subst hK374 gK374
      cases h
      exact en ⟨rfl,wk []⟩
    ·rcases iK k h with⟨k,h⟩|⟨k,h⟩
     ·refine xt<|xk<|es<|xs<|xb<|rD hI fun K398 RK398 hK398 gK398=>zz ?_
      obtain⟨y399,q,h⟩:=oN q h
      refine zz ?_
      obtain⟨y400,q,h⟩:=oN q h
      refine zz ?_
      obtain⟨m401,h402,h⟩:=bind_some h
      obtain⟨h403,h404,h405,h406⟩:=setI_some h402
      have h406:=h406 T_api_Event.d
      try simp only[sevalprocAttr,List.map_nil,dd] at h406
      have q:=And.intro @h403<|And.intro @h404<|And.intro @h405<|And.intro @h406<|q
      refine zz ?_
      refine hd<|zz ?_
      obtain⟨y407,q,h⟩:=oN q h
      refine zz ?_
      obtain⟨m408,h409,h⟩:=bind_some h
      obtain⟨h410,h411,h412,h413⟩:=setI_some h409
      have h413:=h413 T_api_Event.d
      try simp only[sevalprocAttr,List.map_nil,dd] at h413
      have q:=And.intro @h410<|And.intro @h411<|And.intro @h412<|And.intro @h413<|q
      refine zz ?_
      refine hd<|zz ?_
      subst hK398 gK398
      refine bn<|es<|rz ?_
      cases h
      exact en ⟨rfl,wk []⟩
     ·refine xf<|xx<|ee ?_
      cases h
      exact en ⟨rfl,wk []⟩
   ·refine bh<|bn<|es<|rz ?_
    cases h
    exact en ⟨rfl,wk []⟩
  ·refine xf<|xx<|ee ?_
   cases h
   exact en ⟨rfl,wk []⟩
 ·refine bh ?_
  cases h
  exact en (fI 0)
def g_slices_insertionSortCmpFunc_api_Event (data_0:List T_api_Event) (a_1:Int) (b_2:Int):Option ((List T_api_Event)):=(g_slices_insertionSortCmpFunc_api_Event_w data_0 a_1 b_2).bind fun r=>if r.length=data_0.length then some r else none
theorem a_slices_insertionSortCmpFunc_api_Event_len {data_0:List T_api_Event} {a_1:Int} {b_2:Int} {r:(List T_api_Event)} (h:g_slices_insertionSortCmpFunc_api_Event data_0 a_1 b_2=some r):data_0.length=r.length:=by
 unfold g_slices_insertionSortCmpFunc_api_Event at h
 obtain⟨x,_,h⟩:=bs h
 obtain⟨h1,h⟩:=ite_on h
 cases h
 exact h1.symm
theorem a_slices_insertionSortCmpFunc_api_Event_in {data_0:List T_api_Event} {a_1:Int} {b_2:Int} {r:(List T_api_Event)} (h:g_slices_insertionSortCmpFunc_api_Event data_0 a_1 b_2=some r):g_slices_insertionSortCmpFunc_api_Event_w data_0 a_1 b_2=some r:=by
 unfold g_slices_insertionSortCmpFunc_api_Event at h
 obtain⟨x,h0,h⟩:=bs h
 obtain⟨h1,h⟩:=ite_on h
 cases h
 exact h0
theorem a_slices_insertionSortCmpFunc_api_Event_l {I:World→Prop} (hI:Stab I) {H:Nat→Option Blk} {nid i0:Nat} {u:Value} {data_0:List T_api_Event} {a_1:Int} {b_2:Int} {r:(List T_api_Event)} (h:g_slices_insertionSortCmpFunc_api_Event data_0 a_1 b_2=some r) (b0:H i0=some (.lrow u 64 7 (data_0.map T_api_Event.d))):CallOK Tryz.prog I 168 [.own i0 data_0.length,.int .i64 a_1,.int .i64 b_2,.fn 103 []] H nid (.tup []) [(i0,some (.lrow u 64 7 (r.map T_api_Event.d)))] :=
 a_slices_insertionSortCmpFunc_api_Event_w hI (pn:=some u) (a_slices_insertionSortCmpFunc_api_Event_in h) b0
def g_slices_stableCmpFunc_api_Event_w_s1 (n_1:Int) (x32:Int × Int × (List T_api_Event)):Option (Nx (Int × Int × (List T_api_Event)) ((List T_api_Event) × Int)) :=
 (if(decide (x32.2.1≤n_1)) then((g_slices_insertionSortCmpFunc_api_Event x32.2.2 x32.1 x32.2.1).bind fun r53=>(some (.go (x32.2.1,(IntKind.i64.wrap (x32.2.1+20)),r53)))) else(some (.out (x32.2.2,x32.1))))
def g_slices_stableCmpFunc_api_Event_w_s3 (n_1:Int) (x65:Int × (List T_api_Event)) (x168:Int × Int × (List T_api_Event)):Option (Nx (Int × Int × (List T_api_Event)) ((List T_api_Event) × Int)) :=
 (if(decide (x168.2.1≤n_1)) then((g_slices_symMergeCmpFunc_api_Event x168.2.2 x168.1 (IntKind.i64.wrap (x168.1+x65.1)) x168.2.1).bind fun r189=>(some (.go (x168.2.1,(IntKind.i64.wrap (x168.2.1+(IntKind.i64.wrap (2 * x65.1)))),r189)))) else(some (.out (x168.2.2,x168.1))))
def g_slices_stableCmpFunc_api_Event_w_s2 (n_1:Int) (x65:Int × (List T_api_Event)):Option (Nx (Int × (List T_api_Event)) ((List T_api_Event))) :=
 (if(decide (x65.1 < n_1)) then((iter (g_slices_stableCmpFunc_api_Event_w_s3 n_1 x65) (0,(IntKind.i64.wrap (2 * x65.1)),x65.2)).bind fun e169=>(if(decide ((IntKind.i64.wrap (e169.2+x65.1)) < n_1)) then((g_slices_symMergeCmpFunc_api_Event e169.1 e169.2 (IntKind.i64.wrap (e169.2+x65.1)) n_1).bind fun r201=>(some (.go ((IntKind.i64.wrap (x65.1 * 2)),r201)))) else(some (.go ((IntKind.i64.wrap (x65.1 * 2)),e169.1))))) else(some (.out x65.2)))
def g_slices_stableCmpFunc_api_Event_w (data_0:List T_api_Event) (n_1:Int):Option ((List T_api_Event)) :=
 ((iter (g_slices_stableCmpFunc_api_Event_w_s1 n_1) (0,20,data_0)).bind fun e33=>((g_slices_insertionSortCmpFunc_api_Event e33.1 e33.2 n_1).bind fun r63=>((iter (g_slices_stableCmpFunc_api_Event_w_s2 n_1) (20,r63)).bind fun e66=>(some e66))))
theorem a_slices_stableCmpFunc_api_Event_w {I:World→Prop} (hI:Stab I) {H:Nat→Option Blk} {nid i0:Nat} {pn:Option Value} {data_0:List T_api_Event} {n_1:Int} {r:(List T_api_Event)} (h:g_slices_stableCmpFunc_api_Event_w data_0 n_1=some r) (b0:H i0=some (rowB pn 64 7 (data_0.map T_api_Event.d))):CallOK Tryz.prog I 143 [.own i0 data_0.length,.int .i64 n_1,.fn 103 []] H nid (.tup []) [(i0,some (rowB pn 64 7 (r.map T_api_Event.d)))]:=by
 refine CallOK.inrow (i0:=i0) (ds0:=[.own 0 data_0.length,.int .i64 n_1,.fn 103 []]) hI Tryz.func143 rfl (by decide) (by simp[Tryz.f143]) (by kernel_rfl) rfl rfl b0 fun uv=>?_
 have dd:=dd_ED;have k:=True.intro;have q:=k;have rs:=Tryz.results143
 unfold g_slices_stableCmpFunc_api_Event_w at h
 simp only[List.length_cons,List.length_nil,Nat.zero_add,Nat.reduceAdd,Tryz.ntmps143,dd]
 refine xs<|rz ?_
 refine es<|xs<|rz ?_
 refine es<|xs<|xb ?_
 obtain⟨e33,h58,h⟩:=bs h
 refine rb_loop (fun x32=>⟨envL [(0,.own 0 x32.2.2.length),(1,.int .i64 n_1),(2,.fn 103 []),(6,.int .i64 20),(7,.int .i64 x32.1),(8,.int .i64 x32.2.1)],heapL [(0,.lrow uv 64 7 (x32.2.2.map T_api_Event.d))],1,63⟩) (fun _=>.exit 0) (fun e33=>⟨envL [(0,.own 0 e33.1.length),(1,.int .i64 n_1),(2,.fn 103 []),(6,.int .i64 20),(7,.int .i64 e33.2)],heapL [(0,.lrow uv 64 7 (e33.1.map T_api_Event.d))],1,63⟩) h58 (wk []) (by intro w;simp) ?_ ?_
 ·clear h
  intro x32 y h
  unfold g_slices_stableCmpFunc_api_Event_w_s1 at h
  refine xs<|xs<|rz ?_
  refine es ?_
  rcases iK k h with⟨k,h⟩|⟨k,h⟩
  ·refine xt<|xk<|es<|xb<|xs<|rK fun K52 RK52 hK52 gK52=>zz ?_
   obtain⟨r53,h54,h⟩:=bs h
   have q:=And.intro (a_slices_insertionSortCmpFunc_api_Event_len h54) q
   refine rW.intro (a_slices_insertionSortCmpFunc_api_Event_l hI (nid:=8) (i0:=0) (u:=uv) h54 fz) fi rfl<|zz ?_
   subst hK52 gK52
   refine es<|xs<|rz ?_
   refine es<|rz ?_
   refine bn ?_
   cases h
   exact en ⟨rfl,wk []⟩
  ·refine xf<|xx<|ee ?_
   cases h
   exact en ⟨rfl,wk []⟩
 ·refine bh<|es<|xs<|rK fun K62 RK62 hK62 gK62=>zz ?_
  obtain⟨r63,h64,h⟩:=bs h
  have q:=And.intro (a_slices_insertionSortCmpFunc_api_Event_len h64) q
  refine rW.intro (a_slices_insertionSortCmpFunc_api_Event_l hI (nid:=5) (i0:=0) (u:=uv) h64 fz) fi rfl<|zz ?_
  subst hK62 gK62
  refine es<|xb ?_
  obtain⟨e66,h205,h⟩:=bs h
  refine rb_loop (fun x65=>⟨envL [(0,.own 0 x65.2.length),(1,.int .i64 n_1),(2,.fn 103 []),(6,.int .i64 x65.1)],heapL [(0,.lrow uv 64 7 (x65.2.map T_api_Event.d))],1,63⟩) (fun _=>.exit 2) (fun e66=>⟨envL [(0,.own 0 e66.length)],heapL [(0,.lrow uv 64 7 (e66.map T_api_Event.d))],1,63⟩) h205 (wk []) (by intro w;simp) ?_ ?_
  ·clear h
   intro x65 y h
   unfold g_slices_stableCmpFunc_api_Event_w_s2 at h
   refine xs<|xs<|rz ?_
   refine es ?_
   rcases iK k h with⟨k,h⟩|⟨k,h⟩
   ·refine xt<|xk<|es<|xb<|xs<|rz ?_
    refine es<|xs<|xb ?_
    obtain⟨e169,h194,h⟩:=bs h
    refine rb_loop (fun x168=>⟨envL [(0,.own 0 x168.2.2.length),(1,.int .i64 n_1),(2,.fn 103 []),(6,.int .i64 x65.1),(7,.int .i64 x168.1),(8,.int .i64 x168.2.1)],heapL [(0,.lrow uv 64 7 (x168.2.2.map T_api_Event.d))],1,63⟩) (fun _=>.exit 4) (fun e169=>⟨envL [(0,.own 0 e169.1.length),(1,.int .i64 n_1),(2,.fn 103 []),(6,.int .i64 x65.1),(7,.int .i64 e169.2)],heapL [(0,.lrow uv 64 7 (e169.1.map T_api_Event.d))],1,63⟩) h194 (wk []) (by intro w;simp) ?_ ?_
    ·clear h
     intro x168 y h
     unfold g_slices_stableCmpFunc_api_Event_w_s3 at h
     refine xs<|xs<|rz ?_
     refine es ?_
     rcases iK k h with⟨k,h⟩|⟨k,h⟩
     ·refine xt<|xk<|es<|xb<|xs<|rK fun K188 RK188 hK188 gK188=>zz ?_
      obtain⟨r189,h190,h⟩:=bs h
      have q:=And.intro (a_slices_symMergeCmpFunc_api_Event_len h190) q
      refine rW.intro (a_slices_symMergeCmpFunc_api_Event_l hI (nid:=11) (i0:=0) (u:=uv) h190 fz) fi rfl<|zz ?_
      subst hK188 gK188
      refine es<|xs<|rz ?_
      refine es<|rz ?_
      refine bn ?_
      cases h
      exact en ⟨rfl,wk []⟩
     ·refine xf<|xx<|ee ?_
      cases h
      exact en ⟨rfl,wk []⟩
    ·refine bh<|es<|xs<|xs<|rz ?_
     refine es<|xs<|rz ?_
     refine es ?_
     rcases iK k h with⟨k,h⟩|⟨k,h⟩
     ·refine xt<|rK fun K200 RK200 hK200 gK200=>zz ?_
      obtain⟨r201,h202,h⟩:=bs h
      have q:=And.intro (a_slices_symMergeCmpFunc_api_Event_len h202) q
      refine rW.intro (a_slices_symMergeCmpFunc_api_Event_l hI (nid:=13) (i0:=0) (u:=uv) h202 fz) fi rfl<|zz ?_
      subst hK200 gK200
      refine es<|rz ?_
      refine bn ?_
      cases h
      exact en ⟨rfl,wk []⟩
     ·refine xf<|xk<|es<|rz ?_
      refine bn ?_
      cases h
      exact en ⟨rfl,wk []⟩
   ·refine xf<|xx<|ee ?_
    cases h
    exact en ⟨rfl,wk []⟩
  ·refine bh ?_
   cases h
   exact en (fI 0)
def g_slices_stableCmpFunc_api_Event (data_0:List T_api_Event) (n_1:Int):Option ((List T_api_Event)):=(g_slices_stableCmpFunc_api_Event_w data_0 n_1).bind fun r=>if r.length=data_0.length then some r else none
theorem a_slices_stableCmpFunc_api_Event_len {data_0:List T_api_Event} {n_1:Int} {r:(List T_api_Event)} (h:g_slices_stableCmpFunc_api_Event data_0 n_1=some r):data_0.length=r.length:=by
 unfold g_slices_stableCmpFunc_api_Event at h
 obtain⟨x,_,h⟩:=bs h
 obtain⟨h1,h⟩:=ite_on h
 cases h
 exact h1.symm
theorem a_slices_stableCmpFunc_api_Event_in {data_0:List T_api_Event} {n_1:Int} {r:(List T_api_Event)} (h:g_slices_stableCmpFunc_api_Event data_0 n_1=some r):g_slices_stableCmpFunc_api_Event_w data_0 n_1=some r:=by
 unfold g_slices_stableCmpFunc_api_Event at h
 obtain⟨x,h0,h⟩:=bs h
 obtain⟨h1,h⟩:=ite_on h
 cases h
 exact h0
theorem a_slices_stableCmpFunc_api_Event_l {I:World→Prop} (hI:Stab I) {H:Nat→Option Blk} {nid i0:Nat} {u:Value} {data_0:List T_api_Event} {n_1:Int} {r:(List T_api_Event)} (h:g_slices_stableCmpFunc_api_Event data_0 n_1=some r) (b0:H i0=some (.lrow u 64 7 (data_0.map T_api_Event.d))):CallOK Tryz.prog I 143 [.own i0 data_0.length,.int .i64 n_1,.fn 103 []] H nid (.tup []) [(i0,some (.lrow u 64 7 (r.map T_api_Event.d)))] :=
 a_slices_stableCmpFunc_api_Event_w hI (pn:=some u) (a_slices_stableCmpFunc_api_Event_in h) b0
def g_slices_SortStableFunc_api_Event_api_Event_w (x_0:List T_api_Event):Option ((List T_api_Event)) :=
 ((g_slices_stableCmpFunc_api_Event x_0 ((x_0.length:Nat):Int)).bind fun r2=>(some r2))
theorem a_slices_SortStableFunc_api_Event_api_Event_w {I:World→Prop} (hI:Stab I) {H:Nat→Option Blk} {nid i0:Nat} {pn:Option Value} {x_0:List T_api_Event} {r:(List T_api_Event)} (h:g_slices_SortStableFunc_api_Event_api_Event_w x_0=some r) (b0:H i0=some (rowB pn 64 7 (x_0.map T_api_Event.d))):CallOK Tryz.prog I 102 [.own i0 x_0.length,.fn 103 []] H nid (.tup []) [(i0,some (rowB pn 64 7 (r.map T_api_Event.d)))]:=by
 refine CallOK.inrow (i0:=i0) (ds0:=[.own 0 x_0.length,.fn 103 []]) hI Tryz.func102 rfl (by decide) (by simp[Tryz.f102]) (by kernel_rfl) rfl rfl b0 fun uv=>?_
 have dd:=dd_ED;have k:=True.intro;have q:=k;have rs:=Tryz.results102
 unfold g_slices_SortStableFunc_api_Event_api_Event_w at h
 simp only[List.length_cons,List.length_nil,Nat.zero_add,Nat.reduceAdd,Tryz.ntmps102,dd]
 refine rK fun K1 RK1 hK1 gK1=>zz ?_
 obtain⟨r2,h3,h⟩:=bs h
 have q:=And.intro (a_slices_stableCmpFunc_api_Event_len h3) q
 refine rW.intro (a_slices_stableCmpFunc_api_Event_l hI (nid:=5) (i0:=0) (u:=uv) h3 fz) fi rfl<|zz ?_
 subst hK1 gK1
 cases h
 exact en (fI 0)
def g_slices_SortStableFunc_api_Event_api_Event (x_0:List T_api_Event):Option ((List T_api_Event)):=(g_slices_SortStableFunc_api_Event_api_Event_w x_0).bind fun r=>if r.length=x_0.length then some r else none
theorem a_slices_SortStableFunc_api_Event_api_Event_len {x_0:List T_api_Event} {r:(List T_api_Event)} (h:g_slices_SortStableFunc_api_Event_api_Event x_0=some r):x_0.length=r.length:=by
 unfold g_slices_SortStableFunc_api_Event_api_Event at h
 obtain⟨x,_,h⟩:=bs h
 obtain⟨h1,h⟩:=ite_on h
 cases h
 exact h1.symm
theorem a_slices_SortStableFunc_api_Event_api_Event_in {x_0:List T_api_Event} {r:(List T_api_Event)} (h:g_slices_SortStableFunc_api_Event_api_Event x_0=some r):g_slices_SortStableFunc_api_Event_api_Event_w x_0=some r:=by
 unfold g_slices_SortStableFunc_api_Event_api_Event at h
 obtain⟨x,h0,h⟩:=bs h
 obtain⟨h1,h⟩:=ite_on h
 cases h
 exact h0
theorem a_slices_SortStableFunc_api_Event_api_Event {I:World→Prop} (hI:Stab I) {H:Nat→Option Blk} {nid i0:Nat} {x_0:List T_api_Event} {r:(List T_api_Event)} (h:g_slices_SortStableFunc_api_Event_api_Event x_0=some r) (b0:H i0=some (.vec 64 7 (x_0.map T_api_Event.d) false)):CallOK Tryz.prog I 102 [.own i0 x_0.length,.fn 103 []] H nid (.tup []) [(i0,some (.vec 64 7 (r.map T_api_Event.d) false))] :=
 a_slices_SortStableFunc_api_Event_api_Event_w hI (pn:=none) (a_slices_SortStableFunc_api_Event_api_Event_in h) b0
def g_document_Sort_s1 (l_0:List T_api_Event) (x7:(List T_api_Event) × Int):Option (Nx ((List T_api_Event) × Int) ((List T_api_Event))) :=
 (if(decide (x7.2 < (l_0.length:Int))) then((atI l_0 x7.2).bind fun y78=>((g_event_Clone y78).bind fun r81=>(if(x7.1.length+1) * 88≤140737488355328 then(some (.go ((x7.1++[r81]),(IntKind.i64.wrap (x7.2+1))))) else none))) else(some (.out x7.1)))
def g_document_Sort (l_0:List T_api_Event):Option ((List T_api_Event)) :=
 ((iter (g_document_Sort_s1 l_0) ([],0)).bind fun e8=>((g_slices_SortStableFunc_api_Event_api_Event e8).bind fun r91=>(some r91)))
theorem a_document_Sort {I:World→Prop} (hI:Stab I) {l_0:List T_api_Event} {r:(List T_api_Event)} (h:g_document_Sort l_0=some r):AFun Tryz.prog I 49 [.sl (l_0.map T_api_Event.d)] (.sl (r.map T_api_Event.d)):=by
 have dd:=dd_ED;have k:=True.intro;have q:=k;have rs:=Tryz.results49
 unfold g_document_Sort at h
 refine .en hI Tryz.func49 Tryz.ntmps49 ?_
 refine xs<|rz ?_
 refine es<|xs<|rz ?_
 refine es<|xs<|xs<|rz ?_
 refine es<|xb ?_
 obtain⟨e8,h86,h⟩:=bs h
 refine rb_loop (fun x7=>⟨envL [(3,.own 0 x7.1.length),(6,.sl (l_0.map T_api_Event.d)),(7,.int .i64 (l_0.length:Int)),(8,.int .i64 x7.2)],heapL [(0,.vec 64 7 (x7.1.map T_api_Event.d) false)],1,21⟩) (fun _=>.exit 0) (fun e8=>⟨envL [(3,.own 0 e8.length)],heapL [(0,.vec 64 7 (e8.map T_api_Event.d) false)],1,21⟩) h86 (wk [(0,none)]) (by intro w;simp) ?_ ?_
 ·clear h
  intro x7 y h
  unfold g_document_Sort_s1 at h
  refine xs<|rz ?_
  refine es<|xs ?_
  rcases iK k h with⟨k,h⟩|⟨k,h⟩
  ·refine xt<|xk<|es<|xs<|xb<|xs<|rK fun K77 RK77 hK77 gK77=>zz ?_
   obtain⟨y78,q,h⟩:=bK q h
   refine zz ?_
   subst hK77 gK77
   refine es<|rK fun K80 RK80 hK80 gK80=>zz ?_
   obtain⟨r81,h82,h⟩:=bs h
   refine cw (a_event_Clone hI h82)<|zz ?_
   obtain⟨h83,h⟩:=ite_on h
   have h84:x7.1.length+1≤9223372036854775807:=by omega
   try simp only[Nat.reduceLeDiff] at h84
   have q:=And.intro @h84<|And.intro @h83<|q
   refine zz ?_
   subst hK80 gK80
   refine bn<|es<|rz ?_
   cases h
   exact en ⟨rfl,wk [(0,some 10)]⟩
  ·refine xf<|xx<|ee ?_
   cases h
   exact en ⟨rfl,wk []⟩
 ·refine bh<|es<|xs<|rK fun K90 RK90 hK90 gK90=>zz ?_
  obtain⟨r91,h92,h⟩:=bs h
  have q:=And.intro (a_slices_SortStableFunc_api_Event_api_Event_len h92) q
  refine cW.introR (a_slices_SortStableFunc_api_Event_api_Event hI (nid:=2) (i0:=0) h92 fz) fs rfl<|zz ?_
  subst hK90 gK90
  refine es<|xs<|rz ?_
  refine es<|xr ?_
  cases h
  exact en fr
def g_repair_Apply_s1 (l_1:List T_api_Shift) (r20:T_api_Document) (x24:Unit):Option (Nx (Unit) (Int ⊕ Unit)) :=
 (if(decide (0 < (l_1.length:Int))) then((atI l_1 0).bind fun y197=>((g_document_Find r20 y197.ID).bind fun r203=>(if(decide (r203 < 0)) then(some (.out (.inl 6))) else(((if(decide (y197.In < 0)) then(some true) else(if(decide (y197.Out≤y197.In)) then(some true) else(some (decide (5184000 < y197.Out))))):Option (Bool)).bind fun v213=>(if v213 then(some (.out (.inl 2))) else((atI r20.Events r203).bind fun y222=>none)))))) else(some (.out (.inr ()))))
def g_repair_Apply_s2 (l_1:List T_api_Shift) (r233:T_api_Document) (x237:Int × (List T_api_Event)):Option (Nx (Int × (List T_api_Event)) (Int ⊕ ((List T_api_Event)))) :=
 (if(decide (x237.1 < (l_1.length:Int))) then((atI l_1 x237.1).bind fun y437=>((g_document_Find_ro (T_api_Document.mk r233.Title r233.Lang r233.Rate r233.Drop r233.Last r233.Regions x237.2 r233.Comments) y437.ID).bind fun r443=>(if(decide (r443 < 0)) then(some (.out (.inl 6))) else(((if(decide (y437.In < 0)) then(some true) else(if(decide (y437.Out≤y437.In)) then(some true) else(some (decide (5184000 < y437.Out))))):Option (Bool)).bind fun v453=>(if v453 then(some (.out (.inl 2))) else((atI x237.2 r443).bind fun y462=>((setI x237.2 r443 (T_api_Event.mk y462.ID (T_api_Span.mk y437.In y437.Out) y462.Region y462.Kind y462.Speaker y462.Rows)).bind fun m463=>(some (.go ((IntKind.i64.wrap (x237.1+1)),m463)))))))))) else(some (.out (.inr x237.2))))
def g_repair_Apply (d_0:T_api_Document) (l_1:List T_api_Shift):Option (T_api_Document × Int) :=
 ((g_document_Check d_0).bind fun r7=>(if(r7 != 0) then(some ((T_api_Document.mk [] [] 0 false 0 [] [] []),r7)) else(if d_0.Events.isEmpty then((g_document_Clone d_0).bind fun r20=>((iter (g_repair_Apply_s1 l_1 r20) ()).bind fun e25=>(match e25 with|Sum.inl e25=>(some ((T_api_Document.mk [] [] 0 false 0 [] [] []),e25))|Sum.inr (e25)=>((g_document_Sort r20.Events).bind fun r229=>(some ((T_api_Document.mk r20.Title r20.Lang r20.Rate r20.Drop r20.Last r20.Regions r229 r20.Comments),0)))))) else((g_document_Clone_nw d_0).bind fun r233=>((iter (g_repair_Apply_s2 l_1 r233) (0,r233.Events)).bind fun e238=>(match e238 with|Sum.inl e238=>(some ((T_api_Document.mk [] [] 0 false 0 [] [] []),e238))|Sum.inr (e238)=>((g_document_Sort e238).bind fun r475=>(some ((T_api_Document.mk r233.Title r233.Lang r233.Rate r233.Drop r233.Last r233.Regions r475 r233.Comments),0)))))))))
theorem a_repair_Apply {I:World→Prop} (hI:Stab I) (hShp:∀ w,I w→Shp w) (hU8T:∀ w,I w→U8T w) {d_0:T_api_Document} {l_1:List T_api_Shift} {r:T_api_Document × Int} (h:g_repair_Apply d_0 l_1=some r):AFun Tryz.prog I 20 [T_api_Document.d d_0,.sl (l_1.map T_api_Shift.d)] (.tup [T_api_Document.d r.1,.int .i64 r.2]):=by
 have dd:=dd_ED;have k:=True.intro;have q:=k;have rs:=Tryz.results20
 unfold g_repair_Apply at h
 refine .en hI Tryz.func20 Tryz.ntmps20 ?_
 refine xs<|rz ?_
 refine es<|xs<|xs<|rK fun K6 RK6 hK6 gK6=>zz ?_
 obtain⟨r7,h8,h⟩:=bs h
 refine cw (a_document_Check hI hShp hU8T h8)<|zz ?_
 subst hK6 gK6
 refine es<|xs<|rz ?_
 refine es ?_
 rcases iK k h with⟨k,h⟩|⟨k,h⟩
 ·refine xt<|xs<|rz ?_
  refine es<|xr<|er ?_
  cases h
  exact en fr
 ·refine xf<|xk<|es<|xs<|rK fun K19 RK19 hK19 gK19=>zz ?_
  rcases iK k h with⟨k,h⟩|⟨k,h⟩
  ·obtain⟨r20,h21,h⟩:=bs h
   refine cw (a_document_Clone hI h21)<|zz ?_
   subst hK19 gK19
   refine es<|xs<|xs<|rz ?_
   refine es<|xb ?_
   obtain⟨e25,h224,h⟩:=bs h
   refine rb_loop (fun x24=>⟨envL [(4,.ptr 0 0),(7,.ptr 1 0),(19,.sl (l_1.map T_api_Shift.d)),(20,.int .i64 (l_1.length:Int)),(21,.int .i64 0)],heapL [(0,.box none [.str [],.str [],.int .u8 0,.bool false,.int .i64 0,.nils,.nils,.nils]),(1,.box none [.str r20.Title,.str r20.Lang,.int .u8 r20.Rate,.bool r20.Drop,.int .i64 r20.Last,.sl (r20.Regions.map T_api_Region.d),.sl (r20.Events.map T_api_Event.d),.sl (r20.Comments.map T_api_Comment.d)])],2,64⟩) (fun w=>match w with|Sum.inl _=>.ret|Sum.inr (_)=>.exit 0) (fun w=>match w with|Sum.inl e25=>⟨envL [(4,.ptr 0 0),(5,.int .i64 e25)],heapL [(0,.box none [.str [],.str [],.int .u8 0,.bool false,.int .i64 0,.nils,.nils,.nils])],1,64⟩|Sum.inr (e25)=>⟨envL [(4,.ptr 0 0),(7,.ptr 1 0)],heapL [(0,.box none [.str [],.str [],.int .u8 0,.bool false,.int .i64 0,.nils,.nils,.nils]),(1,.box none [.str r20.Title,.str r20.Lang,.int .u8 r20.Rate,.bool r20.Drop,.int .i64 r20.Last,.sl (r20.Regions.map T_api_Region.d),.sl (r20.Events.map T_api_Event.d),.sl (r20.Comments.map T_api_Comment.d)])],2,64⟩) h224 (wk [(0,some 1),(1,some 10)]) (by intro w;rcases w with w|w<;>simp) ?_ ?_
   ·clear h
    intro x24 y h
    unfold g_repair_Apply_s1 at h
    refine xs<|rz ?_
    refine es<|xs ?_
    rcases iK k h with⟨k,h⟩|⟨k,h⟩
    ·refine xt<|xk<|es<|xs<|xb<|xs<|rK fun K196 RK196 hK196 gK196=>zz ?_
     obtain⟨y197,q,h⟩:=bK q h
     refine zz ?_
     subst hK196 gK196
     refine es<|xs<|rK fun K202 RK202 hK202 gK202=>zz ?_
     obtain⟨r203,h204,h⟩:=bs h
     refine cw (a_document_Find hI h204)<|zz ?_
     subst hK202 gK202
     refine es<|xs<|xs<|rz ?_
     refine es ?_
     rcases iK k h with⟨k,h⟩|⟨k,h⟩
     ·refine xt<|xs<|rz ?_
      refine es<|xr<|er<|br<|er ?_
      cases h
      exact en ⟨rfl,wk []⟩
     ·refine xf<|xk<|es<|xs ?_
      obtain⟨v213,h217,h⟩:=bs h
      refine rb_cut (fun v213=>⟨envL [(4,.ptr 0 0),(7,.ptr 1 0),(9,.ptr 2 0),(10,.int .i64 r203),(19,.sl (l_1.map T_api_Shift.d)),(20,.int .i64 (l_1.length:Int)),(21,.int .i64 0),(46,.bool v213)],heapL [(0,.box none [.str [],.str [],.int .u8 0,.bool false,.int .i64 0,.nils,.nils,.nils]),(1,.box none [.str r20.Title,.str r20.Lang,.int .u8 r20.Rate,.bool r20.Drop,.int .i64 r20.Last,.sl (r20.Regions.map T_api_Region.d),.sl (r20.Events.map T_api_Event.d),.sl (r20.Comments.map T_api_Comment.d)]),(2,.box none [.int .i64 y197.ID,.int .i64 y197.In,.int .i64 y197.Out])],3,64⟩) h217 ?_ ?_
      ·clear h
       intro v213 h
       refine rK fun K214 RK214 hK214 gK214=>zz ?_
       rcases iK k h with⟨k,h⟩|⟨k,h⟩
       ·refine zz ?_
        subst hK214 gK214
        cases h
        exact en ⟨rfl,wk [(2,some 5)]⟩
       ·refine zz ?_
        rcases iK k h with⟨k,h⟩|⟨k,h⟩
        ·refine zz ?_
         subst hK214 gK214
         cases h
         exact en ⟨rfl,wk [(2,some 5)]⟩
        ·refine zz ?_
         subst hK214 gK214
         cases h
         exact en ⟨rfl,wk [(2,some 5)]⟩
      ·rcases iK k h with⟨k,h⟩|⟨k,h⟩
       ·refine xt<|xs<|rz ?_
        refine es<|xr<|er<|br<|er ?_
        cases h
        exact en ⟨rfl,wk []⟩
       ·refine xf<|xk<|es<|rK fun K221 RK221 hK221 gK221=>zz ?_
        obtain⟨y222,q,h⟩:=bK q h
        refine zz ?_
        cases h
    ·refine xf<|xx<|ee ?_
     cases h
     exact en ⟨rfl,wk []⟩
   ·rcases e25 with e25|e25
    ·try dsimp only at h ⊢
     refine br<|er ?_
     cases h
     exact en fr
    ·try dsimp only at h ⊢
     refine bh<|es<|xs<|rK fun K228 RK228 hK228 gK228=>zz ?_
     obtain⟨r229,h230,h⟩:=bs h
     refine cw (a_document_Sort hI h230)<|zz ?_
     subst hK228 gK228
     refine es<|xs<|rz ?_
     refine es<|xr ?_
     cases h
     exact en fr
  ·obtain⟨r233,h234,h⟩:=bs h
   refine cW.introE (a_document_Clone_nw hI (nid:=9) h234) fz rfl<|zz ?_
   subst hK19 gK19
   refine es<|xs<|xs<|rz ?_
   refine es<|xb ?_
   obtain⟨e238,h470,h⟩:=bs h
   refine rb_loop (fun x237=>⟨envL [(4,.ptr 0 0),(7,.ptr 1 0),(19,.sl (l_1.map T_api_Shift.d)),(20,.int .i64 (l_1.length:Int)),(21,.int .i64 x237.1)],heapL [(0,.box none [.str [],.str [],.int .u8 0,.bool false,.int .i64 0,.nils,.nils,.nils]),(1,.box none [.str r233.Title,.str r233.Lang,.int .u8 r233.Rate,.bool r233.Drop,.int .i64 r233.Last,.sl (r233.Regions.map T_api_Region.d),.own 2 x237.2.length,.sl (r233.Comments.map T_api_Comment.d)]),(2,.vec 64 7 (x237.2.map T_api_Event.d) false)],3,64⟩) (fun w=>match w with|Sum.inl _=>.ret|Sum.inr (_)=>.exit 0) (fun w=>match w with|Sum.inl e238=>⟨envL [(4,.ptr 0 0),(5,.int .i64 e238)],heapL [(0,.box none [.str [],.str [],.int .u8 0,.bool false,.int .i64 0,.nils,.nils,.nils])],1,64⟩|Sum.inr (e238)=>⟨envL [(4,.ptr 0 0),(7,.ptr 1 0)],heapL [(0,.box none [.str [],.str [],.int .u8 0,.bool false,.int .i64 0,.nils,.nils,.nils]),(1,.box none [.str r233.Title,.str r233.Lang,.int .u8 r233.Rate,.bool r233.Drop,.int .i64 r233.Last,.sl (r233.Regions.map T_api_Region.d),.own 2 e238.length,.sl (r233.Comments.map T_api_Comment.d)]),(2,.vec 64 7 (e238.map T_api_Event.d) false)],3,64⟩) h470 (wk [(0,some 1),(1,some 10),(2,some 9)]) (by intro w;rcases w with w|w<;>simp) ?_ ?_
   ·clear h
    intro x237 y h
    unfold g_repair_Apply_s2 at h
    refine xs<|rz ?_
    refine es<|xs ?_
    rcases iK k h with⟨k,h⟩|⟨k,h⟩
    ·refine xt<|xk<|es<|xs<|xb<|xs<|rK fun K436 RK436 hK436 gK436=>zz ?_
     obtain⟨y437,q,h⟩:=bK q h
     refine zz ?_
     subst hK436 gK436
     refine es<|xs<|rK fun K442 RK442 hK442 gK442=>zz ?_
     obtain⟨r443,h444,h⟩:=bs h
     refine cW.introR (a_document_Find_ro hI (nid:=11) (i0:=2) h444 fz) fs rfl<|zz ?_
     subst hK442 gK442
     refine es<|xs<|xs<|rz ?_
     refine es ?_
     rcases iK k h with⟨k,h⟩|⟨k,h⟩
     ·refine xt<|xs<|rz ?_
      refine es<|xr<|er<|br<|er ?_
      cases h
      exact en ⟨rfl,wk []⟩
     ·refine xf<|xk<|es<|xs ?_
      obtain⟨v453,h457,h⟩:=bs h
      refine rb_cut (fun v453=>⟨envL [(4,.ptr 0 0),(7,.ptr 1 0),(9,.ptr 3 0),(10,.int .i64 r443),(19,.sl (l_1.map T_api_Shift.d)),(20,.int .i64 (l_1.length:Int)),(21,.int .i64 x237.1),(46,.bool v453)],heapL [(0,.box none [.str [],.str [],.int .u8 0,.bool false,.int .i64 0,.nils,.nils,.nils]),(1,.box none [.str r233.Title,.str r233.Lang,.int .u8 r233.Rate,.bool r233.Drop,.int .i64 r233.Last,.sl (r233.Regions.map T_api_Region.d),.own 2 x237.2.length,.sl (r233.Comments.map T_api_Comment.d)]),(2,.vec 64 7 (x237.2.map T_api_Event.d) false),(3,.box none [.int .i64 y437.ID,.int .i64 y437.In,.int .i64 y437.Out])],4,64⟩) h457 ?_ ?_
      ·clear h
       intro v453 h
       refine rK fun K454 RK454 hK454 gK454=>zz ?_
       rcases iK k h with⟨k,h⟩|⟨k,h⟩
       ·refine zz ?_
        subst hK454 gK454
        cases h
        exact en ⟨rfl,wk [(3,some 6)]⟩
       ·refine zz ?_
        rcases iK k h with⟨k,h⟩|⟨k,h⟩
        ·refine zz ?_
         subst hK454 gK454
         cases h
         exact en ⟨rfl,wk [(3,some 6)]⟩
        ·refine zz ?_
         subst hK454 gK454
         cases h
         exact en ⟨rfl,wk [(3,some 6)]⟩
      ·rcases iK k h with⟨k,h⟩|⟨k,h⟩
       ·refine xt<|xs<|rz ?_
        refine es<|xr<|er<|br<|er ?_
        cases h
        exact en ⟨rfl,wk []⟩
       ·refine xf<|xk<|es<|rK fun K461 RK461 hK461 gK461=>zz ?_
        obtain⟨y462,q,h⟩:=oN q h
        refine zz ?_
        obtain⟨m463,h464,h⟩:=bind_some h
        obtain⟨h465,h466,h467,h468⟩:=setI_some h464
        have h468:=h468 T_api_Event.d
        try simp only[sevalprocAttr,List.map_nil,dd] at h468
        have q:=And.intro @h465<|And.intro @h466<|And.intro @h467<|And.intro @h468<|q
        refine zz ?_
        subst hK461 gK461
        refine bn<|es<|rz ?_
        cases h
        exact en ⟨rfl,wk []⟩
    ·refine xf<|xx<|ee ?_
     cases h
     exact en ⟨rfl,wk []⟩
   ·rcases e238 with e238|e238
    ·try dsimp only at h ⊢
     refine br<|er ?_
     cases h
     exact en fr
    ·try dsimp only at h ⊢
     refine bh<|es<|xs<|rK fun K474 RK474 hK474 gK474=>zz ?_
     obtain⟨r475,h476,h⟩:=bs h
     refine cw (a_document_Sort hI h476)<|zz ?_
     subst hK474 gK474
     refine es<|xs<|rz ?_
     refine es<|xr ?_
     cases h
     exact en fr
def g_repair_Plan_s1 (r7:(List T_api_Bound) × Int) (r20:(List Int) × (List Int) × Int) (x29:Int × (List T_api_Bound)):Option (Nx (Int × (List T_api_Bound)) ((List T_api_Bound))) :=
 (if(decide (x29.1 < (r20.2.1.length:Int))) then((atI r20.2.1 x29.1).bind fun y127=>((atI r7.1 y127).bind fun y130=>(if(x29.2.length+1) * 48≤140737488355328 then(some (.go ((IntKind.i64.wrap (x29.1+1)),(x29.2++[y130])))) else none))) else(some (.out x29.2)))
def g_repair_Plan_s2 (d_0:T_api_Document) (r154:(List Int) × Bool) (x160:Int × (List T_api_Shift)):Option (Nx (Int × (List T_api_Shift)) ((List T_api_Shift))) :=
 (if(decide (x160.1 < (d_0.Events.length:Int))) then((atI d_0.Events x160.1).bind fun y393=>((atI r154.1 (IntKind.i64.wrap ((IntKind.i64.wrap (2 * x160.1))+1))).bind fun y403=>((atI r154.1 0).bind fun y405=>((atI r154.1 (IntKind.i64.wrap ((IntKind.i64.wrap (2 * x160.1))+2))).bind fun y407=>(((if((IntKind.i64.wrap (y403 - y405)) != y393.Span.In) then(some true) else(some ((IntKind.i64.wrap (y407 - y405)) != y393.Span.Out))):Option (Bool)).bind fun v411=>(if v411 then(if(x160.2.length+1) * 24≤140737488355328 then(some (.go ((IntKind.i64.wrap (x160.1+1)),(x160.2++[(T_api_Shift.mk y393.ID (IntKind.i64.wrap (y403 - y405)) (IntKind.i64.wrap (y407 - y405)))])))) else none) else(some (.go ((IntKind.i64.wrap (x160.1+1)),x160.2))))))))) else(some (.out x160.2)))
def g_repair_Plan (d_0:T_api_Document) (p_1:T_api_Profile) (l_2:List Int) (tol_3:Int):Option (T_api_Repair × Int) :=
 ((g_repair_Bounds d_0 p_1 l_2 tol_3).bind fun r7=>(if(r7.2 != 0) then(some ((T_api_Repair.mk (T_api_Document.mk [] [] 0 false 0 [] [] []) [] 0 []),r7.2)) else((g_diffcon_Solve (IntKind.i64.wrap ((IntKind.i64.wrap (2 * (d_0.Events.length:Int)))+1)) r7.1).bind fun r20=>(if(r20.2.2 != 0) then((iter (g_repair_Plan_s1 r7 r20) (0,[])).bind fun e30=>(some ((T_api_Repair.mk (T_api_Document.mk [] [] 0 false 0 [] [] []) [] 0 e30),r20.2.2))) else((g_sort_Search tol_3 d_0 p_1 l_2 (IntKind.i64.wrap ((IntKind.i64.wrap (2 * (d_0.Events.length:Int)))+1))).bind fun r146=>((g_repair_Plan_1 r146 d_0 p_1 l_2 (IntKind.i64.wrap ((IntKind.i64.wrap (2 * (d_0.Events.length:Int)))+1))).bind fun r154=>((iter (g_repair_Plan_s2 d_0 r154) (0,[])).bind fun e161=>((g_repair_Apply d_0 e161).bind fun r426=>(some ((T_api_Repair.mk r426.1 e161 r146 []),r426.2))))))))))
theorem a_repair_Plan {I:World→Prop} (hI:Stab I) (hShp:∀ w,I w→Shp w) (hU8T:∀ w,I w→U8T w) {d_0:T_api_Document} {p_1:T_api_Profile} {l_2:List Int} {tol_3:Int} {r:T_api_Repair × Int} (h:g_repair_Plan d_0 p_1 l_2 tol_3=some r):AFun Tryz.prog I 17 [T_api_Document.d d_0,T_api_Profile.d p_1,.sl (l_2.map (D.int .i64)),.int .i64 tol_3] (.tup [T_api_Repair.d r.1,.int .i64 r.2]):=by
 have dd:=dd_ED;have k:=True.intro;have q:=k;have rs:=Tryz.results17
 unfold g_repair_Plan at h
 refine .en hI Tryz.func17 Tryz.ntmps17 ?_
 refine xs<|rz ?_
 refine eWk _ (((Wk.freeze (id:=0) (cs:=[.str d_0.Title,.str d_0.Lang,.int .u8 d_0.Rate,.bool d_0.Drop,.int .i64 d_0.Last,.sl (d_0.Regions.map T_api_Region.d),.sl (d_0.Events.map T_api_Event.d),.sl (d_0.Comments.map T_api_Comment.d)]) fz fz).trans (wkF (l:=[(3,.int .i64 tol_3),(4,.iptr [.str d_0.Title,.str d_0.Lang,.int .u8 d_0.Rate,.bool d_0.Drop,.int .i64 d_0.Last,.sl (d_0.Regions.map T_api_Region.d),.sl (d_0.Events.map T_api_Event.d),.sl (d_0.Comments.map T_api_Comment.d)]),(5,.ptr 1 0),(6,.ptr 2 0),(8,.ptr 3 0)]) (h:=[(1,.box none [.str p_1.Name,.int .i64 p_1.Reading,.int .i64 p_1.MinFrames,.int .i64 p_1.MaxFrames,.int .i64 p_1.MinGap,.int .i64 p_1.ShotBefore,.int .i64 p_1.ShotAfter,.int .i64 p_1.Rows,.int .i64 p_1.Cols,.str p_1.Forbidden,.int .i64 p_1.SafeTop,.int .i64 p_1.SafeBottom,.int .i64 p_1.SafeLeft,.int .i64 p_1.SafeRight]),(2,.box none [.sl (l_2.map (D.int .i64))]),(3,.box none [.str [],.str [],.int .u8 0,.bool false,.int .i64 0,.nils,.nils,.nils,.nils,.int .i64 0,.nils])]) (n:=5) [])).trans (((Wk.freeze (id:=1) (cs:=[.str p_1.Name,.int .i64 p_1.Reading,.int .i64 p_1.MinFrames,.int .i64 p_1.MaxFrames,.int .i64 p_1.MinGap,.int .i64 p_1.ShotBefore,.int .i64 p_1.ShotAfter,.int .i64 p_1.Rows,.int .i64 p_1.Cols,.str p_1.Forbidden,.int .i64 p_1.SafeTop,.int .i64 p_1.SafeBottom,.int .i64 p_1.SafeLeft,.int .i64 p_1.SafeRight]) fz fz).trans (wkF (l:=[(3,.int .i64 tol_3),(4,.iptr [.str d_0.Title,.str d_0.Lang,.int .u8 d_0.Rate,.bool d_0.Drop,.int .i64 d_0.Last,.sl (d_0.Regions.map T_api_Region.d),.sl (d_0.Events.map T_api_Event.d),.sl (d_0.Comments.map T_api_Comment.d)]),(5,.iptr [.str p_1.Name,.int .i64 p_1.Reading,.int .i64 p_1.MinFrames,.int .i64 p_1.MaxFrames,.int .i64 p_1.MinGap,.int .i64 p_1.ShotBefore,.int .i64 p_1.ShotAfter,.int .i64 p_1.Rows,.int .i64 p_1.Cols,.str p_1.Forbidden,.int .i64 p_1.SafeTop,.int .i64 p_1.SafeBottom,.int .i64 p_1.SafeLeft,.int .i64 p_1.SafeRight]),(6,.ptr 2 0),(8,.ptr 3 0)]) (h:=[(2,.box none [.sl (l_2.map (D.int .i64))]),(3,.box none [.str [],.str [],.int .u8 0,.bool false,.int .i64 0,.nils,.nils,.nils,.nils,.int .i64 0,.nils])]) (n:=5) [])).trans ((Wk.freeze (id:=2) (cs:=[.sl (l_2.map (D.int .i64))]) fz fz).trans (wkF (l:=[(3,.int .i64 tol_3),(4,.iptr [.str d_0.Title,.str d_0.Lang,.int .u8 d_0.Rate,.bool d_0.Drop,.int .i64 d_0.Last,.sl (d_0.Regions.map T_api_Region.d),.sl (d_0.Events.map T_api_Event.d),.sl (d_0.Comments.map T_api_Comment.d)]),(5,.iptr [.str p_1.Name,.int .i64 p_1.Reading,.int .i64 p_1.MinFrames,.int .i64 p_1.MaxFrames,.int .i64 p_1.MinGap,.int .i64 p_1.ShotBefore,.int .i64 p_1.ShotAfter,.int .i64 p_1.Rows,.int .i64 p_1.Cols,.str p_1.Forbidden,.int .i64 p_1.SafeTop,.int .i64 p_1.SafeBottom,.int .i64 p_1.SafeLeft,.int .i64 p_1.SafeRight]),(6,.iptr [.sl (l_2.map (D.int .i64))]),(8,.ptr 3 0)]) (h:=[(3,.box none [.str [],.str [],.int .u8 0,.bool false,.int .i64 0,.nils,.nils,.nils,.nils,.int .i64 0,.nils])]) (n:=5) []))))<|xs<|rK fun K6 RK6 hK6 gK6=>zz ?_
 obtain⟨r7,h8,h⟩:=bs h
 refine cw (a_repair_Bounds hI hShp hU8T h8)<|zz ?_
 subst hK6 gK6
 refine es<|xs<|xs<|rz ?_
 refine es ?_
 rcases iK k h with⟨k,h⟩|⟨k,h⟩
 ·refine xt<|xs<|rz ?_
  refine es<|xr<|er ?_
  cases h
  exact en fr
 ·refine xf<|xk<|es<|xs<|rz ?_
  refine eWk _ ((Wk.freeze (id:=22) (cs:=[.int .i64 (IntKind.i64.wrap ((IntKind.i64.wrap (2 * (d_0.Events.length:Int)))+1))]) fz fz).trans (wkF (l:=[(3,.int .i64 tol_3),(4,.iptr [.str d_0.Title,.str d_0.Lang,.int .u8 d_0.Rate,.bool d_0.Drop,.int .i64 d_0.Last,.sl (d_0.Regions.map T_api_Region.d),.sl (d_0.Events.map T_api_Event.d),.sl (d_0.Comments.map T_api_Comment.d)]),(5,.iptr [.str p_1.Name,.int .i64 p_1.Reading,.int .i64 p_1.MinFrames,.int .i64 p_1.MaxFrames,.int .i64 p_1.MinGap,.int .i64 p_1.ShotBefore,.int .i64 p_1.ShotAfter,.int .i64 p_1.Rows,.int .i64 p_1.Cols,.str p_1.Forbidden,.int .i64 p_1.SafeTop,.int .i64 p_1.SafeBottom,.int .i64 p_1.SafeLeft,.int .i64 p_1.SafeRight]),(6,.iptr [.sl (l_2.map (D.int .i64))]),(8,.ptr 3 0),(10,.sl (r7.1.map T_api_Bound.d)),(12,.iptr [.int .i64 (IntKind.i64.wrap ((IntKind.i64.wrap (2 * (d_0.Events.length:Int)))+1))])]) (h:=[(3,.box none [.str [],.str [],.int .u8 0,.bool false,.int .i64 0,.nils,.nils,.nils,.nils,.int .i64 0,.nils])]) (n:=24) []))<|xs<|xs<|rK fun K19 RK19 hK19 gK19=>zz ?_
  obtain⟨r20,h21,h⟩:=bs h
  refine cw (a_diffcon_Solve hI h21)<|zz ?_
  subst hK19 gK19
  refine es<|xs<|rz ?_
  refine es ?_
  rcases iK k h with⟨k,h⟩|⟨k,h⟩
  ·refine xt<|xs<|rz ?_
   refine es<|xs<|xs<|rz ?_
   refine es<|xb ?_
   obtain⟨e30,h135,h⟩:=bs h
   refine rb_loop (fun x29=>⟨envL [(8,.ptr 0 0),(10,.sl (r7.1.map T_api_Bound.d)),(15,.int .i64 r20.2.2),(16,.ptr 1 0),(54,.sl (r20.2.1.map (D.int .i64))),(55,.int .i64 (r20.2.1.length:Int)),(56,.int .i64 x29.1)],heapL [(0,.box none [.str [],.str [],.int .u8 0,.bool false,.int .i64 0,.nils,.nils,.nils,.nils,.int .i64 0,.nils]),(1,.box none [.str [],.str [],.int .u8 0,.bool false,.int .i64 0,.nils,.nils,.nils,.nils,.int .i64 0,.own 2 x29.2.length]),(2,.vec 47 6 (x29.2.map T_api_Bound.d) false)],3,145⟩) (fun _=>.exit 0) (fun e30=>⟨envL [(8,.ptr 0 0),(15,.int .i64 r20.2.2),(16,.ptr 1 0)],heapL [(0,.box none [.str [],.str [],.int .u8 0,.bool false,.int .i64 0,.nils,.nils,.nils,.nils,.int .i64 0,.nils]),(1,.box none [.str [],.str [],.int .u8 0,.bool false,.int .i64 0,.nils,.nils,.nils,.nils,.int .i64 0,.own 2 e30.length]),(2,.vec 47 6 (e30.map T_api_Bound.d) false)],3,145⟩) h135 (wk [(0,some 3),(1,some 36),(2,none)]) (by intro w;simp) ?_ ?_
   ·clear h
    intro x29 y h
    unfold g_repair_Plan_s1 at h
    refine xs<|rz ?_
    refine es<|xs ?_
    rcases iK k h with⟨k,h⟩|⟨k,h⟩
    ·refine xt<|xk<|es<|xs<|xb<|xs<|rK fun K126 RK126 hK126 gK126=>zz ?_
     obtain⟨y127,q,h⟩:=bK q h
     refine zz ?_
     subst hK126 gK126
     refine es<|rD hI fun K129 RK129 hK129 gK129=>zz ?_
     obtain⟨y130,q,h⟩:=bK q h
     refine zz ?_
     obtain⟨h132,h⟩:=ite_on h
     have h133:x29.2.length+1≤9223372036854775807:=by omega
     try simp only[Nat.reduceLeDiff] at h133
     have q:=And.intro @h133<|And.intro @h132<|q
     refine zz ?_
     refine hd<|zz ?_
     refine hd<|zz ?_
     subst hK129 gK129
     refine bn<|es<|rz ?_
     cases h
     exact en ⟨rfl,wk [(2,some 14)]⟩
    ·refine xf<|xx<|ee ?_
     cases h
     exact en ⟨rfl,wk []⟩
   ·refine bh<|es<|xs<|rz ?_
    refine es<|xr<|er ?_
    cases h
    exact en fr
  ·refine xf<|xk<|es<|xs<|rK fun K140 RK140 hK140 gK140=>zz ?_
   have h141:=(show bldT Tryz.prog 86=false∧zeroD Tryz.prog 86=some D.any∧zOne Tryz.prog 86=true∧szT Tryz.prog 86=some 1 from⟨by show _=_;kernel_rfl,by show _=_;kernel_rfl,by show _=_;kernel_rfl,by show _=_;kernel_rfl⟩)
   have q:=And.intro @h141<|q
   refine zz ?_
   subst hK140 gK140
   refine eWk _ ((Wk.freeze (id:=37) (cs:=[.fn 44 [.iptr [.str d_0.Title,.str d_0.Lang,.int .u8 d_0.Rate,.bool d_0.Drop,.int .i64 d_0.Last,.sl (d_0.Regions.map T_api_Region.d),.sl (d_0.Events.map T_api_Event.d),.sl (d_0.Comments.map T_api_Comment.d)],.iptr [.str p_1.Name,.int .i64 p_1.Reading,.int .i64 p_1.MinFrames,.int .i64 p_1.MaxFrames,.int .i64 p_1.MinGap,.int .i64 p_1.ShotBefore,.int .i64 p_1.ShotAfter,.int .i64 p_1.Rows,.int .i64 p_1.Cols,.str p_1.Forbidden,.int .i64 p_1.SafeTop,.int .i64 p_1.SafeBottom,.int .i64 p_1.SafeLeft,.int .i64 p_1.SafeRight],.iptr [.sl (l_2.map (D.int .i64))],.iptr [.int .i64 (IntKind.i64.wrap ((IntKind.i64.wrap (2 * (d_0.Events.length:Int)))+1))]]]) fz fz).trans (wkF (l:=[(3,.int .i64 tol_3),(4,.iptr [.str d_0.Title,.str d_0.Lang,.int .u8 d_0.Rate,.bool d_0.Drop,.int .i64 d_0.Last,.sl (d_0.Regions.map T_api_Region.d),.sl (d_0.Events.map T_api_Event.d),.sl (d_0.Comments.map T_api_Comment.d)]),(8,.ptr 3 0),(19,.iptr [.fn 44 [.iptr [.str d_0.Title,.str d_0.Lang,.int .u8 d_0.Rate,.bool d_0.Drop,.int .i64 d_0.Last,.sl (d_0.Regions.map T_api_Region.d),.sl (d_0.Events.map T_api_Event.d),.sl (d_0.Comments.map T_api_Comment.d)],.iptr [.str p_1.Name,.int .i64 p_1.Reading,.int .i64 p_1.MinFrames,.int .i64 p_1.MaxFrames,.int .i64 p_1.MinGap,.int .i64 p_1.ShotBefore,.int .i64 p_1.ShotAfter,.int .i64 p_1.Rows,.int .i64 p_1.Cols,.str p_1.Forbidden,.int .i64 p_1.SafeTop,.int .i64 p_1.SafeBottom,.int .i64 p_1.SafeLeft,.int .i64 p_1.SafeRight],.iptr [.sl (l_2.map (D.int .i64))],.iptr [.int .i64 (IntKind.i64.wrap ((IntKind.i64.wrap (2 * (d_0.Events.length:Int)))+1))]]])]) (h:=[(3,.box none [.str [],.str [],.int .u8 0,.bool false,.int .i64 0,.nils,.nils,.nils,.nils,.int .i64 0,.nils])]) (n:=39) []))<|xs<|rK fun K145 RK145 hK145 gK145=>zz ?_
   obtain⟨r146,h147,h⟩:=bs h
   refine cw (a_sort_Search hI hShp hU8T h147)<|zz ?_
   subst hK145 gK145
   refine es<|xs<|rK fun K152 RK152 hK152 gK152=>zz ?_
   have h153:=(show aggT Tryz.prog 86=some false by kernel_rfl)
   have q:=And.intro @h153<|q
   refine zz ?_
   obtain⟨r154,h155,h⟩:=bs h
   refine cw (a_repair_Plan_1 hI hShp hU8T h155)<|zz ?_
   subst hK152 gK152
   refine es<|xs<|rz ?_
   refine es<|xs<|xs<|rz ?_
   refine es<|xb ?_
   obtain⟨e161,h421,h⟩:=bs h
   refine rb_loop (fun x160=>⟨envL [(4,.iptr [.str d_0.Title,.str d_0.Lang,.int .u8 d_0.Rate,.bool d_0.Drop,.int .i64 d_0.Last,.sl (d_0.Regions.map T_api_Region.d),.sl (d_0.Events.map T_api_Event.d),.sl (d_0.Comments.map T_api_Comment.d)]),(8,.ptr 0 0),(21,.sl (r154.1.map (D.int .i64))),(23,.ptr 1 0),(85,.sl (d_0.Events.map T_api_Event.d)),(86,.int .i64 (d_0.Events.length:Int)),(87,.int .i64 x160.1)],heapL [(0,.box none [.str [],.str [],.int .u8 0,.bool false,.int .i64 0,.nils,.nils,.nils,.nils,.int .i64 0,.nils]),(1,.box none [.str [],.str [],.int .u8 0,.bool false,.int .i64 0,.nils,.nils,.nils,.own 2 x160.2.length,.int .i64 r146,.nils]),(2,.vec 91 3 (x160.2.map T_api_Shift.d) false)],3,145⟩) (fun _=>.exit 2) (fun e161=>⟨envL [(4,.iptr [.str d_0.Title,.str d_0.Lang,.int .u8 d_0.Rate,.bool d_0.Drop,.int .i64 d_0.Last,.sl (d_0.Regions.map T_api_Region.d),.sl (d_0.Events.map T_api_Event.d),.sl (d_0.Comments.map T_api_Comment.d)]),(8,.ptr 0 0),(23,.ptr 1 0)],heapL [(0,.box none [.str [],.str [],.int .u8 0,.bool false,.int .i64 0,.nils,.nils,.nils,.nils,.int .i64 0,.nils]),(1,.box none [.str [],.str [],.int .u8 0,.bool false,.int .i64 0,.nils,.nils,.nils,.own 2 e161.length,.int .i64 r146,.nils]),(2,.vec 91 3 (e161.map T_api_Shift.d) false)],3,145⟩) h421 (wk [(0,some 3),(1,some 53),(2,none)]) (by intro w;simp) ?_ ?_
   ·clear h
    intro x160 y h
    unfold g_repair_Plan_s2 at h
    refine xs<|rz ?_
    refine es<|xs ?_
    rcases iK k h with⟨k,h⟩|⟨k,h⟩
    ·refine xt<|xk<|es<|xs<|xb<|xs<|rK fun K392 RK392 hK392 gK392=>zz ?_
     obtain⟨y393,q,h⟩:=bK q h
     refine zz ?_
     subst hK392 gK392
     refine es<|xs<|rD hI fun K402 RK402 hK402 gK402=>zz ?_
     obtain⟨y403,q,h⟩:=bK q h
     refine zz ?_
     obtain⟨y405,q,h⟩:=bK q h
     refine zz ?_
     obtain⟨y407,q,h⟩:=bK q h
     refine zz ?_
     subst hK402 gK402
     refine es ?_
     obtain⟨v411,h414,h⟩:=bs h
     refine rb_cut (fun v411=>⟨envL [(4,.iptr [.str d_0.Title,.str d_0.Lang,.int .u8 d_0.Rate,.bool d_0.Drop,.int .i64 d_0.Last,.sl (d_0.Regions.map T_api_Region.d),.sl (d_0.Events.map T_api_Event.d),.sl (d_0.Comments.map T_api_Comment.d)]),(8,.ptr 0 0),(21,.sl (r154.1.map (D.int .i64))),(23,.ptr 1 0),(25,.ptr 3 0),(26,.int .i64 (IntKind.i64.wrap (y403 - y405))),(27,.int .i64 (IntKind.i64.wrap (y407 - y405))),(85,.sl (d_0.Events.map T_api_Event.d)),(86,.int .i64 (d_0.Events.length:Int)),(87,.int .i64 x160.1),(123,.bool v411)],heapL [(0,.box none [.str [],.str [],.int .u8 0,.bool false,.int .i64 0,.nils,.nils,.nils,.nils,.int .i64 0,.nils]),(1,.box none [.str [],.str [],.int .u8 0,.bool false,.int .i64 0,.nils,.nils,.nils,.own 2 x160.2.length,.int .i64 r146,.nils]),(2,.vec 91 3 (x160.2.map T_api_Shift.d) false),(3,.box none [.int .i64 y393.ID,.int .i64 y393.Span.In,.int .i64 y393.Span.Out,.str y393.Region,.int .u8 y393.Kind,.str y393.Speaker,.sl (y393.Rows.map T_api_Row.d)])],4,145⟩) h414 ?_ ?_
     ·clear h
      intro v411 h
      refine rK fun K412 RK412 hK412 gK412=>zz ?_
      rcases iK k h with⟨k,h⟩|⟨k,h⟩
      ·refine zz ?_
       subst hK412 gK412
       cases h
       exact en ⟨rfl,wk [(3,some 7)]⟩
      ·refine zz ?_
       subst hK412 gK412
       cases h
       exact en ⟨rfl,wk [(3,some 7)]⟩
     ·rcases iK k h with⟨k,h⟩|⟨k,h⟩
      ·refine xt<|rK fun K416 RK416 hK416 gK416=>zz ?_
       obtain⟨h417,h⟩:=ite_on h
       have h418:x160.2.length+1≤9223372036854775807:=by omega
       try simp only[Nat.reduceLeDiff] at h418
       have q:=And.intro @h418<|And.intro @h417<|q
       refine zz ?_
       subst hK416 gK416
       refine bn<|es<|rz ?_
       cases h
       exact en ⟨rfl,wk [(2,some 12)]⟩
      ·refine xf<|xk<|bn<|es<|rz ?_
       cases h
       exact en ⟨rfl,wk []⟩
    ·refine xf<|xx<|ee ?_
     cases h
     exact en ⟨rfl,wk []⟩
   ·refine bh<|es<|xs<|rK fun K425 RK425 hK425 gK425=>zz ?_
    obtain⟨r426,h427,h⟩:=bs h
    refine cw (a_repair_Apply hI hShp hU8T h427)<|zz ?_
    subst hK425 gK425
    refine es<|xs<|rz ?_
    refine es<|xr ?_
    cases h
    exact en fr
structure T_captionerlaw43_Task where
 Doc:T_api_Document
 House:T_api_Profile
 Shots:List Int
 Tol:Int
 deriving DecidableEq
def T_captionerlaw43_Task.d (x:T_captionerlaw43_Task):D:=.agg [.str x.Doc.Title,.str x.Doc.Lang,.int .u8 x.Doc.Rate,.bool x.Doc.Drop,.int .i64 x.Doc.Last,.sl (x.Doc.Regions.map T_api_Region.d),.sl (x.Doc.Events.map T_api_Event.d),.sl (x.Doc.Comments.map T_api_Comment.d),.str x.House.Name,.int .i64 x.House.Reading,.int .i64 x.House.MinFrames,.int .i64 x.House.MaxFrames,.int .i64 x.House.MinGap,.int .i64 x.House.ShotBefore,.int .i64 x.House.ShotAfter,.int .i64 x.House.Rows,.int .i64 x.House.Cols,.str x.House.Forbidden,.int .i64 x.House.SafeTop,.int .i64 x.House.SafeBottom,.int .i64 x.House.SafeLeft,.int .i64 x.House.SafeRight,.sl (x.Shots.map (D.int .i64)),.int .i64 x.Tol]
theorem dd_EE:(∀ x,T_api_Region.d x=.agg [.str x.Name,.int .i64 x.Top,.int .i64 x.Height,.int .i64 x.Left,.int .i64 x.Width,.int .u8 x.Align,.bool x.Bottom])∧(∀ x,T_api_Comment.d x=.agg [.int .i64 x.ID,.int .i64 x.Event,.int .i64 x.From,.int .i64 x.To,.str x.Author,.str x.Text,.bool x.Done,.bool x.Lost])∧(∀ x,T_api_Span.d x=.agg [.int .i64 x.In,.int .i64 x.Out])∧(∀ x,T_api_Style.d x=.agg [.int .u8 x.Color,.bool x.Italic,.bool x.Underline])∧(∀ x,T_api_Run.d x=.agg [.str x.Text,.int .u8 x.Style.Color,.bool x.Style.Italic,.bool x.Style.Underline,.str x.Ruby])∧(∀ x,T_api_Row.d x=.agg [.sl (x.Runs.map T_api_Run.d)])∧(∀ x,T_api_Event.d x=.agg [.int .i64 x.ID,.int .i64 x.Span.In,.int .i64 x.Span.Out,.str x.Region,.int .u8 x.Kind,.str x.Speaker,.sl (x.Rows.map T_api_Row.d)])∧(∀ x,T_api_Bound.d x=.agg [.int .i64 x.I,.int .i64 x.J,.int .i64 x.C,.int .u8 x.Rule,.int .i64 x.ID,.int .i64 x.Other])∧(∀ x,T_api_Profile.d x=.agg [.str x.Name,.int .i64 x.Reading,.int .i64 x.MinFrames,.int .i64 x.MaxFrames,.int .i64 x.MinGap,.int .i64 x.ShotBefore,.int .i64 x.ShotAfter,.int .i64 x.Rows,.int .i64 x.Cols,.str x.Forbidden,.int .i64 x.SafeTop,.int .i64 x.SafeBottom,.int .i64 x.SafeLeft,.int .i64 x.SafeRight])∧(∀ x,T_api_Document.d x=.agg [.str x.Title,.str x.Lang,.int .u8 x.Rate,.bool x.Drop,.int .i64 x.Last,.sl (x.Regions.map T_api_Region.d),.sl (x.Events.map T_api_Event.d),.sl (x.Comments.map T_api_Comment.d)])∧(∀ x,T_api_Shift.d x=.agg [.int .i64 x.ID,.int .i64 x.In,.int .i64 x.Out])∧(∀ x,T_api_Repair.d x=.agg [.str x.Doc.Title,.str x.Doc.Lang,.int .u8 x.Doc.Rate,.bool x.Doc.Drop,.int .i64 x.Doc.Last,.sl (x.Doc.Regions.map T_api_Region.d),.sl (x.Doc.Events.map T_api_Event.d),.sl (x.Doc.Comments.map T_api_Comment.d),.sl (x.Shifts.map T_api_Shift.d),.int .i64 x.Needed,.sl (x.Conflict.map T_api_Bound.d)])∧(∀ x,T_captionerlaw43_Task.d x=.agg [.str x.Doc.Title,.str x.Doc.Lang,.int .u8 x.Doc.Rate,.bool x.Doc.Drop,.int .i64 x.Doc.Last,.sl (x.Doc.Regions.map T_api_Region.d),.sl (x.Doc.Events.map T_api_Event.d),.sl (x.Doc.Comments.map T_api_Comment.d),.str x.House.Name,.int .i64 x.House.Reading,.int .i64 x.House.MinFrames,.int .i64 x.House.MaxFrames,.int .i64 x.House.MinGap,.int .i64 x.House.ShotBefore,.int .i64 x.House.ShotAfter,.int .i64 x.House.Rows,.int .i64 x.House.Cols,.str x.House.Forbidden,.int .i64 x.House.SafeTop,.int .i64 x.House.SafeBottom,.int .i64 x.House.SafeLeft,.int .i64 x.House.SafeRight,.sl (x.Shots.map (D.int .i64)),.int .i64 x.Tol]):=⟨fun _=>rfl,fun _=>rfl,fun _=>rfl,fun _=>rfl,fun _=>rfl,fun _=>rfl,fun _=>rfl,fun _=>rfl,fun _=>rfl,fun _=>rfl,fun _=>rfl,fun _=>rfl,fun _=>rfl⟩
def g_slices_Equal_api_Bound_api_Bound_s1 (s1_0:List T_api_Bound) (s2_1:List T_api_Bound) (x10:Int):Option (Nx (Int) (Unit ⊕ Unit)) :=
 (if(decide (x10 < (s1_0.length:Int))) then((atI s1_0 x10).bind fun y74=>((atI s2_1 x10).bind fun y76=>(if((y74.I == y76.I)&&((y74.J == y76.J)&&((y74.C == y76.C)&&((y74.Rule == y76.Rule)&&((y74.ID == y76.ID)&&(y74.Other == y76.Other)))))) then(some (.go (IntKind.i64.wrap (x10+1)))) else(some (.out (.inl ())))))) else(some (.out (.inr ()))))
def g_slices_Equal_api_Bound_api_Bound (s1_0:List T_api_Bound) (s2_1:List T_api_Bound):Option (Bool) :=
 (if((s1_0.length:Int) != (s2_1.length:Int)) then(some false) else((iter (g_slices_Equal_api_Bound_api_Bound_s1 s1_0 s2_1) 0).bind fun e11=>(match e11 with|Sum.inl e11=>(some false)|Sum.inr (e11)=>(some true))))
theorem a_slices_Equal_api_Bound_api_Bound {I:World→Prop} (hI:Stab I) {s1_0:List T_api_Bound} {s2_1:List T_api_Bound} {r:Bool} (h:g_slices_Equal_api_Bound_api_Bound s1_0 s2_1=some r):AFun Tryz.prog I 16 [.sl (s1_0.map T_api_Bound.d),.sl (s2_1.map T_api_Bound.d)] (.bool r):=by
 have dd:=dd_EE;have k:=True.intro;have q:=k;have rs:=Tryz.results16
 unfold g_slices_Equal_api_Bound_api_Bound at h
 refine .en hI Tryz.func16 Tryz.ntmps16 ?_
 refine xs<|rz ?_
 refine es<|xs<|xs<|rz ?_
 refine es ?_
 rcases iK k h with⟨k,h⟩|⟨k,h⟩
 ·refine xt<|xs<|rz ?_
  refine es<|xr<|er ?_
  cases h
  exact en fr
 ·refine xf<|xk<|es<|xs<|xs<|rz ?_
  refine es<|xb ?_
  obtain⟨e11,h82,h⟩:=bs h
  refine rb_loop (fun x10=>⟨envL [(0,.sl (s1_0.map T_api_Bound.d)),(1,.sl (s2_1.map T_api_Bound.d)),(12,.int .i64 (s1_0.length:Int)),(13,.int .i64 x10)],heapL [],0,26⟩) (fun w=>match w with|Sum.inl _=>.ret|Sum.inr (_)=>.exit 0) (fun w=>match w with|Sum.inl e11=>⟨envL [(4,.bool false)],heapL [],0,26⟩|Sum.inr (e11)=>⟨envL [],heapL [],0,26⟩) h82 (wk []) (by intro w;rcases w with w|w<;>simp) ?_ ?_
  ·clear h
   intro x10 y h
   unfold g_slices_Equal_api_Bound_api_Bound_s1 at h
   refine xs<|rz ?_
   refine es<|xs ?_
   rcases iK k h with⟨k,h⟩|⟨k,h⟩
   ·refine xt<|xk<|es<|xs<|xb<|xs<|rz ?_
    refine es<|xs<|rD hI fun K73 RK73 hK73 gK73=>zz ?_
    obtain⟨y74,q,h⟩:=bK q h
    refine zz ?_
    obtain⟨y76,q,h⟩:=bK q h
    refine zz ?_
    subst hK73 gK73
    refine es ?_
    rcases iK k h with⟨k,h⟩|⟨k,h⟩
    ·refine xf<|xk<|bn<|es<|rz ?_
     cases h
     exact en ⟨rfl,wk []⟩
    ·refine xt<|xs<|rz ?_
     refine es<|xr<|br<|er ?_
     cases h
     exact en ⟨rfl,wk []⟩
   ·refine xf<|xx<|ee ?_
    cases h
    exact en ⟨rfl,wk []⟩
  ·rcases e11 with e11|e11
   ·try dsimp only at h ⊢
    refine br<|er ?_
    cases h
    exact en fr
   ·try dsimp only at h ⊢
    refine bh<|es<|xs<|rz ?_
    refine es<|xr ?_
    cases h
    exact en fr
def g_repair_Zone (l_0:List Int) (frame_1:Int) (p_2:T_api_Profile):Option (T_api_Span × Int) :=
 ((g_profile_Check p_2).bind fun r7=>(if(r7 != 0) then(some ((T_api_Span.mk 0 0),r7)) else((g_shots_Check l_0).bind fun r18=>(if(r18 != 0) then(some ((T_api_Span.mk 0 0),r18)) else(((if(decide (frame_1 < 0)) then(some true) else(some (decide (5184000 < frame_1)))):Option (Bool)).bind fun v27=>(if v27 then(some ((T_api_Span.mk 0 0),2)) else((g_repair_zone l_0 frame_1 p_2).bind fun r38=>(some (r38.1,r38.2)))))))))
theorem a_repair_Zone {I:World→Prop} (hI:Stab I) (hU8T:∀ w,I w→U8T w) {l_0:List Int} {frame_1:Int} {p_2:T_api_Profile} {r:T_api_Span × Int} (h:g_repair_Zone l_0 frame_1 p_2=some r):AFun Tryz.prog I 11 [.sl (l_0.map (D.int .i64)),.int .i64 frame_1,T_api_Profile.d p_2] (.tup [T_api_Span.d r.1,.int .i64 r.2]):=by
 have dd:=dd_EE;have k:=True.intro;have q:=k;have rs:=Tryz.results11
 unfold g_repair_Zone at h
 refine .en hI Tryz.func11 Tryz.ntmps11 ?_
 refine xs<|rz ?_
 refine es<|xs<|xs<|rK fun K6 RK6 hK6 gK6=>zz ?_
 obtain⟨r7,h8,h⟩:=bs h
 refine cw (a_profile_Check hI hU8T h8)<|zz ?_
 subst hK6 gK6
 refine es<|xs<|rz ?_
 refine es ?_
 rcases iK k h with⟨k,h⟩|⟨k,h⟩
 ·refine xt<|xs<|rz ?_
  refine es<|xr<|er ?_
  cases h
  exact en fr
 ·refine xf<|xk<|es<|xs<|xs<|rK fun K17 RK17 hK17 gK17=>zz ?_
  obtain⟨r18,h19,h⟩:=bs h
  refine cw (a_shots_Check hI h19)<|zz ?_
  subst hK17 gK17
  refine es<|xs<|rz ?_
  refine es ?_
  rcases iK k h with⟨k,h⟩|⟨k,h⟩
  ·refine xt<|xs<|rz ?_
   refine es<|xr<|er ?_
   cases h
   exact en fr
  ·refine xf<|xk<|es<|xs ?_
   obtain⟨v27,h30,h⟩:=bs h
   refine rb_cut (fun v27=>⟨envL [(0,.sl (l_0.map (D.int .i64))),(1,.int .i64 frame_1),(5,.ptr 0 0),(6,.ptr 1 0),(27,.bool v27)],heapL [(0,.box none [.str p_2.Name,.int .i64 p_2.Reading,.int .i64 p_2.MinFrames,.int .i64 p_2.MaxFrames,.int .i64 p_2.MinGap,.int .i64 p_2.ShotBefore,.int .i64 p_2.ShotAfter,.int .i64 p_2.Rows,.int .i64 p_2.Cols,.str p_2.Forbidden,.int .i64 p_2.SafeTop,.int .i64 p_2.SafeBottom,.int .i64 p_2.SafeLeft,.int .i64 p_2.SafeRight]),(1,.box none [.int .i64 0,.int .i64 0])],2,35⟩) h30 ?_ ?_
   ·clear h
    intro v27 h
    refine rK fun K28 RK28 hK28 gK28=>zz ?_
    rcases iK k h with⟨k,h⟩|⟨k,h⟩
    ·refine zz ?_
     subst hK28 gK28
     cases h
     exact en ⟨rfl,wk []⟩
    ·refine zz ?_
     subst hK28 gK28
     cases h
     exact en ⟨rfl,wk []⟩
   ·rcases iK k h with⟨k,h⟩|⟨k,h⟩
    ·refine xt<|xs<|rz ?_
     refine es<|xr<|er ?_
     cases h
     exact en fr
    ·refine xf<|xk<|es<|xs<|rK fun K37 RK37 hK37 gK37=>zz ?_
     obtain⟨r38,h39,h⟩:=bs h
     refine cw (a_repair_zone hI h39)<|zz ?_
     subst hK37 gK37
     refine es<|xr ?_
     cases h
     exact en fr
def g_law43_at (id_0:Int) (in_1:Int) (out_2:Int):Option (T_api_Event) :=
 (some (T_api_Event.mk id_0 (T_api_Span.mk in_1 out_2) [] 1 [] [(T_api_Row.mk [(T_api_Run.mk [120] (T_api_Style.mk 0 false false) [])])]))
theorem a_law43_at {I:World→Prop} (hI:Stab I) {id_0:Int} {in_1:Int} {out_2:Int} {r:T_api_Event} (h:g_law43_at id_0 in_1 out_2=some r):AFun Tryz.prog I 30 [.int .i64 id_0,.int .i64 in_1,.int .i64 out_2] (T_api_Event.d r):=by
 have dd:=dd_EE;have k:=True.intro;have q:=k;have rs:=Tryz.results30
 unfold g_law43_at at h
 refine .en hI Tryz.func30 Tryz.ntmps30 ?_
 refine xs<|rz ?_
 refine es<|xs<|rz ?_
 refine es<|xr ?_
 cases h
 exact en fr
def g_law43_awake  : Option (Bool) :=
 ((g_law43_at 1 0 12).bind fun r11=>((g_law43_at 2 11 30).bind fun r13=>((g_repair_Plan (T_api_Document.mk [] [] 3 false 2 [] [r11,r13] []) (T_api_Profile.mk [65] 10000 10 100 2 0 0 2 32 [] 0 0 0 0) [] 9).bind fun r19=>(((if(r19.2 != 0) then(some true) else(if(r19.1.Needed != 2) then(some true) else(some ((r19.1.Conflict.length:Int) != 0)))):Option (Bool)).bind fun v24=>(if v24 then(some false) else((g_repair_Plan (T_api_Document.mk [] [] 3 false 2 [] [r11,r13] []) (T_api_Profile.mk [65] 10000 10 100 2 0 0 2 32 [] 0 0 0 0) [] 1).bind fun r36=>(((if(r36.2 != 16) then(some true) else((g_slices_Equal_api_Bound_api_Bound r36.1.Conflict [(T_api_Bound.mk 2 0 (-11) 11 1 0),(T_api_Bound.mk 0 3 12 11 2 0),(T_api_Bound.mk 3 2 (-2) 4 1 2)]).bind fun r47=>(some (!r47)))):Option (Bool)).bind fun v44=>(if v44 then(some false) else((g_repair_Zone [100] 95 (T_api_Profile.mk [65] 10000 10 100 2 12 12 2 32 [] 0 0 0 0)).bind fun r59=>(if(r59.2 == 0) then(some ((r59.1.In == 100)&&(r59.1.Out == 101))) else(some false)))))))))))
theorem a_law43_awake {I:World→Prop} (hI:Stab I) (hShp:∀ w,I w→Shp w) (hU8T:∀ w,I w→U8T w)  {r:Bool} (h:g_law43_awake  = some r):AFun Tryz.prog I 10 [] (.bool r):=by
 have dd:=dd_EE;have k:=True.intro;have q:=k;have rs:=Tryz.results10
 unfold g_law43_awake at h
 refine .en hI Tryz.func10 Tryz.ntmps10 ?_
 refine xs<|rz ?_
 refine es<|xs<|rz ?_
 refine es<|xs<|rK fun K10 RK10 hK10 gK10=>zz ?_
 obtain⟨r11,h12,h⟩:=bs h
 refine cw (a_law43_at hI h12)<|zz ?_
 obtain⟨r13,h14,h⟩:=bs h
 refine cw (a_law43_at hI h14)<|zz ?_
 subst hK10 gK10
 refine es<|xs<|rK fun K18 RK18 hK18 gK18=>zz ?_
 obtain⟨r19,h20,h⟩:=bs h
 refine cw (a_repair_Plan hI hShp hU8T h20)<|zz ?_
 subst hK18 gK18
 refine es<|xs ?_
 obtain⟨v24,h28,h⟩:=bs h
 refine rb_cut (fun v24=>⟨envL [(1,.ptr 0 0),(2,.ptr 1 0),(3,.ptr 3 0),(30,.bool v24)],heapL [(0,.box none [.str [65],.int .i64 10000,.int .i64 10,.int .i64 100,.int .i64 2,.int .i64 0,.int .i64 0,.int .i64 2,.int .i64 32,.str [],.int .i64 0,.int .i64 0,.int .i64 0,.int .i64 0]),(1,.box none [.str [],.str [],.int .u8 3,.bool false,.int .i64 2,.nils,.own 2 2,.nils]),(2,.vec 64 7 ([r11,r13].map T_api_Event.d) true),(3,.box none [.str r19.1.Doc.Title,.str r19.1.Doc.Lang,.int .u8 r19.1.Doc.Rate,.bool r19.1.Doc.Drop,.int .i64 r19.1.Doc.Last,.sl (r19.1.Doc.Regions.map T_api_Region.d),.sl (r19.1.Doc.Events.map T_api_Event.d),.sl (r19.1.Doc.Comments.map T_api_Comment.d),.sl (r19.1.Shifts.map T_api_Shift.d),.int .i64 r19.1.Needed,.sl (r19.1.Conflict.map T_api_Bound.d)])],4,65⟩) h28 ?_ ?_
 ·clear h
  intro v24 h
  refine rK fun K25 RK25 hK25 gK25=>zz ?_
  rcases iK k h with⟨k,h⟩|⟨k,h⟩
  ·refine zz ?_
   subst hK25 gK25
   cases h
   exact en ⟨rfl,wk [(0,some 2),(1,some 8),(2,some 6),(3,some 16)]⟩
  ·refine zz ?_
   rcases iK k h with⟨k,h⟩|⟨k,h⟩
   ·refine zz ?_
    subst hK25 gK25
    cases h
    exact en ⟨rfl,wk [(0,some 2),(1,some 8),(2,some 6),(3,some 16)]⟩
   ·refine zz ?_
    subst hK25 gK25
    cases h
    exact en ⟨rfl,wk [(0,some 2),(1,some 8),(2,some 6),(3,some 16)]⟩
 ·rcases iK k h with⟨k,h⟩|⟨k,h⟩
  ·refine xt<|xs<|rz ?_
   refine es<|xr<|er ?_
   cases h
   exact en fr
  ·refine xf<|xk<|es<|xs<|rK fun K35 RK35 hK35 gK35=>zz ?_
   obtain⟨r36,h37,h⟩:=bs h
   refine cw (a_repair_Plan hI hShp hU8T h37)<|zz ?_
   subst hK35 gK35
   refine es<|xs<|rz ?_
   refine es<|xs ?_
   obtain⟨v44,h49,h⟩:=bs h
   refine rb_cut (fun v44=>⟨envL [(1,.ptr 0 0),(49,.bool v44)],heapL [(0,.box none [.str [65],.int .i64 10000,.int .i64 10,.int .i64 100,.int .i64 2,.int .i64 0,.int .i64 0,.int .i64 2,.int .i64 32,.str [],.int .i64 0,.int .i64 0,.int .i64 0,.int .i64 0])],1,65⟩) h49 ?_ ?_
   ·clear h
    intro v44 h
    refine rK fun K45 RK45 hK45 gK45=>zz ?_
    rcases iK k h with⟨k,h⟩|⟨k,h⟩
    ·refine zz ?_
     subst hK45 gK45
     cases h
     exact en ⟨rfl,wk []⟩
    ·refine zz ?_
     obtain⟨r47,h48,h⟩:=bs h
     refine cw (a_slices_Equal_api_Bound_api_Bound hI h48)<|zz ?_
     subst hK45 gK45
     cases h
     exact en ⟨rfl,wk []⟩
   ·rcases iK k h with⟨k,h⟩|⟨k,h⟩
    ·refine xt<|xs<|rz ?_
     refine es<|xr<|er ?_
     cases h
     exact en fr
    ·refine xf<|xk<|es<|xs<|rz ?_
     refine es<|xs<|rK fun K58 RK58 hK58 gK58=>zz ?_
     obtain⟨r59,h60,h⟩:=bs h
     refine cw (a_repair_Zone hI hU8T h60)<|zz ?_
     subst hK58 gK58
     refine es<|xs<|rK fun K63 RK63 hK63 gK63=>zz ?_
     rcases iK k h with⟨k,h⟩|⟨k,h⟩
     ·refine zz ?_
      subst hK63 gK63
      refine es<|xr ?_
      cases h
      exact en fr
     ·refine zz ?_
      subst hK63 gK63
      refine es<|xr ?_
      cases h
      exact en fr
def g_law43_few (t_0:T_captionerlaw43_Task):Option (T_captionerlaw43_Task) :=
 ((subH t_0.Doc.Events (if 4 < (t_0.Doc.Events.length:Int) then 4 else(t_0.Doc.Events.length:Int))).bind fun z20=>((subH t_0.Doc.Comments (if 4 < (t_0.Doc.Comments.length:Int) then 4 else(t_0.Doc.Comments.length:Int))).bind fun z25=>((subH t_0.Shots (if 6 < (t_0.Shots.length:Int) then 6 else(t_0.Shots.length:Int))).bind fun z30=>(some (T_captionerlaw43_Task.mk (T_api_Document.mk t_0.Doc.Title t_0.Doc.Lang t_0.Doc.Rate t_0.Doc.Drop t_0.Doc.Last t_0.Doc.Regions z20 z25) t_0.House z30 t_0.Tol)))))
theorem a_law43_few {I:World→Prop} (hI:Stab I) {t_0:T_captionerlaw43_Task} {r:T_captionerlaw43_Task} (h:g_law43_few t_0=some r):AFun Tryz.prog I 13 [T_captionerlaw43_Task.d t_0] (T_captionerlaw43_Task.d r):=by
 have dd:=dd_EE;have k:=True.intro;have q:=k;have rs:=Tryz.results13
 unfold g_law43_few at h
 refine .en hI Tryz.func13 Tryz.ntmps13 ?_
 refine xs<|rz ?_
 refine es<|xs<|rP hI fun K19 hK19=>rgP_cons<|zq ?_
 refine sP.light rfl fd<|rgP_cons<|zq ?_
 refine sP.light rfl fd<|rgP_cons<|zq ?_
 refine sP.foot (.cell 0 6 1) (fun _=>FootOK.ld rfl rfl rfl (by kernel_rfl) (by decide)) fd (by first|exact .inl (by first|rfl|decide)|exact .inr (by kernel_rfl))<|rgP_cons<|zq ?_
 refine sP.light rfl fd<|rgP_cons<|zq ?_
 refine sP.light rfl fd<|rgP_cons<|zq ?_
 refine sP.foot (.cell 0 6 1) (fun _=>FootOK.ld rfl rfl rfl (by kernel_rfl) (by decide)) fd (by first|exact .inl (by first|rfl|decide)|exact .inr (by kernel_rfl))<|rgP_cons<|zq ?_
 refine sP.light rfl fd<|rgP_cons<|zq ?_
 refine sP.light rfl fd<|rgP_cons<|zq ?_
 obtain⟨z20,h21,h⟩:=bind_some h
 obtain⟨⟨h22,h23⟩,h24⟩:=subH_some h21
 have q:=And.intro @h22<|And.intro @h23<|q
 try simp -implicitDefEqProofs only[vt,vm,sevalprocAttr,dd,k,q] at h24
 have q:=And.intro @h24<|q
 refine zq ?_
 refine sP.foot (.ids []) (fun hN=>FootOK.idsB [] (by rfl) rfl hN) fd (by first|exact .inl (by first|rfl|decide)|exact .inr (by kernel_rfl))<|rgP_cons<|zq ?_
 refine sP.light rfl fd<|rgP_cons<|zq ?_
 refine sP.light rfl fd<|rgP_cons<|zq ?_
 refine sP.foot (.cell 0 7 1) (fun _=>FootOK.ld rfl rfl rfl (by kernel_rfl) (by decide)) fd (by first|exact .inl (by first|rfl|decide)|exact .inr (by kernel_rfl))<|rgP_cons<|zq ?_
 refine sP.light rfl fd<|rgP_cons<|zq ?_
 refine sP.light rfl fd<|rgP_cons<|zq ?_
 refine sP.foot (.cell 0 7 1) (fun _=>FootOK.ld rfl rfl rfl (by kernel_rfl) (by decide)) fd (by first|exact .inl (by first|rfl|decide)|exact .inr (by kernel_rfl))<|rgP_cons<|zq ?_
 refine sP.light rfl fd<|rgP_cons<|zq ?_
 refine sP.light rfl fd<|rgP_cons<|zq ?_
 obtain⟨z25,h26,h⟩:=bind_some h
 obtain⟨⟨h27,h28⟩,h29⟩:=subH_some h26
 have q:=And.intro @h27<|And.intro @h28<|q
 try simp -implicitDefEqProofs only[vt,vm,sevalprocAttr,dd,k,q] at h29
 have q:=And.intro @h29<|q
 refine zq ?_
 refine sP.foot (.ids []) (fun hN=>FootOK.idsB [] (by rfl) rfl hN) fd (by first|exact .inl (by first|rfl|decide)|exact .inr (by kernel_rfl))<|rgP_cons<|zq ?_
 refine sP.light rfl fd<|rgP_cons<|zq ?_
 refine sP.foot (.cell 0 22 1) (fun _=>FootOK.ld rfl rfl rfl (by kernel_rfl) (by decide)) fd (by first|exact .inl (by first|rfl|decide)|exact .inr (by kernel_rfl))<|rgP_cons<|zq ?_
 refine sP.light rfl fd<|rgP_cons<|zq ?_
 refine sP.foot (.cell 0 22 1) (fun _=>FootOK.ld rfl rfl rfl (by kernel_rfl) (by decide)) fd (by first|exact .inl (by first|rfl|decide)|exact .inr (by kernel_rfl))<|rgP_cons<|zq ?_
 refine sP.light rfl fd<|rgP_cons<|zq ?_
 refine sP.light rfl fd<|rgP_cons<|zq ?_
 obtain⟨z30,h31,h⟩:=bind_some h
 obtain⟨⟨h32,h33⟩,h34⟩:=subH_some h31
 have q:=And.intro @h32<|And.intro @h33<|q
 try simp -implicitDefEqProofs only[vt,vm,sevalprocAttr,dd,k,q] at h34
 have q:=And.intro @h34<|q
 refine zq ?_
 refine sP.foot (.ids []) (fun hN=>FootOK.idsB [] (by rfl) rfl hN) fd (by first|exact .inl (by first|rfl|decide)|exact .inr (by kernel_rfl))<|rgP_cons<|zq ?_
 refine sP.light rfl fd<|rgP_cons<|zq ?_
 refine sP.light rfl fd<|rgP_cons<|zq ?_
 refine sP.pat 0 6 1 rfl rfl rfl<|rgP_cons<|zq ?_
 refine sP.light rfl fd<|rgP_cons<|zq ?_
 refine sP.light rfl fd<|rgP_cons<|zq ?_
 refine sP.pat 0 7 1 rfl rfl rfl<|rgP_cons<|zq ?_
 refine sP.light rfl fd<|rgP_cons<|zq ?_
 refine sP.pat 0 22 1 rfl rfl rfl<|zq ?_
 refine rgP_nil fk ?_
 subst hK19
 refine es<|xs<|rz ?_
 refine es<|xr ?_
 cases h
 exact en fr
end Go.Proofs.YtobglplholhkcaaGreatDoor

namespace Go.Proofs.YtobglplholhkcaaGreatDoor
open Go.RowKit
set_option maxRecDepth 100000
set_option maxHeartbeats 10000000
structure T_api_Head where
 Title:List UInt8
 Lang:List UInt8
 Rate:Int
 Drop:Bool
 Last:Int
 deriving DecidableEq
def T_api_Head.d (x:T_api_Head):D:=.agg [.str x.Title,.str x.Lang,.int .u8 x.Rate,.bool x.Drop,.int .i64 x.Last]
theorem dd_EG:(∀ x,T_api_Region.d x=.agg [.str x.Name,.int .i64 x.Top,.int .i64 x.Height,.int .i64 x.Left,.int .i64 x.Width,.int .u8 x.Align,.bool x.Bottom])∧(∀ x,T_api_Comment.d x=.agg [.int .i64 x.ID,.int .i64 x.Event,.int .i64 x.From,.int .i64 x.To,.str x.Author,.str x.Text,.bool x.Done,.bool x.Lost])∧(∀ x,T_api_Span.d x=.agg [.int .i64 x.In,.int .i64 x.Out])∧(∀ x,T_api_Style.d x=.agg [.int .u8 x.Color,.bool x.Italic,.bool x.Underline])∧(∀ x,T_api_Run.d x=.agg [.str x.Text,.int .u8 x.Style.Color,.bool x.Style.Italic,.bool x.Style.Underline,.str x.Ruby])∧(∀ x,T_api_Row.d x=.agg [.sl (x.Runs.map T_api_Run.d)])∧(∀ x,T_api_Event.d x=.agg [.int .i64 x.ID,.int .i64 x.Span.In,.int .i64 x.Span.Out,.str x.Region,.int .u8 x.Kind,.str x.Speaker,.sl (x.Rows.map T_api_Row.d)])∧(∀ x,T_api_Bound.d x=.agg [.int .i64 x.I,.int .i64 x.J,.int .i64 x.C,.int .u8 x.Rule,.int .i64 x.ID,.int .i64 x.Other])∧(∀ x,T_api_Document.d x=.agg [.str x.Title,.str x.Lang,.int .u8 x.Rate,.bool x.Drop,.int .i64 x.Last,.sl (x.Regions.map T_api_Region.d),.sl (x.Events.map T_api_Event.d),.sl (x.Comments.map T_api_Comment.d)])∧(∀ x,T_api_Head.d x=.agg [.str x.Title,.str x.Lang,.int .u8 x.Rate,.bool x.Drop,.int .i64 x.Last])∧(∀ x,T_api_Profile.d x=.agg [.str x.Name,.int .i64 x.Reading,.int .i64 x.MinFrames,.int .i64 x.MaxFrames,.int .i64 x.MinGap,.int .i64 x.ShotBefore,.int .i64 x.ShotAfter,.int .i64 x.Rows,.int .i64 x.Cols,.str x.Forbidden,.int .i64 x.SafeTop,.int .i64 x.SafeBottom,.int .i64 x.SafeLeft,.int .i64 x.SafeRight])∧(∀ x,T_captionerlaw43_Task.d x=.agg [.str x.Doc.Title,.str x.Doc.Lang,.int .u8 x.Doc.Rate,.bool x.Doc.Drop,.int .i64 x.Doc.Last,.sl (x.Doc.Regions.map T_api_Region.d),.sl (x.Doc.Events.map T_api_Event.d),.sl (x.Doc.Comments.map T_api_Comment.d),.str x.House.Name,.int .i64 x.House.Reading,.int .i64 x.House.MinFrames,.int .i64 x.House.MaxFrames,.int .i64 x.House.MinGap,.int .i64 x.House.ShotBefore,.int .i64 x.House.ShotAfter,.int .i64 x.House.Rows,.int .i64 x.House.Cols,.str x.House.Forbidden,.int .i64 x.House.SafeTop,.int .i64 x.House.SafeBottom,.int .i64 x.House.SafeLeft,.int .i64 x.House.SafeRight,.sl (x.Shots.map (D.int .i64)),.int .i64 x.Tol])∧(∀ x,T_api_Shift.d x=.agg [.int .i64 x.ID,.int .i64 x.In,.int .i64 x.Out])∧(∀ x,T_api_Repair.d x=.agg [.str x.Doc.Title,.str x.Doc.Lang,.int .u8 x.Doc.Rate,.bool x.Doc.Drop,.int .i64 x.Doc.Last,.sl (x.Doc.Regions.map T_api_Region.d),.sl (x.Doc.Events.map T_api_Event.d),.sl (x.Doc.Comments.map T_api_Comment.d),.sl (x.Shifts.map T_api_Shift.d),.int .i64 x.Needed,.sl (x.Conflict.map T_api_Bound.d)]):=⟨fun _=>rfl,fun _=>rfl,fun _=>rfl,fun _=>rfl,fun _=>rfl,fun _=>rfl,fun _=>rfl,fun _=>rfl,fun _=>rfl,fun _=>rfl,fun _=>rfl,fun _=>rfl,fun _=>rfl,fun _=>rfl⟩
def g_document_Head (d_0:T_api_Document):Option (T_api_Head) :=
 (some (T_api_Head.mk d_0.Title d_0.Lang d_0.Rate d_0.Drop d_0.Last))
theorem a_document_Head {I:World→Prop} (hI:Stab I) {d_0:T_api_Document} {r:T_api_Head} (h:g_document_Head d_0=some r):AFun Tryz.prog I 53 [T_api_Document.d d_0] (T_api_Head.d r):=by
 have dd:=dd_EG;have k:=True.intro;have q:=k;have rs:=Tryz.results53
 unfold g_document_Head at h
 refine .en hI Tryz.func53 Tryz.ntmps53 ?_
 refine xs<|rz ?_
 refine es<|xs<|rz ?_
 refine es<|xr ?_
 cases h
 exact en fr
def g_slices_Equal_api_Region_api_Region_s1 (s1_0:List T_api_Region) (s2_1:List T_api_Region) (x10:Int):Option (Nx (Int) (Unit ⊕ Unit)) :=
 (if(decide (x10 < (s1_0.length:Int))) then((atI s1_0 x10).bind fun y74=>((atI s2_1 x10).bind fun y76=>(if((y74.Name == y76.Name)&&((y74.Top == y76.Top)&&((y74.Height == y76.Height)&&((y74.Left == y76.Left)&&((y74.Width == y76.Width)&&((y74.Align == y76.Align)&&(y74.Bottom == y76.Bottom))))))) then(some (.go (IntKind.i64.wrap (x10+1)))) else(some (.out (.inl ())))))) else(some (.out (.inr ()))))
def g_slices_Equal_api_Region_api_Region (s1_0:List T_api_Region) (s2_1:List T_api_Region):Option (Bool) :=
 (if((s1_0.length:Int) != (s2_1.length:Int)) then(some false) else((iter (g_slices_Equal_api_Region_api_Region_s1 s1_0 s2_1) 0).bind fun e11=>(match e11 with|Sum.inl e11=>(some false)|Sum.inr (e11)=>(some true))))
theorem a_slices_Equal_api_Region_api_Region {I:World→Prop} (hI:Stab I) {s1_0:List T_api_Region} {s2_1:List T_api_Region} {r:Bool} (h:g_slices_Equal_api_Region_api_Region s1_0 s2_1=some r):AFun Tryz.prog I 54 [.sl (s1_0.map T_api_Region.d),.sl (s2_1.map T_api_Region.d)] (.bool r):=by
 have dd:=dd_EG;have k:=True.intro;have q:=k;have rs:=Tryz.results54
 unfold g_slices_Equal_api_Region_api_Region at h
 refine .en hI Tryz.func54 Tryz.ntmps54 ?_
 refine xs<|rz ?_
 refine es<|xs<|xs<|rz ?_
 refine es ?_
 rcases iK k h with⟨k,h⟩|⟨k,h⟩
 ·refine xt<|xs<|rz ?_
  refine es<|xr<|er ?_
  cases h
  exact en fr
 ·refine xf<|xk<|es<|xs<|xs<|rz ?_
  refine es<|xb ?_
  obtain⟨e11,h82,h⟩:=bs h
  refine rb_loop (fun x10=>⟨envL [(0,.sl (s1_0.map T_api_Region.d)),(1,.sl (s2_1.map T_api_Region.d)),(12,.int .i64 (s1_0.length:Int)),(13,.int .i64 x10)],heapL [],0,26⟩) (fun w=>match w with|Sum.inl _=>.ret|Sum.inr (_)=>.exit 0) (fun w=>match w with|Sum.inl e11=>⟨envL [(4,.bool false)],heapL [],0,26⟩|Sum.inr (e11)=>⟨envL [],heapL [],0,26⟩) h82 (wk []) (by intro w;rcases w with w|w<;>simp) ?_ ?_
  ·clear h
   intro x10 y h
   unfold g_slices_Equal_api_Region_api_Region_s1 at h
   refine xs<|rz ?_
   refine es<|xs ?_
   rcases iK k h with⟨k,h⟩|⟨k,h⟩
   ·refine xt<|xk<|es<|xs<|xb<|xs<|rz ?_
    refine es<|xs<|rD hI fun K73 RK73 hK73 gK73=>zz ?_
    obtain⟨y74,q,h⟩:=bK q h
    refine zz ?_
    obtain⟨y76,q,h⟩:=bK q h
    refine zz ?_
    subst hK73 gK73
    refine es ?_
    rcases iK k h with⟨k,h⟩|⟨k,h⟩
    ·refine xf<|xk<|bn<|es<|rz ?_
     cases h
     exact en ⟨rfl,wk []⟩
    ·refine xt<|xs<|rz ?_
     refine es<|xr<|br<|er ?_
     cases h
     exact en ⟨rfl,wk []⟩
   ·refine xf<|xx<|ee ?_
    cases h
    exact en ⟨rfl,wk []⟩
  ·rcases e11 with e11|e11
   ·try dsimp only at h ⊢
    refine br<|er ?_
    cases h
    exact en fr
   ·try dsimp only at h ⊢
    refine bh<|es<|xs<|rz ?_
    refine es<|xr ?_
    cases h
    exact en fr
def g_slices_Equal_api_Run_api_Run_s1 (s1_0:List T_api_Run) (s2_1:List T_api_Run) (x10:Int):Option (Nx (Int) (Unit ⊕ Unit)) :=
 (if(decide (x10 < (s1_0.length:Int))) then((atI s1_0 x10).bind fun y74=>((atI s2_1 x10).bind fun y76=>(if((y74.Text == y76.Text)&&((y74.Style.Color == y76.Style.Color)&&((y74.Style.Italic == y76.Style.Italic)&&((y74.Style.Underline == y76.Style.Underline)&&(y74.Ruby == y76.Ruby))))) then(some (.go (IntKind.i64.wrap (x10+1)))) else(some (.out (.inl ())))))) else(some (.out (.inr ()))))
def g_slices_Equal_api_Run_api_Run (s1_0:List T_api_Run) (s2_1:List T_api_Run):Option (Bool) :=
 (if((s1_0.length:Int) != (s2_1.length:Int)) then(some false) else((iter (g_slices_Equal_api_Run_api_Run_s1 s1_0 s2_1) 0).bind fun e11=>(match e11 with|Sum.inl e11=>(some false)|Sum.inr (e11)=>(some true))))
theorem a_slices_Equal_api_Run_api_Run {I:World→Prop} (hI:Stab I) {s1_0:List T_api_Run} {s2_1:List T_api_Run} {r:Bool} (h:g_slices_Equal_api_Run_api_Run s1_0 s2_1=some r):AFun Tryz.prog I 170 [.sl (s1_0.map T_api_Run.d),.sl (s2_1.map T_api_Run.d)] (.bool r):=by
 have dd:=dd_EG;have k:=True.intro;have q:=k;have rs:=Tryz.results170
 unfold g_slices_Equal_api_Run_api_Run at h
 refine .en hI Tryz.func170 Tryz.ntmps170 ?_
 refine xs<|rz ?_
 refine es<|xs<|xs<|rz ?_
 refine es ?_
 rcases iK k h with⟨k,h⟩|⟨k,h⟩
 ·refine xt<|xs<|rz ?_
  refine es<|xr<|er ?_
  cases h
  exact en fr
 ·refine xf<|xk<|es<|xs<|xs<|rz ?_
  refine es<|xb ?_
  obtain⟨e11,h82,h⟩:=bs h
  refine rb_loop (fun x10=>⟨envL [(0,.sl (s1_0.map T_api_Run.d)),(1,.sl (s2_1.map T_api_Run.d)),(12,.int .i64 (s1_0.length:Int)),(13,.int .i64 x10)],heapL [],0,26⟩) (fun w=>match w with|Sum.inl _=>.ret|Sum.inr (_)=>.exit 0) (fun w=>match w with|Sum.inl e11=>⟨envL [(4,.bool false)],heapL [],0,26⟩|Sum.inr (e11)=>⟨envL [],heapL [],0,26⟩) h82 (wk []) (by intro w;rcases w with w|w<;>simp) ?_ ?_
  ·clear h
   intro x10 y h
   unfold g_slices_Equal_api_Run_api_Run_s1 at h
   refine xs<|rz ?_
   refine es<|xs ?_
   rcases iK k h with⟨k,h⟩|⟨k,h⟩
   ·refine xt<|xk<|es<|xs<|xb<|xs<|rz ?_
    refine es<|xs<|rD hI fun K73 RK73 hK73 gK73=>zz ?_
    obtain⟨y74,q,h⟩:=bK q h
    refine zz ?_
    obtain⟨y76,q,h⟩:=bK q h
    refine zz ?_
    subst hK73 gK73
    refine es ?_
    rcases iK k h with⟨k,h⟩|⟨k,h⟩
    ·refine xf<|xk<|bn<|es<|rz ?_
     cases h
     exact en ⟨rfl,wk []⟩
    ·refine xt<|xs<|rz ?_
     refine es<|xr<|br<|er ?_
     cases h
     exact en ⟨rfl,wk []⟩
   ·refine xf<|xx<|ee ?_
    cases h
    exact en ⟨rfl,wk []⟩
  ·rcases e11 with e11|e11
   ·try dsimp only at h ⊢
    refine br<|er ?_
    cases h
    exact en fr
   ·try dsimp only at h ⊢
    refine bh<|es<|xs<|rz ?_
    refine es<|xr ?_
    cases h
    exact en fr
def g_style_Same (a_0:T_api_Row) (b_1:T_api_Row):Option (Bool) :=
 ((g_slices_Equal_api_Run_api_Run a_0.Runs b_1.Runs).bind fun r7=>(some r7))
theorem a_style_Same {I:World→Prop} (hI:Stab I) {a_0:T_api_Row} {b_1:T_api_Row} {r:Bool} (h:g_style_Same a_0 b_1=some r):AFun Tryz.prog I 147 [T_api_Row.d a_0,T_api_Row.d b_1] (.bool r):=by
 have dd:=dd_EG;have k:=True.intro;have q:=k;have rs:=Tryz.results147
 unfold g_style_Same at h
 refine .en hI Tryz.func147 Tryz.ntmps147 ?_
 refine xs<|rz ?_
 refine es<|xs<|rK fun K6 RK6 hK6 gK6=>zz ?_
 obtain⟨r7,h8,h⟩:=bs h
 refine cw (a_slices_Equal_api_Run_api_Run hI h8)<|zz ?_
 subst hK6 gK6
 refine es<|xr ?_
 cases h
 exact en fr
def g_slices_EqualFunc_api_Row_api_Row_api_Row_api_Row_s1 (s1_0:List T_api_Row) (s2_1:List T_api_Row) (x10:Int):Option (Nx (Int) (Unit ⊕ Unit)) :=
 (if(decide (x10 < (s1_0.length:Int))) then((atI s1_0 x10).bind fun y88=>((atI s2_1 x10).bind fun y94=>((g_style_Same y88 y94).bind fun r100=>(if r100 then(some (.go (IntKind.i64.wrap (x10+1)))) else(some (.out (.inl ()))))))) else(some (.out (.inr ()))))
def g_slices_EqualFunc_api_Row_api_Row_api_Row_api_Row (s1_0:List T_api_Row) (s2_1:List T_api_Row):Option (Bool) :=
 (if((s1_0.length:Int) != (s2_1.length:Int)) then(some false) else((iter (g_slices_EqualFunc_api_Row_api_Row_api_Row_api_Row_s1 s1_0 s2_1) 0).bind fun e11=>(match e11 with|Sum.inl e11=>(some false)|Sum.inr (e11)=>(some true))))
theorem a_slices_EqualFunc_api_Row_api_Row_api_Row_api_Row {I:World→Prop} (hI:Stab I) {s1_0:List T_api_Row} {s2_1:List T_api_Row} {r:Bool} (h:g_slices_EqualFunc_api_Row_api_Row_api_Row_api_Row s1_0 s2_1=some r):AFun Tryz.prog I 146 [.sl (s1_0.map T_api_Row.d),.sl (s2_1.map T_api_Row.d),.fn 147 []] (.bool r):=by
 have dd:=dd_EG;have k:=True.intro;have q:=k;have rs:=Tryz.results146
 unfold g_slices_EqualFunc_api_Row_api_Row_api_Row_api_Row at h
 refine .en hI Tryz.func146 Tryz.ntmps146 ?_
 refine xs<|rz ?_
 refine es<|xs<|xs<|rz ?_
 refine es ?_
 rcases iK k h with⟨k,h⟩|⟨k,h⟩
 ·refine xt<|xs<|rz ?_
  refine es<|xr<|er ?_
  cases h
  exact en fr
 ·refine xf<|xk<|es<|xs<|xs<|rz ?_
  refine es<|xb ?_
  obtain⟨e11,h106,h⟩:=bs h
  refine rb_loop (fun x10=>⟨envL [(1,.sl (s2_1.map T_api_Row.d)),(2,.fn 147 []),(15,.sl (s1_0.map T_api_Row.d)),(16,.int .i64 (s1_0.length:Int)),(17,.int .i64 x10)],heapL [],0,32⟩) (fun w=>match w with|Sum.inl _=>.ret|Sum.inr (_)=>.exit 0) (fun w=>match w with|Sum.inl e11=>⟨envL [(6,.bool false)],heapL [],0,32⟩|Sum.inr (e11)=>⟨envL [],heapL [],0,32⟩) h106 (wk []) (by intro w;rcases w with w|w<;>simp) ?_ ?_
  ·clear h
   intro x10 y h
   unfold g_slices_EqualFunc_api_Row_api_Row_api_Row_api_Row_s1 at h
   refine xs<|rz ?_
   refine es<|xs ?_
   rcases iK k h with⟨k,h⟩|⟨k,h⟩
   ·refine xt<|xk<|es<|xs<|xb<|xs<|rK fun K87 RK87 hK87 gK87=>zz ?_
    obtain⟨y88,q,h⟩:=bK q h
    refine zz ?_
    subst hK87 gK87
    refine es<|xs<|rK fun K93 RK93 hK93 gK93=>zz ?_
    obtain⟨y94,q,h⟩:=bK q h
    refine zz ?_
    subst hK93 gK93
    refine es<|xs<|rK fun K99 RK99 hK99 gK99=>zz ?_
    obtain⟨r100,h101,h⟩:=bs h
    refine cw (a_style_Same hI h101)<|zz ?_
    subst hK99 gK99
    refine es ?_
    rcases iK k h with⟨k,h⟩|⟨k,h⟩
    ·refine xf<|xk<|bn<|es<|rz ?_
     cases h
     exact en ⟨rfl,wk []⟩
    ·refine xt<|xs<|rz ?_
     refine es<|xr<|br<|er ?_
     cases h
     exact en ⟨rfl,wk []⟩
   ·refine xf<|xx<|ee ?_
    cases h
    exact en ⟨rfl,wk []⟩
  ·rcases e11 with e11|e11
   ·try dsimp only at h ⊢
    refine br<|er ?_
    cases h
    exact en fr
   ·try dsimp only at h ⊢
    refine bh<|es<|xs<|rz ?_
    refine es<|xr ?_
    cases h
    exact en fr
def g_style_SameRows (a_0:List T_api_Row) (b_1:List T_api_Row):Option (Bool) :=
 ((g_slices_EqualFunc_api_Row_api_Row_api_Row_api_Row a_0 b_1).bind fun r7=>(some r7))
theorem a_style_SameRows {I:World→Prop} (hI:Stab I) {a_0:List T_api_Row} {b_1:List T_api_Row} {r:Bool} (h:g_style_SameRows a_0 b_1=some r):AFun Tryz.prog I 107 [.sl (a_0.map T_api_Row.d),.sl (b_1.map T_api_Row.d)] (.bool r):=by
 have dd:=dd_EG;have k:=True.intro;have q:=k;have rs:=Tryz.results107
 unfold g_style_SameRows at h
 refine .en hI Tryz.func107 Tryz.ntmps107 ?_
 refine xs<|rz ?_
 refine es<|xs<|rK fun K6 RK6 hK6 gK6=>zz ?_
 obtain⟨r7,h8,h⟩:=bs h
 refine cw (a_slices_EqualFunc_api_Row_api_Row_api_Row_api_Row hI h8)<|zz ?_
 subst hK6 gK6
 refine es<|xr ?_
 cases h
 exact en fr
def g_event_Same (a_0:T_api_Event) (b_1:T_api_Event):Option (Bool) :=
 (if(a_0.ID == b_1.ID) then(if((a_0.Span.In == b_1.Span.In)&&(a_0.Span.Out == b_1.Span.Out)) then(if(a_0.Region == b_1.Region) then(if(a_0.Kind == b_1.Kind) then(if(a_0.Speaker == b_1.Speaker) then((g_style_SameRows a_0.Rows b_1.Rows).bind fun r17=>(some r17)) else(some false)) else(some false)) else(some false)) else(some false)) else(some false))
theorem a_event_Same {I:World→Prop} (hI:Stab I) {a_0:T_api_Event} {b_1:T_api_Event} {r:Bool} (h:g_event_Same a_0 b_1=some r):AFun Tryz.prog I 56 [T_api_Event.d a_0,T_api_Event.d b_1] (.bool r):=by
 have dd:=dd_EG;have k:=True.intro;have q:=k;have rs:=Tryz.results56
 unfold g_event_Same at h
 refine .en hI Tryz.func56 Tryz.ntmps56 ?_
 refine xs<|rz ?_
 refine es<|xs<|rK fun K11 RK11 hK11 gK11=>zz ?_
 rcases iK k h with⟨k,h⟩|⟨k,h⟩
 ·refine zz ?_
  rcases iK k h with⟨k,h⟩|⟨k,h⟩
  ·refine zz ?_
   rcases iK k h with⟨k,h⟩|⟨k,h⟩
   ·refine zz ?_
    rcases iK k h with⟨k,h⟩|⟨k,h⟩
    ·refine zz ?_
     rcases iK k h with⟨k,h⟩|⟨k,h⟩
     ·refine zz ?_
      obtain⟨r17,h18,h⟩:=bs h
      refine cw (a_style_SameRows hI h18)<|zz ?_
      subst hK11 gK11
      refine es<|xr ?_
      cases h
      exact en fr
     ·refine zz ?_
      subst hK11 gK11
      refine es<|xr ?_
      cases h
      exact en fr
    ·refine zz ?_
     subst hK11 gK11
     refine es<|xr ?_
     cases h
     exact en fr
   ·refine zz ?_
    subst hK11 gK11
    refine es<|xr ?_
    cases h
    exact en fr
  ·refine zz ?_
   subst hK11 gK11
   refine es<|xr ?_
   cases h
   exact en fr
 ·refine zz ?_
  subst hK11 gK11
  refine es<|xr ?_
  cases h
  exact en fr
def g_slices_EqualFunc_api_Event_api_Event_api_Event_api_Event_s1 (s1_0:List T_api_Event) (s2_1:List T_api_Event) (x10:Int):Option (Nx (Int) (Unit ⊕ Unit)) :=
 (if(decide (x10 < (s1_0.length:Int))) then((atI s1_0 x10).bind fun y88=>((atI s2_1 x10).bind fun y94=>((g_event_Same y88 y94).bind fun r100=>(if r100 then(some (.go (IntKind.i64.wrap (x10+1)))) else(some (.out (.inl ()))))))) else(some (.out (.inr ()))))
def g_slices_EqualFunc_api_Event_api_Event_api_Event_api_Event (s1_0:List T_api_Event) (s2_1:List T_api_Event):Option (Bool) :=
 (if((s1_0.length:Int) != (s2_1.length:Int)) then(some false) else((iter (g_slices_EqualFunc_api_Event_api_Event_api_Event_api_Event_s1 s1_0 s2_1) 0).bind fun e11=>(match e11 with|Sum.inl e11=>(some false)|Sum.inr (e11)=>(some true))))
theorem a_slices_EqualFunc_api_Event_api_Event_api_Event_api_Event {I:World→Prop} (hI:Stab I) {s1_0:List T_api_Event} {s2_1:List T_api_Event} {r:Bool} (h:g_slices_EqualFunc_api_Event_api_Event_api_Event_api_Event s1_0 s2_1=some r):AFun Tryz.prog I 55 [.sl (s1_0.map T_api_Event.d),.sl (s2_1.map T_api_Event.d),.fn 56 []] (.bool r):=by
 have dd:=dd_EG;have k:=True.intro;have q:=k;have rs:=Tryz.results55
 unfold g_slices_EqualFunc_api_Event_api_Event_api_Event_api_Event at h
 refine .en hI Tryz.func55 Tryz.ntmps55 ?_
 refine xs<|rz ?_
 refine es<|xs<|xs<|rz ?_
 refine es ?_
 rcases iK k h with⟨k,h⟩|⟨k,h⟩
 ·refine xt<|xs<|rz ?_
  refine es<|xr<|er ?_
  cases h
  exact en fr
 ·refine xf<|xk<|es<|xs<|xs<|rz ?_
  refine es<|xb ?_
  obtain⟨e11,h106,h⟩:=bs h
  refine rb_loop (fun x10=>⟨envL [(1,.sl (s2_1.map T_api_Event.d)),(2,.fn 56 []),(15,.sl (s1_0.map T_api_Event.d)),(16,.int .i64 (s1_0.length:Int)),(17,.int .i64 x10)],heapL [],0,32⟩) (fun w=>match w with|Sum.inl _=>.ret|Sum.inr (_)=>.exit 0) (fun w=>match w with|Sum.inl e11=>⟨envL [(6,.bool false)],heapL [],0,32⟩|Sum.inr (e11)=>⟨envL [],heapL [],0,32⟩) h106 (wk []) (by intro w;rcases w with w|w<;>simp) ?_ ?_
  ·clear h
   intro x10 y h
   unfold g_slices_EqualFunc_api_Event_api_Event_api_Event_api_Event_s1 at h
   refine xs<|rz ?_
   refine es<|xs ?_
   rcases iK k h with⟨k,h⟩|⟨k,h⟩
   ·refine xt<|xk<|es<|xs<|xb<|xs<|rK fun K87 RK87 hK87 gK87=>zz ?_
    obtain⟨y88,q,h⟩:=bK q h
    refine zz ?_
    subst hK87 gK87
    refine es<|xs<|rK fun K93 RK93 hK93 gK93=>zz ?_
    obtain⟨y94,q,h⟩:=bK q h
    refine zz ?_
    subst hK93 gK93
    refine es<|xs<|rK fun K99 RK99 hK99 gK99=>zz ?_
    obtain⟨r100,h101,h⟩:=bs h
    refine cw (a_event_Same hI h101)<|zz ?_
    subst hK99 gK99
    refine es ?_
    rcases iK k h with⟨k,h⟩|⟨k,h⟩
    ·refine xf<|xk<|bn<|es<|rz ?_
     cases h
     exact en ⟨rfl,wk []⟩
    ·refine xt<|xs<|rz ?_
     refine es<|xr<|br<|er ?_
     cases h
     exact en ⟨rfl,wk []⟩
   ·refine xf<|xx<|ee ?_
    cases h
    exact en ⟨rfl,wk []⟩
  ·rcases e11 with e11|e11
   ·try dsimp only at h ⊢
    refine br<|er ?_
    cases h
    exact en fr
   ·try dsimp only at h ⊢
    refine bh<|es<|xs<|rz ?_
    refine es<|xr ?_
    cases h
    exact en fr
def g_slices_Equal_api_Comment_api_Comment_s1 (s1_0:List T_api_Comment) (s2_1:List T_api_Comment) (x10:Int):Option (Nx (Int) (Unit ⊕ Unit)) :=
 (if(decide (x10 < (s1_0.length:Int))) then((atI s1_0 x10).bind fun y74=>((atI s2_1 x10).bind fun y76=>(if((y74.ID == y76.ID)&&((y74.Event == y76.Event)&&((y74.From == y76.From)&&((y74.To == y76.To)&&((y74.Author == y76.Author)&&((y74.Text == y76.Text)&&((y74.Done == y76.Done)&&(y74.Lost == y76.Lost)))))))) then(some (.go (IntKind.i64.wrap (x10+1)))) else(some (.out (.inl ())))))) else(some (.out (.inr ()))))
def g_slices_Equal_api_Comment_api_Comment (s1_0:List T_api_Comment) (s2_1:List T_api_Comment):Option (Bool) :=
 (if((s1_0.length:Int) != (s2_1.length:Int)) then(some false) else((iter (g_slices_Equal_api_Comment_api_Comment_s1 s1_0 s2_1) 0).bind fun e11=>(match e11 with|Sum.inl e11=>(some false)|Sum.inr (e11)=>(some true))))
theorem a_slices_Equal_api_Comment_api_Comment {I:World→Prop} (hI:Stab I) {s1_0:List T_api_Comment} {s2_1:List T_api_Comment} {r:Bool} (h:g_slices_Equal_api_Comment_api_Comment s1_0 s2_1=some r):AFun Tryz.prog I 57 [.sl (s1_0.map T_api_Comment.d),.sl (s2_1.map T_api_Comment.d)] (.bool r):=by
 have dd:=dd_EG;have k:=True.intro;have q:=k;have rs:=Tryz.results57
 unfold g_slices_Equal_api_Comment_api_Comment at h
 refine .en hI Tryz.func57 Tryz.ntmps57 ?_
 refine xs<|rz ?_
 refine es<|xs<|xs<|rz ?_
 refine es ?_
 rcases iK k h with⟨k,h⟩|⟨k,h⟩
 ·refine xt<|xs<|rz ?_
  refine es<|xr<|er ?_
  cases h
  exact en fr
 ·refine xf<|xk<|es<|xs<|xs<|rz ?_
  refine es<|xb ?_
  obtain⟨e11,h82,h⟩:=bs h
  refine rb_loop (fun x10=>⟨envL [(0,.sl (s1_0.map T_api_Comment.d)),(1,.sl (s2_1.map T_api_Comment.d)),(12,.int .i64 (s1_0.length:Int)),(13,.int .i64 x10)],heapL [],0,26⟩) (fun w=>match w with|Sum.inl _=>.ret|Sum.inr (_)=>.exit 0) (fun w=>match w with|Sum.inl e11=>⟨envL [(4,.bool false)],heapL [],0,26⟩|Sum.inr (e11)=>⟨envL [],heapL [],0,26⟩) h82 (wk []) (by intro w;rcases w with w|w<;>simp) ?_ ?_
  ·clear h
   intro x10 y h
   unfold g_slices_Equal_api_Comment_api_Comment_s1 at h
   refine xs<|rz ?_
   refine es<|xs ?_
   rcases iK k h with⟨k,h⟩|⟨k,h⟩
   ·refine xt<|xk<|es<|xs<|xb<|xs<|rz ?_
    refine es<|xs<|rD hI fun K73 RK73 hK73 gK73=>zz ?_
    obtain⟨y74,q,h⟩:=bK q h
    refine zz ?_
    obtain⟨y76,q,h⟩:=bK q h
    refine zz ?_
    subst hK73 gK73
    refine es ?_
    rcases iK k h with⟨k,h⟩|⟨k,h⟩
    ·refine xf<|xk<|bn<|es<|rz ?_
     cases h
     exact en ⟨rfl,wk []⟩
    ·refine xt<|xs<|rz ?_
     refine es<|xr<|br<|er ?_
     cases h
     exact en ⟨rfl,wk []⟩
   ·refine xf<|xx<|ee ?_
    cases h
    exact en ⟨rfl,wk []⟩
  ·rcases e11 with e11|e11
   ·try dsimp only at h ⊢
    refine br<|er ?_
    cases h
    exact en fr
   ·try dsimp only at h ⊢
    refine bh<|es<|xs<|rz ?_
    refine es<|xr ?_
    cases h
    exact en fr
def g_document_Same (a_0:T_api_Document) (b_1:T_api_Document):Option (Bool) :=
 ((g_document_Head a_0).bind fun r18=>((g_document_Head b_1).bind fun r20=>(if((r18.Title == r20.Title)&&((r18.Lang == r20.Lang)&&((r18.Rate == r20.Rate)&&((r18.Drop == r20.Drop)&&(r18.Last == r20.Last))))) then((g_slices_Equal_api_Region_api_Region a_0.Regions b_1.Regions).bind fun r23=>(if r23 then((g_slices_EqualFunc_api_Event_api_Event_api_Event_api_Event a_0.Events b_1.Events).bind fun r26=>(if r26 then((g_slices_Equal_api_Comment_api_Comment a_0.Comments b_1.Comments).bind fun r29=>(some r29)) else(some false))) else(some false))) else(some false))))
theorem a_document_Same {I:World→Prop} (hI:Stab I) {a_0:T_api_Document} {b_1:T_api_Document} {r:Bool} (h:g_document_Same a_0 b_1=some r):AFun Tryz.prog I 22 [T_api_Document.d a_0,T_api_Document.d b_1] (.bool r):=by
 have dd:=dd_EG;have k:=True.intro;have q:=k;have rs:=Tryz.results22
 unfold g_document_Same at h
 refine .en hI Tryz.func22 Tryz.ntmps22 ?_
 refine xs<|rz ?_
 refine es<|xs<|rD hI fun K17 RK17 hK17 gK17=>zz ?_
 obtain⟨r18,h19,h⟩:=bs h
 refine cd (a_document_Head hI h19)<|zz ?_
 obtain⟨r20,h21,h⟩:=bs h
 refine cd (a_document_Head hI h21)<|zz ?_
 rcases iK k h with⟨k,h⟩|⟨k,h⟩
 ·refine zz ?_
  obtain⟨r23,h24,h⟩:=bs h
  refine cd (a_slices_Equal_api_Region_api_Region hI h24)<|zz ?_
  rcases iK k h with⟨k,h⟩|⟨k,h⟩
  ·refine zz ?_
   obtain⟨r26,h27,h⟩:=bs h
   refine cd (a_slices_EqualFunc_api_Event_api_Event_api_Event_api_Event hI h27)<|zz ?_
   rcases iK k h with⟨k,h⟩|⟨k,h⟩
   ·refine zz ?_
    obtain⟨r29,h30,h⟩:=bs h
    refine cd (a_slices_Equal_api_Comment_api_Comment hI h30)<|zz ?_
    subst hK17 gK17
    refine es<|xr ?_
    cases h
    exact en fr
   ·refine zz ?_
    subst hK17 gK17
    refine es<|xr ?_
    cases h
    exact en fr
  ·refine zz ?_
   subst hK17 gK17
   refine es<|xr ?_
   cases h
   exact en fr
 ·refine zz ?_
  subst hK17 gK17
  refine es<|xr ?_
  cases h
  exact en fr
theorem dd_EI:(∀ x,T_api_Region.d x=.agg [.str x.Name,.int .i64 x.Top,.int .i64 x.Height,.int .i64 x.Left,.int .i64 x.Width,.int .u8 x.Align,.bool x.Bottom])∧(∀ x,T_api_Comment.d x=.agg [.int .i64 x.ID,.int .i64 x.Event,.int .i64 x.From,.int .i64 x.To,.str x.Author,.str x.Text,.bool x.Done,.bool x.Lost])∧(∀ x,T_api_Span.d x=.agg [.int .i64 x.In,.int .i64 x.Out])∧(∀ x,T_api_Style.d x=.agg [.int .u8 x.Color,.bool x.Italic,.bool x.Underline])∧(∀ x,T_api_Run.d x=.agg [.str x.Text,.int .u8 x.Style.Color,.bool x.Style.Italic,.bool x.Style.Underline,.str x.Ruby])∧(∀ x,T_api_Row.d x=.agg [.sl (x.Runs.map T_api_Run.d)])∧(∀ x,T_api_Event.d x=.agg [.int .i64 x.ID,.int .i64 x.Span.In,.int .i64 x.Span.Out,.str x.Region,.int .u8 x.Kind,.str x.Speaker,.sl (x.Rows.map T_api_Row.d)])∧(∀ x,T_api_Bound.d x=.agg [.int .i64 x.I,.int .i64 x.J,.int .i64 x.C,.int .u8 x.Rule,.int .i64 x.ID,.int .i64 x.Other])∧(∀ x,T_api_Profile.d x=.agg [.str x.Name,.int .i64 x.Reading,.int .i64 x.MinFrames,.int .i64 x.MaxFrames,.int .i64 x.MinGap,.int .i64 x.ShotBefore,.int .i64 x.ShotAfter,.int .i64 x.Rows,.int .i64 x.Cols,.str x.Forbidden,.int .i64 x.SafeTop,.int .i64 x.SafeBottom,.int .i64 x.SafeLeft,.int .i64 x.SafeRight]):=⟨fun _=>rfl,fun _=>rfl,fun _=>rfl,fun _=>rfl,fun _=>rfl,fun _=>rfl,fun _=>rfl,fun _=>rfl,fun _=>rfl⟩
def g_ref07_digit (c_0:Int):Option (Bool) :=
 (if(decide (48≤c_0)) then(some (decide (c_0≤57))) else(some false))
theorem a_ref07_digit {I:World→Prop} (hI:Stab I) {c_0:Int} {r:Bool} (h:g_ref07_digit c_0=some r):AFun Tryz.prog I 125 [.int .u8 c_0] (.bool r):=by
 have dd:=dd_EI;have k:=True.intro;have q:=k;have rs:=Tryz.results125
 unfold g_ref07_digit at h
 refine .en hI Tryz.func125 Tryz.ntmps125 ?_
 refine xs<|rz ?_
 refine es<|xs<|rK fun K5 RK5 hK5 gK5=>zz ?_
 rcases iK k h with⟨k,h⟩|⟨k,h⟩
 ·refine zz ?_
  subst hK5 gK5
  refine es<|xr ?_
  cases h
  exact en fr
 ·refine zz ?_
  subst hK5 gK5
  refine es<|xr ?_
  cases h
  exact en fr
def g_ref07_Name_s1 (s_0:List UInt8) (x14:Int):Option (Nx (Int) (Unit ⊕ Unit)) :=
 (if(decide (x14 < (s_0.length:Int))) then((((((atI s_0 x14).bind fun b133=>(if(decide (65≤(b133.toNat:Int))) then(some (decide ((b133.toNat:Int)≤90))) else(some false))):Option (Bool)).bind fun v131=>(if v131 then(some (.go ())) else(if(x14 == 0) then(some (.out ())) else((atI s_0 x14).bind fun b151=>((g_ref07_digit (b151.toNat:Int)).bind fun r153=>(if r153 then(some (.go ())) else(if((b151.toNat:Int) != 95) then(if((b151.toNat:Int) != 45) then(some (.out ())) else(some (.go ()))) else(some (.go ()))))))))):Option (Nx (Unit) (Unit))).bind fun w161=>match w161 with|.go v126=>(some (.go (IntKind.i64.wrap (x14+1))))|.out e162=>(some (.out (.inl ())))) else(some (.out (.inr ()))))
def g_ref07_Name (s_0:List UInt8):Option (Bool) :=
 (((if(decide ((s_0.length:Int) < 1)) then(some true) else(some (decide (16 < (s_0.length:Int))))):Option (Bool)).bind fun v5=>(if v5 then(some false) else((iter (g_ref07_Name_s1 s_0) 0).bind fun e15=>(match e15 with|Sum.inl e15=>(some false)|Sum.inr (e15)=>(some true)))))
theorem a_ref07_Name {I:World→Prop} (hI:Stab I) {s_0:List UInt8} {r:Bool} (h:g_ref07_Name s_0=some r):AFun Tryz.prog I 78 [.str s_0] (.bool r):=by
 have dd:=dd_EI;have k:=True.intro;have q:=k;have rs:=Tryz.results78
 unfold g_ref07_Name at h
 refine .en hI Tryz.func78 Tryz.ntmps78 ?_
 refine xs<|rz ?_
 refine es<|xs ?_
 obtain⟨v5,h8,h⟩:=bs h
 refine rb_cut (fun v5=>⟨envL [(0,.str s_0),(12,.bool v5)],heapL [],0,54⟩) h8 ?_ ?_
 ·clear h
  intro v5 h
  refine rK fun K6 RK6 hK6 gK6=>zz ?_
  rcases iK k h with⟨k,h⟩|⟨k,h⟩
  ·refine zz ?_
   subst hK6 gK6
   cases h
   exact en ⟨rfl,wk []⟩
  ·refine zz ?_
   subst hK6 gK6
   cases h
   exact en ⟨rfl,wk []⟩
 ·rcases iK k h with⟨k,h⟩|⟨k,h⟩
  ·refine xt<|xs<|rz ?_
   refine es<|xr<|er ?_
   cases h
   exact en fr
  ·refine xf<|xk<|es<|xs<|xs<|rz ?_
   refine es<|xb ?_
   obtain⟨e15,h164,h⟩:=bs h
   refine rb_loop (fun x14=>⟨envL [(0,.str s_0),(3,.int .i64 x14)],heapL [],0,54⟩) (fun w=>match w with|Sum.inl _=>.ret|Sum.inr (_)=>.exit 0) (fun w=>match w with|Sum.inl e15=>⟨envL [(2,.bool false)],heapL [],0,54⟩|Sum.inr (e15)=>⟨envL [],heapL [],0,54⟩) h164 (wk []) (by intro w;rcases w with w|w<;>simp) ?_ ?_
   ·clear h
    intro x14 y h
    unfold g_ref07_Name_s1 at h
    refine xs<|xs<|rz ?_
    refine es ?_
    rcases iK k h with⟨k,h⟩|⟨k,h⟩
    ·refine xt<|xk<|es ?_
     obtain⟨w161,h160,h⟩:=bs h
     refine rb_seg (fun v126=>⟨envL [(0,.str s_0),(3,.int .i64 x14)],heapL [],0,54⟩) (fun _=>.ret) (fun e162=>⟨envL [(2,.bool false)],heapL [],0,54⟩) h160 (by intro w;simp) ?_ ?_ ?_
     ·clear h
      intro w161 h
      refine xb ?_
      obtain⟨v131,h136,h⟩:=bs h
      refine rb_cut (fun v131=>⟨envL [(0,.str s_0),(3,.int .i64 x14),(4,.bool v131)],heapL [],0,54⟩) h136 ?_ ?_
      ·clear h
       intro v131 h
       refine rK fun K132 RK132 hK132 gK132=>zz ?_
       obtain⟨b133,q,h⟩:=bK q h
       refine zz ?_
       rcases iK k h with⟨k,h⟩|⟨k,h⟩
       ·refine zz ?_
        subst hK132 gK132
        cases h
        exact en ⟨rfl,wk []⟩
       ·refine zz ?_
        subst hK132 gK132
        cases h
        exact en ⟨rfl,wk []⟩
      ·refine xs<|rK fun K146 RK146 hK146 gK146=>zz ?_
       rcases iK k h with⟨k,h⟩|⟨k,h⟩
       ·refine zz ?_
        subst hK146 gK146
        refine es<|xf<|xk<|bn ?_
        cases h
        exact en ⟨rfl,wk []⟩
       ·refine zz ?_
        rcases iK k h with⟨k,h⟩|⟨k,h⟩
        ·refine zz ?_
         subst hK146 gK146
         refine es<|xt<|xs<|rz ?_
         refine es<|xr<|br ?_
         cases h
         exact en ⟨rfl,wk []⟩
        ·refine zz ?_
         obtain⟨b151,q,h⟩:=bK q h
         refine zz ?_
         obtain⟨r153,h154,h⟩:=bs h
         refine cw (a_ref07_digit hI h154)<|zz ?_
         rcases iK k h with⟨k,h⟩|⟨k,h⟩
         ·refine zz ?_
          subst hK146 gK146
          refine es<|xf<|xk<|bn ?_
          cases h
          exact en ⟨rfl,wk []⟩
         ·refine zz ?_
          rcases iK k h with⟨k,h⟩|⟨k,h⟩
          ·refine zz ?_
           subst hK146 gK146
           refine es ?_
           rcases iK k h with⟨k,h⟩|⟨k,h⟩
           ·refine xt<|xs<|rz ?_
            refine es<|xr<|br ?_
            cases h
            exact en ⟨rfl,wk []⟩
           ·refine xf<|xk<|bn ?_
            cases h
            exact en ⟨rfl,wk []⟩
          ·refine zz ?_
           subst hK146 gK146
           refine es<|xf<|xk<|bn ?_
           cases h
           exact en ⟨rfl,wk []⟩
     ·rintro v126 rfl
      dsimp only at h
      refine rz ?_
      cases h
      exact en ⟨rfl,wk []⟩
     ·rintro e162 rfl
      dsimp only at h
      cases h
      exact en ⟨rfl,wk []⟩
    ·refine xf<|xx<|ee ?_
     cases h
     exact en ⟨rfl,wk []⟩
   ·rcases e15 with e15|e15
    ·try dsimp only at h ⊢
     refine br<|er ?_
     cases h
     exact en fr
    ·try dsimp only at h ⊢
     refine bh<|es<|xs<|rz ?_
     refine es<|xr ?_
     cases h
     exact en fr
def g_ref08_Repertoire  : Option ((List UInt8)) :=
 (some [32,33,34,35,36,37,38,39,40,41,42,43,44,45,46,47,48,49,50,51,52,53,54,55,56,57,58,59,60,61,62,63,64,65,66,67,68,69,70,71,72,73,74,75,76,77,78,79,80,81,82,83,84,85,86,87,88,89,90,91,92,93,94,95,96,97,98,99,100,101,102,103,104,105,106,107,108,109,110,111,112,113,114,115,116,117,118,119,120,121,122,123,124,125,126,194,161,194,162,194,163,194,164,194,165,194,166,194,167,194,169,194,171,194,174,194,176,194,183,194,187,194,189,194,191,195,128,195,129,195,130,195,131,195,132,195,133,195,134,195,135,195,136,195,137,195,138,195,139,195,140,195,141,195,142,195,143,195,145,195,146,195,147,195,148,195,149,195,150,195,152,195,153,195,154,195,155,195,156,195,159,195,160,195,161,195,162,195,163,195,164,195,165,195,166,195,167,195,168,195,169,195,170,195,171,195,172,195,173,195,174,195,175,195,177,195,178,195,179,195,180,195,181,195,182,195,184,195,185,195,186,195,187,195,188,197,146,197,147,226,128,148,226,128,152,226,128,153,226,128,156,226,128,157,226,128,162,226,128,166,226,132,162,226,153,170])
theorem a_ref08_Repertoire {I:World→Prop} (hI:Stab I)  {r:(List UInt8)} (h:g_ref08_Repertoire  = some r):AFun Tryz.prog I 161 [] (.str r):=by
 have dd:=dd_EI;have k:=True.intro;have q:=k;have rs:=Tryz.results161
 unfold g_ref08_Repertoire at h
 refine .en hI Tryz.func161 Tryz.ntmps161 ?_
 refine xs<|rz ?_
 refine es<|xs<|rz ?_
 refine es<|xr ?_
 cases h
 exact en fr
def g_ref08_Index_s1 (r_0:Int) (r18:(List UInt8)) (x20:Int × Nat):Option (Nx (Int × Nat) (Int ⊕ Unit)) :=
 (if(decide (x20.2 < r18.length)) then(if((runeAt r18 x20.2) == r_0) then(some (.out (.inl x20.1))) else(some (.go ((IntKind.i64.wrap (x20.1+1)),(x20.2+widthAt r18 x20.2))))) else(some (.out (.inr ()))))
def g_ref08_Index (r_0:Int):Option (Int) :=
 (((if(decide (32≤r_0)) then(some (decide (r_0≤126))) else(some false)):Option (Bool)).bind fun v5=>(if v5 then(some (IntKind.i64.wrap (IntKind.i32.wrap (r_0 - 32)))) else((g_ref08_Repertoire).bind fun r18=>((iter (g_ref08_Index_s1 r_0 r18) (0,0)).bind fun e21=>(match e21 with|Sum.inl e21=>(some e21)|Sum.inr (e21)=>(some (-1)))))))
theorem a_ref08_Index {I:World→Prop} (hI:Stab I) {r_0:Int} {r:Int} (h:g_ref08_Index r_0=some r):AFun Tryz.prog I 126 [.int .i32 r_0] (.int .i64 r):=by
 have dd:=dd_EI;have k:=True.intro;have q:=k;have rs:=Tryz.results126
 unfold g_ref08_Index at h
 refine .en hI Tryz.func126 Tryz.ntmps126 ?_
 refine xs<|rz ?_
 refine es<|xs ?_
 obtain⟨v5,h8,h⟩:=bs h
 refine rb_cut (fun v5=>⟨envL [(0,.int .i32 r_0),(11,.bool v5)],heapL [],0,26⟩) h8 ?_ ?_
 ·clear h
  intro v5 h
  refine rK fun K6 RK6 hK6 gK6=>zz ?_
  rcases iK k h with⟨k,h⟩|⟨k,h⟩
  ·refine zz ?_
   subst hK6 gK6
   cases h
   exact en ⟨rfl,wk []⟩
  ·refine zz ?_
   subst hK6 gK6
   cases h
   exact en ⟨rfl,wk []⟩
 ·rcases iK k h with⟨k,h⟩|⟨k,h⟩
  ·refine xt<|xs<|rz ?_
   refine es<|xr<|er ?_
   cases h
   exact en fr
  ·refine xf<|xk<|es<|xs<|rz ?_
   refine es<|xs<|xs<|rK fun K17 RK17 hK17 gK17=>zz ?_
   obtain⟨r18,h19,h⟩:=bs h
   refine cw (a_ref08_Repertoire hI h19)<|zz ?_
   subst hK17 gK17
   refine es<|xb ?_
   obtain⟨e21,h46,h⟩:=bs h
   refine rb_loop (fun x20=>⟨envL [(0,.int .i32 r_0),(3,.int .i64 x20.1),(16,.ptr 0 0)],heapL [(0,.iter r18 x20.2)],1,26⟩) (fun w=>match w with|Sum.inl _=>.ret|Sum.inr (_)=>.exit 0) (fun w=>match w with|Sum.inl e21=>⟨envL [(2,.int .i64 e21)],heapL [],0,26⟩|Sum.inr (e21)=>⟨envL [],heapL [],0,26⟩) h46 (wk [(0,some 2)]) (by intro w;rcases w with w|w<;>simp) ?_ ?_
   ·clear h
    intro x20 y h
    unfold g_ref08_Index_s1 at h
    refine xs<|rK fun K36 RK36 hK36 gK36=>zz ?_
    rcases iK k h with⟨k,h⟩|⟨k,h⟩
    ·have k:=And.intro (of_decide_eq_true k.1) k.2
     refine zz ?_
     subst hK36 gK36
     refine es<|xs<|xt<|xk<|es<|xb<|xs<|rz ?_
     refine es<|xs<|xs<|rz ?_
     refine es ?_
     rcases iK k h with⟨k,h⟩|⟨k,h⟩
     ·refine xt<|xs<|rz ?_
      refine es<|xr<|er<|br ?_
      cases h
      exact en ⟨rfl,wk []⟩
     ·refine xf<|xk<|es<|rz ?_
      refine bn ?_
      cases h
      exact en ⟨rfl,wk []⟩
    ·have k:=And.intro (of_decide_eq_false k.1) k.2
     refine zz ?_
     subst hK36 gK36
     refine es<|xs<|xf<|xx<|ee ?_
     cases h
     exact en ⟨rfl,wk []⟩
   ·rcases e21 with e21|e21
    ·try dsimp only at h ⊢
     refine br<|er ?_
     cases h
     exact en fr
    ·try dsimp only at h ⊢
     refine bh<|es<|xs<|rz ?_
     refine es<|xr ?_
     cases h
     exact en fr
def g_ref08_Valid_s1 (s_0:List UInt8) (x5:Nat):Option (Nx (Nat) (Unit ⊕ Unit)) :=
 (if(decide (x5 < s_0.length)) then((g_ref08_Index (runeAt s_0 x5)).bind fun r32=>(if(decide (r32 < 0)) then(some (.out (.inl ()))) else(some (.go (x5+widthAt s_0 x5))))) else(some (.out (.inr ()))))
def g_ref08_Valid (s_0:List UInt8):Option (Bool) :=
 ((iter (g_ref08_Valid_s1 s_0) 0).bind fun e6=>(match e6 with|Sum.inl e6=>(some false)|Sum.inr (e6)=>(some true)))
theorem a_ref08_Valid {I:World→Prop} (hI:Stab I) {s_0:List UInt8} {r:Bool} (h:g_ref08_Valid s_0=some r):AFun Tryz.prog I 81 [.str s_0] (.bool r):=by
 have dd:=dd_EI;have k:=True.intro;have q:=k;have rs:=Tryz.results81
 unfold g_ref08_Valid at h
 refine .en hI Tryz.func81 Tryz.ntmps81 ?_
 refine xs<|rz ?_
 refine es<|xs<|xs<|rz ?_
 refine es<|xb ?_
 obtain⟨e6,h37,h⟩:=bs h
 refine rb_loop (fun x5=>⟨envL [(6,.ptr 0 0)],heapL [(0,.iter s_0 x5)],1,13⟩) (fun w=>match w with|Sum.inl _=>.ret|Sum.inr (_)=>.exit 0) (fun w=>match w with|Sum.inl e6=>⟨envL [(2,.bool false)],heapL [],0,13⟩|Sum.inr (e6)=>⟨envL [],heapL [],0,13⟩) h37 (wk [(0,some 2)]) (by intro w;rcases w with w|w<;>simp) ?_ ?_
 ·clear h
  intro x5 y h
  unfold g_ref08_Valid_s1 at h
  refine xs<|rK fun K24 RK24 hK24 gK24=>zz ?_
  rcases iK k h with⟨k,h⟩|⟨k,h⟩
  ·have k:=And.intro (of_decide_eq_true k.1) k.2
   refine zz ?_
   subst hK24 gK24
   refine es<|xs<|xt<|xk<|es<|xb<|xs<|rz ?_
   refine es<|xs<|rK fun K31 RK31 hK31 gK31=>zz ?_
   obtain⟨r32,h33,h⟩:=bs h
   refine cw (a_ref08_Index hI h33)<|zz ?_
   subst hK31 gK31
   refine es ?_
   rcases iK k h with⟨k,h⟩|⟨k,h⟩
   ·refine xt<|xs<|rz ?_
    refine es<|xr<|br ?_
    cases h
    exact en ⟨rfl,wk []⟩
   ·refine xf<|xk<|bn ?_
    cases h
    exact en ⟨rfl,wk []⟩
  ·have k:=And.intro (of_decide_eq_false k.1) k.2
   refine zz ?_
   subst hK24 gK24
   refine es<|xs<|xf<|xx<|ee ?_
   cases h
   exact en ⟨rfl,wk []⟩
 ·rcases e6 with e6|e6
  ·try dsimp only at h ⊢
   refine br<|er ?_
   cases h
   exact en fr
  ·try dsimp only at h ⊢
   refine bh<|es<|xs<|rz ?_
   refine es<|xr ?_
   cases h
   exact en fr
def g_ref08_runes_s1 (s_0:List UInt8) (x7:(List Int) × Nat):Option (Nx ((List Int) × Nat) ((List Int))) :=
 (if(decide (x7.2 < s_0.length)) then(if(x7.1.length+1) * 4≤140737488355328 then(some (.go ((x7.1++[(runeAt s_0 x7.2)]),(x7.2+widthAt s_0 x7.2)))) else none) else(some (.out x7.1)))
def g_ref08_runes (s_0:List UInt8):Option ((List Int)) :=
 ((iter (g_ref08_runes_s1 s_0) ([],0)).bind fun e8=>(some e8))
theorem a_ref08_runes {I:World→Prop} (hI:Stab I) {s_0:List UInt8} {r:(List Int)} (h:g_ref08_runes s_0=some r):AFun Tryz.prog I 127 [.str s_0] (.sl (r.map (D.int .i32))):=by
 have dd:=dd_EI;have k:=True.intro;have q:=k;have rs:=Tryz.results127
 unfold g_ref08_runes at h
 refine .en hI Tryz.func127 Tryz.ntmps127 ?_
 refine xs<|rz ?_
 refine es<|xs<|rz ?_
 refine es<|xs<|xs<|rz ?_
 refine es<|xb ?_
 obtain⟨e8,h34,h⟩:=bs h
 refine rb_loop (fun x7=>⟨envL [(3,.own 1 x7.1.length),(7,.ptr 0 0)],heapL [(0,.iter s_0 x7.2),(1,.vec 21 1 (x7.1.map (D.int .i32)) false)],2,16⟩) (fun _=>.exit 0) (fun e8=>⟨envL [(3,.own 0 e8.length)],heapL [(0,.vec 21 1 (e8.map (D.int .i32)) false)],1,16⟩) h34 (wk [(0,some 3),(1,none)]) (by intro w;simp) ?_ ?_
 ·clear h
  intro x7 y h
  unfold g_ref08_runes_s1 at h
  refine xs<|rK fun K27 RK27 hK27 gK27=>zz ?_
  rcases iK k h with⟨k,h⟩|⟨k,h⟩
  ·have k:=And.intro (of_decide_eq_true k.1) k.2
   refine zz ?_
   subst hK27 gK27
   refine es<|xs<|xt<|xk<|es<|xb<|xs<|rz ?_
   refine es<|rK fun K31 RK31 hK31 gK31=>zz ?_
   obtain⟨h32,h⟩:=ite_on h
   have h33:x7.1.length+1≤9223372036854775807:=by omega
   try simp only[Nat.reduceLeDiff] at h33
   have q:=And.intro @h33<|And.intro @h32<|q
   refine zz ?_
   subst hK31 gK31
   refine bn ?_
   cases h
   exact en ⟨rfl,wk [(1,some 9)]⟩
  ·have k:=And.intro (of_decide_eq_false k.1) k.2
   refine zz ?_
   subst hK27 gK27
   refine es<|xs<|xf<|xx<|ee ?_
   cases h
   exact en ⟨rfl,wk [(0,some 1)]⟩
 ·refine bh<|es<|xs<|rz ?_
  refine es<|xr ?_
  cases h
  exact en fr
def nmB (b:UInt8):Bool:=(decide (65≤b.toNat)&&decide (b.toNat≤90))||(decide (48≤b.toNat)&&decide (b.toNat≤57))||b.toNat == 95||b.toNat == 45
def isNm (s:List UInt8):Bool:=match s with
 | []=>false
 | b::_=>decide (s.length≤16)&&(decide (65≤b.toNat)&&decide (b.toNat≤90))&&s.all nmB
theorem isNm_at (s:List UInt8) (h1:1≤s.length):isNm s=true ↔ (s.length≤16∧(65≤s[0].toNat∧s[0].toNat≤90)∧∀ i (h:i < s.length),nmB s[i]=true):=by
 match s,h1 with
 | b::t,_ =>
  simp only[isNm,Bool.and_eq_true,decide_eq_true_eq,List.all_eq_true]
  constructor
  ·rintro⟨⟨h1,h2⟩,h3⟩
   exact⟨h1,by simpa using h2,fun i h=>h3 _ (List.getElem_mem h)⟩
  ·rintro⟨h1,h2,h3⟩
   refine⟨⟨h1,by simpa using h2⟩,fun x hx=>?_⟩
   obtain⟨i,hi,rfl⟩:=List.getElem_of_mem hx
   exact h3 i hi
theorem lines_Name_loop (s:List UInt8) (hs:s.length≤16):∃ e,iter (g_lines_Name_s1 s) 0=some e∧(e=.inr () ↔ ∀ i (h:i < s.length),nmB s[i]=true):=by
 refine iter_cnt s.length (by omega) (fun n=>∀ i (h:i < s.length),i < n→nmB s[i]=true) _ (by intro i _ h;omega) ?_ ?_
 ·intro i hi hI
  have hw:=wrap_i64 ((i:Int)+1) (by omega) (by omega)
  simp only[g_lines_Name_s1,atI_nat hi,Option.bind_some,hw]
  have hb:=u8lt s[i]
  have hk:nmB s[i]=true∨nmB s[i]=false:=by cases nmB s[i]<;>simp
  rcases hk with hk|hk
  ·left
   refine⟨?_,fun j hj hlt=>?_⟩
   ·simp only[nmB] at hk;grind
   ·by_cases hji:j=i
    ·subst hji;exact hk
    ·exact hI j hj (by omega)
  ·right
   refine⟨.inl (),?_,?_⟩
   ·simp only[nmB] at hk;grind
   ·simp only[reduceCtorEq,false_iff]
    intro h
    have:=h i hi
    simp[hk] at this
 ·intro hI
  refine⟨.inr (),by simp[g_lines_Name_s1],?_⟩
  simp only[true_iff]
  exact fun i h=>hI i h h
theorem lines_Name_eq (s:List UInt8):g_lines_Name s=some (isNm s):=by
 by_cases h0:s.length < 1
 ·match s,h0 with
  | [],_=>rfl
 ·by_cases h1:s.length≤16
  ·obtain⟨e,he,hi⟩:=lines_Name_loop s h1
   have hn:=isNm_at s (by omega)
   have h0':atI s 0=some s[0]:=atI_nat (n:=0) (by omega)
   simp only[g_lines_Name,he,h0',Option.bind_some]
   rcases e with⟨⟩|⟨⟩<;>grind
  ·have:isNm s=false:=by
    cases hh:isNm s with
    | false=>rfl
    | true=>exact absurd ((isNm_at s (by omega)).1 hh).1 h1
   simp only[g_lines_Name,this]
   grind
theorem digit_eq (c:Int):g_ref07_digit c=some (decide (48≤c)&&decide (c≤57)):=by
 simp only[g_ref07_digit];grind
theorem ref07_Name_loop (s:List UInt8) (hs:s.length≤16) (hs1:1≤s.length):∃ e,iter (g_ref07_Name_s1 s) 0=some e∧(e=.inr () ↔ (65≤s[0].toNat∧s[0].toNat≤90)∧∀ i (h:i < s.length),nmB s[i]=true):=by
 refine iter_cnt s.length (by omega) (fun n=>(0 < n→65≤s[0].toNat∧s[0].toNat≤90)∧∀ i (h:i < s.length),i < n→nmB s[i]=true) _ ⟨by omega,by intro i _ h;omega⟩ ?_ ?_
 ·intro i hi ⟨hI0,hI⟩
  have hw:=wrap_i64 ((i:Int)+1) (by omega) (by omega)
  simp only[g_ref07_Name_s1,atI_nat hi,Option.bind_some,hw,digit_eq]
  have hb:=u8lt s[i]
  by_cases hk:nmB s[i]=true∧(i=0→65≤s[0].toNat∧s[0].toNat≤90)
  ·left
   obtain⟨hk,hk0⟩:=hk
   refine⟨?_,fun _=>?_,fun j hj hlt=>?_⟩
   ·simp only[nmB] at hk
    by_cases h0:i=0
    ·subst h0;grind
    ·grind
   ·by_cases h0:i=0
    ·exact hk0 h0
    ·exact hI0 (by omega)
   ·by_cases hji:j=i
    ·subst hji;exact hk
    ·exact hI j hj (by omega)
  ·right
   refine⟨.inl (),?_,?_⟩
   ·simp only[nmB] at hk
    by_cases h0:i=0
    ·subst h0;grind
    ·grind
   ·simp only[reduceCtorEq,false_iff]
    rintro⟨h1,h2⟩
    exact hk ⟨h2 i hi,fun _=>h1⟩
 ·intro⟨hI0,hI⟩
  refine⟨.inr (),by simp[g_ref07_Name_s1],?_⟩
  simp only[true_iff]
  exact⟨hI0 (by omega),fun i h=>hI i h h⟩
theorem ref07_Name_eq (s:List UInt8):g_ref07_Name s=some (isNm s):=by
 by_cases h0:s.length < 1
 ·match s,h0 with
  | [],_=>rfl
 ·by_cases h1:s.length≤16
  ·obtain⟨e,he,hi⟩:=ref07_Name_loop s h1 (by omega)
   have hn:=isNm_at s (by omega)
   simp only[g_ref07_Name,he,Option.bind_some]
   rcases e with⟨⟩|⟨⟩<;>grind
  ·have:isNm s=false:=by
    cases hh:isNm s with
    | false=>rfl
    | true=>exact absurd ((isNm_at s (by omega)).1 hh).1 h1
   simp only[g_ref07_Name,this]
   grind
theorem decL_dec {l:List UInt8} (h:l≠[]):decL l=Lib.decodeL l:=by
 unfold Lib.decodeL
 have:=decL_eq l 0 ((List.length_pos_iff.2 h))
 rw[this];simp
theorem decL_wd {l:List UInt8} (h:l≠[]):1≤(decL l).2:=by rw[decL_dec h];exact Lib.decodeL_width l
theorem wd_pos {s:List UInt8} {p:Nat} (h:p < s.length):1≤widthAt s p:=by
 unfold widthAt
 refine decL_wd fun h0=>?_
 have:=congrArg List.length h0
 simp at this;omega
theorem place_same (s:List UInt8) (r:Int):g_charset_place_s1 s r=g_ref08_Index_s1 r s:=by
 funext x
 unfold g_charset_place_s1 g_ref08_Index_s1
 rfl
theorem place_total (s:List UInt8) (hs:s.length≤1000) (r:Int):∃ e,iter (g_ref08_Index_s1 r s) (0,0)=some e:=by
 have:=iter_post (step:=g_ref08_Index_s1 r s) (fun x=>0≤x.1∧x.1≤x.2) (fun x=>s.length - x.2) (fun _=>True) (x:=(0,0)) ⟨Int.le_refl _,by simp⟩ (by show s.length - 0 < _;omega) ?_
 ·obtain⟨e,h,_⟩:=this;exact⟨e,h⟩
 ·rintro⟨n,p⟩ ⟨h0,h1⟩
  dsimp only at h0 h1
  unfold g_ref08_Index_s1
  dsimp only
  by_cases hp:p < s.length
  ·rw[if_pos (by simpa using hp)]
   by_cases hr:(runeAt s p == r)=true
   ·right;rw[if_pos hr];exact⟨_,rfl,trivial⟩
   ·left;rw[if_neg hr]
    have hw:=wd_pos hp
    refine⟨_,rfl,?_,?_⟩
    ·dsimp only
     rw[wr64 (by omega)]
     omega
    ·dsimp only;omega
  ·right;rw[if_neg (by simpa using hp)];exact⟨_,rfl,trivial⟩
theorem Index_same (r:Int):∃ v,g_charset_Index r=some v∧g_ref08_Index r=some v:=by
 unfold g_charset_Index g_ref08_Index g_charset_place
 by_cases h:32≤r∧r≤126
 ·rw[if_pos (by simpa using h.1)]
  simp only[Option.bind_some]
  rw[if_pos (by simpa using h.2),if_pos (by simpa using h.2)]
  exact⟨_,rfl,rfl⟩
 ·have:(if decide (32≤r)=true then some (decide (r≤126)) else some false:Option Bool)=some false:=by
   by_cases h1:32≤r
   ·have:¬ r≤126:=fun h2=>h ⟨h1,h2⟩
    simp[h1,this]
   ·simp[h1]
  rw[this]
  simp only[Option.bind_some,Bool.false_eq_true,if_false,place_same,g_ref08_Repertoire]
  obtain⟨e,he⟩:=place_total g_ref08_Repertoire.get! (by decide) r
  simp only[g_ref08_Repertoire,Option.get!] at he
  rw[he]
  cases e<;>exact⟨_,rfl,rfl⟩
def ixv (r:Int):Int:=(g_ref08_Index r).getD 0
theorem ix_eq (r:Int):g_charset_Index r=some (ixv r)∧g_ref08_Index r=some (ixv r):=by
 obtain⟨v,h1,h2⟩:=Index_same r
 unfold ixv
 rw[h2]
 exact⟨h1,rfl⟩
theorem ixv_bad:g_ref08_Index 65533=some (-1):=by decide +kernel
def gv (l:List UInt8):Bool:=if h:l=[] then true else decide (0≤ixv (decL l).1)&&gv (l.drop (decL l).2)
termination_by l.length
decreasing_by
 have:=decL_wd h
 have:=(List.length_pos_iff.2 h)
 simp;omega
theorem gv_nil:gv []=true:=by unfold gv;simp
theorem gv_ne {l:List UInt8} (h:l≠[]):gv l=(decide (0≤ixv (decL l).1)&&gv (l.drop (decL l).2)):=by
 rw[gv,dif_neg h]
theorem gv_loop {step:Nat→Option (Nx Nat (Unit ⊕ Unit))} (s:List UInt8) (hs:s.length < 73786976294838206464) (hst:∀ p,step p=(if decide (p < s.length)=true then(if decide (ixv (runeAt s p) < 0)=true then some (.out (.inl ())) else some (.go (p+widthAt s p))) else some (.out (.inr ())))) :
  iter step 0=some (if gv s then .inr () else .inl ()):=by
 refine iter_of (fun p e=>e=if gv (s.drop p) then .inr () else .inl ()) (fun p=>s.length - p) ?_ (x:=0) (by simp) (by show s.length - 0 < _;omega)
 rintro p e rfl
 rw[hst]
 by_cases hp:p < s.length
 ·rw[if_pos (by simpa using hp)]
  have hne:s.drop p≠[]:=fun h0=>by have:=congrArg List.length h0;simp at this;omega
  by_cases hr:ixv (runeAt s p) < 0
  ·right
   rw[if_pos (by simpa using hr),gv_ne hne]
   have:¬ 0≤ixv (decL (s.drop p)).1:=by unfold runeAt at hr;omega
   simp[this]
  ·left
   rw[if_neg (by simpa using hr)]
   have hw:=wd_pos hp
   refine⟨_,rfl,?_,by omega⟩
   rw[gv_ne hne]
   have:0≤ixv (decL (s.drop p)).1:=by unfold runeAt at hr;omega
   simp only[this,decide_true,Bool.true_and,List.drop_drop]
   rfl
 ·right
  rw[if_neg (by simpa using hp),List.drop_eq_nil_of_le (by omega),gv_nil];rfl
theorem ref_Valid_eq (s:List UInt8) (hs:s.length≤140737488355328):g_ref08_Valid s=some (gv s):=by
 unfold g_ref08_Valid
 rw[gv_loop s (by omega) (fun p=>by unfold g_ref08_Valid_s1;simp only[(ix_eq _).2,Option.bind_some])]
 cases gv s<;>rfl
theorem gv_valid:∀ (n:Nat) (l:List UInt8),l.length≤n→gv l=true→Lib.validD l=true:=by
 intro n
 induction n with
 | zero=>intro l hl _;have:l=[]:=List.eq_nil_of_length_eq_zero (by omega);subst this;rfl
 | succ n ih =>
  intro l hl h
  by_cases hne:l=[]
  ·subst hne;rfl
  ·rw[gv_ne hne,Bool.and_eq_true,decide_eq_true_eq] at h
   have hw:=decL_wd hne
   have hlen:=List.length_pos_iff.2 hne
   rw[Lib.validD_step l hne,← decL_dec hne,if_neg]
   ·exact ih _ (by simp;omega) h.2
   ·rintro⟨h1,_⟩
    have h2:=h.1
    rw[h1] at h2
    unfold ixv at h2
    rw[show(((65533:Nat):Nat):Int)=65533 from rfl,ixv_bad] at h2
    simp at h2
theorem prog_Valid_eq (s:List UInt8) (hs:s.length≤140737488355328):g_charset_Valid s=some (gv s):=by
 unfold g_charset_Valid g_unicode_utf8_ValidString
 simp only[Option.bind_some]
 rw[gv_loop s (by omega) (fun p=>by unfold g_charset_Valid_s1;simp only[(ix_eq _).1,Option.bind_some])]
 cases hg:gv s
 ·cases Lib.validD s<;>rfl
 ·rw[gv_valid s.length s (Nat.le_refl _) hg];rfl
def rnL (l:List UInt8):List Int:=if h:l=[] then[] else(((decL l).1:Nat):Int)::rnL (l.drop (decL l).2)
termination_by l.length
decreasing_by
 have h1:=decL_wd h
 have h2:=List.length_pos_iff.2 h
 simp only[List.length_drop];omega
theorem rnL_nil:rnL []=[]:=by unfold rnL;simp
theorem rnL_ne {l:List UInt8} (h:l≠[]):rnL l=(((decL l).1:Nat):Int)::rnL (l.drop (decL l).2):=by rw[rnL,dif_neg h]
theorem rnL_at {s:List UInt8} {p:Nat} (h:p < s.length):rnL (s.drop p)=runeAt s p::rnL (s.drop (p+widthAt s p)):=by
 have hne:s.drop p≠[]:=by
  intro e
  have:=congrArg List.length e
  simp at this;omega
 rw[rnL_ne hne]
 unfold runeAt widthAt
 rw[List.drop_drop]
theorem rnL_end {s:List UInt8} {p:Nat} (h:s.length≤p):rnL (s.drop p)=[]:=by rw[List.drop_eq_nil_of_le h,rnL_nil]
def ascF:Int→List Int→Bool
 | _,[]=>true
 | a,x::l=>decide (a < x)&&ascF x l
theorem runes_eq (s:List UInt8) (hs:s.length≤1048576):g_ref08_runes s=some (rnL s):=by
 unfold g_ref08_runes
 have key:iter (g_ref08_runes_s1 s) ([],0)=some (rnL s):=by
  refine iter_of (fun x e=>x.1.length≤x.2∧x.1.length≤1048576∧e=x.1++rnL (s.drop x.2)) (fun x=>s.length - x.2) ?_ (x:=([],0)) ⟨Nat.le_refl _,by simp,by simp⟩ (by show s.length - 0 < _;omega)
  rintro⟨o,p⟩ e ⟨h1,h2,rfl⟩
  dsimp only at h1 h2 ⊢
  unfold g_ref08_runes_s1
  dsimp only
  by_cases h:p < s.length
  ·left
   have hw:1≤widthAt s p:=wd_pos h
   refine⟨(o++[runeAt s p],p+widthAt s p),?_,⟨?_,?_,?_⟩,?_⟩
   ·rw[if_pos (by simpa using h),if_pos (by omega)]
   ·simp;omega
   ·simp;omega
   ·dsimp only
    rw[rnL_at h,List.append_assoc];rfl
   ·dsimp only;omega
  ·right
   rw[if_neg (by simpa using h),rnL_end (by omega)]
   simp
 rw[key];rfl
def okR (p:T_api_Profile):Prop:=(1≤p.Reading∧p.Reading≤10000)∧(1≤p.MinFrames∧p.MinFrames≤5184000)∧(1≤p.MaxFrames∧p.MaxFrames≤5184000)∧(0≤p.MinGap∧p.MinGap≤1000)∧(0≤p.ShotBefore∧p.ShotBefore≤1000)∧(0≤p.ShotAfter∧p.ShotAfter≤1000)∧(1≤p.Rows∧p.Rows≤4)∧(1≤p.Cols∧p.Cols≤32)∧(0≤p.SafeTop∧p.SafeTop≤31)∧(0≤p.SafeBottom∧p.SafeBottom≤31)∧(0≤p.SafeLeft∧p.SafeLeft≤31)∧(0≤p.SafeRight∧p.SafeRight≤31)
instance (p:T_api_Profile):Decidable (okR p):=by unfold okR;infer_instance
def ckS (p:T_api_Profile):Int :=
 if isNm p.Name=false then 5 else if ¬ okR p then 2 else if 15≤p.SafeTop+p.SafeBottom∨32≤p.SafeLeft+p.SafeRight then 2 else if p.MaxFrames < p.MinFrames then 8 else if gv p.Forbidden=false then 10 else if ascF (-1) (rnL p.Forbidden) then 0 else 8
end Go.Proofs.YtobglplholhkcaaGreatDoor
