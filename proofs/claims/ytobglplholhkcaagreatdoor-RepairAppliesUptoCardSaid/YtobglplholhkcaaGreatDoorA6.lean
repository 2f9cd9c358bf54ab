/- Texts of one proof, put together (EJ, EK, V1n, V2, V4, V5, D1, D2, V6, V14, V15, V7, V8, V9, V10, V11, V12, V13, V16, V17, V3, V18, Laid9, LT, V22, V23, V24, V25, V26, V27, V19, FwPv, EP, V31, V20, EN, V32, LA). No condition but those that each theorem states. -/
import Derived.Test.YtobglplholhkcaaGreatDoorA5
import Derived.Test.YtobglplholhkcaaGreatDoorCards
import Derived.Test.YtobglplholhkcaaGreatDoorTie
import Derived.ProofKit
import Derived.OpenShut
import Derived.Deep.DeepHandedRow
import Derived.Lib.LaidIn
import Derived.Lib.LaidU8T
import Derived.Shelf.Vars
set_option linter.unusedSimpArgs false
set_option linter.unusedVariables false
namespace Go.Proofs.YtobglplholhkcaaGreatDoor
open Go.RowKit
set_option maxRecDepth 100000
set_option maxHeartbeats 10000000
theorem dd_EJ:(∀ x,T_api_Region.d x=.agg [.str x.Name,.int .i64 x.Top,.int .i64 x.Height,.int .i64 x.Left,.int .i64 x.Width,.int .u8 x.Align,.bool x.Bottom])∧(∀ x,T_api_Comment.d x=.agg [.int .i64 x.ID,.int .i64 x.Event,.int .i64 x.From,.int .i64 x.To,.str x.Author,.str x.Text,.bool x.Done,.bool x.Lost])∧(∀ x,T_api_Span.d x=.agg [.int .i64 x.In,.int .i64 x.Out])∧(∀ x,T_api_Style.d x=.agg [.int .u8 x.Color,.bool x.Italic,.bool x.Underline])∧(∀ x,T_api_Run.d x=.agg [.str x.Text,.int .u8 x.Style.Color,.bool x.Style.Italic,.bool x.Style.Underline,.str x.Ruby])∧(∀ x,T_api_Row.d x=.agg [.sl (x.Runs.map T_api_Run.d)])∧(∀ x,T_api_Event.d x=.agg [.int .i64 x.ID,.int .i64 x.Span.In,.int .i64 x.Span.Out,.str x.Region,.int .u8 x.Kind,.str x.Speaker,.sl (x.Rows.map T_api_Row.d)])∧(∀ x,T_api_Bound.d x=.agg [.int .i64 x.I,.int .i64 x.J,.int .i64 x.C,.int .u8 x.Rule,.int .i64 x.ID,.int .i64 x.Other])∧(∀ x,T_api_Document.d x=.agg [.str x.Title,.str x.Lang,.int .u8 x.Rate,.bool x.Drop,.int .i64 x.Last,.sl (x.Regions.map T_api_Region.d),.sl (x.Events.map T_api_Event.d),.sl (x.Comments.map T_api_Comment.d)])∧(∀ x,T_api_Spot.d x=.agg [.int .i64 x.Row,.int .i64 x.Col,.int .i64 x.Len]):=⟨fun _=>rfl,fun _=>rfl,fun _=>rfl,fun _=>rfl,fun _=>rfl,fun _=>rfl,fun _=>rfl,fun _=>rfl,fun _=>rfl,fun _=>rfl⟩
def g_ref02_Valid (r_0:Int):Option (Bool) :=
 (if(decide (1≤r_0)) then(some (decide (r_0≤7))) else(some false))
theorem a_ref02_Valid {I:World→Prop} (hI:Stab I) {r_0:Int} {r:Bool} (h:g_ref02_Valid r_0=some r):AFun Tryz.prog I 97 [.int .u8 r_0] (.bool r):=by
 have dd:=dd_EJ;have k:=True.intro;have q:=k;have rs:=Tryz.results97
 unfold g_ref02_Valid at h
 refine .en hI Tryz.func97 Tryz.ntmps97 ?_
 refine xs<|rz ?_
 refine es<|xs<|rK fun K5 RK5 hK5 gK5=>zz ?_
 rcases iK k h with⟨k,h⟩|⟨k,h⟩
 ·refine zz ?_
  subst hK5 gK5
  refine es<|xr ?_
  cases h
  exact en fr
 ·refine zz ?_
  subst hK5 gK5
  refine es<|xr ?_
  cases h
  exact en fr
def g_ref02_CanDrop (r_0:Int):Option (Bool) :=
 (if(r_0 == 4) then(some true) else(some (r_0 == 7)))
theorem a_ref02_CanDrop {I:World→Prop} (hI:Stab I) {r_0:Int} {r:Bool} (h:g_ref02_CanDrop r_0=some r):AFun Tryz.prog I 131 [.int .u8 r_0] (.bool r):=by
 have dd:=dd_EJ;have k:=True.intro;have q:=k;have rs:=Tryz.results131
 unfold g_ref02_CanDrop at h
 refine .en hI Tryz.func131 Tryz.ntmps131 ?_
 refine xs<|rz ?_
 refine es<|xs<|rK fun K5 RK5 hK5 gK5=>zz ?_
 rcases iK k h with⟨k,h⟩|⟨k,h⟩
 ·refine zz ?_
  subst hK5 gK5
  refine es<|xr ?_
  cases h
  exact en fr
 ·refine zz ?_
  subst hK5 gK5
  refine es<|xr ?_
  cases h
  exact en fr
def g_ref12_checkHead (d_0:T_api_Document):Option (Int) :=
 ((g_ref08_Valid d_0.Title).bind fun r62=>(if r62 then(if(decide (400 < (d_0.Title.length:Int))) then(some 9) else(((if(d_0.Lang == ([]:List UInt8)) then(some false) else((g_ref07_Name d_0.Lang).bind fun r77=>(some (!r77)))):Option (Bool)).bind fun v74=>(if v74 then(some 5) else((((g_ref02_Valid d_0.Rate).bind fun r92=>(if r92 then(if d_0.Drop then((g_ref02_CanDrop d_0.Rate).bind fun r96=>(some (!r96))) else(some false)) else(some true))):Option (Bool)).bind fun v90=>(if v90 then(some 13) else(if(decide (d_0.Last < 0)) then(some 2) else(if(decide (1099511627776 < d_0.Last)) then(some 2) else(some 0)))))))) else(some 10)))
theorem a_ref12_checkHead {I:World→Prop} (hI:Stab I) {d_0:T_api_Document} {r:Int} (h:g_ref12_checkHead d_0=some r):AFun Tryz.prog I 92 [T_api_Document.d d_0] (.int .i64 r):=by
 have dd:=dd_EJ;have k:=True.intro;have q:=k;have rs:=Tryz.results92
 unfold g_ref12_checkHead at h
 refine .en hI Tryz.func92 Tryz.ntmps92 ?_
 refine xs<|rz ?_
 refine es<|xs<|xb<|xs<|rK fun K61 RK61 hK61 gK61=>zz ?_
 obtain⟨r62,h63,h⟩:=bs h
 refine cw (a_ref08_Valid hI h63)<|zz ?_
 subst hK61 gK61
 refine es ?_
 rcases iK k h with⟨k,h⟩|⟨k,h⟩
 ·refine xf<|xs<|rz ?_
  refine es ?_
  rcases iK k h with⟨k,h⟩|⟨k,h⟩
  ·refine xt<|xs<|rz ?_
   refine es<|xr<|br<|er ?_
   cases h
   exact en fr
  ·refine xf ?_
   obtain⟨v74,h79,h⟩:=bs h
   refine rb_cut (fun v74=>⟨envL [(1,.ptr 0 0),(13,.bool v74)],heapL [(0,.box none [.str d_0.Title,.str d_0.Lang,.int .u8 d_0.Rate,.bool d_0.Drop,.int .i64 d_0.Last,.sl (d_0.Regions.map T_api_Region.d),.sl (d_0.Events.map T_api_Event.d),.sl (d_0.Comments.map T_api_Comment.d)])],1,47⟩) h79 ?_ ?_
   ·clear h
    intro v74 h
    refine rK fun K75 RK75 hK75 gK75=>zz ?_
    rcases iK k h with⟨k,h⟩|⟨k,h⟩
    ·refine zz ?_
     subst hK75 gK75
     cases h
     exact en ⟨rfl,wk []⟩
    ·refine zz ?_
     obtain⟨r77,h78,h⟩:=bs h
     refine cw (a_ref07_Name hI h78)<|zz ?_
     subst hK75 gK75
     cases h
     exact en ⟨rfl,wk []⟩
   ·rcases iK k h with⟨k,h⟩|⟨k,h⟩
    ·refine xt<|xs<|rz ?_
     refine es<|xr<|br<|er ?_
     cases h
     exact en fr
    ·refine xf ?_
     obtain⟨v90,h98,h⟩:=bs h
     refine rb_cut (fun v90=>⟨envL [(1,.ptr 0 0),(23,.bool v90)],heapL [(0,.box none [.str d_0.Title,.str d_0.Lang,.int .u8 d_0.Rate,.bool d_0.Drop,.int .i64 d_0.Last,.sl (d_0.Regions.map T_api_Region.d),.sl (d_0.Events.map T_api_Event.d),.sl (d_0.Comments.map T_api_Comment.d)])],1,47⟩) h98 ?_ ?_
     ·clear h
      intro v90 h
      refine rK fun K91 RK91 hK91 gK91=>zz ?_
      obtain⟨r92,h93,h⟩:=bs h
      refine cw (a_ref02_Valid hI h93)<|zz ?_
      rcases iK k h with⟨k,h⟩|⟨k,h⟩
      ·refine zz ?_
       rcases iK k h with⟨k,h⟩|⟨k,h⟩
       ·refine zz ?_
        obtain⟨r96,h97,h⟩:=bs h
        refine cw (a_ref02_CanDrop hI h97)<|zz ?_
        subst hK91 gK91
        cases h
        exact en ⟨rfl,wk []⟩
       ·refine zz ?_
        subst hK91 gK91
        cases h
        exact en ⟨rfl,wk []⟩
      ·refine zz ?_
       subst hK91 gK91
       cases h
       exact en ⟨rfl,wk []⟩
     ·rcases iK k h with⟨k,h⟩|⟨k,h⟩
      ·refine xt<|xs<|rz ?_
       refine es<|xr<|br<|er ?_
       cases h
       exact en fr
      ·refine xf<|xs<|rK fun K104 RK104 hK104 gK104=>zz ?_
       rcases iK k h with⟨k,h⟩|⟨k,h⟩
       ·refine zz ?_
        subst hK104 gK104
        refine es<|xt<|xs<|rz ?_
        refine es<|xr<|br<|er ?_
        cases h
        exact en fr
       ·refine zz ?_
        subst hK104 gK104
        refine es ?_
        rcases iK k h with⟨k,h⟩|⟨k,h⟩
        ·refine xt<|xs<|rz ?_
         refine es<|xr<|br<|er ?_
         cases h
         exact en fr
        ·refine xf<|xk<|bn<|es<|xs<|rz ?_
         refine es<|xr ?_
         cases h
         exact en fr
 ·refine xt<|xs<|rz ?_
  refine es<|xr<|br<|er ?_
  cases h
  exact en fr
def g_ref10_Check (r_0:T_api_Region):Option (Int) :=
 ((g_ref07_Name r_0.Name).bind fun r46=>(if r46 then(((if(decide (r_0.Top < 0)) then(some true) else(if(decide (14 < r_0.Top)) then(some true) else(if(decide (r_0.Height < 1)) then(some true) else(if(decide ((IntKind.i64.wrap (15 - r_0.Top)) < r_0.Height)) then(some true) else(if(decide (r_0.Left < 0)) then(some true) else(if(decide (31 < r_0.Left)) then(some true) else(if(decide (r_0.Width < 1)) then(some true) else(some (decide ((IntKind.i64.wrap (32 - r_0.Left)) < r_0.Width)))))))))):Option (Bool)).bind fun v57=>(if v57 then(some 2) else(if(r_0.Align != 1) then(if(r_0.Align != 2) then(if(r_0.Align != 3) then(some 3) else(some 0)) else(some 0)) else(some 0)))) else(some 5)))
theorem a_ref10_Check {I:World→Prop} (hI:Stab I) {r_0:T_api_Region} {r:Int} (h:g_ref10_Check r_0=some r):AFun Tryz.prog I 132 [T_api_Region.d r_0] (.int .i64 r):=by
 have dd:=dd_EJ;have k:=True.intro;have q:=k;have rs:=Tryz.results132
 unfold g_ref10_Check at h
 refine .en hI Tryz.func132 Tryz.ntmps132 ?_
 refine xs<|rz ?_
 refine es<|xs<|xb<|xs<|rK fun K45 RK45 hK45 gK45=>zz ?_
 obtain⟨r46,h47,h⟩:=bs h
 refine cw (a_ref07_Name hI h47)<|zz ?_
 subst hK45 gK45
 refine es ?_
 rcases iK k h with⟨k,h⟩|⟨k,h⟩
 ·refine xf ?_
  obtain⟨v57,h66,h⟩:=bs h
  refine rb_cut (fun v57=>⟨envL [(1,.ptr 0 0),(8,.bool v57)],heapL [(0,.box none [.str r_0.Name,.int .i64 r_0.Top,.int .i64 r_0.Height,.int .i64 r_0.Left,.int .i64 r_0.Width,.int .u8 r_0.Align,.bool r_0.Bottom])],1,67⟩) h66 ?_ ?_
  ·clear h
   intro v57 h
   refine rK fun K58 RK58 hK58 gK58=>zz ?_
   rcases iK k h with⟨k,h⟩|⟨k,h⟩
   ·refine zz ?_
    subst hK58 gK58
    cases h
    exact en ⟨rfl,wk []⟩
   ·refine zz ?_
    rcases iK k h with⟨k,h⟩|⟨k,h⟩
    ·refine zz ?_
     subst hK58 gK58
     cases h
     exact en ⟨rfl,wk []⟩
    ·refine zz ?_
     rcases iK k h with⟨k,h⟩|⟨k,h⟩
     ·refine zz ?_
      subst hK58 gK58
      cases h
      exact en ⟨rfl,wk []⟩
     ·refine zz ?_
      rcases iK k h with⟨k,h⟩|⟨k,h⟩
      ·refine zz ?_
       subst hK58 gK58
       cases h
       exact en ⟨rfl,wk []⟩
      ·refine zz ?_
       rcases iK k h with⟨k,h⟩|⟨k,h⟩
       ·refine zz ?_
        subst hK58 gK58
        cases h
        exact en ⟨rfl,wk []⟩
       ·refine zz ?_
        rcases iK k h with⟨k,h⟩|⟨k,h⟩
        ·refine zz ?_
         subst hK58 gK58
         cases h
         exact en ⟨rfl,wk []⟩
        ·refine zz ?_
         rcases iK k h with⟨k,h⟩|⟨k,h⟩
         ·refine zz ?_
          subst hK58 gK58
          cases h
          exact en ⟨rfl,wk []⟩
         ·refine zz ?_
          subst hK58 gK58
          cases h
          exact en ⟨rfl,wk []⟩
  ·rcases iK k h with⟨k,h⟩|⟨k,h⟩
   ·refine xt<|xs<|rz ?_
    refine es<|xr<|br<|er ?_
    cases h
    exact en fr
   ·refine xf<|xs<|rK fun K73 RK73 hK73 gK73=>zz ?_
    rcases iK k h with⟨k,h⟩|⟨k,h⟩
    ·refine zz ?_
     rcases iK k h with⟨k,h⟩|⟨k,h⟩
     ·refine zz ?_
      subst hK73 gK73
      refine es ?_
      rcases iK k h with⟨k,h⟩|⟨k,h⟩
      ·refine xt<|xs<|rz ?_
       refine es<|xr<|br<|er ?_
       cases h
       exact en fr
      ·refine xf<|xk<|bn<|es<|xs<|rz ?_
       refine es<|xr ?_
       cases h
       exact en fr
     ·refine zz ?_
      subst hK73 gK73
      refine es<|xf<|xk<|bn<|es<|xs<|rz ?_
      refine es<|xr ?_
      cases h
      exact en fr
    ·refine zz ?_
     subst hK73 gK73
     refine es<|xf<|xk<|bn<|es<|xs<|rz ?_
     refine es<|xr ?_
     cases h
     exact en fr
 ·refine xt<|xs<|rz ?_
  refine es<|xr<|br<|er ?_
  cases h
  exact en fr
def g_ref10_CheckList_s1 (l_0:List T_api_Region) (x10:Int):Option (Nx (Int) (Int ⊕ Unit)) :=
 (if(decide (x10 < (l_0.length:Int))) then((atI l_0 x10).bind fun y149=>((g_ref10_Check y149).bind fun r155=>(if(r155 != 0) then(some (.out (.inl r155))) else(((if(decide (0 < x10)) then((atI l_0 (IntKind.i64.wrap (x10 - 1))).bind fun y169=>(some (y149.Name == y169.Name))) else(some false)):Option (Bool)).bind fun v166=>(if v166 then(some (.out (.inl 7))) else(if(decide (0 < x10)) then((atI l_0 (IntKind.i64.wrap (x10 - 1))).bind fun y181=>(if(Op.bytesLess y149.Name y181.Name) then(some (.out (.inl 8))) else(some (.go (IntKind.i64.wrap (x10+1)))))) else(some (.go (IntKind.i64.wrap (x10+1)))))))))) else(some (.out (.inr ()))))
def g_ref10_CheckList (l_0:List T_api_Region):Option (Int) :=
 (if(decide (16 < (l_0.length:Int))) then(some 9) else((iter (g_ref10_CheckList_s1 l_0) 0).bind fun e11=>(match e11 with|Sum.inl e11=>(some e11)|Sum.inr (e11)=>(some 0))))
theorem a_ref10_CheckList {I:World→Prop} (hI:Stab I) {l_0:List T_api_Region} {r:Int} (h:g_ref10_CheckList l_0=some r):AFun Tryz.prog I 93 [.sl (l_0.map T_api_Region.d)] (.int .i64 r):=by
 have dd:=dd_EJ;have k:=True.intro;have q:=k;have rs:=Tryz.results93
 unfold g_ref10_CheckList at h
 refine .en hI Tryz.func93 Tryz.ntmps93 ?_
 refine xs<|rz ?_
 refine es<|xs<|xs<|rz ?_
 refine es ?_
 rcases iK k h with⟨k,h⟩|⟨k,h⟩
 ·refine xt<|xs<|rz ?_
  refine es<|xr<|er ?_
  cases h
  exact en fr
 ·refine xf<|xk<|es<|xs<|xs<|rz ?_
  refine es<|xb ?_
  obtain⟨e11,h188,h⟩:=bs h
  refine rb_loop (fun x10=>⟨envL [(0,.sl (l_0.map T_api_Region.d)),(9,.sl (l_0.map T_api_Region.d)),(10,.int .i64 (l_0.length:Int)),(11,.int .i64 x10)],heapL [],0,48⟩) (fun w=>match w with|Sum.inl _=>.ret|Sum.inr (_)=>.exit 0) (fun w=>match w with|Sum.inl e11=>⟨envL [(2,.int .i64 e11)],heapL [],0,48⟩|Sum.inr (e11)=>⟨envL [],heapL [],0,48⟩) h188 (wk []) (by intro w;rcases w with w|w<;>simp) ?_ ?_
  ·clear h
   intro x10 y h
   unfold g_ref10_CheckList_s1 at h
   refine xs<|rz ?_
   refine es<|xs ?_
   rcases iK k h with⟨k,h⟩|⟨k,h⟩
   ·refine xt<|xk<|es<|xs<|xb<|xs<|rK fun K148 RK148 hK148 gK148=>zz ?_
    obtain⟨y149,q,h⟩:=bK q h
    refine zz ?_
    subst hK148 gK148
    refine es<|xs<|xs<|rK fun K154 RK154 hK154 gK154=>zz ?_
    obtain⟨r155,h156,h⟩:=bs h
    refine cw (a_ref10_Check hI h156)<|zz ?_
    subst hK154 gK154
    refine es<|xs<|rz ?_
    refine es ?_
    rcases iK k h with⟨k,h⟩|⟨k,h⟩
    ·refine xt<|xs<|rz ?_
     refine es<|xr<|er<|br<|er ?_
     cases h
     exact en ⟨rfl,wk []⟩
    ·refine xf<|xk<|es<|xs ?_
     obtain⟨v166,h171,h⟩:=bs h
     refine rb_cut (fun v166=>⟨envL [(0,.sl (l_0.map T_api_Region.d)),(3,.int .i64 x10),(4,.ptr 0 0),(9,.sl (l_0.map T_api_Region.d)),(10,.int .i64 (l_0.length:Int)),(11,.int .i64 x10),(33,.bool v166)],heapL [(0,.box none [.str y149.Name,.int .i64 y149.Top,.int .i64 y149.Height,.int .i64 y149.Left,.int .i64 y149.Width,.int .u8 y149.Align,.bool y149.Bottom])],1,48⟩) h171 ?_ ?_
     ·clear h
      intro v166 h
      refine rD hI fun K167 RK167 hK167 gK167=>zz ?_
      rcases iK k h with⟨k,h⟩|⟨k,h⟩
      ·refine zz ?_
       obtain⟨y169,q,h⟩:=bK q h
       refine zz ?_
       subst hK167 gK167
       cases h
       exact en ⟨rfl,wk [(0,some 4)]⟩
      ·refine zz ?_
       subst hK167 gK167
       cases h
       exact en ⟨rfl,wk [(0,some 4)]⟩
     ·rcases iK k h with⟨k,h⟩|⟨k,h⟩
      ·refine xt<|xs<|rz ?_
       refine es<|xr<|er<|br<|er ?_
       cases h
       exact en ⟨rfl,wk []⟩
      ·refine xf<|xk<|es<|xs<|rD hI fun K179 RK179 hK179 gK179=>zz ?_
       rcases iK k h with⟨k,h⟩|⟨k,h⟩
       ·refine zz ?_
        obtain⟨y181,q,h⟩:=bK q h
        refine zz ?_
        subst hK179 gK179
        refine es ?_
        rcases iK k h with⟨k,h⟩|⟨k,h⟩
        ·refine xt<|xs<|rz ?_
         refine es<|xr<|br<|er ?_
         cases h
         exact en ⟨rfl,wk []⟩
        ·refine xf<|xk<|bn<|es<|rz ?_
         cases h
         exact en ⟨rfl,wk []⟩
       ·refine zz ?_
        subst hK179 gK179
        refine es<|xf<|xk<|bn<|es<|rz ?_
        cases h
        exact en ⟨rfl,wk []⟩
   ·refine xf<|xx<|ee ?_
    cases h
    exact en ⟨rfl,wk []⟩
  ·rcases e11 with e11|e11
   ·try dsimp only at h ⊢
    refine br<|er ?_
    cases h
    exact en fr
   ·try dsimp only at h ⊢
    refine bh<|es<|xs<|rz ?_
    refine es<|xr ?_
    cases h
    exact en fr
def g_ref11_spanned (s_0:T_api_Span):Option (Bool) :=
 (if(decide (0≤s_0.In)) then(if(decide (s_0.In < s_0.Out)) then(some (decide (s_0.Out≤5184000))) else(some false)) else(some false))
theorem a_ref11_spanned {I:World→Prop} (hI:Stab I) {s_0:T_api_Span} {r:Bool} (h:g_ref11_spanned s_0=some r):AFun Tryz.prog I 133 [T_api_Span.d s_0] (.bool r):=by
 have dd:=dd_EJ;have k:=True.intro;have q:=k;have rs:=Tryz.results133
 unfold g_ref11_spanned at h
 refine .en hI Tryz.func133 Tryz.ntmps133 ?_
 refine xs<|rz ?_
 refine es<|xs<|rK fun K6 RK6 hK6 gK6=>zz ?_
 rcases iK k h with⟨k,h⟩|⟨k,h⟩
 ·refine zz ?_
  rcases iK k h with⟨k,h⟩|⟨k,h⟩
  ·refine zz ?_
   subst hK6 gK6
   refine es<|xr ?_
   cases h
   exact en fr
  ·refine zz ?_
   subst hK6 gK6
   refine es<|xr ?_
   cases h
   exact en fr
 ·refine zz ?_
  subst hK6 gK6
  refine es<|xr ?_
  cases h
  exact en fr
def g_ref10_Default  : Option (T_api_Region) :=
 (some (T_api_Region.mk [] 11 4 0 32 2 true))
theorem a_ref10_Default {I:World→Prop} (hI:Stab I)  {r:T_api_Region} (h:g_ref10_Default  = some r):AFun Tryz.prog I 163 [] (T_api_Region.d r):=by
 have dd:=dd_EJ;have k:=True.intro;have q:=k;have rs:=Tryz.results163
 unfold g_ref10_Default at h
 refine .en hI Tryz.func163 Tryz.ntmps163 ?_
 refine xs<|rz ?_
 refine es<|xs<|rz ?_
 refine es<|xr ?_
 cases h
 exact en fr
def g_ref10_Find_s1 (l_0:List T_api_Region) (name_1:List UInt8) (x14:Int):Option (Nx (Int) (((List UInt8) × Int × Int × Int × Int × Int × Bool) ⊕ Unit)) :=
 (if(decide (x14 < (l_0.length:Int))) then((atI l_0 x14).bind fun y89=>(if(y89.Name == name_1) then(some (.out (.inl (y89.Name,y89.Top,y89.Height,y89.Left,y89.Width,y89.Align,y89.Bottom)))) else(some (.go (IntKind.i64.wrap (x14+1)))))) else(some (.out (.inr ()))))
def g_ref10_Find (l_0:List T_api_Region) (name_1:List UInt8):Option (T_api_Region × Bool) :=
 (if(name_1 == ([]:List UInt8)) then((g_ref10_Default).bind fun r10=>(some (r10,true))) else((iter (g_ref10_Find_s1 l_0 name_1) 0).bind fun e15=>(match e15 with|Sum.inl e15=>(some ((T_api_Region.mk e15.1 e15.2.1 e15.2.2.1 e15.2.2.2.1 e15.2.2.2.2.1 e15.2.2.2.2.2.1 e15.2.2.2.2.2.2),true))|Sum.inr (e15)=>(some ((T_api_Region.mk [] 0 0 0 0 0 false),false)))))
theorem a_ref10_Find {I:World→Prop} (hI:Stab I) {l_0:List T_api_Region} {name_1:List UInt8} {r:T_api_Region × Bool} (h:g_ref10_Find l_0 name_1=some r):AFun Tryz.prog I 134 [.sl (l_0.map T_api_Region.d),.str name_1] (.tup [T_api_Region.d r.1,.bool r.2]):=by
 have dd:=dd_EJ;have k:=True.intro;have q:=k;have rs:=Tryz.results134
 unfold g_ref10_Find at h
 refine .en hI Tryz.func134 Tryz.ntmps134 ?_
 refine xs<|rz ?_
 refine es<|xs<|xs<|rz ?_
 refine es ?_
 rcases iK k h with⟨k,h⟩|⟨k,h⟩
 ·refine xt<|xs<|rK fun K9 RK9 hK9 gK9=>zz ?_
  obtain⟨r10,h11,h⟩:=bs h
  refine cw (a_ref10_Default hI h11)<|zz ?_
  subst hK9 gK9
  refine es<|xr<|er ?_
  cases h
  exact en fr
 ·refine xf<|xk<|es<|xs<|xs<|rz ?_
  refine es<|xb ?_
  obtain⟨e15,h97,h⟩:=bs h
  refine rb_loop (fun x14=>⟨envL [(1,.str name_1),(4,.ptr 0 0),(11,.sl (l_0.map T_api_Region.d)),(12,.int .i64 (l_0.length:Int)),(13,.int .i64 x14)],heapL [(0,.box none [.str [],.int .i64 0,.int .i64 0,.int .i64 0,.int .i64 0,.int .u8 0,.bool false])],1,24⟩) (fun w=>match w with|Sum.inl _=>.ret|Sum.inr (_)=>.exit 0) (fun w=>match w with|Sum.inl e15=>⟨envL [(4,.ptr 0 0),(5,.bool true)],heapL [(0,.box none [.str e15.1,.int .i64 e15.2.1,.int .i64 e15.2.2.1,.int .i64 e15.2.2.2.1,.int .i64 e15.2.2.2.2.1,.int .u8 e15.2.2.2.2.2.1,.bool e15.2.2.2.2.2.2])],1,24⟩|Sum.inr (e15)=>⟨envL [(4,.ptr 0 0)],heapL [(0,.box none [.str [],.int .i64 0,.int .i64 0,.int .i64 0,.int .i64 0,.int .u8 0,.bool false])],1,24⟩) h97 (wk []) (by intro w;rcases w with w|w<;>simp) ?_ ?_
  ·clear h
   intro x14 y h
   unfold g_ref10_Find_s1 at h
   refine xs<|rz ?_
   refine es<|xs ?_
   rcases iK k h with⟨k,h⟩|⟨k,h⟩
   ·refine xt<|xk<|es<|xs<|xb<|xs<|rK fun K88 RK88 hK88 gK88=>zz ?_
    obtain⟨y89,q,h⟩:=bK q h
    refine zz ?_
    subst hK88 gK88
    refine es<|xs<|rz ?_
    refine es ?_
    rcases iK k h with⟨k,h⟩|⟨k,h⟩
    ·refine xt<|xs<|rz ?_
     refine es<|xr<|br<|er ?_
     cases h
     exact en ⟨rfl,wk []⟩
    ·refine xf<|xk<|bn<|es<|rz ?_
     cases h
     exact en ⟨rfl,wk []⟩
   ·refine xf<|xx<|ee ?_
    cases h
    exact en ⟨rfl,wk []⟩
  ·rcases e15 with e15|e15
   ·try dsimp only at h ⊢
    refine br<|er ?_
    cases h
    exact en fr
   ·try dsimp only at h ⊢
    refine bh<|es<|xs<|rz ?_
    refine es<|xr ?_
    cases h
    exact en fr
def g_ref09_Valid (s_0:T_api_Style):Option (Bool) :=
 (some (decide (s_0.Color≤6)))
theorem a_ref09_Valid {I:World→Prop} (hI:Stab I) {s_0:T_api_Style} {r:Bool} (h:g_ref09_Valid s_0=some r):AFun Tryz.prog I 164 [T_api_Style.d s_0] (.bool r):=by
 have dd:=dd_EJ;have k:=True.intro;have q:=k;have rs:=Tryz.results164
 unfold g_ref09_Valid at h
 refine .en hI Tryz.func164 Tryz.ntmps164 ?_
 refine xs<|rz ?_
 refine es<|xs<|rz ?_
 refine es<|xr ?_
 cases h
 exact en fr
def g_ref09_Check_s1 (row_0:T_api_Row) (x10:Int):Option (Nx (Int) (Int ⊕ Unit)) :=
 (if(decide (x10 < (row_0.Runs.length:Int))) then((atI row_0.Runs x10).bind fun y299=>((g_ref08_Valid y299.Text).bind fun r305=>(if r305 then(if(y299.Text == ([]:List UInt8)) then(some (.out (.inl 4))) else((g_ref09_Valid y299.Style).bind fun r317=>(if r317 then((g_ref08_Valid y299.Ruby).bind fun r324=>(if r324 then(((if(decide (0 < x10)) then((atI row_0.Runs (IntKind.i64.wrap (x10 - 1))).bind fun y336=>(if((y336.Style.Color == y299.Style.Color)&&((y336.Style.Italic == y299.Style.Italic)&&(y336.Style.Underline == y299.Style.Underline))) then(if(y336.Ruby == ([]:List UInt8)) then(some (y299.Ruby == ([]:List UInt8))) else(some false)) else(some false))) else(some false)):Option (Bool)).bind fun v333=>(if v333 then(some (.out (.inl 8))) else(some (.go (IntKind.i64.wrap (x10+1)))))) else(some (.out (.inl 10))))) else(some (.out (.inl 12)))))) else(some (.out (.inl 10)))))) else(some (.out (.inr ()))))
def g_ref09_Check (row_0:T_api_Row):Option (Int) :=
 (if(decide (16 < (row_0.Runs.length:Int))) then(some 9) else((iter (g_ref09_Check_s1 row_0) 0).bind fun e11=>(match e11 with|Sum.inl e11=>(some e11)|Sum.inr (e11)=>(some 0))))
theorem a_ref09_Check {I:World→Prop} (hI:Stab I) {row_0:T_api_Row} {r:Int} (h:g_ref09_Check row_0=some r):AFun Tryz.prog I 135 [T_api_Row.d row_0] (.int .i64 r):=by
 have dd:=dd_EJ;have k:=True.intro;have q:=k;have rs:=Tryz.results135
 unfold g_ref09_Check at h
 refine .en hI Tryz.func135 Tryz.ntmps135 ?_
 refine xs<|rz ?_
 refine es<|xs<|xs<|rz ?_
 refine es ?_
 rcases iK k h with⟨k,h⟩|⟨k,h⟩
 ·refine xt<|xs<|rz ?_
  refine es<|xr<|er ?_
  cases h
  exact en fr
 ·refine xf<|xk<|es<|xs<|xs<|rz ?_
  refine es<|xb ?_
  obtain⟨e11,h351,h⟩:=bs h
  refine rb_loop (fun x10=>⟨envL [(1,.ptr 0 0),(10,.sl (row_0.Runs.map T_api_Run.d)),(11,.int .i64 (row_0.Runs.length:Int)),(12,.int .i64 x10)],heapL [(0,.box none [.sl (row_0.Runs.map T_api_Run.d)])],1,67⟩) (fun w=>match w with|Sum.inl _=>.ret|Sum.inr (_)=>.exit 0) (fun w=>match w with|Sum.inl e11=>⟨envL [(2,.int .i64 e11)],heapL [],0,67⟩|Sum.inr (e11)=>⟨envL [],heapL [],0,67⟩) h351 (wk []) (by intro w;rcases w with w|w<;>simp) ?_ ?_
  ·clear h
   intro x10 y h
   unfold g_ref09_Check_s1 at h
   refine xs<|rz ?_
   refine es<|xs ?_
   rcases iK k h with⟨k,h⟩|⟨k,h⟩
   ·refine xt<|xk<|es<|xs<|xb<|xs<|rK fun K298 RK298 hK298 gK298=>zz ?_
    obtain⟨y299,q,h⟩:=bK q h
    refine zz ?_
    subst hK298 gK298
    refine es<|xb<|xs<|rK fun K304 RK304 hK304 gK304=>zz ?_
    obtain⟨r305,h306,h⟩:=bs h
    refine cw (a_ref08_Valid hI h306)<|zz ?_
    subst hK304 gK304
    refine es ?_
    rcases iK k h with⟨k,h⟩|⟨k,h⟩
    ·refine xf<|xs<|rz ?_
     refine es ?_
     rcases iK k h with⟨k,h⟩|⟨k,h⟩
     ·refine xt<|xs<|rz ?_
      refine es<|xr<|br<|br<|er ?_
      cases h
      exact en ⟨rfl,wk []⟩
     ·refine xf<|xs<|rK fun K316 RK316 hK316 gK316=>zz ?_
      obtain⟨r317,h318,h⟩:=bs h
      refine cw (a_ref09_Valid hI h318)<|zz ?_
      subst hK316 gK316
      refine es ?_
      rcases iK k h with⟨k,h⟩|⟨k,h⟩
      ·refine xf<|xs<|rK fun K323 RK323 hK323 gK323=>zz ?_
       obtain⟨r324,h325,h⟩:=bs h
       refine cw (a_ref08_Valid hI h325)<|zz ?_
       subst hK323 gK323
       refine es ?_
       rcases iK k h with⟨k,h⟩|⟨k,h⟩
       ·refine xf ?_
        obtain⟨v333,h340,h⟩:=bs h
        refine rb_cut (fun v333=>⟨envL [(1,.ptr 0 0),(10,.sl (row_0.Runs.map T_api_Run.d)),(11,.int .i64 (row_0.Runs.length:Int)),(12,.int .i64 x10),(36,.bool v333)],heapL [(0,.box none [.sl (row_0.Runs.map T_api_Run.d)])],1,67⟩) h340 ?_ ?_
        ·clear h
         intro v333 h
         refine rD hI fun K334 RK334 hK334 gK334=>zz ?_
         rcases iK k h with⟨k,h⟩|⟨k,h⟩
         ·refine zz ?_
          obtain⟨y336,q,h⟩:=bK q h
          refine zz ?_
          rcases iK k h with⟨k,h⟩|⟨k,h⟩
          ·refine zz ?_
           rcases iK k h with⟨k,h⟩|⟨k,h⟩
           ·refine zz ?_
            subst hK334 gK334
            cases h
            exact en ⟨rfl,wk []⟩
           ·refine zz ?_
            subst hK334 gK334
            cases h
            exact en ⟨rfl,wk []⟩
          ·refine zz ?_
           subst hK334 gK334
           cases h
           exact en ⟨rfl,wk []⟩
         ·refine zz ?_
          subst hK334 gK334
          cases h
          exact en ⟨rfl,wk []⟩
        ·rcases iK k h with⟨k,h⟩|⟨k,h⟩
         ·refine xt<|xs<|rz ?_
          refine es<|xr<|br<|br<|er ?_
          cases h
          exact en ⟨rfl,wk []⟩
         ·refine xf<|xk<|bn<|bn<|es<|rz ?_
          cases h
          exact en ⟨rfl,wk []⟩
       ·refine xt<|xs<|rz ?_
        refine es<|xr<|br<|br<|er ?_
        cases h
        exact en ⟨rfl,wk []⟩
      ·refine xt<|xs<|rz ?_
       refine es<|xr<|br<|br<|er ?_
       cases h
       exact en ⟨rfl,wk []⟩
    ·refine xt<|xs<|rz ?_
     refine es<|xr<|br<|br<|er ?_
     cases h
     exact en ⟨rfl,wk []⟩
   ·refine xf<|xx<|ee ?_
    cases h
    exact en ⟨rfl,wk []⟩
  ·rcases e11 with e11|e11
   ·try dsimp only at h ⊢
    refine br<|er ?_
    cases h
    exact en fr
   ·try dsimp only at h ⊢
    refine bh<|es<|xs<|rz ?_
    refine es<|xr ?_
    cases h
    exact en fr
def g_ref09_Plain_s1 (row_0:T_api_Row) (x7:(List UInt8) × Int):Option (Nx ((List UInt8) × Int) ((List UInt8))) :=
 (if(decide (x7.2 < (row_0.Runs.length:Int))) then((atI row_0.Runs x7.2).bind fun y49=>(if x7.1.length+y49.Text.length≤9223372036854775807 then(some (.go ((x7.1++y49.Text),(IntKind.i64.wrap (x7.2+1))))) else none)) else(some (.out x7.1)))
def g_ref09_Plain (row_0:T_api_Row):Option ((List UInt8)) :=
 ((iter (g_ref09_Plain_s1 row_0) ([],0)).bind fun e8=>(some e8))
theorem a_ref09_Plain {I:World→Prop} (hI:Stab I) {row_0:T_api_Row} {r:(List UInt8)} (h:g_ref09_Plain row_0=some r):AFun Tryz.prog I 100 [T_api_Row.d row_0] (.str r):=by
 have dd:=dd_EJ;have k:=True.intro;have q:=k;have rs:=Tryz.results100
 unfold g_ref09_Plain at h
 refine .en hI Tryz.func100 Tryz.ntmps100 ?_
 refine xs<|rz ?_
 refine es<|xs<|rz ?_
 refine es<|xs<|xs<|rz ?_
 refine es<|xb ?_
 obtain⟨e8,h55,h⟩:=bs h
 refine rb_loop (fun x7=>⟨envL [(3,.str x7.1),(7,.sl (row_0.Runs.map T_api_Run.d)),(8,.int .i64 (row_0.Runs.length:Int)),(9,.int .i64 x7.2)],heapL [],0,19⟩) (fun _=>.exit 0) (fun e8=>⟨envL [(3,.str e8)],heapL [],0,19⟩) h55 (wk []) (by intro w;simp) ?_ ?_
 ·clear h
  intro x7 y h
  unfold g_ref09_Plain_s1 at h
  refine xs<|rz ?_
  refine es<|xs ?_
  rcases iK k h with⟨k,h⟩|⟨k,h⟩
  ·refine xt<|xk<|es<|xs<|xb<|xs<|rK fun K48 RK48 hK48 gK48=>zz ?_
   obtain⟨y49,q,h⟩:=bK q h
   refine zz ?_
   subst hK48 gK48
   refine es<|rK fun K51 RK51 hK51 gK51=>zz ?_
   obtain⟨h52,h⟩:=ite_on h
   have h53:x7.1.length+y49.Text.length≤9223372036854775807:=by(try simp only[List.length_append,List.length_cons,List.length_nil]);omega
   try simp -implicitDefEqProofs only[vt,vm,sevalprocAttr,dd,k,q] at h53
   have q:=And.intro @h53<|And.intro @h52<|q
   refine zz ?_
   subst hK51 gK51
   refine bn<|es<|rz ?_
   cases h
   exact en ⟨rfl,wk []⟩
  ·refine xf<|xx<|ee ?_
   cases h
   exact en ⟨rfl,wk []⟩
 ·refine bh<|es<|xs<|rz ?_
  refine es<|xr ?_
  cases h
  exact en fr
def g_ref11_neat_s1 (s_0:List UInt8) (x24:Int):Option (Nx (Int) (Unit ⊕ Unit)) :=
 (if(decide (x24 < (s_0.length:Int))) then((atI s_0 x24).bind fun b86=>(if((b86.toNat:Int) == 32) then((atI s_0 (IntKind.i64.wrap (x24 - 1))).bind fun b89=>(if((b89.toNat:Int) == 32) then(some (.out (.inl ()))) else(some (.go (IntKind.i64.wrap (x24+1)))))) else(some (.go (IntKind.i64.wrap (x24+1)))))) else(some (.out (.inr ()))))
def g_ref11_neat (s_0:List UInt8):Option (Bool) :=
 (((if(s_0 == ([]:List UInt8)) then(some true) else((atI s_0 0).bind fun b13=>(if((b13.toNat:Int) == 32) then(some true) else((atI s_0 (IntKind.i64.wrap ((s_0.length:Int) - 1))).bind fun b16=>(some ((b16.toNat:Int) == 32)))))):Option (Bool)).bind fun v10=>(if v10 then(some false) else((iter (g_ref11_neat_s1 s_0) 1).bind fun e25=>(match e25 with|Sum.inl e25=>(some false)|Sum.inr (e25)=>(some true)))))
theorem a_ref11_neat {I:World→Prop} (hI:Stab I) {s_0:List UInt8} {r:Bool} (h:g_ref11_neat s_0=some r):AFun Tryz.prog I 136 [.str s_0] (.bool r):=by
 have dd:=dd_EJ;have k:=True.intro;have q:=k;have rs:=Tryz.results136
 unfold g_ref11_neat at h
 refine .en hI Tryz.func136 Tryz.ntmps136 ?_
 refine xs<|rz ?_
 refine es<|xs ?_
 obtain⟨v10,h18,h⟩:=bs h
 refine rb_cut (fun v10=>⟨envL [(0,.str s_0),(18,.bool v10)],heapL [],0,36⟩) h18 ?_ ?_
 ·clear h
  intro v10 h
  refine rK fun K11 RK11 hK11 gK11=>zz ?_
  rcases iK k h with⟨k,h⟩|⟨k,h⟩
  ·refine zz ?_
   subst hK11 gK11
   cases h
   exact en ⟨rfl,wk []⟩
  ·refine zz ?_
   obtain⟨b13,q,h⟩:=bK q h
   refine zz ?_
   rcases iK k h with⟨k,h⟩|⟨k,h⟩
   ·refine zz ?_
    subst hK11 gK11
    cases h
    exact en ⟨rfl,wk []⟩
   ·refine zz ?_
    obtain⟨b16,q,h⟩:=bK q h
    refine zz ?_
    subst hK11 gK11
    cases h
    exact en ⟨rfl,wk []⟩
 ·rcases iK k h with⟨k,h⟩|⟨k,h⟩
  ·refine xt<|xs<|rz ?_
   refine es<|xr<|er ?_
   cases h
   exact en fr
  ·refine xf<|xk<|es<|xs<|xs<|rz ?_
   refine es<|xb ?_
   obtain⟨e25,h96,h⟩:=bs h
   refine rb_loop (fun x24=>⟨envL [(0,.str s_0),(3,.int .i64 x24)],heapL [],0,36⟩) (fun w=>match w with|Sum.inl _=>.ret|Sum.inr (_)=>.exit 0) (fun w=>match w with|Sum.inl e25=>⟨envL [(2,.bool false)],heapL [],0,36⟩|Sum.inr (e25)=>⟨envL [],heapL [],0,36⟩) h96 (wk []) (by intro w;rcases w with w|w<;>simp) ?_ ?_
   ·clear h
    intro x24 y h
    unfold g_ref11_neat_s1 at h
    refine xs<|xs<|rz ?_
    refine es ?_
    rcases iK k h with⟨k,h⟩|⟨k,h⟩
    ·refine xt<|xk<|es<|xs<|xb<|xs<|rK fun K85 RK85 hK85 gK85=>zz ?_
     obtain⟨b86,q,h⟩:=bK q h
     refine zz ?_
     rcases iK k h with⟨k,h⟩|⟨k,h⟩
     ·refine zz ?_
      obtain⟨b89,q,h⟩:=bK q h
      refine zz ?_
      subst hK85 gK85
      refine es ?_
      rcases iK k h with⟨k,h⟩|⟨k,h⟩
      ·refine xt<|xs<|rz ?_
       refine es<|xr<|br<|er ?_
       cases h
       exact en ⟨rfl,wk []⟩
      ·refine xf<|xk<|bn<|es<|rz ?_
       cases h
       exact en ⟨rfl,wk []⟩
     ·refine zz ?_
      subst hK85 gK85
      refine es<|xf<|xk<|bn<|es<|rz ?_
      cases h
      exact en ⟨rfl,wk []⟩
    ·refine xf<|xx<|ee ?_
     cases h
     exact en ⟨rfl,wk []⟩
   ·rcases e25 with e25|e25
    ·try dsimp only at h ⊢
     refine br<|er ?_
     cases h
     exact en fr
    ·try dsimp only at h ⊢
     refine bh<|es<|xs<|rz ?_
     refine es<|xr ?_
     cases h
     exact en fr
def g_ref08_Len (s_0:List UInt8):Option (Int) :=
 ((g_ref08_Valid s_0).bind fun r7=>(if r7 then((g_ref08_runes s_0).bind fun r14=>(some (r14.length:Int))) else(some (-1))))
theorem a_ref08_Len {I:World→Prop} (hI:Stab I) {s_0:List UInt8} {r:Int} (h:g_ref08_Len s_0=some r):AFun Tryz.prog I 165 [.str s_0] (.int .i64 r):=by
 have dd:=dd_EJ;have k:=True.intro;have q:=k;have rs:=Tryz.results165
 unfold g_ref08_Len at h
 refine .en hI Tryz.func165 Tryz.ntmps165 ?_
 refine xs<|rz ?_
 refine es<|xs<|xs<|rK fun K6 RK6 hK6 gK6=>zz ?_
 obtain⟨r7,h8,h⟩:=bs h
 refine cw (a_ref08_Valid hI h8)<|zz ?_
 subst hK6 gK6
 refine es ?_
 rcases iK k h with⟨k,h⟩|⟨k,h⟩
 ·refine xf<|xk<|es<|xs<|rK fun K13 RK13 hK13 gK13=>zz ?_
  obtain⟨r14,h15,h⟩:=bs h
  refine cw (a_ref08_runes hI h15)<|zz ?_
  subst hK13 gK13
  refine es<|xr ?_
  cases h
  exact en fr
 ·refine xt<|xs<|rz ?_
  refine es<|xr<|er ?_
  cases h
  exact en fr
def g_ref09_Len_s1 (row_0:T_api_Row) (x7:Int × Int):Option (Nx (Int × Int) (Unit ⊕ Int)) :=
 (if(decide (x7.2 < (row_0.Runs.length:Int))) then((atI row_0.Runs x7.2).bind fun y76=>((g_ref08_Len y76.Text).bind fun r82=>(if(decide (r82 < 0)) then(some (.out (.inl ()))) else(some (.go ((IntKind.i64.wrap (x7.1+r82)),(IntKind.i64.wrap (x7.2+1)))))))) else(some (.out (.inr x7.1))))
def g_ref09_Len (row_0:T_api_Row):Option (Int) :=
 ((iter (g_ref09_Len_s1 row_0) (0,0)).bind fun e8=>(match e8 with|Sum.inl e8=>(some (-1))|Sum.inr (e8)=>(some e8)))
theorem a_ref09_Len {I:World→Prop} (hI:Stab I) {row_0:T_api_Row} {r:Int} (h:g_ref09_Len row_0=some r):AFun Tryz.prog I 137 [T_api_Row.d row_0] (.int .i64 r):=by
 have dd:=dd_EJ;have k:=True.intro;have q:=k;have rs:=Tryz.results137
 unfold g_ref09_Len at h
 refine .en hI Tryz.func137 Tryz.ntmps137 ?_
 refine xs<|rz ?_
 refine es<|xs<|rz ?_
 refine es<|xs<|xs<|rz ?_
 refine es<|xb ?_
 obtain⟨e8,h91,h⟩:=bs h
 refine rb_loop (fun x7=>⟨envL [(3,.int .i64 x7.1),(8,.sl (row_0.Runs.map T_api_Run.d)),(9,.int .i64 (row_0.Runs.length:Int)),(10,.int .i64 x7.2)],heapL [],0,24⟩) (fun w=>match w with|Sum.inl _=>.ret|Sum.inr (_)=>.exit 0) (fun w=>match w with|Sum.inl e8=>⟨envL [(2,.int .i64 (-1))],heapL [],0,24⟩|Sum.inr (e8)=>⟨envL [(3,.int .i64 e8)],heapL [],0,24⟩) h91 (wk []) (by intro w;rcases w with w|w<;>simp) ?_ ?_
 ·clear h
  intro x7 y h
  unfold g_ref09_Len_s1 at h
  refine xs<|rz ?_
  refine es<|xs ?_
  rcases iK k h with⟨k,h⟩|⟨k,h⟩
  ·refine xt<|xk<|es<|xs<|xb<|xs<|rK fun K75 RK75 hK75 gK75=>zz ?_
   obtain⟨y76,q,h⟩:=bK q h
   refine zz ?_
   subst hK75 gK75
   refine es<|xs<|rK fun K81 RK81 hK81 gK81=>zz ?_
   obtain⟨r82,h83,h⟩:=bs h
   refine cw (a_ref08_Len hI h83)<|zz ?_
   subst hK81 gK81
   refine es<|xs<|xs<|rz ?_
   refine es ?_
   rcases iK k h with⟨k,h⟩|⟨k,h⟩
   ·refine xt<|xs<|rz ?_
    refine es<|xr<|er<|br<|er ?_
    cases h
    exact en ⟨rfl,wk []⟩
   ·refine xf<|xk<|es<|rz ?_
    refine bn<|es<|rz ?_
    cases h
    exact en ⟨rfl,wk []⟩
  ·refine xf<|xx<|ee ?_
   cases h
   exact en ⟨rfl,wk []⟩
 ·rcases e8 with e8|e8
  ·try dsimp only at h ⊢
   refine br<|er ?_
   cases h
   exact en fr
  ·try dsimp only at h ⊢
   refine bh<|es<|xs<|rz ?_
   refine es<|xr ?_
   cases h
   exact en fr
def g_ref10_usable (r_0:T_api_Region):Option (Bool) :=
 ((g_ref10_Check r_0).bind fun r10=>(if(r10 == 0) then(some true) else((g_ref10_Default).bind fun r13=>(some ((r_0.Name == r13.Name)&&((r_0.Top == r13.Top)&&((r_0.Height == r13.Height)&&((r_0.Left == r13.Left)&&((r_0.Width == r13.Width)&&((r_0.Align == r13.Align)&&(r_0.Bottom == r13.Bottom)))))))))))
theorem a_ref10_usable {I:World→Prop} (hI:Stab I) {r_0:T_api_Region} {r:Bool} (h:g_ref10_usable r_0=some r):AFun Tryz.prog I 166 [T_api_Region.d r_0] (.bool r):=by
 have dd:=dd_EJ;have k:=True.intro;have q:=k;have rs:=Tryz.results166
 unfold g_ref10_usable at h
 refine .en hI Tryz.func166 Tryz.ntmps166 ?_
 refine xs<|rz ?_
 refine es<|xs<|rD hI fun K9 RK9 hK9 gK9=>zz ?_
 obtain⟨r10,h11,h⟩:=bs h
 refine cd (a_ref10_Check hI h11)<|zz ?_
 rcases iK k h with⟨k,h⟩|⟨k,h⟩
 ·refine zz ?_
  subst hK9 gK9
  refine es<|xr ?_
  cases h
  exact en fr
 ·refine zz ?_
  obtain⟨r13,h14,h⟩:=bs h
  refine cd (a_ref10_Default hI h14)<|zz ?_
  subst hK9 gK9
  refine es<|xr ?_
  cases h
  exact en fr
def g_ref10_Place_s1 (r_0:T_api_Region) (lens_1:List Int) (x19:(List T_api_Spot) × Int):Option (Nx ((List T_api_Spot) × Int) (Int ⊕ ((List T_api_Spot)))) :=
 (if(decide (x19.2 < (lens_1.length:Int))) then((((atI lens_1 x19.2).bind fun y453=>(if(decide (y453 < 0)) then(some (.out 2)) else(if(decide (r_0.Width < y453)) then(some (.out 11)) else(if r_0.Bottom then(if(r_0.Align == 3) then(if(x19.1.length+1) * 24≤140737488355328 then(some (.go (x19.1++[(T_api_Spot.mk (IntKind.i64.wrap ((IntKind.i64.wrap (r_0.Top+x19.2))+(IntKind.i64.wrap (r_0.Height - (lens_1.length:Int))))) (IntKind.i64.wrap (r_0.Left+(IntKind.i64.wrap (r_0.Width - y453)))) y453)]))) else none) else(if(r_0.Align == 2) then(if(x19.1.length+1) * 24≤140737488355328 then(some (.go (x19.1++[(T_api_Spot.mk (IntKind.i64.wrap ((IntKind.i64.wrap (r_0.Top+x19.2))+(IntKind.i64.wrap (r_0.Height - (lens_1.length:Int))))) (IntKind.i64.wrap (r_0.Left+(IntKind.i64.wrap (Int.tdiv (IntKind.i64.wrap (r_0.Width - y453)) 2)))) y453)]))) else none) else(if(x19.1.length+1) * 24≤140737488355328 then(some (.go (x19.1++[(T_api_Spot.mk (IntKind.i64.wrap ((IntKind.i64.wrap (r_0.Top+x19.2))+(IntKind.i64.wrap (r_0.Height - (lens_1.length:Int))))) r_0.Left y453)]))) else none))) else(if(r_0.Align == 3) then(if(x19.1.length+1) * 24≤140737488355328 then(some (.go (x19.1++[(T_api_Spot.mk (IntKind.i64.wrap (r_0.Top+x19.2)) (IntKind.i64.wrap (r_0.Left+(IntKind.i64.wrap (r_0.Width - y453)))) y453)]))) else none) else(if(r_0.Align == 2) then(if(x19.1.length+1) * 24≤140737488355328 then(some (.go (x19.1++[(T_api_Spot.mk (IntKind.i64.wrap (r_0.Top+x19.2)) (IntKind.i64.wrap (r_0.Left+(IntKind.i64.wrap (Int.tdiv (IntKind.i64.wrap (r_0.Width - y453)) 2)))) y453)]))) else none) else(if(x19.1.length+1) * 24≤140737488355328 then(some (.go (x19.1++[(T_api_Spot.mk (IntKind.i64.wrap (r_0.Top+x19.2)) r_0.Left y453)]))) else none))))))):Option (Nx ((List T_api_Spot)) (Int))).bind fun w510=>match w510 with|.go v448=>(some (.go (v448,(IntKind.i64.wrap (x19.2+1)))))|.out e511=>(some (.out (.inl e511)))) else(some (.out (.inr x19.1))))
def g_ref10_Place (r_0:T_api_Region) (lens_1:List Int):Option ((List T_api_Spot) × Int) :=
 ((g_ref10_usable r_0).bind fun r7=>(if r7 then(if(decide (r_0.Height < (lens_1.length:Int))) then(some ([],9)) else((iter (g_ref10_Place_s1 r_0 lens_1) ([],0)).bind fun e20=>(match e20 with|Sum.inl e20=>(some ([],e20))|Sum.inr (e20)=>(some (e20,0))))) else(some ([],1))))
theorem a_ref10_Place {I:World→Prop} (hI:Stab I) {r_0:T_api_Region} {lens_1:List Int} {r:(List T_api_Spot) × Int} (h:g_ref10_Place r_0 lens_1=some r):AFun Tryz.prog I 138 [T_api_Region.d r_0,.sl (lens_1.map (D.int .i64))] (.tup [.sl (r.1.map T_api_Spot.d),.int .i64 r.2]):=by
 have dd:=dd_EJ;have k:=True.intro;have q:=k;have rs:=Tryz.results138
 unfold g_ref10_Place at h
 refine .en hI Tryz.func138 Tryz.ntmps138 ?_
 refine xs<|rz ?_
 refine es<|xs<|xs<|rK fun K6 RK6 hK6 gK6=>zz ?_
 obtain⟨r7,h8,h⟩:=bs h
 refine cw (a_ref10_usable hI h8)<|zz ?_
 subst hK6 gK6
 refine es ?_
 rcases iK k h with⟨k,h⟩|⟨k,h⟩
 ·refine xf<|xk<|es<|xs<|xs<|rz ?_
  refine es ?_
  rcases iK k h with⟨k,h⟩|⟨k,h⟩
  ·refine xt<|xs<|rz ?_
   refine es<|xr<|er ?_
   cases h
   exact en fr
  ·refine xf<|xk<|es<|xs<|rz ?_
   refine es<|xs<|xs<|rz ?_
   refine es<|xb ?_
   obtain⟨e20,h513,h⟩:=bs h
   refine rb_loop (fun x19=>⟨envL [(1,.sl (lens_1.map (D.int .i64))),(2,.ptr 0 0),(6,.own 1 x19.1.length),(18,.sl (lens_1.map (D.int .i64))),(19,.int .i64 (lens_1.length:Int)),(20,.int .i64 x19.2)],heapL [(0,.box none [.str r_0.Name,.int .i64 r_0.Top,.int .i64 r_0.Height,.int .i64 r_0.Left,.int .i64 r_0.Width,.int .u8 r_0.Align,.bool r_0.Bottom]),(1,.vec 194 3 (x19.1.map T_api_Spot.d) false)],2,79⟩) (fun w=>match w with|Sum.inl _=>.ret|Sum.inr (_)=>.exit 0) (fun w=>match w with|Sum.inl e20=>⟨envL [(4,.nils),(5,.int .i64 e20)],heapL [],0,79⟩|Sum.inr (e20)=>⟨envL [(6,.own 0 e20.length)],heapL [(0,.vec 194 3 (e20.map T_api_Spot.d) false)],1,79⟩) h513 (wk [(1,none)]) (by intro w;rcases w with w|w<;>simp) ?_ ?_
   ·clear h
    intro x19 y h
    unfold g_ref10_Place_s1 at h
    refine xs<|rz ?_
    refine es<|xs ?_
    rcases iK k h with⟨k,h⟩|⟨k,h⟩
    ·refine xt<|xk<|es ?_
     obtain⟨w510,h509,h⟩:=bs h
     refine rb_seg (fun v448=>⟨envL [(1,.sl (lens_1.map (D.int .i64))),(2,.ptr 0 0),(6,.own 1 v448.length),(18,.sl (lens_1.map (D.int .i64))),(19,.int .i64 (lens_1.length:Int)),(20,.int .i64 x19.2)],heapL [(0,.box none [.str r_0.Name,.int .i64 r_0.Top,.int .i64 r_0.Height,.int .i64 r_0.Left,.int .i64 r_0.Width,.int .u8 r_0.Align,.bool r_0.Bottom]),(1,.vec 194 3 (v448.map T_api_Spot.d) false)],2,79⟩) (fun _=>.ret) (fun e511=>⟨envL [(4,.nils),(5,.int .i64 e511)],heapL [],0,79⟩) h509 (by intro w;simp) ?_ ?_ ?_
     ·clear h
      intro w510 h
      refine xb<|xs<|rK fun K452 RK452 hK452 gK452=>zz ?_
      obtain⟨y453,q,h⟩:=bK q h
      refine zz ?_
      subst hK452 gK452
      refine es<|xs<|xs<|rz ?_
      refine es ?_
      rcases iK k h with⟨k,h⟩|⟨k,h⟩
      ·refine xt<|xs<|rz ?_
       refine es<|xr<|er<|br ?_
       cases h
       exact en ⟨rfl,wk []⟩
      ·refine xf<|xk<|es<|xs<|xs<|rz ?_
       refine es ?_
       rcases iK k h with⟨k,h⟩|⟨k,h⟩
       ·refine xt<|xs<|rz ?_
        refine es<|xr<|er<|br ?_
        cases h
        exact en ⟨rfl,wk []⟩
       ·refine xf<|xk<|es<|xs<|rz ?_
        refine es<|xs<|xs<|rz ?_
        refine es ?_
        rcases iK k h with⟨k,h⟩|⟨k,h⟩
        ·refine xt<|rz ?_
         refine es<|xs<|xs<|rz ?_
         refine es<|xb<|xs<|rz ?_
         refine es ?_
         rcases iK k h with⟨k,h⟩|⟨k,h⟩
         ·refine xt<|rz ?_
          refine bn<|es<|rK fun K477 RK477 hK477 gK477=>zz ?_
          obtain⟨h478,h⟩:=ite_on h
          have h479:x19.1.length+1≤9223372036854775807:=by omega
          try simp only[Nat.reduceLeDiff] at h479
          have q:=And.intro @h479<|And.intro @h478<|q
          refine zz ?_
          subst hK477 gK477
          refine bn ?_
          cases h
          exact en ⟨rfl,wk [(1,some 52)]⟩
         ·refine xf<|xs<|rz ?_
          refine es ?_
          rcases iK k h with⟨k,h⟩|⟨k,h⟩
          ·refine xt<|rz ?_
           refine bn<|es<|rK fun K484 RK484 hK484 gK484=>zz ?_
           obtain⟨h485,h⟩:=ite_on h
           have h486:x19.1.length+1≤9223372036854775807:=by omega
           try simp only[Nat.reduceLeDiff] at h486
           have q:=And.intro @h486<|And.intro @h485<|q
           refine zz ?_
           subst hK484 gK484
           refine bn ?_
           cases h
           exact en ⟨rfl,wk [(1,some 55)]⟩
          ·refine xf<|xk<|bn<|es<|rK fun K487 RK487 hK487 gK487=>zz ?_
           obtain⟨h488,h⟩:=ite_on h
           have h489:x19.1.length+1≤9223372036854775807:=by omega
           try simp only[Nat.reduceLeDiff] at h489
           have q:=And.intro @h489<|And.intro @h488<|q
           refine zz ?_
           subst hK487 gK487
           refine bn ?_
           cases h
           exact en ⟨rfl,wk [(1,some 45)]⟩
        ·refine xf<|xk<|es<|xs<|xs<|rz ?_
         refine es<|xb<|xs<|rz ?_
         refine es ?_
         rcases iK k h with⟨k,h⟩|⟨k,h⟩
         ·refine xt<|rz ?_
          refine bn<|es<|rK fun K496 RK496 hK496 gK496=>zz ?_
          obtain⟨h497,h⟩:=ite_on h
          have h498:x19.1.length+1≤9223372036854775807:=by omega
          try simp only[Nat.reduceLeDiff] at h498
          have q:=And.intro @h498<|And.intro @h497<|q
          refine zz ?_
          subst hK496 gK496
          refine bn ?_
          cases h
          exact en ⟨rfl,wk [(1,some 42)]⟩
         ·refine xf<|xs<|rz ?_
          refine es ?_
          rcases iK k h with⟨k,h⟩|⟨k,h⟩
          ·refine xt<|rz ?_
           refine bn<|es<|rK fun K503 RK503 hK503 gK503=>zz ?_
           obtain⟨h504,h⟩:=ite_on h
           have h505:x19.1.length+1≤9223372036854775807:=by omega
           try simp only[Nat.reduceLeDiff] at h505
           have q:=And.intro @h505<|And.intro @h504<|q
           refine zz ?_
           subst hK503 gK503
           refine bn ?_
           cases h
           exact en ⟨rfl,wk [(1,some 45)]⟩
          ·refine xf<|xk<|bn<|es<|rK fun K506 RK506 hK506 gK506=>zz ?_
           obtain⟨h507,h⟩:=ite_on h
           have h508:x19.1.length+1≤9223372036854775807:=by omega
           try simp only[Nat.reduceLeDiff] at h508
           have q:=And.intro @h508<|And.intro @h507<|q
           refine zz ?_
           subst hK506 gK506
           refine bn ?_
           cases h
           exact en ⟨rfl,wk [(1,some 35)]⟩
     ·rintro v448 rfl
      dsimp only at h
      refine rz ?_
      cases h
      exact en ⟨rfl,wk []⟩
     ·rintro e511 rfl
      dsimp only at h
      cases h
      exact en ⟨rfl,wk []⟩
    ·refine xf<|xx<|ee ?_
     cases h
     exact en ⟨rfl,wk [(0,some 1)]⟩
   ·rcases e20 with e20|e20
    ·try dsimp only at h ⊢
     refine br<|er ?_
     cases h
     exact en fr
    ·try dsimp only at h ⊢
     refine bh<|es<|xs<|rz ?_
     refine es<|xr ?_
     cases h
     exact en fr
 ·refine xt<|xs<|rz ?_
  refine es<|xr<|er ?_
  cases h
  exact en fr
def g_ref11_Check_s1 (e_0:T_api_Event) (x98:(List Int) × Int):Option (Nx ((List Int) × Int) (Int ⊕ ((List Int)))) :=
 (if(decide (x98.2 < (e_0.Rows.length:Int))) then((atI e_0.Rows x98.2).bind fun y425=>((g_ref09_Check y425).bind fun r431=>(if(r431 != 0) then(some (.out (.inl r431))) else((g_ref09_Plain y425).bind fun r444=>((g_ref11_neat r444).bind fun r446=>(if r446 then((g_ref09_Len y425).bind fun r453=>(if(decide (32 < r453)) then(some (.out (.inl 11))) else((g_ref09_Len y425).bind fun r459=>(if(x98.1.length+1) * 8≤140737488355328 then(some (.go ((x98.1++[r459]),(IntKind.i64.wrap (x98.2+1))))) else none)))) else(some (.out (.inl 4))))))))) else(some (.out (.inr x98.1))))
def g_ref11_Check (e_0:T_api_Event) (regions_1:List T_api_Region):Option (Int) :=
 (((if(decide (e_0.ID < 1)) then(some true) else(if(decide (1099511627776 < e_0.ID)) then(some true) else((g_ref11_spanned e_0.Span).bind fun r12=>(some (!r12))))):Option (Bool)).bind fun v8=>(if v8 then(some 2) else((g_ref10_Find regions_1 e_0.Region).bind fun r22=>(if r22.2 then(((if(decide (e_0.Kind < 1)) then(some true) else(some (decide (4 < e_0.Kind)))):Option (Bool)).bind fun v65=>(if v65 then(some 3) else(((if(e_0.Speaker == ([]:List UInt8)) then(some false) else((g_ref07_Name e_0.Speaker).bind fun r79=>(some (!r79)))):Option (Bool)).bind fun v76=>(if v76 then(some 5) else(((if((e_0.Rows.length:Int) == 0) then(some true) else(some (decide (4 < (e_0.Rows.length:Int))))):Option (Bool)).bind fun v87=>(if v87 then(some 9) else((iter (g_ref11_Check_s1 e_0) ([],0)).bind fun e99=>(match e99 with|Sum.inl e99=>(some e99)|Sum.inr (e99)=>((g_ref10_Place r22.1 e99).bind fun r471=>(some r471.2)))))))))) else(some 6)))))
theorem a_ref11_Check {I:World→Prop} (hI:Stab I) {e_0:T_api_Event} {regions_1:List T_api_Region} {r:Int} (h:g_ref11_Check e_0 regions_1=some r):AFun Tryz.prog I 94 [T_api_Event.d e_0,.sl (regions_1.map T_api_Region.d)] (.int .i64 r):=by
 have dd:=dd_EJ;have k:=True.intro;have q:=k;have rs:=Tryz.results94
 unfold g_ref11_Check at h
 refine .en hI Tryz.func94 Tryz.ntmps94 ?_
 refine xs<|rz ?_
 refine es<|xs ?_
 obtain⟨v8,h14,h⟩:=bs h
 refine rb_cut (fun v8=>⟨envL [(1,.sl (regions_1.map T_api_Region.d)),(2,.ptr 0 0),(26,.bool v8)],heapL [(0,.box none [.int .i64 e_0.ID,.int .i64 e_0.Span.In,.int .i64 e_0.Span.Out,.str e_0.Region,.int .u8 e_0.Kind,.str e_0.Speaker,.sl (e_0.Rows.map T_api_Row.d)])],1,99⟩) h14 ?_ ?_
 ·clear h
  intro v8 h
  refine rK fun K9 RK9 hK9 gK9=>zz ?_
  rcases iK k h with⟨k,h⟩|⟨k,h⟩
  ·refine zz ?_
   subst hK9 gK9
   cases h
   exact en ⟨rfl,wk []⟩
  ·refine zz ?_
   rcases iK k h with⟨k,h⟩|⟨k,h⟩
   ·refine zz ?_
    subst hK9 gK9
    cases h
    exact en ⟨rfl,wk []⟩
   ·refine zz ?_
    obtain⟨r12,h13,h⟩:=bs h
    refine cw (a_ref11_spanned hI h13)<|zz ?_
    subst hK9 gK9
    cases h
    exact en ⟨rfl,wk []⟩
 ·rcases iK k h with⟨k,h⟩|⟨k,h⟩
  ·refine xt<|xs<|rz ?_
   refine es<|xr<|er ?_
   cases h
   exact en fr
  ·refine xf<|xk<|es<|xs<|rK fun K21 RK21 hK21 gK21=>zz ?_
   obtain⟨r22,h23,h⟩:=bs h
   refine cw (a_ref10_Find hI h23)<|zz ?_
   subst hK21 gK21
   refine es<|xs<|xb<|xs<|rz ?_
   refine es ?_
   rcases iK k h with⟨k,h⟩|⟨k,h⟩
   ·refine xf ?_
    obtain⟨v65,h68,h⟩:=bs h
    refine rb_cut (fun v65=>⟨envL [(2,.ptr 0 0),(5,.ptr 1 0),(37,.bool v65)],heapL [(0,.box none [.int .i64 e_0.ID,.int .i64 e_0.Span.In,.int .i64 e_0.Span.Out,.str e_0.Region,.int .u8 e_0.Kind,.str e_0.Speaker,.sl (e_0.Rows.map T_api_Row.d)]),(1,.box none [.str r22.1.Name,.int .i64 r22.1.Top,.int .i64 r22.1.Height,.int .i64 r22.1.Left,.int .i64 r22.1.Width,.int .u8 r22.1.Align,.bool r22.1.Bottom])],2,99⟩) h68 ?_ ?_
    ·clear h
     intro v65 h
     refine rK fun K66 RK66 hK66 gK66=>zz ?_
     rcases iK k h with⟨k,h⟩|⟨k,h⟩
     ·refine zz ?_
      subst hK66 gK66
      cases h
      exact en ⟨rfl,wk [(1,some 8)]⟩
     ·refine zz ?_
      subst hK66 gK66
      cases h
      exact en ⟨rfl,wk [(1,some 8)]⟩
    ·rcases iK k h with⟨k,h⟩|⟨k,h⟩
     ·refine xt<|xs<|rz ?_
      refine es<|xr<|br<|er ?_
      cases h
      exact en fr
     ·refine xf ?_
      obtain⟨v76,h81,h⟩:=bs h
      refine rb_cut (fun v76=>⟨envL [(2,.ptr 0 0),(5,.ptr 1 0),(46,.bool v76)],heapL [(0,.box none [.int .i64 e_0.ID,.int .i64 e_0.Span.In,.int .i64 e_0.Span.Out,.str e_0.Region,.int .u8 e_0.Kind,.str e_0.Speaker,.sl (e_0.Rows.map T_api_Row.d)]),(1,.box none [.str r22.1.Name,.int .i64 r22.1.Top,.int .i64 r22.1.Height,.int .i64 r22.1.Left,.int .i64 r22.1.Width,.int .u8 r22.1.Align,.bool r22.1.Bottom])],2,99⟩) h81 ?_ ?_
      ·clear h
       intro v76 h
       refine rK fun K77 RK77 hK77 gK77=>zz ?_
       rcases iK k h with⟨k,h⟩|⟨k,h⟩
       ·refine zz ?_
        subst hK77 gK77
        cases h
        exact en ⟨rfl,wk []⟩
       ·refine zz ?_
        obtain⟨r79,h80,h⟩:=bs h
        refine cw (a_ref07_Name hI h80)<|zz ?_
        subst hK77 gK77
        cases h
        exact en ⟨rfl,wk []⟩
      ·rcases iK k h with⟨k,h⟩|⟨k,h⟩
       ·refine xt<|xs<|rz ?_
        refine es<|xr<|br<|er ?_
        cases h
        exact en fr
       ·refine xf ?_
        obtain⟨v87,h90,h⟩:=bs h
        refine rb_cut (fun v87=>⟨envL [(2,.ptr 0 0),(5,.ptr 1 0),(56,.bool v87)],heapL [(0,.box none [.int .i64 e_0.ID,.int .i64 e_0.Span.In,.int .i64 e_0.Span.Out,.str e_0.Region,.int .u8 e_0.Kind,.str e_0.Speaker,.sl (e_0.Rows.map T_api_Row.d)]),(1,.box none [.str r22.1.Name,.int .i64 r22.1.Top,.int .i64 r22.1.Height,.int .i64 r22.1.Left,.int .i64 r22.1.Width,.int .u8 r22.1.Align,.bool r22.1.Bottom])],2,99⟩) h90 ?_ ?_
        ·clear h
         intro v87 h
         refine rK fun K88 RK88 hK88 gK88=>zz ?_
         rcases iK k h with⟨k,h⟩|⟨k,h⟩
         ·refine zz ?_
          subst hK88 gK88
          cases h
          exact en ⟨rfl,wk []⟩
         ·refine zz ?_
          subst hK88 gK88
          cases h
          exact en ⟨rfl,wk []⟩
        ·rcases iK k h with⟨k,h⟩|⟨k,h⟩
         ·refine xt<|xs<|rz ?_
          refine es<|xr<|br<|er ?_
          cases h
          exact en fr
         ·refine xf<|xk<|bn<|es<|xs<|rz ?_
          refine es<|xs<|xs<|rz ?_
          refine es<|xb ?_
          obtain⟨e99,h466,h⟩:=bs h
          refine rb_loop (fun x98=>⟨envL [(5,.ptr 0 0),(7,.own 1 x98.1.length),(68,.sl (e_0.Rows.map T_api_Row.d)),(69,.int .i64 (e_0.Rows.length:Int)),(70,.int .i64 x98.2)],heapL [(0,.box none [.str r22.1.Name,.int .i64 r22.1.Top,.int .i64 r22.1.Height,.int .i64 r22.1.Left,.int .i64 r22.1.Width,.int .u8 r22.1.Align,.bool r22.1.Bottom]),(1,.vec 3 1 (x98.1.map (D.int .i64)) false)],2,99⟩) (fun w=>match w with|Sum.inl _=>.ret|Sum.inr (_)=>.exit 1) (fun w=>match w with|Sum.inl e99=>⟨envL [(4,.int .i64 e99)],heapL [],0,99⟩|Sum.inr (e99)=>⟨envL [(5,.ptr 0 0),(7,.own 1 e99.length)],heapL [(0,.box none [.str r22.1.Name,.int .i64 r22.1.Top,.int .i64 r22.1.Height,.int .i64 r22.1.Left,.int .i64 r22.1.Width,.int .u8 r22.1.Align,.bool r22.1.Bottom]),(1,.vec 3 1 (e99.map (D.int .i64)) false)],2,99⟩) h466 (wk [(0,some 1),(1,none)]) (by intro w;rcases w with w|w<;>simp) ?_ ?_
          ·clear h
           intro x98 y h
           unfold g_ref11_Check_s1 at h
           refine xs<|rz ?_
           refine es<|xs ?_
           rcases iK k h with⟨k,h⟩|⟨k,h⟩
           ·refine xt<|xk<|es<|xs<|xb<|xs<|rK fun K424 RK424 hK424 gK424=>zz ?_
            obtain⟨y425,q,h⟩:=bK q h
            refine zz ?_
            subst hK424 gK424
            refine es<|xs<|xs<|rK fun K430 RK430 hK430 gK430=>zz ?_
            obtain⟨r431,h432,h⟩:=bs h
            refine cw (a_ref09_Check hI h432)<|zz ?_
            subst hK430 gK430
            refine es<|xs<|rz ?_
            refine es ?_
            rcases iK k h with⟨k,h⟩|⟨k,h⟩
            ·refine xt<|xs<|rz ?_
             refine es<|xr<|er<|br<|er ?_
             cases h
             exact en ⟨rfl,wk []⟩
            ·refine xf<|xk<|es<|xs<|xs<|rK fun K443 RK443 hK443 gK443=>zz ?_
             obtain⟨r444,h445,h⟩:=bs h
             refine cw (a_ref09_Plain hI h445)<|zz ?_
             obtain⟨r446,h447,h⟩:=bs h
             refine cw (a_ref11_neat hI h447)<|zz ?_
             subst hK443 gK443
             refine es ?_
             rcases iK k h with⟨k,h⟩|⟨k,h⟩
             ·refine xf<|xk<|es<|xs<|xs<|rK fun K452 RK452 hK452 gK452=>zz ?_
              obtain⟨r453,h454,h⟩:=bs h
              refine cw (a_ref09_Len hI h454)<|zz ?_
              subst hK452 gK452
              refine es ?_
              rcases iK k h with⟨k,h⟩|⟨k,h⟩
              ·refine xt<|xs<|rz ?_
               refine es<|xr<|er<|br<|er ?_
               cases h
               exact en ⟨rfl,wk []⟩
              ·refine xf<|xk<|es<|rK fun K458 RK458 hK458 gK458=>zz ?_
               obtain⟨r459,h460,h⟩:=bs h
               refine cw (a_ref09_Len hI h460)<|zz ?_
               obtain⟨h461,h⟩:=ite_on h
               have h462:x98.1.length+1≤9223372036854775807:=by omega
               try simp only[Nat.reduceLeDiff] at h462
               have q:=And.intro @h462<|And.intro @h461<|q
               refine zz ?_
               subst hK458 gK458
               refine bn<|es<|rz ?_
               cases h
               exact en ⟨rfl,wk [(1,some 23)]⟩
             ·refine xt<|xs<|rz ?_
              refine es<|xr<|er<|br<|er ?_
              cases h
              exact en ⟨rfl,wk []⟩
           ·refine xf<|xx<|ee ?_
            cases h
            exact en ⟨rfl,wk []⟩
          ·rcases e99 with e99|e99
           ·try dsimp only at h ⊢
            refine br<|er ?_
            cases h
            exact en fr
           ·try dsimp only at h ⊢
            refine bh<|es<|xs<|rK fun K470 RK470 hK470 gK470=>zz ?_
            obtain⟨r471,h472,h⟩:=bs h
            refine cw (a_ref10_Place hI h472)<|zz ?_
            subst hK470 gK470
            refine es<|xs<|rz ?_
            refine es<|xr ?_
            cases h
            exact en fr
   ·refine xt<|xs<|rz ?_
    refine es<|xr<|br<|er ?_
    cases h
    exact en fr
def g_ref11_Less (a_0:T_api_Event) (b_1:T_api_Event):Option (Bool) :=
 (if(decide (a_0.Span.In < b_1.Span.In)) then(some true) else(if(a_0.Span.In == b_1.Span.In) then(some (decide (a_0.ID < b_1.ID))) else(some false)))
theorem a_ref11_Less {I:World→Prop} (hI:Stab I) {a_0:T_api_Event} {b_1:T_api_Event} {r:Bool} (h:g_ref11_Less a_0 b_1=some r):AFun Tryz.prog I 95 [T_api_Event.d a_0,T_api_Event.d b_1] (.bool r):=by
 have dd:=dd_EJ;have k:=True.intro;have q:=k;have rs:=Tryz.results95
 unfold g_ref11_Less at h
 refine .en hI Tryz.func95 Tryz.ntmps95 ?_
 refine xs<|rz ?_
 refine es<|xs<|rK fun K6 RK6 hK6 gK6=>zz ?_
 rcases iK k h with⟨k,h⟩|⟨k,h⟩
 ·refine zz ?_
  subst hK6 gK6
  refine es<|xr ?_
  cases h
  exact en fr
 ·refine zz ?_
  rcases iK k h with⟨k,h⟩|⟨k,h⟩
  ·refine zz ?_
   subst hK6 gK6
   refine es<|xr ?_
   cases h
   exact en fr
  ·refine zz ?_
   subst hK6 gK6
   refine es<|xr ?_
   cases h
   exact en fr
def g_ref12_Find_s1 (d_0:T_api_Document) (id_1:Int) (x5:Int):Option (Nx (Int) (Int ⊕ Unit)) :=
 (if(decide (x5 < (d_0.Events.length:Int))) then((atI d_0.Events x5).bind fun y53=>(if(y53.ID == id_1) then(some (.out (.inl x5))) else(some (.go (IntKind.i64.wrap (x5+1)))))) else(some (.out (.inr ()))))
def g_ref12_Find (d_0:T_api_Document) (id_1:Int):Option (Int) :=
 ((iter (g_ref12_Find_s1 d_0 id_1) 0).bind fun e6=>(match e6 with|Sum.inl e6=>(some e6)|Sum.inr (e6)=>(some (-1))))
theorem a_ref12_Find {I:World→Prop} (hI:Stab I) {d_0:T_api_Document} {id_1:Int} {r:Int} (h:g_ref12_Find d_0 id_1=some r):AFun Tryz.prog I 51 [T_api_Document.d d_0,.int .i64 id_1] (.int .i64 r):=by
 have dd:=dd_EJ;have k:=True.intro;have q:=k;have rs:=Tryz.results51
 unfold g_ref12_Find at h
 refine .en hI Tryz.func51 Tryz.ntmps51 ?_
 refine xs<|rz ?_
 refine es<|xs<|xs<|rz ?_
 refine es<|xb ?_
 obtain⟨e6,h61,h⟩:=bs h
 refine rb_loop (fun x5=>⟨envL [(1,.int .i64 id_1),(8,.sl (d_0.Events.map T_api_Event.d)),(9,.int .i64 (d_0.Events.length:Int)),(10,.int .i64 x5)],heapL [],0,21⟩) (fun w=>match w with|Sum.inl _=>.ret|Sum.inr (_)=>.exit 0) (fun w=>match w with|Sum.inl e6=>⟨envL [(4,.int .i64 e6)],heapL [],0,21⟩|Sum.inr (e6)=>⟨envL [],heapL [],0,21⟩) h61 (wk []) (by intro w;rcases w with w|w<;>simp) ?_ ?_
 ·clear h
  intro x5 y h
  unfold g_ref12_Find_s1 at h
  refine xs<|rz ?_
  refine es<|xs ?_
  rcases iK k h with⟨k,h⟩|⟨k,h⟩
  ·refine xt<|xk<|es<|xs<|xb<|xs<|rK fun K52 RK52 hK52 gK52=>zz ?_
   obtain⟨y53,q,h⟩:=bK q h
   refine zz ?_
   subst hK52 gK52
   refine es<|xs<|rz ?_
   refine es ?_
   rcases iK k h with⟨k,h⟩|⟨k,h⟩
   ·refine xt<|xs<|rz ?_
    refine es<|xr<|br<|er ?_
    cases h
    exact en ⟨rfl,wk []⟩
   ·refine xf<|xk<|bn<|es<|rz ?_
    cases h
    exact en ⟨rfl,wk []⟩
  ·refine xf<|xx<|ee ?_
   cases h
   exact en ⟨rfl,wk []⟩
 ·rcases e6 with e6|e6
  ·try dsimp only at h ⊢
   refine br<|er ?_
   cases h
   exact en fr
  ·try dsimp only at h ⊢
   refine bh<|es<|xs<|rz ?_
   refine es<|xr ?_
   cases h
   exact en fr
def g_ref12_Find_ro_s1 (d_0:T_api_Document) (id_1:Int) (x5:Int):Option (Nx (Int) (Int ⊕ Unit)) :=
 (if(decide (x5 < ((d_0.Events.length:Nat):Int))) then((atI d_0.Events x5).bind fun y69=>(if(y69.ID == id_1) then(some (.out (.inl x5))) else(some (.go (IntKind.i64.wrap (x5+1)))))) else(some (.out (.inr ()))))
def g_ref12_Find_ro (d_0:T_api_Document) (id_1:Int):Option (Int) :=
 ((iter (g_ref12_Find_ro_s1 d_0 id_1) 0).bind fun e6=>(match e6 with|Sum.inl e6=>(some e6)|Sum.inr (e6)=>(some (-1))))
theorem a_ref12_Find_ro0 {I:World→Prop} (hI:Stab I) {H:Nat→Option Blk} {nid i0:Nat} {pn:Option Value} {d_0:T_api_Document} {id_1:Int} {r:Int} (h:g_ref12_Find_ro d_0 id_1=some r) (b0:H i0=some (rowB pn 64 7 (d_0.Events.map T_api_Event.d))):CallOK Tryz.prog I 51 [.agg [.str d_0.Title,.str d_0.Lang,.int .u8 d_0.Rate,.bool d_0.Drop,.int .i64 d_0.Last,.sl (d_0.Regions.map T_api_Region.d),.own i0 d_0.Events.length,.sl (d_0.Comments.map T_api_Comment.d)],.int .i64 id_1] H nid (.int .i64 r) []:=by
 refine CallOK.ro (eff:=[(i0,some (rowB pn 64 7 (d_0.Events.map T_api_Event.d)))]) (CallOK.inrow (i0:=i0) (ds0:=[.agg [.str d_0.Title,.str d_0.Lang,.int .u8 d_0.Rate,.bool d_0.Drop,.int .i64 d_0.Last,.sl (d_0.Regions.map T_api_Region.d),.own 0 d_0.Events.length,.sl (d_0.Comments.map T_api_Comment.d)],.int .i64 id_1]) hI Tryz.func51 rfl (by decide) (by simp[Tryz.f51]) (by kernel_rfl) rfl rfl b0 fun uv=>?_) (ro1 b0)
 have dd:=dd_EJ;have k:=True.intro;have q:=k;have rs:=Tryz.results51
 unfold g_ref12_Find_ro at h
 simp only[List.length_cons,List.length_nil,Nat.zero_add,Nat.reduceAdd,Tryz.ntmps51,dd]
 refine xs<|rz ?_
 refine es<|xs<|xs<|rz ?_
 refine es<|xb ?_
 obtain⟨e6,h76,h⟩:=bs h
 refine rb_loop (fun x5=>⟨envL [(0,.agg [.str d_0.Title,.str d_0.Lang,.int .u8 d_0.Rate,.bool d_0.Drop,.int .i64 d_0.Last,.sl (d_0.Regions.map T_api_Region.d),.own 0 d_0.Events.length,.sl (d_0.Comments.map T_api_Comment.d)]),(1,.int .i64 id_1),(8,.own 0 d_0.Events.length),(9,.int .i64 ((d_0.Events.length:Nat):Int)),(10,.int .i64 x5)],heapL [(0,.lrow uv 64 7 (d_0.Events.map T_api_Event.d))],1,21⟩) (fun w=>match w with|Sum.inl _=>.ret|Sum.inr (_)=>.exit 0) (fun w=>match w with|Sum.inl e6=>⟨envL [(0,.agg [.str d_0.Title,.str d_0.Lang,.int .u8 d_0.Rate,.bool d_0.Drop,.int .i64 d_0.Last,.sl (d_0.Regions.map T_api_Region.d),.own 0 d_0.Events.length,.sl (d_0.Comments.map T_api_Comment.d)]),(4,.int .i64 e6)],heapL [(0,.lrow uv 64 7 (d_0.Events.map T_api_Event.d))],1,21⟩|Sum.inr (e6)=>⟨envL [(0,.agg [.str d_0.Title,.str d_0.Lang,.int .u8 d_0.Rate,.bool d_0.Drop,.int .i64 d_0.Last,.sl (d_0.Regions.map T_api_Region.d),.own 0 d_0.Events.length,.sl (d_0.Comments.map T_api_Comment.d)])],heapL [(0,.lrow uv 64 7 (d_0.Events.map T_api_Event.d))],1,21⟩) h76 (wk []) (by intro w;rcases w with w|w<;>simp) ?_ ?_
 ·clear h
  intro x5 y h
  unfold g_ref12_Find_ro_s1 at h
  refine xs<|rz ?_
  refine es<|xs ?_
  rcases iK k h with⟨k,h⟩|⟨k,h⟩
  ·refine xt<|xk<|es<|xs<|xb<|xs<|rK fun K68 RK68 hK68 gK68=>zz ?_
   obtain⟨y69,q,h⟩:=oN q h
   refine zz ?_
   subst hK68 gK68
   refine es<|xs<|rz ?_
   refine es ?_
   rcases iK k h with⟨k,h⟩|⟨k,h⟩
   ·refine xt<|xs<|rz ?_
    refine es<|xr<|br<|er ?_
    cases h
    exact en ⟨rfl,wk []⟩
   ·refine xf<|xk<|bn<|es<|rz ?_
    cases h
    exact en ⟨rfl,wk []⟩
  ·refine xf<|xx<|ee ?_
   cases h
   exact en ⟨rfl,wk []⟩
 ·rcases e6 with e6|e6
  ·try dsimp only at h ⊢
   refine br<|er ?_
   cases h
   exact en (fI 0)
  ·try dsimp only at h ⊢
   refine bh<|es<|xs<|rz ?_
   refine es<|xr ?_
   cases h
   exact en (fI 0)
theorem a_ref12_Find_ro {I:World→Prop} (hI:Stab I) {H:Nat→Option Blk} {nid i0:Nat} {d_0:T_api_Document} {id_1:Int} {r:Int} (h:g_ref12_Find_ro d_0 id_1=some r) (b0:H i0=some (.vec 64 7 (d_0.Events.map T_api_Event.d) false)):CallOK Tryz.prog I 51 [.agg [.str d_0.Title,.str d_0.Lang,.int .u8 d_0.Rate,.bool d_0.Drop,.int .i64 d_0.Last,.sl (d_0.Regions.map T_api_Region.d),.own i0 d_0.Events.length,.sl (d_0.Comments.map T_api_Comment.d)],.int .i64 id_1] H nid (.int .i64 r) [] :=
 a_ref12_Find_ro0 hI (pn:=none) h b0
def g_ref11_Len_s1 (e_0:T_api_Event) (x7:Int × Int):Option (Nx (Int × Int) (Unit ⊕ Int)) :=
 (if(decide (x7.2 < (e_0.Rows.length:Int))) then((atI e_0.Rows x7.2).bind fun y92=>((g_ref09_Len y92).bind fun r98=>(if(decide (r98 < 0)) then(some (.out (.inl ()))) else(if(decide (0 < x7.2)) then(some (.go ((IntKind.i64.wrap ((IntKind.i64.wrap (x7.1+1))+r98)),(IntKind.i64.wrap (x7.2+1))))) else(some (.go ((IntKind.i64.wrap (x7.1+r98)),(IntKind.i64.wrap (x7.2+1))))))))) else(some (.out (.inr x7.1))))
def g_ref11_Len (e_0:T_api_Event):Option (Int) :=
 ((iter (g_ref11_Len_s1 e_0) (0,0)).bind fun e8=>(match e8 with|Sum.inl e8=>(some (-1))|Sum.inr (e8)=>(some e8)))
theorem a_ref11_Len {I:World→Prop} (hI:Stab I) {e_0:T_api_Event} {r:Int} (h:g_ref11_Len e_0=some r):AFun Tryz.prog I 139 [T_api_Event.d e_0] (.int .i64 r):=by
 have dd:=dd_EJ;have k:=True.intro;have q:=k;have rs:=Tryz.results139
 unfold g_ref11_Len at h
 refine .en hI Tryz.func139 Tryz.ntmps139 ?_
 refine xs<|rz ?_
 refine es<|xs<|rz ?_
 refine es<|xs<|xs<|rz ?_
 refine es<|xb ?_
 obtain⟨e8,h113,h⟩:=bs h
 refine rb_loop (fun x7=>⟨envL [(3,.int .i64 x7.1),(8,.sl (e_0.Rows.map T_api_Row.d)),(9,.int .i64 (e_0.Rows.length:Int)),(10,.int .i64 x7.2)],heapL [],0,28⟩) (fun w=>match w with|Sum.inl _=>.ret|Sum.inr (_)=>.exit 0) (fun w=>match w with|Sum.inl e8=>⟨envL [(2,.int .i64 (-1))],heapL [],0,28⟩|Sum.inr (e8)=>⟨envL [(3,.int .i64 e8)],heapL [],0,28⟩) h113 (wk []) (by intro w;rcases w with w|w<;>simp) ?_ ?_
 ·clear h
  intro x7 y h
  unfold g_ref11_Len_s1 at h
  refine xs<|rz ?_
  refine es<|xs ?_
  rcases iK k h with⟨k,h⟩|⟨k,h⟩
  ·refine xt<|xk<|es<|xs<|xb<|xs<|rK fun K91 RK91 hK91 gK91=>zz ?_
   obtain⟨y92,q,h⟩:=bK q h
   refine zz ?_
   subst hK91 gK91
   refine es<|xs<|rK fun K97 RK97 hK97 gK97=>zz ?_
   obtain⟨r98,h99,h⟩:=bs h
   refine cw (a_ref09_Len hI h99)<|zz ?_
   subst hK97 gK97
   refine es<|xs<|xs<|rz ?_
   refine es ?_
   rcases iK k h with⟨k,h⟩|⟨k,h⟩
   ·refine xt<|xs<|rz ?_
    refine es<|xr<|er<|br<|er ?_
    cases h
    exact en ⟨rfl,wk []⟩
   ·refine xf<|xk<|es<|xs<|xs<|rz ?_
    refine es ?_
    rcases iK k h with⟨k,h⟩|⟨k,h⟩
    ·refine xt<|rz ?_
     refine es<|rz ?_
     refine bn<|es<|rz ?_
     cases h
     exact en ⟨rfl,wk []⟩
    ·refine xf<|xk<|es<|rz ?_
     refine bn<|es<|rz ?_
     cases h
     exact en ⟨rfl,wk []⟩
  ·refine xf<|xx<|ee ?_
   cases h
   exact en ⟨rfl,wk []⟩
 ·rcases e8 with e8|e8
  ·try dsimp only at h ⊢
   refine br<|er ?_
   cases h
   exact en fr
  ·try dsimp only at h ⊢
   refine bh<|es<|xs<|rz ?_
   refine es<|xr ?_
   cases h
   exact en fr
def g_ref12_checkComment (d_0:T_api_Document) (i_1:Int):Option (Int) :=
 ((atI d_0.Comments i_1).bind fun y7=>(((if(decide (y7.ID < 1)) then(some true) else(some (decide (d_0.Last < y7.ID)))):Option (Bool)).bind fun v11=>(if v11 then(some 2) else(((if(decide (0 < i_1)) then((atI d_0.Comments (IntKind.i64.wrap (i_1 - 1))).bind fun y25=>(some (decide (y7.ID≤y25.ID)))) else(some false)):Option (Bool)).bind fun v22=>(if v22 then(some 8) else((g_ref12_Find d_0 y7.ID).bind fun r35=>(if(decide (0≤r35)) then(some 7) else(((if(decide (y7.Event < 1)) then(some true) else(some (decide (d_0.Last < y7.Event)))):Option (Bool)).bind fun v42=>(if v42 then(some 2) else(if y7.Lost then(((if(y7.From != 0) then(some true) else(some (y7.To != 0))):Option (Bool)).bind fun v54=>(if v54 then(some 2) else((g_ref07_Name y7.Author).bind fun r93=>(if r93 then((g_ref08_Valid y7.Text).bind fun r100=>(if r100 then(if(y7.Text == ([]:List UInt8)) then(some 4) else(if(decide (400 < (y7.Text.length:Int))) then(some 9) else(some 0))) else(some 10))) else(some 5))))) else((g_ref12_Find d_0 y7.Event).bind fun r123=>(if(decide (r123 < 0)) then(some 6) else(((if(decide (y7.From < 0)) then(some true) else(if(decide (y7.To≤y7.From)) then(some true) else((atI d_0.Events r123).bind fun y141=>((g_ref11_Len y141).bind fun r143=>(some (decide (r143 < y7.To))))))):Option (Bool)).bind fun v137=>(if v137 then(some 2) else((g_ref07_Name y7.Author).bind fun r181=>(if r181 then((g_ref08_Valid y7.Text).bind fun r188=>(if r188 then(if(y7.Text == ([]:List UInt8)) then(some 4) else(if(decide (400 < (y7.Text.length:Int))) then(some 9) else(some 0))) else(some 10))) else(some 5)))))))))))))))))
theorem a_ref12_checkComment {I:World→Prop} (hI:Stab I) {d_0:T_api_Document} {i_1:Int} {r:Int} (h:g_ref12_checkComment d_0 i_1=some r):AFun Tryz.prog I 96 [T_api_Document.d d_0,.int .i64 i_1] (.int .i64 r):=by
 have dd:=dd_EJ;have k:=True.intro;have q:=k;have rs:=Tryz.results96
 unfold g_ref12_checkComment at h
 refine .en hI Tryz.func96 Tryz.ntmps96 ?_
 refine xs<|rz ?_
 refine es<|xs<|rK fun K6 RK6 hK6 gK6=>zz ?_
 obtain⟨y7,q,h⟩:=bK q h
 refine zz ?_
 subst hK6 gK6
 refine es<|xs ?_
 obtain⟨v11,h14,h⟩:=bs h
 refine rb_cut (fun v11=>⟨envL [(1,.int .i64 i_1),(2,.ptr 0 0),(5,.ptr 1 0),(21,.bool v11)],heapL [(0,.box none [.str d_0.Title,.str d_0.Lang,.int .u8 d_0.Rate,.bool d_0.Drop,.int .i64 d_0.Last,.sl (d_0.Regions.map T_api_Region.d),.sl (d_0.Events.map T_api_Event.d),.sl (d_0.Comments.map T_api_Comment.d)]),(1,.box none [.int .i64 y7.ID,.int .i64 y7.Event,.int .i64 y7.From,.int .i64 y7.To,.str y7.Author,.str y7.Text,.bool y7.Done,.bool y7.Lost])],2,107⟩) h14 ?_ ?_
 ·clear h
  intro v11 h
  refine rK fun K12 RK12 hK12 gK12=>zz ?_
  rcases iK k h with⟨k,h⟩|⟨k,h⟩
  ·refine zz ?_
   subst hK12 gK12
   cases h
   exact en ⟨rfl,wk [(1,some 7)]⟩
  ·refine zz ?_
   subst hK12 gK12
   cases h
   exact en ⟨rfl,wk [(1,some 7)]⟩
 ·rcases iK k h with⟨k,h⟩|⟨k,h⟩
  ·refine xt<|xs<|rz ?_
   refine es<|xr<|er ?_
   cases h
   exact en fr
  ·refine xf<|xk<|es<|xs ?_
   obtain⟨v22,h27,h⟩:=bs h
   refine rb_cut (fun v22=>⟨envL [(2,.ptr 0 0),(5,.ptr 1 0),(35,.bool v22)],heapL [(0,.box none [.str d_0.Title,.str d_0.Lang,.int .u8 d_0.Rate,.bool d_0.Drop,.int .i64 d_0.Last,.sl (d_0.Regions.map T_api_Region.d),.sl (d_0.Events.map T_api_Event.d),.sl (d_0.Comments.map T_api_Comment.d)]),(1,.box none [.int .i64 y7.ID,.int .i64 y7.Event,.int .i64 y7.From,.int .i64 y7.To,.str y7.Author,.str y7.Text,.bool y7.Done,.bool y7.Lost])],2,107⟩) h27 ?_ ?_
   ·clear h
    intro v22 h
    refine rD hI fun K23 RK23 hK23 gK23=>zz ?_
    rcases iK k h with⟨k,h⟩|⟨k,h⟩
    ·refine zz ?_
     obtain⟨y25,q,h⟩:=bK q h
     refine zz ?_
     subst hK23 gK23
     cases h
     exact en ⟨rfl,wk []⟩
    ·refine zz ?_
     subst hK23 gK23
     cases h
     exact en ⟨rfl,wk []⟩
   ·rcases iK k h with⟨k,h⟩|⟨k,h⟩
    ·refine xt<|xs<|rz ?_
     refine es<|xr<|er ?_
     cases h
     exact en fr
    ·refine xf<|xk<|es<|xs<|xs<|rK fun K34 RK34 hK34 gK34=>zz ?_
     obtain⟨r35,h36,h⟩:=bs h
     refine cw (a_ref12_Find hI h36)<|zz ?_
     subst hK34 gK34
     refine es ?_
     rcases iK k h with⟨k,h⟩|⟨k,h⟩
     ·refine xt<|xs<|rz ?_
      refine es<|xr<|er ?_
      cases h
      exact en fr
     ·refine xf<|xk<|es<|xs ?_
      obtain⟨v42,h45,h⟩:=bs h
      refine rb_cut (fun v42=>⟨envL [(2,.ptr 0 0),(5,.ptr 1 0),(50,.bool v42)],heapL [(0,.box none [.str d_0.Title,.str d_0.Lang,.int .u8 d_0.Rate,.bool d_0.Drop,.int .i64 d_0.Last,.sl (d_0.Regions.map T_api_Region.d),.sl (d_0.Events.map T_api_Event.d),.sl (d_0.Comments.map T_api_Comment.d)]),(1,.box none [.int .i64 y7.ID,.int .i64 y7.Event,.int .i64 y7.From,.int .i64 y7.To,.str y7.Author,.str y7.Text,.bool y7.Done,.bool y7.Lost])],2,107⟩) h45 ?_ ?_
      ·clear h
       intro v42 h
       refine rK fun K43 RK43 hK43 gK43=>zz ?_
       rcases iK k h with⟨k,h⟩|⟨k,h⟩
       ·refine zz ?_
        subst hK43 gK43
        cases h
        exact en ⟨rfl,wk []⟩
       ·refine zz ?_
        subst hK43 gK43
        cases h
        exact en ⟨rfl,wk []⟩
      ·rcases iK k h with⟨k,h⟩|⟨k,h⟩
       ·refine xt<|xs<|rz ?_
        refine es<|xr<|er ?_
        cases h
        exact en fr
       ·refine xf<|xk<|es<|xs<|xs<|rz ?_
        refine es ?_
        rcases iK k h with⟨k,h⟩|⟨k,h⟩
        ·refine xt ?_
         obtain⟨v54,h57,h⟩:=bs h
         refine rb_cut (fun v54=>⟨envL [(5,.ptr 0 0),(60,.bool v54)],heapL [(0,.box none [.int .i64 y7.ID,.int .i64 y7.Event,.int .i64 y7.From,.int .i64 y7.To,.str y7.Author,.str y7.Text,.bool y7.Done,.bool y7.Lost])],1,107⟩) h57 ?_ ?_
         ·clear h
          intro v54 h
          refine rK fun K55 RK55 hK55 gK55=>zz ?_
          rcases iK k h with⟨k,h⟩|⟨k,h⟩
          ·refine zz ?_
           subst hK55 gK55
           cases h
           exact en ⟨rfl,wk [(0,some 1)]⟩
          ·refine zz ?_
           subst hK55 gK55
           cases h
           exact en ⟨rfl,wk [(0,some 1)]⟩
         ·rcases iK k h with⟨k,h⟩|⟨k,h⟩
          ·refine xt<|xs<|rz ?_
           refine es<|xr<|er ?_
           cases h
           exact en fr
          ·refine xf<|xk<|es<|xs<|xb<|xs<|rK fun K92 RK92 hK92 gK92=>zz ?_
           obtain⟨r93,h94,h⟩:=bs h
           refine cw (a_ref07_Name hI h94)<|zz ?_
           subst hK92 gK92
           refine es ?_
           rcases iK k h with⟨k,h⟩|⟨k,h⟩
           ·refine xf<|xs<|rK fun K99 RK99 hK99 gK99=>zz ?_
            obtain⟨r100,h101,h⟩:=bs h
            refine cw (a_ref08_Valid hI h101)<|zz ?_
            subst hK99 gK99
            refine es ?_
            rcases iK k h with⟨k,h⟩|⟨k,h⟩
            ·refine xf<|xs<|rz ?_
             refine es ?_
             rcases iK k h with⟨k,h⟩|⟨k,h⟩
             ·refine xt<|xs<|rz ?_
              refine es<|xr<|br<|er ?_
              cases h
              exact en fr
             ·refine xf<|xs<|rz ?_
              refine es ?_
              rcases iK k h with⟨k,h⟩|⟨k,h⟩
              ·refine xt<|xs<|rz ?_
               refine es<|xr<|br<|er ?_
               cases h
               exact en fr
              ·refine xf<|xk<|bn<|es<|xs<|rz ?_
               refine es<|xr ?_
               cases h
               exact en fr
            ·refine xt<|xs<|rz ?_
             refine es<|xr<|br<|er ?_
             cases h
             exact en fr
           ·refine xt<|xs<|rz ?_
            refine es<|xr<|br<|er ?_
            cases h
            exact en fr
        ·refine xf<|xs<|rK fun K122 RK122 hK122 gK122=>zz ?_
         obtain⟨r123,h124,h⟩:=bs h
         refine cw (a_ref12_Find hI h124)<|zz ?_
         subst hK122 gK122
         refine es<|xs<|xs<|rz ?_
         refine es ?_
         rcases iK k h with⟨k,h⟩|⟨k,h⟩
         ·refine xt<|xs<|rz ?_
          refine es<|xr<|er<|er ?_
          cases h
          exact en fr
         ·refine xf<|xk<|es ?_
          obtain⟨v137,h145,h⟩:=bs h
          refine rb_cut (fun v137=>⟨envL [(5,.ptr 0 0),(87,.bool v137)],heapL [(0,.box none [.int .i64 y7.ID,.int .i64 y7.Event,.int .i64 y7.From,.int .i64 y7.To,.str y7.Author,.str y7.Text,.bool y7.Done,.bool y7.Lost])],1,107⟩) h145 ?_ ?_
          ·clear h
           intro v137 h
           refine rD hI fun K138 RK138 hK138 gK138=>zz ?_
           rcases iK k h with⟨k,h⟩|⟨k,h⟩
           ·refine zz ?_
            subst hK138 gK138
            cases h
            exact en ⟨rfl,wk [(0,some 1)]⟩
           ·refine zz ?_
            rcases iK k h with⟨k,h⟩|⟨k,h⟩
            ·refine zz ?_
             subst hK138 gK138
             cases h
             exact en ⟨rfl,wk [(0,some 1)]⟩
            ·refine zz ?_
             obtain⟨y141,q,h⟩:=bK q h
             refine zz ?_
             obtain⟨r143,h144,h⟩:=bs h
             refine cd (a_ref11_Len hI h144)<|zz ?_
             subst hK138 gK138
             cases h
             exact en ⟨rfl,wk [(0,some 1)]⟩
          ·rcases iK k h with⟨k,h⟩|⟨k,h⟩
           ·refine xt<|xs<|rz ?_
            refine es<|xr<|er ?_
            cases h
            exact en fr
           ·refine xf<|xk<|es<|xs<|xb<|xs<|rK fun K180 RK180 hK180 gK180=>zz ?_
            obtain⟨r181,h182,h⟩:=bs h
            refine cw (a_ref07_Name hI h182)<|zz ?_
            subst hK180 gK180
            refine es ?_
            rcases iK k h with⟨k,h⟩|⟨k,h⟩
            ·refine xf<|xs<|rK fun K187 RK187 hK187 gK187=>zz ?_
             obtain⟨r188,h189,h⟩:=bs h
             refine cw (a_ref08_Valid hI h189)<|zz ?_
             subst hK187 gK187
             refine es ?_
             rcases iK k h with⟨k,h⟩|⟨k,h⟩
             ·refine xf<|xs<|rz ?_
              refine es ?_
              rcases iK k h with⟨k,h⟩|⟨k,h⟩
              ·refine xt<|xs<|rz ?_
               refine es<|xr<|br<|er ?_
               cases h
               exact en fr
              ·refine xf<|xs<|rz ?_
               refine es ?_
               rcases iK k h with⟨k,h⟩|⟨k,h⟩
               ·refine xt<|xs<|rz ?_
                refine es<|xr<|br<|er ?_
                cases h
                exact en fr
               ·refine xf<|xk<|bn<|es<|xs<|rz ?_
                refine es<|xr ?_
                cases h
                exact en fr
             ·refine xt<|xs<|rz ?_
              refine es<|xr<|br<|er ?_
              cases h
              exact en fr
            ·refine xt<|xs<|rz ?_
             refine es<|xr<|br<|er ?_
             cases h
             exact en fr
def g_ref12_Check_s1 (d_0:T_api_Document) (x32:Int):Option (Nx (Int) (Int ⊕ Unit)) :=
 (if(decide (x32 < (d_0.Events.length:Int))) then((atI d_0.Events x32).bind fun y292=>((g_ref11_Check y292 d_0.Regions).bind fun r298=>(if(r298 != 0) then(some (.out (.inl r298))) else(if(decide (d_0.Last < y292.ID)) then(some (.out (.inl 2))) else(((if(decide (0 < x32)) then((atI d_0.Events (IntKind.i64.wrap (x32 - 1))).bind fun y319=>((g_ref11_Less y319 y292).bind fun r321=>(some (!r321)))) else(some false)):Option (Bool)).bind fun v316=>(if v316 then(some (.out (.inl 8))) else((g_ref12_Find d_0 y292.ID).bind fun r331=>(if(r331 != x32) then(some (.out (.inl 7))) else(some (.go (IntKind.i64.wrap (x32+1)))))))))))) else(some (.out (.inr ()))))
def g_ref12_Check_s2 (d_0:T_api_Document) (x345:Int):Option (Nx (Int) (Int ⊕ Unit)) :=
 (if(decide (x345 < (d_0.Comments.length:Int))) then((g_ref12_checkComment d_0 x345).bind fun r432=>(if(r432 != 0) then(some (.out (.inl r432))) else(some (.go (IntKind.i64.wrap (x345+1)))))) else(some (.out (.inr ()))))
def g_ref12_Check (d_0:T_api_Document):Option (Int) :=
 ((g_ref12_checkHead d_0).bind fun r7=>(if(r7 != 0) then(some r7) else((g_ref10_CheckList d_0.Regions).bind fun r18=>(if(r18 != 0) then(some r18) else(if(decide (400 < (d_0.Events.length:Int))) then(some 9) else((iter (g_ref12_Check_s1 d_0) 0).bind fun e33=>(match e33 with|Sum.inl e33=>(some e33)|Sum.inr (e33)=>(if(decide (64 < (d_0.Comments.length:Int))) then(some 9) else((iter (g_ref12_Check_s2 d_0) 0).bind fun e346=>(match e346 with|Sum.inl e346=>(some e346)|Sum.inr (e346)=>(some 0)))))))))))
theorem a_ref12_Check {I:World→Prop} (hI:Stab I) {d_0:T_api_Document} {r:Int} (h:g_ref12_Check d_0=some r):AFun Tryz.prog I 41 [T_api_Document.d d_0] (.int .i64 r):=by
 have dd:=dd_EJ;have k:=True.intro;have q:=k;have rs:=Tryz.results41
 unfold g_ref12_Check at h
 refine .en hI Tryz.func41 Tryz.ntmps41 ?_
 refine xs<|rz ?_
 refine es<|xs<|xs<|rK fun K6 RK6 hK6 gK6=>zz ?_
 obtain⟨r7,h8,h⟩:=bs h
 refine cw (a_ref12_checkHead hI h8)<|zz ?_
 subst hK6 gK6
 refine es<|xs<|rz ?_
 refine es ?_
 rcases iK k h with⟨k,h⟩|⟨k,h⟩
 ·refine xt<|xs<|rz ?_
  refine es<|xr<|er ?_
  cases h
  exact en fr
 ·refine xf<|xk<|es<|xs<|xs<|rK fun K17 RK17 hK17 gK17=>zz ?_
  obtain⟨r18,h19,h⟩:=bs h
  refine cw (a_ref10_CheckList hI h19)<|zz ?_
  subst hK17 gK17
  refine es<|xs<|rz ?_
  refine es ?_
  rcases iK k h with⟨k,h⟩|⟨k,h⟩
  ·refine xt<|xs<|rz ?_
   refine es<|xr<|er ?_
   cases h
   exact en fr
  ·refine xf<|xk<|es<|xs<|xs<|rz ?_
   refine es ?_
   rcases iK k h with⟨k,h⟩|⟨k,h⟩
   ·refine xt<|xs<|rz ?_
    refine es<|xr<|er ?_
    cases h
    exact en fr
   ·refine xf<|xk<|es<|xs<|xs<|rz ?_
    refine es<|xb ?_
    obtain⟨e33,h337,h⟩:=bs h
    refine rb_loop (fun x32=>⟨envL [(1,.ptr 0 0),(26,.sl (d_0.Events.map T_api_Event.d)),(27,.int .i64 (d_0.Events.length:Int)),(28,.int .i64 x32)],heapL [(0,.box none [.str d_0.Title,.str d_0.Lang,.int .u8 d_0.Rate,.bool d_0.Drop,.int .i64 d_0.Last,.sl (d_0.Regions.map T_api_Region.d),.sl (d_0.Events.map T_api_Event.d),.sl (d_0.Comments.map T_api_Comment.d)])],1,82⟩) (fun w=>match w with|Sum.inl _=>.ret|Sum.inr (_)=>.exit 0) (fun w=>match w with|Sum.inl e33=>⟨envL [(2,.int .i64 e33)],heapL [],0,82⟩|Sum.inr (e33)=>⟨envL [(1,.ptr 0 0)],heapL [(0,.box none [.str d_0.Title,.str d_0.Lang,.int .u8 d_0.Rate,.bool d_0.Drop,.int .i64 d_0.Last,.sl (d_0.Regions.map T_api_Region.d),.sl (d_0.Events.map T_api_Event.d),.sl (d_0.Comments.map T_api_Comment.d)])],1,82⟩) h337 (wk []) (by intro w;rcases w with w|w<;>simp) ?_ ?_
    ·clear h
     intro x32 y h
     unfold g_ref12_Check_s1 at h
     refine xs<|rz ?_
     refine es<|xs ?_
     rcases iK k h with⟨k,h⟩|⟨k,h⟩
     ·refine xt<|xk<|es<|xs<|xb<|xs<|rK fun K291 RK291 hK291 gK291=>zz ?_
      obtain⟨y292,q,h⟩:=bK q h
      refine zz ?_
      subst hK291 gK291
      refine es<|xs<|xs<|rK fun K297 RK297 hK297 gK297=>zz ?_
      obtain⟨r298,h299,h⟩:=bs h
      refine cw (a_ref11_Check hI h299)<|zz ?_
      subst hK297 gK297
      refine es<|xs<|rz ?_
      refine es ?_
      rcases iK k h with⟨k,h⟩|⟨k,h⟩
      ·refine xt<|xs<|rz ?_
       refine es<|xr<|er<|br<|er ?_
       cases h
       exact en ⟨rfl,wk []⟩
      ·refine xf<|xk<|es<|xs<|xs<|rz ?_
       refine es ?_
       rcases iK k h with⟨k,h⟩|⟨k,h⟩
       ·refine xt<|xs<|rz ?_
        refine es<|xr<|er<|br<|er ?_
        cases h
        exact en ⟨rfl,wk []⟩
       ·refine xf<|xk<|es<|xs ?_
        obtain⟨v316,h323,h⟩:=bs h
        refine rb_cut (fun v316=>⟨envL [(1,.ptr 0 0),(5,.int .i64 x32),(6,.ptr 1 0),(26,.sl (d_0.Events.map T_api_Event.d)),(27,.int .i64 (d_0.Events.length:Int)),(28,.int .i64 x32),(57,.bool v316)],heapL [(0,.box none [.str d_0.Title,.str d_0.Lang,.int .u8 d_0.Rate,.bool d_0.Drop,.int .i64 d_0.Last,.sl (d_0.Regions.map T_api_Region.d),.sl (d_0.Events.map T_api_Event.d),.sl (d_0.Comments.map T_api_Comment.d)]),(1,.box none [.int .i64 y292.ID,.int .i64 y292.Span.In,.int .i64 y292.Span.Out,.str y292.Region,.int .u8 y292.Kind,.str y292.Speaker,.sl (y292.Rows.map T_api_Row.d)])],2,82⟩) h323 ?_ ?_
        ·clear h
         intro v316 h
         refine rD hI fun K317 RK317 hK317 gK317=>zz ?_
         rcases iK k h with⟨k,h⟩|⟨k,h⟩
         ·refine zz ?_
          obtain⟨y319,q,h⟩:=bK q h
          refine zz ?_
          obtain⟨r321,h322,h⟩:=bs h
          refine cd (a_ref11_Less hI h322)<|zz ?_
          subst hK317 gK317
          cases h
          exact en ⟨rfl,wk [(1,some 5)]⟩
         ·refine zz ?_
          subst hK317 gK317
          cases h
          exact en ⟨rfl,wk [(1,some 5)]⟩
        ·rcases iK k h with⟨k,h⟩|⟨k,h⟩
         ·refine xt<|xs<|rz ?_
          refine es<|xr<|er<|br<|er ?_
          cases h
          exact en ⟨rfl,wk []⟩
         ·refine xf<|xk<|es<|xs<|rK fun K330 RK330 hK330 gK330=>zz ?_
          obtain⟨r331,h332,h⟩:=bs h
          refine cw (a_ref12_Find hI h332)<|zz ?_
          subst hK330 gK330
          refine es ?_
          rcases iK k h with⟨k,h⟩|⟨k,h⟩
          ·refine xt<|xs<|rz ?_
           refine es<|xr<|br<|er ?_
           cases h
           exact en ⟨rfl,wk []⟩
          ·refine xf<|xk<|bn<|es<|rz ?_
           cases h
           exact en ⟨rfl,wk []⟩
     ·refine xf<|xx<|ee ?_
      cases h
      exact en ⟨rfl,wk []⟩
    ·rcases e33 with e33|e33
     ·try dsimp only at h ⊢
      refine br<|er ?_
      cases h
      exact en fr
     ·try dsimp only at h ⊢
      refine bh<|es<|xs<|xs<|rz ?_
      refine es ?_
      rcases iK k h with⟨k,h⟩|⟨k,h⟩
      ·refine xt<|xs<|rz ?_
       refine es<|xr<|er ?_
       cases h
       exact en fr
      ·refine xf<|xk<|es<|xs<|xs<|rz ?_
       refine es<|xb ?_
       obtain⟨e346,h440,h⟩:=bs h
       refine rb_loop (fun x345=>⟨envL [(1,.ptr 0 0),(71,.int .i64 (d_0.Comments.length:Int)),(72,.int .i64 x345)],heapL [(0,.box none [.str d_0.Title,.str d_0.Lang,.int .u8 d_0.Rate,.bool d_0.Drop,.int .i64 d_0.Last,.sl (d_0.Regions.map T_api_Region.d),.sl (d_0.Events.map T_api_Event.d),.sl (d_0.Comments.map T_api_Comment.d)])],1,82⟩) (fun w=>match w with|Sum.inl _=>.ret|Sum.inr (_)=>.exit 2) (fun w=>match w with|Sum.inl e346=>⟨envL [(2,.int .i64 e346)],heapL [],0,82⟩|Sum.inr (e346)=>⟨envL [],heapL [],0,82⟩) h440 (wk []) (by intro w;rcases w with w|w<;>simp) ?_ ?_
       ·clear h
        intro x345 y h
        unfold g_ref12_Check_s2 at h
        refine xs<|rz ?_
        refine es<|xs ?_
        rcases iK k h with⟨k,h⟩|⟨k,h⟩
        ·refine xt<|xk<|es<|xs<|xb<|xs<|rz ?_
         refine es<|xs<|rK fun K431 RK431 hK431 gK431=>zz ?_
         obtain⟨r432,h433,h⟩:=bs h
         refine cw (a_ref12_checkComment hI h433)<|zz ?_
         subst hK431 gK431
         refine es<|xs<|rz ?_
         refine es ?_
         rcases iK k h with⟨k,h⟩|⟨k,h⟩
         ·refine xt<|xs<|rz ?_
          refine es<|xr<|br<|er ?_
          cases h
          exact en ⟨rfl,wk []⟩
         ·refine xf<|xk<|bn<|es<|rz ?_
          cases h
          exact en ⟨rfl,wk []⟩
        ·refine xf<|xx<|ee ?_
         cases h
         exact en ⟨rfl,wk []⟩
       ·rcases e346 with e346|e346
        ·try dsimp only at h ⊢
         refine br<|er ?_
         cases h
         exact en fr
        ·try dsimp only at h ⊢
         refine bh<|es<|xs<|rz ?_
         refine es<|xr ?_
         cases h
         exact en fr
def g_ref02_Ticks (r_0:Int):Option (Int) :=
 ((g_ref02_Valid r_0).bind fun r7=>(if r7 then((atI [5005,5000,4800,4004,4000,2400,2002] (IntKind.u8.wrap (r_0 - 1))).bind fun y17=>(some y17)) else(some 0)))
def rtV (r:Int):Bool:=decide (1≤r)&&decide (r≤7)
def rtT (r:Int):Int:=if r=1 then 5005 else if r=2 then 5000 else if r=3 then 4800 else if r=4 then 4004 else if r=5 then 4000 else if r=6 then 2400 else if r=7 then 2002 else 0
theorem rates_fin:∀ r:Fin 256,g_timebase_Valid ((r.val:Nat):Int)=some (rtV ((r.val:Nat):Int))∧g_ref02_Valid ((r.val:Nat):Int)=some (rtV ((r.val:Nat):Int))∧g_timebase_Ticks ((r.val:Nat):Int)=some (rtT ((r.val:Nat):Int)) ∧
  (rtV ((r.val:Nat):Int)=true→g_ref02_Ticks ((r.val:Nat):Int)=some (rtT ((r.val:Nat):Int))∧2002≤rtT ((r.val:Nat):Int)∧rtT ((r.val:Nat):Int)≤5005):=by decide +kernel
theorem rates (r:Int) (h0:0≤r) (h1:r≤255):g_timebase_Valid r=some (rtV r)∧g_ref02_Valid r=some (rtV r)∧g_timebase_Ticks r=some (rtT r)∧(rtV r=true→g_ref02_Ticks r=some (rtT r)∧2002≤rtT r∧rtT r≤5005):=by
 have:=rates_fin ⟨r.toNat,by omega⟩
 have e:((r.toNat:Nat):Int)=r:=by omega
 simp only[e] at this
 exact this
def wiB (n lo hi:Int):Bool:=decide (lo≤n)&&decide (n≤hi)
theorem wiB_t {n lo hi:Int} (h:wiB n lo hi=true):lo≤n∧n≤hi:=by
 unfold wiB at h;simpa using h
def upQ (a b:Int):Int:=Int.tdiv (a+b - 1) b
theorem upQ_le {a b f:Int} (ha:0≤a) (hb:0 < b):upQ a b≤f ↔ a≤f * b:=by
 unfold upQ
 rw[Int.tdiv_eq_ediv_of_nonneg (by omega)]
 constructor
 ·intro h
  have h1:=Int.lt_mul_ediv_self_add (x:=a+b - 1) hb
  have h2:b * ((a+b - 1) / b)≤b * f:=Int.mul_le_mul_of_nonneg_left h (by omega)
  rw[Int.mul_comm f b]
  omega
 ·intro h
  have:(a+b - 1) / b < f+1:=by
   refine Int.ediv_lt_of_lt_mul hb ?_
   rw[Int.add_mul]
   omega
  omega
def needS (r c l:Int):Int × Int:=if rtV r then(if wiB c 0 10000&&wiB l 1 10000 then(upQ (c * 12000000) (l * rtT r),0) else(0,2)) else(0,3)
theorem mul_small {x t:Int} (k:Int) (hx:1≤x) (hk:x≤k) (h1:2002≤t) (h2:t≤5005) (hkk:k≤5184000):1≤x * t∧x * t≤25945920000:=by
 have a1:x * t≤5184000 * t:=Int.mul_le_mul_of_nonneg_right (by omega) (by omega)
 have a2:5184000 * t≤5184000 * 5005:=Int.mul_le_mul_of_nonneg_left h2 (by omega)
 have a3:1 * t≤x * t:=Int.mul_le_mul_of_nonneg_right hx (by omega)
 omega
theorem shots_total (l:List Int) (hl:l.length≤1000):∃ v,g_shots_Check l=some v:=by
 unfold g_shots_Check
 by_cases h:400 < (l.length:Int)
 ·exact⟨9,by simp[h]⟩
 ·rw[if_neg (by simpa using h)]
  have hh:∃ e,iter (g_shots_Check_s1 l) 0=some e:=by
   refine iter_ends l.length (by omega) (fun i hi=>?_) ?_
   ·unfold g_shots_Check_s1
    rw[if_pos (by simpa using hi),atI_nat hi,wr64 (x:=(i:Int)+1) (by omega)]
    simp only[Option.bind_some]
    have hv:∃ b:Bool,(if decide (l[i] < 1)=true then some true else some (decide (5184000 < l[i])):Option Bool)=some b:=by
     by_cases q:l[i] < 1
     ·exact⟨true,by simp[q]⟩
     ·exact⟨_,by simp[q];rfl⟩
    obtain⟨b,hb⟩:=hv
    rw[hb]
    simp only[Option.bind_some]
    cases b
    ·simp only[Bool.false_eq_true,if_false]
     by_cases q:0 < (i:Int)
     ·rw[if_pos (by simpa using q),wr64 (by omega),show((i:Int) - 1)=((i - 1:Nat):Int) by omega,atI_nat (show i - 1 < l.length by omega)]
      simp only[Option.bind_some]
      by_cases q2:l[i]≤l[i - 1]
      ·exact .inr ⟨_,by rw[if_pos (by simpa using q2)]⟩
      ·exact .inl (by rw[if_neg (by simpa using q2)])
     ·exact .inl (by rw[if_neg (by simpa using q)])
    ·exact .inr ⟨_,rfl⟩
   ·unfold g_shots_Check_s1
    exact⟨_,by rw[if_neg (by simp)]⟩
  obtain⟨e,he⟩:=hh
  rw[he]
  cases e<;>exact⟨_,rfl⟩
def shC (l:List Int):Int:=(g_shots_Check l).getD 0
theorem shC_eq (l:List Int) (hl:l.length≤1000):g_shots_Check l=some (shC l):=by
 obtain⟨v,h⟩:=shots_total l hl
 unfold shC;rw[h];rfl
def frB (f:Int):Bool:=decide (0≤f)&&decide (f≤5184000)
theorem frame_eq (f:Int):g_shots_frame f=some (frB f):=by
 unfold g_shots_frame frB
 by_cases h:0≤f<;>simp[h]
theorem close_total (l:List Int) (hl:l.length≤1000) (f b a:Int):∃ r,g_shots_tooClose l f b a=some r:=by
 have hh:∃ e,iter (g_shots_tooClose_s1 l f b a) 0=some e:=by
  refine iter_ends l.length (by omega) (fun i hi=>?_) ?_
  ·unfold g_shots_tooClose_s1
   rw[if_pos (by simpa using hi),atI_nat hi,wr64 (x:=(i:Int)+1) (by omega)]
   simp only[Option.bind_some]
   split
   ·split
    ·exact .inr ⟨_,rfl⟩
    ·split
     ·simp only[Option.bind_some];split
      ·exact .inr ⟨_,rfl⟩
      ·exact .inl rfl
     ·exact .inl rfl
   ·split
    ·simp only[Option.bind_some];split
     ·exact .inr ⟨_,rfl⟩
     ·exact .inl rfl
    ·exact .inl rfl
  ·unfold g_shots_tooClose_s1
   exact⟨_,by rw[if_neg (by simp)]⟩
 obtain⟨e,he⟩:=hh
 unfold g_shots_tooClose
 rw[he]
 cases e<;>exact⟨_,rfl⟩
theorem size_eq (n:Int):∃ r,g_shots_size n=some r:=⟨_,rfl⟩
theorem Snap_total (l:List Int) (hl:l.length≤1000) (f b a:Int):∃ r,g_shots_Snap l f b a=some r∧(r.2=true→frB r.1=true):=by
 have h0:∃ v,g_shots_usable l f b a=some v:=by
  unfold g_shots_usable
  rw[shC_eq l hl]
  simp only[Option.bind_some,frame_eq]
  cases shC l == 0<;>cases frB f<;>cases frB b<;>exact⟨_,rfl⟩
 obtain⟨v,hv⟩:=h0
 unfold g_shots_Snap
 rw[hv]
 simp only[Option.bind_some]
 cases v with
 | false=>exact⟨_,rfl,by simp⟩
 | true =>
  simp only[if_true]
  have h1:=iter_run (step:=g_shots_Snap_s1 l b a) l (by omega) (fun i s=>(i,s)) (fun s y=>.inr (s++[IntKind.i64.wrap (y - b),y,IntKind.i64.wrap (y+a)])) id (fun i s=>s.length=3 * i+1) (s0:=[f]) rfl
   (fun i hi s hs=>.inr ⟨_,rfl,by
    unfold g_shots_Snap_s1
    rw[if_pos (by simpa using hi),atI_nat hi,wr64 (x:=(i:Int)+1) (by omega)]
    simp only[Option.bind_some]
    rw[if_pos (by omega)],by simp[hs];omega⟩)
   (fun s hs=>by unfold g_shots_Snap_s1;rw[if_neg (by simp)];rfl)
  rw[h1]
  simp only[Option.bind_some]
  generalize hE:runF (E:=List Int) _ _ _ l=E0
  have hlen:E0.length≤3001:=by
   have:∀ (t:List Int) (s:List Int),(runF (fun(s:List Int) y=>(.inr (s++[IntKind.i64.wrap (y - b),y,IntKind.i64.wrap (y+a)]):List Int ⊕ List Int)) id s t).length=s.length+3 * t.length:=by
    intro t
    induction t with
    | nil=>intro s;simp[runF]
    | cons c t ih=>intro s;simp only[runF];rw[ih];simp;omega
   have:=this l [f]
   rw[hE] at this
   rw[this];simp;omega
  obtain⟨e,he,hp⟩:=iter_post (step:=g_shots_Snap_s2 l f b a E0) (fun x=>0≤x.2.2∧x.2.2≤(E0.length:Int)∧(x.2.1=true→frB x.1=true)) (fun x=>E0.length - x.2.2.toNat) (fun e=>e.2=true→frB e.1=true) (x:=(0,false,0)) ⟨by simp,by simp,by simp⟩ (by dsimp only;omega) (by
   rintro⟨bst,ok,i⟩ ⟨q1,q2,q3⟩
   dsimp only at q1 q2 q3
   obtain⟨i,rfl⟩:=Int.eq_ofNat_of_zero_le q1
   unfold g_shots_Snap_s2
   dsimp only
   by_cases hi:i < E0.length
   ·left
    rw[if_pos (by simpa using hi),atI_nat hi,wr64 (x:=(i:Int)+1) (by omega)]
    simp only[Option.bind_some,frame_eq]
    cases hf:frB E0[i] with
    | false=>exact⟨_,rfl,⟨by dsimp only;omega,by dsimp only;omega,q3⟩,by dsimp only;omega⟩
    | true =>
     simp only[if_true]
     obtain⟨r,hr⟩:=close_total l hl E0[i] b a
     rw[hr]
     simp only[Option.bind_some]
     cases r.2 with
     | true=>exact⟨_,rfl,⟨by dsimp only;omega,by dsimp only;omega,q3⟩,by dsimp only;omega⟩
     | false =>
      simp only[Bool.false_eq_true,if_false]
      have hv:∃ v:Bool,(if ok=true then((g_shots_size (IntKind.i64.wrap (E0[i] - f))).bind fun r365=>((g_shots_size (IntKind.i64.wrap (bst - f))).bind fun r367=>(if(decide (r365 < r367)) then(some true) else((g_shots_size (IntKind.i64.wrap (E0[i] - f))).bind fun r370=>((g_shots_size (IntKind.i64.wrap (bst - f))).bind fun r372=>(if(r370 == r372) then(some (decide (E0[i] < bst))) else(some false))))))) else(some true):Option Bool)=some v:=by
       cases ok with
       | false=>exact⟨_,rfl⟩
       | true =>
        obtain⟨r1,e1⟩:=size_eq (IntKind.i64.wrap (E0[i] - f))
        obtain⟨r2,e2⟩:=size_eq (IntKind.i64.wrap (bst - f))
        simp only[e1,e2,Option.bind_some,if_true]
        split
        ·exact⟨_,rfl⟩
        ·split<;>exact⟨_,rfl⟩
      obtain⟨v,hv⟩:=hv
      rw[hv]
      simp only[Option.bind_some]
      cases v with
      | true=>exact⟨_,rfl,⟨by dsimp only;omega,by dsimp only;omega,fun _=>hf⟩,by dsimp only;omega⟩
      | false=>exact⟨_,rfl,⟨by dsimp only;omega,by dsimp only;omega,q3⟩,by dsimp only;omega⟩
   ·right
    rw[if_neg (by simpa using hi)]
    exact⟨_,rfl,q3⟩)
  rw[he]
  exact⟨_,rfl,hp⟩
def snS (l:List Int) (f b a:Int):Int × Bool:=(g_shots_Snap l f b a).getD (0,false)
theorem snS_eq (l:List Int) (hl:l.length≤1000) (f b a:Int):g_shots_Snap l f b a=some (snS l f b a)∧((snS l f b a).2=true→0≤(snS l f b a).1∧(snS l f b a).1≤5184000):=by
 obtain⟨r,h,hr⟩:=Snap_total l hl f b a
 unfold snS
 rw[h]
 refine⟨rfl,fun q=>?_⟩
 have:=hr q
 unfold frB at this
 simpa using this
def cutS (t0:Int) (s:Int × Int) (from' below:Int):Int × Int:=if below≤from' then s else(if below≤t0 then(if below > s.1 then below else s.1) else s.1,if t0 < from' then(if from' < s.2 then from' else s.2) else s.2)
def zoF (p:T_api_Profile) (t0:Int) (s:Int × Int) (y:Int):Int × Int :=
 cutS t0 (cutS t0 s (IntKind.i64.wrap (IntKind.i64.wrap (y - p.ShotBefore)+1)) y) (IntKind.i64.wrap (y+1)) (IntKind.i64.wrap (y+p.ShotAfter))
def zoR (p:T_api_Profile) (t0:Int) (l:List Int):Int × Int:=runF (fun s y=>.inr (zoF p t0 s y)) id (0,5184001) l
theorem cutS_in {t0:Int} {s:Int × Int} {f b:Int} (h:0≤s.1∧s.1≤t0∧t0 < s.2∧s.2≤5184001):0≤(cutS t0 s f b).1∧(cutS t0 s f b).1≤t0∧t0 < (cutS t0 s f b).2∧(cutS t0 s f b).2≤5184001:=by
 unfold cutS
 split
 ·exact h
 ·refine⟨?_,?_,?_,?_⟩<;>dsimp only<;>(repeat' split)<;>omega
theorem zoR_in (p:T_api_Profile) {t0:Int} (h0:0≤t0∧t0≤5184000) (l:List Int):0≤(zoR p t0 l).1∧(zoR p t0 l).1≤t0∧t0 < (zoR p t0 l).2∧(zoR p t0 l).2≤5184001:=by
 have:∀ (l:List Int) (s:Int × Int),(0≤s.1∧s.1≤t0∧t0 < s.2∧s.2≤5184001)→0≤(runF (fun s y=>(.inr (zoF p t0 s y):(Int × Int) ⊕ (Int × Int))) id s l).1∧(runF (fun s y=>(.inr (zoF p t0 s y):(Int × Int) ⊕ (Int × Int))) id s l).1≤t0∧t0 < (runF (fun s y=>(.inr (zoF p t0 s y):(Int × Int) ⊕ (Int × Int))) id s l).2∧(runF (fun s y=>(.inr (zoF p t0 s y):(Int × Int) ⊕ (Int × Int))) id s l).2≤5184001:=by
  intro l
  induction l with
  | nil=>intro s h;exact h
  | cons y t ih=>intro s h;simp only[runF];exact ih _ (cutS_in (cutS_in h))
 exact this l (0,5184001) (by dsimp only;omega)
def zoS (l:List Int) (f:Int) (p:T_api_Profile):T_api_Span × Int :=
 if(snS l f p.ShotBefore p.ShotAfter).2 then(⟨(zoR p (snS l f p.ShotBefore p.ShotAfter).1 l).1,(zoR p (snS l f p.ShotBefore p.ShotAfter).1 l).2⟩,0) else(⟨0,0⟩,6)
theorem from_eq (n lo hi:Int):g_region_from n lo hi=some (decide (lo≤n)&&decide (n≤hi)):=by
 unfold g_region_from
 by_cases h:lo≤n<;>simp[h]
theorem regCheck_tot (r:T_api_Region):∃ v,g_region_Check r=some v:=by
 unfold g_region_Check
 rw[lines_Name_eq]
 simp only[Option.bind_some,from_eq]
 cases isNm r.Name with
 | false=>exact⟨_,rfl⟩
 | true =>
  simp only[if_true]
  generalize (decide (0≤r.Top)&&decide (r.Top≤14))=b1
  generalize (decide (1≤r.Height)&&decide (r.Height≤IntKind.i64.wrap (15 - r.Top)))=b2
  generalize (decide (0≤r.Left)&&decide (r.Left≤31))=b3
  generalize (decide (1≤r.Width)&&decide (r.Width≤IntKind.i64.wrap (32 - r.Left)))=b4
  cases b1<;>cases b2<;>cases b3<;>cases b4<;>simp only[Bool.false_eq_true,if_false,if_true,Option.bind_some,Bool.not_true,Bool.not_false]<;>first|exact⟨_,rfl⟩|(split<;>first|exact⟨_,rfl⟩|(split<;>exact⟨_,rfl⟩))
theorem regList_tot (l:List T_api_Region):∃ v,g_region_CheckList l=some v:=by
 unfold g_region_CheckList
 by_cases h:16 < (l.length:Int)
 ·exact⟨9,by simp[h]⟩
 ·rw[if_neg (by simpa using h)]
  obtain⟨e,he⟩:∃ e,iter (g_region_CheckList_s1 l) 0=some e:=by
   refine iter_ends l.length (by omega) (fun i hi=>?_) ?_
   ·unfold g_region_CheckList_s1
    rw[if_pos (by simpa using hi),atI_nat hi,wr64 (x:=(i:Int)+1) (by omega)]
    simp only[Option.bind_some]
    obtain⟨v,hv⟩:=regCheck_tot l[i]
    rw[hv]
    simp only[Option.bind_some]
    split
    ·exact .inr ⟨_,rfl⟩
    ·by_cases q:0 < (i:Int)
     ·rw[if_pos (by simpa using q),if_pos (by simpa using q),wr64 (by omega),show((i:Int) - 1)=((i - 1:Nat):Int) by omega,atI_nat (show i - 1 < l.length by omega)]
      simp only[Option.bind_some]
      split
      ·exact .inr ⟨_,rfl⟩
      ·split
       ·exact .inr ⟨_,rfl⟩
       ·exact .inl rfl
     ·rw[if_neg (by simpa using q),if_neg (by simpa using q)]
      simp only[Option.bind_some,Bool.false_eq_true,if_false]
      exact .inl trivial
   ·unfold g_region_CheckList_s1
    exact⟨_,by rw[if_neg (by simp)]⟩
  rw[he]
  cases e<;>exact⟨_,rfl⟩
theorem regFind_tot (l:List T_api_Region) (hl:l.length≤9223372036854775807) (n:List UInt8):∃ v,g_region_Find l n=some v:=by
 unfold g_region_Find
 split
 ·exact⟨_,rfl⟩
 ·obtain⟨e,he⟩:∃ e,iter (g_region_Find_s1 l n) 0=some e:=by
   refine iter_ends l.length hl (fun i hi=>?_) ?_
   ·unfold g_region_Find_s1
    rw[if_pos (by simpa using hi),atI_nat hi,wr64 (x:=(i:Int)+1) (by omega)]
    simp only[Option.bind_some]
    split
    ·exact .inr ⟨_,rfl⟩
    ·exact .inl rfl
   ·unfold g_region_Find_s1
    exact⟨_,by rw[if_neg (by simp)]⟩
  rw[he]
  cases e<;>exact⟨_,rfl⟩
theorem rate_fin:∀ r:Fin 256,(g_document_rate ((r.val:Nat):Int) true).isSome=true∧(g_document_rate ((r.val:Nat):Int) false).isSome=true:=by decide +kernel
theorem rate_tot (r:Int) (h0:0≤r) (h1:r≤255) (d:Bool):∃ v,g_document_rate r d=some v:=by
 have:=rate_fin ⟨r.toNat,by omega⟩
 simp only[Int.toNat_of_nonneg h0] at this
 cases d
 ·exact Option.isSome_iff_exists.1 this.2
 ·exact Option.isSome_iff_exists.1 this.1
theorem header_tot (d:T_api_Document) (ht:d.Title.length≤1048576) (h0:0≤d.Rate) (h1:d.Rate≤255):∃ v,g_document_header d=some v:=by
 unfold g_document_header
 rw[prog_Valid_eq _ (by omega),lines_Name_eq]
 obtain⟨v,hv⟩:=rate_tot d.Rate h0 h1 d.Drop
 rw[hv]
 simp only[Option.bind_some]
 cases gv d.Title with
 | false=>exact⟨_,rfl⟩
 | true =>
  simp only[if_true]
  split
  ·exact⟨_,rfl⟩
  ·split
   ·simp only[Option.bind_some]
    (repeat' split)<;>exact⟨_,rfl⟩
   ·cases isNm d.Lang
    ·exact⟨_,rfl⟩
    ·simp only[if_true,Option.bind_some]
     (repeat' split)<;>exact⟨_,rfl⟩
def spB (s:T_api_Span):Bool:=decide (0≤s.In)&&decide (s.In < s.Out)&&decide (s.Out≤5184000)
theorem spans_eq (s:T_api_Span):g_event_spans s=some (spB s):=by
 unfold g_event_spans spB
 by_cases h1:0≤s.In<;>by_cases h2:s.In < s.Out<;>simp[h1,h2]
theorem kind_tot (k:Int):∃ v,g_event_KindName k=some v:=by
 unfold g_event_KindName
 by_cases h1:k < 1
 ·exact⟨[],by simp[h1]⟩
 ·by_cases h2:4 < k
  ·exact⟨[],by simp[h1,h2]⟩
  ·simp only[h1,h2,decide_false,Bool.false_eq_true,if_false,Option.bind_some]
   have:k=1∨k=2∨k=3∨k=4:=by omega
   rcases this with rfl|rfl|rfl|rfl<;>exact⟨_,rfl⟩
theorem alike_tot (a b:T_api_Run):∃ v,g_style_alike a b=some v:=by
 unfold g_style_alike
 (repeat' split)<;>exact⟨_,rfl⟩
def RowZ (r:T_api_Row):Prop:=∀ u ∈ r.Runs,u.Text.length≤1048576∧u.Ruby.length≤1048576
theorem styCheck_tot (r:T_api_Row) (h:RowZ r):∃ v,g_style_Check r=some v∧(v=0→r.Runs.length≤16):=by
 unfold g_style_Check
 by_cases h16:16 < (r.Runs.length:Int)
 ·exact⟨9,by simp[h16],by simp⟩
 ·rw[if_neg (by simpa using h16)]
  obtain⟨e,he⟩:∃ e,iter (g_style_Check_s1 r) 0=some e:=by
   refine iter_ends r.Runs.length (by omega) (fun i hi=>?_) ?_
   ·unfold g_style_Check_s1
    rw[if_pos (by simpa using hi),atI_nat hi,wr64 (x:=(i:Int)+1) (by omega)]
    simp only[Option.bind_some]
    have hz:=h _ (List.getElem_mem hi)
    rw[prog_Valid_eq _ (by omega),prog_Valid_eq _ (by omega)]
    simp only[Option.bind_some,g_style_Valid]
    split
    ·split
     ·exact .inr ⟨_,rfl⟩
     ·split
      ·split
       ·by_cases q:0 < (i:Int)
        ·rw[if_pos (by simpa using q),wr64 (by omega),show((i:Int) - 1)=((i - 1:Nat):Int) by omega,atI_nat (show i - 1 < r.Runs.length by omega)]
         simp only[Option.bind_some]
         obtain⟨v,hv⟩:=alike_tot (r.Runs[i - 1]'(by omega)) r.Runs[i]
         rw[hv]
         simp only[Option.bind_some]
         split
         ·exact .inr ⟨_,rfl⟩
         ·exact .inl rfl
        ·rw[if_neg (by simpa using q)]
         exact .inl rfl
       ·exact .inr ⟨_,rfl⟩
      ·exact .inr ⟨_,rfl⟩
    ·exact .inr ⟨_,rfl⟩
   ·unfold g_style_Check_s1
    exact⟨_,by rw[if_neg (by simp)]⟩
  rw[he]
  cases e<;>exact⟨_,rfl,fun _=>by omega⟩
theorem plain_tot (r:T_api_Row) (h:RowZ r) (h16:r.Runs.length≤16):∃ s,g_style_Plain r=some s∧s.length≤16777216:=by
 obtain⟨e,he,hp⟩:=iter_post (step:=g_style_Plain_s1 r) (fun x=>0≤x.1∧x.1≤(r.Runs.length:Int)∧(x.2.length:Int)≤x.1 * 1048576) (fun x=>r.Runs.length - x.1.toNat) (fun e=>e.length≤16777216) (x:=(0,[])) ⟨by simp,by simp,by simp⟩ (by dsimp only;omega) (by
  rintro⟨i,s⟩ ⟨q1,q2,q3⟩
  dsimp only at q1 q2 q3
  obtain⟨i,rfl⟩:=Int.eq_ofNat_of_zero_le q1
  unfold g_style_Plain_s1
  dsimp only
  by_cases hi:i < r.Runs.length
  ·left
   have hz:=h _ (List.getElem_mem hi)
   rw[if_pos (by simpa using hi),atI_nat hi,wr64 (x:=(i:Int)+1) (by omega)]
   simp only[Option.bind_some]
   rw[if_pos (by omega)]
   refine⟨_,rfl,⟨by dsimp only;omega,by dsimp only;omega,?_⟩,by dsimp only;omega⟩
   simp only[List.length_append,toI,List.length_map]
   omega
  ·right
   rw[if_neg (by simpa using hi)]
   exact⟨_,rfl,by omega⟩)
 unfold g_style_Plain
 rw[he]
 exact⟨_,rfl,by simpa[bytesOf] using hp⟩
theorem chLen_tot (s:List UInt8) (h:s.length≤1048576):∃ v,g_charset_Len s=some v:=by
 unfold g_charset_Len
 rw[prog_Valid_eq _ (by omega)]
 simp only[Option.bind_some]
 cases gv s with
 | false=>exact⟨_,rfl⟩
 | true =>
  simp only[if_true,g_unicode_utf8_RuneCountInString]
  rw[if_pos (by omega)]
  exact⟨_,rfl⟩
theorem styLen_tot (r:T_api_Row) (h:RowZ r) (hr:r.Runs.length≤1048576):∃ v,g_style_Len r=some v:=by
 obtain⟨e,he,hp⟩:=iter_post (step:=g_style_Len_s1 r) (fun x=>0≤x.2∧x.2≤(r.Runs.length:Int)) (fun x=>r.Runs.length - x.2.toNat) (fun e=>True) (x:=(0,0)) ⟨by simp,by simp⟩ (by dsimp only;omega) (by
  rintro⟨s,i⟩ ⟨q1,q2⟩
  dsimp only at q1 q2
  obtain⟨i,rfl⟩:=Int.eq_ofNat_of_zero_le q1
  unfold g_style_Len_s1
  dsimp only
  by_cases hi:i < r.Runs.length
  ·have hz:=h _ (List.getElem_mem hi)
   rw[if_pos (by simpa using hi),atI_nat hi,wr64 (x:=(i:Int)+1) (by omega)]
   simp only[Option.bind_some]
   obtain⟨v,hv⟩:=chLen_tot _ hz.1
   rw[hv]
   simp only[Option.bind_some]
   split
   ·exact .inr ⟨_,rfl,trivial⟩
   ·exact .inl ⟨_,rfl,⟨by dsimp only;omega,by dsimp only;omega⟩,by dsimp only;omega⟩
  ·right
   rw[if_neg (by simpa using hi)]
   exact⟨_,rfl,trivial⟩)
 unfold g_style_Len
 rw[he]
 cases e<;>exact⟨_,rfl⟩
theorem row_tot (r:T_api_Row) (h:RowZ r):∃ v,g_event_row r=some v∧(v=0→r.Runs.length≤16):=by
 unfold g_event_row
 obtain⟨v,hv,h16⟩:=styCheck_tot r h
 rw[hv]
 simp only[Option.bind_some]
 by_cases h0:v=0
 ·have hl:=h16 h0
  rw[if_neg (by simpa using h0)]
  obtain⟨s,hs,hsl⟩:=plain_tot r h hl
  obtain⟨n,hn⟩:=styLen_tot r h (by omega)
  rw[hs,hn]
  simp only[Option.bind_some]
  obtain⟨b,hb⟩:∃ b:Bool,(if(s == ([]:List UInt8)) then(some true) else((atI s 0).bind fun b33=>(if((b33.toNat:Int) == 32) then(some true) else((atI s (IntKind.i64.wrap ((s.length:Int) - 1))).bind fun b36=>(if((b36.toNat:Int) == 32) then(some true) else((g_strings_Contains s [32,32]).bind fun r39=>(some r39)))))))=some b:=by
   by_cases he:s=[]
   ·exact⟨true,by simp[he]⟩
   ·have hp:0 < s.length:=List.length_pos_iff.2 he
    rw[if_neg (by simpa using he),show(0:Int)=((0:Nat):Int) from rfl,atI_nat hp,wr64 (by omega),show((s.length:Int) - 1)=((s.length - 1:Nat):Int) by omega,atI_nat (show s.length - 1 < s.length by omega)]
    simp only[Option.bind_some,g_strings_Contains]
    rw[if_pos (show s.length < 4294967281 by omega)]
    simp only[Option.bind_some]
    (repeat' split)<;>exact⟨_,rfl⟩
  rw[hb]
  simp only[Option.bind_some]
  split
  ·exact⟨_,rfl,fun _=>hl⟩
  ·split<;>exact⟨_,rfl,fun _=>hl⟩
 ·rw[if_pos (by simpa using h0)]
  exact⟨_,rfl,fun e=>absurd e h0⟩
def EvZ (e:T_api_Event):Prop:=e.Rows.length≤1048576∧∀ r ∈ e.Rows,RowZ r∧r.Runs.length≤1048576
theorem lens_tot (e:T_api_Event) (h:EvZ e):∃ l,g_event_lens e=some l∧l.length≤1048576:=by
 obtain⟨x,he,hp⟩:=iter_post (step:=g_event_lens_s1 e) (fun x=>0≤x.2∧x.2≤(e.Rows.length:Int)∧(x.1.length:Int)=x.2) (fun x=>e.Rows.length - x.2.toNat) (fun l=>l.length≤1048576) (x:=([],0)) ⟨by simp,by simp,by simp⟩ (by have:=h.1;dsimp only;omega) (by
  rintro⟨s,i⟩ ⟨q1,q2,q3⟩
  dsimp only at q1 q2 q3
  obtain⟨i,rfl⟩:=Int.eq_ofNat_of_zero_le q1
  have h1:=h.1
  unfold g_event_lens_s1
  dsimp only
  by_cases hi:i < e.Rows.length
  ·have hz:=h.2 _ (List.getElem_mem hi)
   rw[if_pos (by simpa using hi),atI_nat hi,wr64 (x:=(i:Int)+1) (by omega)]
   simp only[Option.bind_some]
   obtain⟨v,hv⟩:=styLen_tot _ hz.1 hz.2
   rw[hv]
   simp only[Option.bind_some]
   rw[if_pos (by omega)]
   exact .inl ⟨_,rfl,⟨by dsimp only;omega,by dsimp only;omega,by simp;omega⟩,by dsimp only;omega⟩
  ·right
   rw[if_neg (by simpa using hi)]
   exact⟨_,rfl,by omega⟩)
 unfold g_event_lens
 rw[he]
 exact⟨_,rfl,hp⟩
theorem usable_tot (r:T_api_Region):∃ v,g_region_usable r=some v:=by
 unfold g_region_usable g_region_Default
 simp only[Option.bind_some]
 split
 ·exact⟨_,rfl⟩
 ·obtain⟨v,hv⟩:=regCheck_tot r
  rw[hv]
  exact⟨_,rfl⟩
theorem place_s1 (r:T_api_Region) (l:List Int) (hl:l.length≤1048576):∃ e,iter (g_region_Place_s1 r l) ([],0)=some e:=by
 obtain⟨x,he,_⟩:=iter_post (step:=g_region_Place_s1 r l) (fun x=>0≤x.2∧x.2≤(l.length:Int)∧(x.1.length:Int)=x.2) (fun x=>l.length - x.2.toNat) (fun _=>True) (x:=([],0)) ⟨by simp,by simp,by simp⟩ (by dsimp only;omega) (by
  rintro⟨s,i⟩ ⟨q1,q2,q3⟩
  dsimp only at q1 q2 q3
  obtain⟨i,rfl⟩:=Int.eq_ofNat_of_zero_le q1
  unfold g_region_Place_s1
  dsimp only
  by_cases hi:i < l.length
  ·rw[if_pos (by simpa using hi),atI_nat hi,wr64 (x:=(i:Int)+1) (by omega)]
   simp only[Option.bind_some]
   have hc:(s.length+1) * 24≤140737488355328:=by omega
   simp only[hc,if_true]
   split
   ·exact .inr ⟨_,rfl,trivial⟩
   ·split
    ·exact .inr ⟨_,rfl,trivial⟩
    ·(repeat' split)<;>exact .inl ⟨_,rfl,⟨by dsimp only;omega,by dsimp only;omega,by simp;omega⟩,by dsimp only;omega⟩
  ·right
   rw[if_neg (by simpa using hi)]
   exact⟨_,rfl,trivial⟩)
 exact⟨x,he⟩
theorem place_s2 (r:T_api_Region) (l:List Int) (hl:l.length≤1048576):∃ e,iter (g_region_Place_s2 r l) ([],0)=some e:=by
 obtain⟨x,he,_⟩:=iter_post (step:=g_region_Place_s2 r l) (fun x=>0≤x.2∧x.2≤(l.length:Int)∧(x.1.length:Int)=x.2) (fun x=>l.length - x.2.toNat) (fun _=>True) (x:=([],0)) ⟨by simp,by simp,by simp⟩ (by dsimp only;omega) (by
  rintro⟨s,i⟩ ⟨q1,q2,q3⟩
  dsimp only at q1 q2 q3
  obtain⟨i,rfl⟩:=Int.eq_ofNat_of_zero_le q1
  unfold g_region_Place_s2
  dsimp only
  by_cases hi:i < l.length
  ·rw[if_pos (by simpa using hi),atI_nat hi,wr64 (x:=(i:Int)+1) (by omega)]
   simp only[Option.bind_some]
   have hc:(s.length+1) * 24≤140737488355328:=by omega
   simp only[hc,if_true]
   split
   ·exact .inr ⟨_,rfl,trivial⟩
   ·split
    ·exact .inr ⟨_,rfl,trivial⟩
    ·(repeat' split)<;>exact .inl ⟨_,rfl,⟨by dsimp only;omega,by dsimp only;omega,by simp;omega⟩,by dsimp only;omega⟩
  ·right
   rw[if_neg (by simpa using hi)]
   exact⟨_,rfl,trivial⟩)
 exact⟨x,he⟩
theorem place_tot (r:T_api_Region) (l:List Int) (hl:l.length≤1048576):∃ v,g_region_Place r l=some v:=by
 unfold g_region_Place
 obtain⟨v,hv⟩:=usable_tot r
 obtain⟨e1,h1⟩:=place_s1 r l hl
 obtain⟨e2,h2⟩:=place_s2 r l hl
 rw[hv,h1,h2]
 simp only[Option.bind_some]
 cases v<;>cases e1<;>cases e2<;>simp only[Bool.false_eq_true,if_false,if_true]<;>(repeat' split)<;>exact⟨_,rfl⟩
structure EvOK (e:T_api_Event):Prop where
 id:1≤e.ID∧e.ID≤1099511627776
 span:0≤e.Span.In∧e.Span.In < e.Span.Out∧e.Span.Out≤5184000
 rows:e.Rows.length≤4
 runs:∀ r ∈ e.Rows,r.Runs.length≤16
theorem evCheck_tot (e:T_api_Event) (h:EvZ e) (l:List T_api_Region) (hl:l.length≤1048576):∃ v,g_event_Check e l=some v∧(v=0→EvOK e):=by
 unfold g_event_Check
 obtain⟨f,hf⟩:=regFind_tot l (by omega) e.Region
 obtain⟨kn,hk⟩:=kind_tot e.Kind
 rw[hf,spans_eq,hk,lines_Name_eq]
 simp only[Option.bind_some]
 by_cases a1:e.ID < 1
 ·exact⟨2,by simp[a1],by simp⟩
 by_cases a2:1099511627776 < e.ID
 ·exact⟨2,by simp[a1,a2],by simp⟩
 cases a3:spB e.Span with
 | false=>exact⟨2,by simp[a1,a2],by simp⟩
 | true =>
  simp only[a1,a2,decide_false,Bool.false_eq_true,if_false,Option.bind_some,Bool.not_true]
  cases f.2 with
  | false=>exact⟨6,rfl,by simp⟩
  | true =>
   simp only[if_true]
   by_cases a4:kn=[]
   ·exact⟨3,by simp[a4],by simp⟩
   rw[if_neg (by simpa using a4)]
   obtain⟨b,hb⟩:∃ b:Bool,(if(e.Speaker == ([]:List UInt8))=true then(some false) else(some (!isNm e.Speaker)):Option Bool)=some b:=by split<;>exact⟨_,rfl⟩
   rw[hb]
   simp only[Option.bind_some]
   cases b with
   | true=>exact⟨5,rfl,by simp⟩
   | false =>
    simp only[Bool.false_eq_true,if_false]
    by_cases a5:e.Rows.length=0
    ·exact⟨9,by simp[a5],by simp⟩
    by_cases a6:4 < (e.Rows.length:Int)
    ·exact⟨9,by simp[a5,a6],by simp⟩
    rw[if_neg (by simpa using a5)]
    simp only[a6,decide_false,Option.bind_some,Bool.false_eq_true,if_false]
    have hrows:e.Rows.length≤4:=by omega
    obtain⟨x,hx,hxp⟩:=iter_cnt (step:=g_event_Check_s1 e) e.Rows.length (by omega) (fun i=>∀ j (hj:j < e.Rows.length),j < i→e.Rows[j].Runs.length≤16) (fun x=>(∀ v,x=.inl v→v≠0)∧(x=.inr ()→∀ j (hj:j < e.Rows.length),e.Rows[j].Runs.length≤16)) (fun j _ h=>by omega) (fun i hi hI=>by
     unfold g_event_Check_s1
     rw[if_pos (by simpa using hi),atI_nat hi,wr64 (x:=(i:Int)+1) (by omega)]
     simp only[Option.bind_some]
     obtain⟨v,hv,hv0⟩:=row_tot e.Rows[i] (h.2 _ (List.getElem_mem hi)).1
     rw[hv]
     simp only[Option.bind_some]
     by_cases q:v=0
     ·rw[if_neg (by simpa using q)]
      exact .inl ⟨rfl,fun j hj hji=>by
       rcases Nat.lt_succ_iff_lt_or_eq.1 hji with h1|h1
       ·exact hI j hj h1
       ·subst h1;exact hv0 q⟩
     ·rw[if_pos (by simpa using q)]
      exact .inr ⟨_,rfl,fun w hw=>by cases hw;exact q,by simp⟩) (fun hI=>by
     unfold g_event_Check_s1
     exact⟨_,by rw[if_neg (by simp)],by simp,fun _ j hj=>hI j hj hj⟩)
    rw[hx]
    simp only[Option.bind_some]
    have hok:(x=.inr ())→EvOK e:=fun hx1=>⟨by omega,by unfold spB at a3;simp at a3;omega,hrows,fun r hr=>by
     obtain⟨j,hj,rfl⟩:=List.getElem_of_mem hr
     exact hxp.2 hx1 j hj⟩
    cases x with
    | inl v =>
     exact⟨v,rfl,fun hv=>absurd hv (hxp.1 v rfl)⟩
    | inr u =>
     obtain⟨ls,hls,hlen⟩:=lens_tot e h
     obtain⟨pl,hpl⟩:=place_tot f.1 ls hlen
     simp only[hls,hpl,Option.bind_some]
     exact⟨_,rfl,fun _=>hok rfl⟩
theorem cmp_eq (x y:Int):g_cmp_Compare_int64 x y=some (if x < y then -1 else if y < x then 1 else 0):=by
 unfold g_cmp_Compare_int64 g_cmp_isNaN_int64
 simp only[bne_self_eq_false,Option.bind_some,Bool.false_eq_true,if_false]
 by_cases h1:x < y<;>by_cases h2:y < x<;>simp[h1,h2]
theorem or_loop (L:List Int) (hL:L.length≤1000):iter (g_cmp_Or_int_s1 L) 0=some (runF (fun(_:Unit) (y:Int)=>if y≠0 then .inl (.inl y:Int ⊕ Unit) else .inr ()) (fun _=>(.inr ():Int ⊕ Unit)) () L):=by
 have hst:∀ (i:Nat) (hi:i < L.length),g_cmp_Or_int_s1 L (i:Int)=if(L[i] != 0)=true then some (.out (.inl L[i])) else some (.go ((i:Int)+1)):=fun i hi=>by
  unfold g_cmp_Or_int_s1
  rw[if_pos (by simpa using hi),atI_nat hi,wr64 (x:=(i:Int)+1) (by omega)]
  simp only[Option.bind_some]
 refine iter_run (step:=g_cmp_Or_int_s1 L) L (by omega) (fun i (_:Unit)=>i) (fun _ y=>if y≠0 then .inl (.inl y) else .inr ()) (fun _=>(.inr ():Int ⊕ Unit)) (fun _ _=>True) (s0:=()) trivial
  (fun i hi s _=>?_) (fun s _=>by unfold g_cmp_Or_int_s1;rw[if_neg (by simp)])
 rw[hst i hi]
 by_cases q:L[i]=0
 ·exact .inr ⟨(),by simp[q],by simp[q],trivial⟩
 ·exact .inl ⟨.inl L[i],by simp[q],by simp[q]⟩
theorem or2_eq (a b:Int):g_cmp_Or_int [a,b]=some (if a≠0 then a else b):=by
 unfold g_cmp_Or_int
 rw[or_loop _ (by simp)]
 by_cases ha:a=0<;>by_cases hb:b=0<;>simp[runF,ha,hb]
def ltE (a b:T_api_Event):Bool:=decide (a.Span.In < b.Span.In)||(decide (a.Span.In=b.Span.In)&&decide (a.ID < b.ID))
theorem less_eq (a b:T_api_Event):g_event_Less a b=some (ltE a b):=by
 unfold g_event_Less ltE
 rw[cmp_eq,cmp_eq]
 simp only[Option.bind_some,or2_eq]
 congr 1
 by_cases h1:a.Span.In < b.Span.In
 ·simp[h1]
 ·by_cases h2:b.Span.In < a.Span.In
  ·have:¬ a.Span.In=b.Span.In:=by omega
   simp[h1,h2,this]
  ·have:a.Span.In=b.Span.In:=by omega
   by_cases h3:a.ID < b.ID
   ·simp[h1,h2,this,h3]
   ·by_cases h4:b.ID < a.ID<;>simp[h1,h2,this,h3,h4]
theorem evLen_tot (e:T_api_Event) (h:EvZ e):∃ v,g_event_Len e=some v:=by
 unfold g_event_Len
 obtain⟨l,hl,hlen⟩:=lens_tot e h
 rw[hl]
 simp only[Option.bind_some]
 generalize (if 0 > (IntKind.i64.wrap ((e.Rows.length:Int) - 1)) then 0 else(IntKind.i64.wrap ((e.Rows.length:Int) - 1)))=c0
 obtain⟨x,he,_⟩:=iter_post (step:=g_event_Len_s1 l) (fun x=>0≤x.2∧x.2≤(l.length:Int)) (fun x=>l.length - x.2.toNat) (fun _=>True) (x:=(c0,0)) ⟨by simp,by simp⟩ (by dsimp only;omega) (by
  rintro⟨s,i⟩ ⟨q1,q2⟩
  dsimp only at q1 q2
  obtain⟨i,rfl⟩:=Int.eq_ofNat_of_zero_le q1
  unfold g_event_Len_s1
  dsimp only
  by_cases hi:i < l.length
  ·rw[if_pos (by simpa using hi),atI_nat hi,wr64 (x:=(i:Int)+1) (by omega)]
   simp only[Option.bind_some]
   split
   ·exact .inr ⟨_,rfl,trivial⟩
   ·exact .inl ⟨_,rfl,⟨by dsimp only;omega,by dsimp only;omega⟩,by dsimp only;omega⟩
  ·right
   rw[if_neg (by simpa using hi)]
   exact⟨_,rfl,trivial⟩)
 rw[he]
 cases x<;>exact⟨_,rfl⟩
structure DocZ (d:T_api_Document):Prop where
 title:d.Title.length≤1048576
 rate:0≤d.Rate∧d.Rate≤255
 regs:d.Regions.length≤1048576
 evs:d.Events.length≤1048576
 ev:∀ e ∈ d.Events,EvZ e
 coms:d.Comments.length≤1048576
 com:∀ c ∈ d.Comments,c.Text.length≤1048576
structure MapZ (n:Nat) (m:MI Int):Prop where
 len:m.ks.length=m.vs.length
 val:∀ v ∈ m.vs,0≤v∧v < (n:Int)
theorem lookV_mem:∀ (ks vs:List Int) (c z:Int),ks.length=vs.length→ks.contains c=true→lookV ks vs c z ∈ vs
 | [],_,c,z,_,h=>by simp at h
 | k::ks,[],c,z,h,_=>by simp at h
 | k::ks,v::vs,c,z,h,hc=>by
  unfold lookV
  by_cases q:k=c
  ·rw[if_pos q];simp
  ·rw[if_neg q]
   have:ks.contains c=true:=by
    simp only[List.contains_cons,Bool.or_eq_true,beq_iff_eq] at hc
    rcases hc with hc|hc
    ·exact absurd hc.symm q
    ·exact hc
   exact List.mem_cons_of_mem _ (lookV_mem ks vs c z (by simpa using h) this)
theorem anch_tot (d:T_api_Document) (hd:DocZ d) (c:T_api_Comment) (m:MI Int) (hm:MapZ d.Events.length m):∃ v,g_document_anchored d c m=some v:=by
 unfold g_document_anchored
 by_cases h1:c.Event < 1
 ·exact⟨2,by simp[h1]⟩
 by_cases h2:d.Last < c.Event
 ·exact⟨2,by simp[h1,h2]⟩
 rw[if_neg (by simpa using h1),if_neg (by simpa using h2)]
 cases c.Lost with
 | true =>
  simp only[if_true]
  by_cases h3:c.From=0<;>by_cases h4:c.To=0<;>simp[h3,h4]
 | false =>
  simp only[Bool.false_eq_true,if_false]
  cases h3:m.ks.contains c.Event with
  | false=>exact⟨6,by simp⟩
  | true =>
   simp only[if_true]
   have hv:=hm.val _ (lookV_mem m.ks m.vs c.Event 0 hm.len h3)
   generalize hk:lookV m.ks m.vs c.Event 0=k at hv
   obtain⟨k,rfl⟩:=Int.eq_ofNat_of_zero_le hv.1
   have hlt:k < d.Events.length:=by omega
   rw[atI_nat hlt]
   simp only[Option.bind_some]
   obtain⟨v,hv2⟩:=evLen_tot _ (hd.ev _ (List.getElem_mem hlt))
   rw[hv2]
   simp only[Option.bind_some]
   (repeat' split)<;>exact⟨_,rfl⟩
theorem coms_tot (d:T_api_Document) (hd:DocZ d) (m:MI Int) (hm:MapZ d.Events.length m):∃ v,g_document_comments d m=some v:=by
 unfold g_document_comments
 by_cases h:64 < (d.Comments.length:Int)
 ·exact⟨9,by simp[h]⟩
 ·rw[if_neg (by simpa using h)]
  obtain⟨e,he⟩:∃ e,iter (g_document_comments_s1 d m) 0=some e:=by
   refine iter_ends d.Comments.length (by omega) (fun i hi=>?_) ?_
   ·unfold g_document_comments_s1
    rw[if_pos (by simpa using hi),atI_nat hi,wr64 (x:=(i:Int)+1) (by omega)]
    simp only[Option.bind_some]
    obtain⟨v,hv⟩:=anch_tot d hd d.Comments[i] m hm
    rw[hv,lines_Name_eq,prog_Valid_eq _ (by have:=hd.com _ (List.getElem_mem hi);omega)]
    simp only[Option.bind_some]
    have hp:0 < (i:Int)→∃ w,atI d.Comments (IntKind.i64.wrap ((i:Int) - 1))=some w:=fun q=>by
     rw[wr64 (by omega),show((i:Int) - 1)=((i - 1:Nat):Int) by omega,atI_nat (show i - 1 < d.Comments.length by omega)]
     exact⟨_,rfl⟩
    generalize d.Comments[i]=cm at *
    generalize m.ks.contains cm.ID=b1
    generalize (v != 0)=b2
    generalize isNm cm.Author=b3
    generalize gv cm.Text=b4
    generalize (cm.Text == ([]:List UInt8))=b5
    generalize decide (400 < (cm.Text.length:Int))=b6
    generalize decide (cm.ID < 1)=b7
    generalize decide (d.Last < cm.ID)=b8
    cases b7
    case true=>exact .inr ⟨_,rfl⟩
    cases b8
    case true=>exact .inr ⟨_,rfl⟩
    simp only[Bool.false_eq_true,if_false]
    by_cases q:0 < (i:Int)
    ·obtain⟨w,hw⟩:=hp q
     rw[if_pos (by simpa using q),hw]
     simp only[Option.bind_some]
     generalize decide (cm.ID≤w.ID)=b9
     cases b9<;>cases b1<;>cases b2<;>cases b3<;>cases b4<;>cases b5<;>cases b6<;>first|exact .inr ⟨_,rfl⟩|exact .inl rfl
    ·rw[if_neg (by simpa using q)]
     cases b1<;>cases b2<;>cases b3<;>cases b4<;>cases b5<;>cases b6<;>first|exact .inr ⟨_,rfl⟩|exact .inl rfl
   ·unfold g_document_comments_s1
    exact⟨_,by rw[if_neg (by simp)]⟩
  rw[he]
  cases e<;>exact⟨_,rfl⟩
theorem putK_new:∀ (ks:List Int) (n:Int),ks.contains n=false→putK ks n=ks++[n]
 | [],n,_=>rfl
 | k::ks,n,h=>by
  simp only[List.contains_cons,Bool.or_eq_false_iff,beq_eq_false_iff_ne,ne_eq] at h
  unfold putK
  rw[if_neg (fun e=>h.1 e.symm),putK_new ks n h.2]
  rfl
theorem putV_new:∀ (ks vs:List Int) (n y:Int),ks.contains n=false→ks.length=vs.length→putV ks vs n y=vs++[y]
 | [],[],n,y,_,_=>rfl
 | [],v::vs,n,y,_,h=>by simp at h
 | k::ks,[],n,y,_,h=>by simp at h
 | k::ks,v::vs,n,y,h,hl=>by
  simp only[List.contains_cons,Bool.or_eq_false_iff,beq_eq_false_iff_ne,ne_eq] at h
  unfold putV
  rw[if_neg (fun e=>h.1 e.symm),putV_new ks vs n y h.2 (by simpa using hl)]
  rfl
structure DocOK (d:T_api_Document):Prop where
 num:d.Events.length≤400
 ev:∀ e ∈ d.Events,EvOK e
 ids:(d.Events.map (·.ID)).Nodup
 ord:∀ i (h:i+1 < d.Events.length),ltE d.Events[i] d.Events[i+1]=true
structure ChI (d:T_api_Document) (i:Nat) (ks vs:List Int):Prop where
 kq:ks=(d.Events.take i).map (·.ID)
 nd:ks.Nodup
 len:vs.length=i
 val:∀ v ∈ vs,0≤v∧v < (d.Events.length:Int)
 ev:∀ j (h:j < d.Events.length),j < i→EvOK d.Events[j]
 ord:∀ j (h:j+1 < d.Events.length),j+1 < i→ltE d.Events[j] d.Events[j+1]=true
theorem check_loop (d:T_api_Document) (hd:DocZ d):∃ e,iter (g_document_Check_s1 d) (0,[],[])=some e∧(∀ v,e=.inl v→v≠0)∧(∀ ks vs,e=.inr (ks,vs)→ChI d d.Events.length ks vs):=by
 refine iter_post (step:=g_document_Check_s1 d) (fun x=>∃ i:Nat,x.1=i∧i≤d.Events.length∧ChI d i x.2.1 x.2.2) (fun x=>d.Events.length - x.1.toNat) (fun e=>(∀ v,e=.inl v→v≠0)∧(∀ ks vs,e=.inr (ks,vs)→ChI d d.Events.length ks vs)) (x:=(0,[],[])) ⟨0,rfl,by omega,⟨by simp,by simp,rfl,by simp,fun _ _ h=>by omega,fun _ _ h=>by omega⟩⟩ (by have:=hd.evs;dsimp only;omega) ?_
 rintro⟨x,ks,vs⟩ ⟨i,h1,hi,hI⟩
 dsimp only at h1 hI
 subst h1
 have hn:=hd.evs
 unfold g_document_Check_s1
 dsimp only
 by_cases hlt:i < d.Events.length
 ·rw[if_pos (by simpa using hlt),atI_nat hlt,wr64 (x:=(i:Int)+1) (by omega)]
  simp only[Option.bind_some]
  obtain⟨v,hv,hv0⟩:=evCheck_tot _ (hd.ev _ (List.getElem_mem hlt)) d.Regions hd.regs
  rw[hv]
  simp only[Option.bind_some]
  by_cases q:v=0
  ·rw[if_neg (by simpa using q)]
   by_cases q1:d.Last < d.Events[i].ID
   ·right
    rw[if_pos (by simpa using q1)]
    exact⟨_,rfl,fun w hw=>by cases hw;decide,fun _ _ hw=>by cases hw⟩
   ·rw[if_neg (by simpa using q1)]
    have next:ks.contains d.Events[i].ID=false→(0 < i→ltE (d.Events[i - 1]'(by omega)) d.Events[i]=true)→ChI d (i+1) (putK ks d.Events[i].ID) (putV ks vs d.Events[i].ID (i:Int)):=by
     intro hc ho
     rw[putK_new _ _ hc,putV_new _ _ _ _ hc (by rw[hI.kq,hI.len];simp;omega)]
     refine⟨?_,?_,?_,?_,?_,?_⟩
     ·rw[hI.kq,List.take_succ_eq_append_getElem hlt,List.map_append];rfl
     ·rw[List.nodup_append]
      refine⟨hI.nd,by simp,fun a ha b hb=>?_⟩
      simp only[List.mem_singleton] at hb
      subst hb
      intro e
      subst e
      have:ks.contains d.Events[i].ID=true:=List.contains_iff_mem.2 ha
      rw[hc] at this;cases this
     ·simp[hI.len]
     ·intro v hv
      rcases List.mem_append.1 hv with hv|hv
      ·exact hI.val v hv
      ·simp only[List.mem_singleton] at hv;subst hv;omega
     ·intro j hj hji
      rcases Nat.lt_succ_iff_lt_or_eq.1 hji with h2|h2
      ·exact hI.ev j hj h2
      ·subst h2;exact hv0 q
     ·intro j hj hji
      rcases Nat.lt_succ_iff_lt_or_eq.1 hji with h2|h2
      ·exact hI.ord j hj h2
      ·have:=ho (by omega)
       obtain rfl:i=j+1:=h2.symm
       exact this
    by_cases q2:0 < (i:Int)
    ·rw[if_pos (by simpa using q2),wr64 (by omega),show((i:Int) - 1)=((i - 1:Nat):Int) by omega,atI_nat (show i - 1 < d.Events.length by omega)]
     simp only[Option.bind_some,less_eq]
     cases q3:ltE (d.Events[i - 1]'(by omega)) d.Events[i] with
     | false=>exact .inr ⟨_,rfl,fun w hw=>by cases hw;decide,fun _ _ hw=>by cases hw⟩
     | true =>
      simp only[if_true]
      cases q4:ks.contains d.Events[i].ID with
      | true=>exact .inr ⟨_,rfl,fun w hw=>by cases hw;decide,fun _ _ hw=>by cases hw⟩
      | false=>exact .inl ⟨_,rfl,⟨i+1,by simp,by omega,next q4 (fun _=>q3)⟩,by dsimp only;omega⟩
    ·rw[if_neg (by simpa using q2)]
     cases q4:ks.contains d.Events[i].ID with
     | true=>exact .inr ⟨_,rfl,fun w hw=>by cases hw;decide,fun _ _ hw=>by cases hw⟩
     | false=>exact .inl ⟨_,rfl,⟨i+1,by simp,by omega,next q4 (fun h=>by omega)⟩,by dsimp only;omega⟩
  ·right
   rw[if_pos (by simpa using q)]
   exact⟨_,rfl,fun w hw=>by cases hw;exact q,fun _ _ hw=>by cases hw⟩
 ·obtain rfl:i=d.Events.length:=by omega
  right
  rw[if_neg (by simp)]
  exact⟨_,rfl,fun w hw=>(by cases hw),fun ks' vs' hw=>(by cases hw;exact hI)⟩
theorem docCheck (d:T_api_Document) (hd:DocZ d):∃ v,g_document_Check d=some v∧(v=0→DocOK d):=by
 unfold g_document_Check
 obtain⟨v1,h1⟩:=header_tot d hd.title hd.rate.1 hd.rate.2
 obtain⟨v2,h2⟩:=regList_tot d.Regions
 obtain⟨e,he,h3,h4⟩:=check_loop d hd
 rw[h1,h2,he]
 simp only[Option.bind_some]
 split
 ·rename_i q;exact⟨_,rfl,fun e=>by simp[e] at q⟩
 ·split
  ·rename_i q;exact⟨_,rfl,fun e=>by simp[e] at q⟩
  ·split
   ·exact⟨_,rfl,by simp⟩
   ·rename_i q
    cases e with
    | inl v=>exact⟨_,rfl,fun e=>absurd e (h3 v rfl)⟩
    | inr p =>
     obtain⟨ks,vs⟩:=p
     have hc:=h4 ks vs rfl
     obtain⟨v,hv⟩:=coms_tot d hd ⟨ks,vs⟩ ⟨by rw[hc.kq,hc.len];simp,hc.val⟩
     simp only[hv,Option.bind_some]
     refine⟨_,rfl,fun _=>⟨by simp at q;omega,fun e he=>?_,?_,fun i h=>hc.ord i h h⟩⟩
     ·obtain⟨j,hj,rfl⟩:=List.getElem_of_mem he
      exact hc.ev j hj hj
     ·have:=hc.nd
      rw[hc.kq,List.take_length] at this
      exact this
structure Ed where
 i:Nat
 j:Nat
 c:Int
inductive Wlk (p:Ed→Prop):Nat→Nat→List Ed→Prop
 | nil (u:Nat):Wlk p u u []
 | cons {e:Ed} {v:Nat} {L:List Ed}:p e→Wlk p e.j v L→Wlk p e.i v (e::L)
theorem Wlk.nil_eq {p:Ed→Prop} {u v:Nat} (h:Wlk p u v []):u=v:=by
 cases h
 rfl
def sumE:List Ed→Int
 | []=>0
 | e::L=>e.c+sumE L
theorem Wlk.app {p:Ed→Prop} {u v w:Nat} {x y:List Ed} (h:Wlk p u v x) (k:Wlk p v w y):Wlk p u w (x++y):=by
 induction h with
 | nil=>exact k
 | cons h1 _ ih=>exact .cons h1 (ih k)
theorem Wlk.split {p:Ed→Prop} {u w:Nat}:∀ {x y:List Ed},Wlk p u w (x++y)→∃ v,Wlk p u v x∧Wlk p v w y
 | [],y,h=>⟨u,.nil u,h⟩
 | e::x,y,h=>by
  cases h with
  | cons h1 h2 =>
   obtain⟨v,a,b⟩:=Wlk.split (x:=x) h2
   exact⟨v,.cons h1 a,b⟩
theorem Wlk.mono {p q:Ed→Prop} {u v:Nat} {L:List Ed} (h:Wlk p u v L) (hpq:∀ e ∈ L,p e→q e):Wlk q u v L:=by
 induction h with
 | nil=>exact .nil _
 | cons h1 _ ih=>exact .cons (hpq _ (by simp) h1) (ih fun e he=>hpq e (by simp[he]))
def In (p:Ed→Prop) (n:Nat):Prop:=∀ e,p e→e.i < n∧e.j < n
theorem set_getD (x:List Int) (i v:Nat) (y:Int):(x.set i y).getD v 0=if i=v∧v < x.length then y else x.getD v 0:=by
 simp only[List.getD,List.getElem?_set]
 by_cases h:i=v
 ·subst h
  by_cases hv:i < x.length
  ·simp[hv]
  ·simp[hv]
 ·simp[h]
def far:Int:=1152921504606846976
def RowS (R:Nat→Int→Prop) (n:Nat) (r:List Int):Prop:=r.length=n∧∀ v,v < n→(r.getD v 0≠far→R v (r.getD v 0))∧∀ c,R v c→r.getD v 0≤c
theorem rep_getD {n v:Nat} (hv:v < n):(List.replicate n far).getD v 0=far:=by simp[List.getD,hv]
def FW (l:List Ed) (s k v:Nat) (c:Int):Prop:=∃ L,Wlk (· ∈ l) s v L∧L.length=k∧sumE L=c
theorem fw_0 {l:List Ed} {s v:Nat} {c:Int}:FW l s 0 v c ↔ v=s∧c=0:=by
 constructor
 ·rintro⟨L,w,h,rfl⟩
  obtain rfl:=List.eq_nil_of_length_eq_zero h
  exact⟨w.nil_eq.symm,rfl⟩
 ·rintro⟨rfl,rfl⟩
  exact⟨[],.nil _,rfl,rfl⟩
theorem row_0 {l:List Ed} {n s:Nat} (hs:s < n):RowS (fun v c=>FW l s 0 v c) n ((List.replicate n far).set s 0):=by
 refine⟨by simp,fun v hv=>⟨fun h=>?_,fun c hc=>?_⟩⟩
 ·rw[set_getD] at h ⊢
  by_cases hsv:s=v
  ·rw[if_pos ⟨hsv,by simpa using hv⟩];exact fw_0.2 ⟨hsv.symm,rfl⟩
  ·rw[if_neg (fun q=>hsv q.1),rep_getD hv] at h;exact absurd rfl h
 ·obtain⟨rfl,rfl⟩:=fw_0.1 hc
  rw[set_getD,if_pos ⟨rfl,by simpa using hv⟩]
  exact Int.le_refl _
section
variable {l:List Ed} {n:Nat} (hc:∀ e ∈ l,-1099511627776≤e.c∧e.c≤1099511627776) (hi:In (· ∈ l) n)
include hc hi
end
theorem Wlk.head {p:Ed→Prop} {u v:Nat} {L:List Ed} (h:Wlk p u v L):(L.map (·.i)++[v]).head? = some u:=by
 cases h<;>rfl
def ed (b:T_api_Bound):Ed:=⟨b.I.toNat,b.J.toNat,b.C⟩
def eds (l:List T_api_Bound):List Ed:=l.map ed
structure BdsOK (n:Nat) (l:List T_api_Bound):Prop where
 n1:1≤n
 n2:n≤512
 len:l.length≤4000
 bd:∀ b ∈ l,0≤b.I∧b.I < (n:Int)∧0≤b.J∧b.J < (n:Int)∧-1099511627776≤b.C∧b.C≤1099511627776
theorem BdsOK.cc {n:Nat} {l:List T_api_Bound} (h:BdsOK n l):∀ e ∈ eds l,-1099511627776≤e.c∧e.c≤1099511627776:=by
 intro e he
 obtain⟨b,hb,rfl⟩:=List.mem_map.1 he
 have:=h.bd b hb
 simp only[ed]
 omega
theorem setI_nat {α:Type} {l:List α} {n:Nat} (x:α) (h:n < l.length):setI l (n:Int) x=some (l.set n x):=by
 unfold setI
 rw[if_pos (by omega)]
 rfl
def x0 (n:Nat):List Int:=List.replicate n 0
def letS (e:T_api_Event):Int:=(g_repair_letters e).getD 0
theorem needS_bd (r c l:Int) (h0:0≤r) (h1:r≤255):0≤(needS r c l).1∧(needS r c l).1≤120000000000:=by
 unfold needS
 split
 ·rename_i hv
  split
  ·rename_i hw
   have hw':wiB c 0 10000=true∧wiB l 1 10000=true:=by simpa using hw
   have hc:=wiB_t hw'.1
   have hl:=wiB_t hw'.2
   obtain⟨_,_,_,ht⟩:=rates r h0 h1
   obtain⟨_,t1,t2⟩:=ht hv
   have hm:=mul_small 10000 hl.1 hl.2 t1 t2 (by omega)
   generalize l * rtT r=b at hm
   have hle:upQ (c * 12000000) b≤120000000000:=(upQ_le (by omega) (by omega)).2 (by
    have:120000000000 * 1≤120000000000 * b:=Int.mul_le_mul_of_nonneg_left hm.1 (by omega)
    omega)
   refine⟨?_,hle⟩
   show 0≤upQ (c * 12000000) b
   unfold upQ
   exact Int.tdiv_nonneg (by omega) (by omega)
  ·simp
 ·simp
def bsA (d:T_api_Document) (p:T_api_Profile) (i:Int) (x:T_api_Event):List T_api_Bound :=
 [⟨2 * i+2,2 * i+1,-(needS d.Rate (letS x) p.Reading).1,1,x.ID,0⟩,⟨2 * i+2,2 * i+1,-p.MinFrames,2,x.ID,0⟩,⟨2 * i+1,2 * i+2,p.MaxFrames,3,x.ID,0⟩]
def bsZ (v:Int) (z:T_api_Span) (id:Int):List T_api_Bound:=[⟨v,0,-z.In,6,id,0⟩,⟨0,v,z.Out - 1,6,id,0⟩]
def bsT (v f tol id:Int):List T_api_Bound:=[⟨v,0,-(f - tol),11,id,0⟩,⟨0,v,f+tol,11,id,0⟩]
def bsG (p:T_api_Profile) (i id:Int):Option T_api_Event→List T_api_Bound
 | some y=>[⟨2 * i+3,2 * i+2,-p.MinGap,4,id,y.ID⟩]
 | none=>[]
def bsE (d:T_api_Document) (p:T_api_Profile) (l:List Int) (tol:Int) (i:Nat) (x:T_api_Event):Int ⊕ List T_api_Bound :=
 if(zoS l x.Span.In p).2≠0 then .inl (zoS l x.Span.In p).2 else if(zoS l x.Span.Out p).2≠0 then .inl (zoS l x.Span.Out p).2 else
  .inr (bsA d p i x++(bsZ (2 * i+1) (zoS l x.Span.In p).1 x.ID++bsZ (2 * i+2) (zoS l x.Span.Out p).1 x.ID)++(bsT (2 * i+1) x.Span.In tol x.ID++bsT (2 * i+2) x.Span.Out tol x.ID)++bsG p i x.ID d.Events[i+1]?)
theorem zoS_bd (l:List Int) (hl:l.length≤1000) (f:Int) (p:T_api_Profile):(zoS l f p).2=0→0≤(zoS l f p).1.In∧(zoS l f p).1.In≤5184000∧1≤(zoS l f p).1.Out∧(zoS l f p).1.Out≤5184001:=by
 obtain⟨_,h⟩:=snS_eq l hl f p.ShotBefore p.ShotAfter
 unfold zoS
 cases hs:(snS l f p.ShotBefore p.ShotAfter).2 with
 | false=>intro q;cases q
 | true =>
  intro _
  have:=zoR_in p (h hs) l
  simp only[if_true]
  have:=h hs
  omega
def bnF (d:T_api_Document) (p:T_api_Profile) (l:List Int) (tol:Int) (s:List T_api_Bound) (a:T_api_Event × Nat):(Int ⊕ List T_api_Bound) ⊕ List T_api_Bound :=
 match bsE d p l tol a.2 a.1 with
 | .inl e=>.inl (.inl e)
 | .inr bs=>.inr (s++bs)
def bnR (d:T_api_Document) (p:T_api_Profile) (l:List Int) (tol:Int):Int ⊕ List T_api_Bound:=runF (bnF d p l tol) .inr [] d.Events.zipIdx
theorem bsE_len {d:T_api_Document} {p:T_api_Profile} {l:List Int} {tol:Int} {i:Nat} {x:T_api_Event} {bs:List T_api_Bound} (h:bsE d p l tol i x=.inr bs):bs.length≤12:=by
 unfold bsE at h
 split at h
 ·cases h
 ·split at h
  ·cases h
  ·cases h
   cases d.Events[i+1]?<;>simp[bsA,bsZ,bsT,bsG]
theorem okR_of {p:T_api_Profile} (h:ckS p=0):okR p:=by
 by_cases hr:okR p
 ·exact hr
 ·unfold ckS at h
  simp only[hr,not_false_eq_true,if_true] at h
  split at h<;>cases h
def dcS (d:T_api_Document):Int:=(g_document_Check d).getD 0
theorem dcS_eq (d:T_api_Document) (hd:DocZ d):g_document_Check d=some (dcS d)∧(dcS d=0→DocOK d):=by
 obtain⟨v,h1,h2⟩:=docCheck d hd
 unfold dcS
 rw[h1]
 exact⟨rfl,h2⟩
def ckB (d:T_api_Document) (p:T_api_Profile) (l:List Int) (tol:Int):Int :=
 if dcS d≠0 then dcS d else if ckS p≠0 then ckS p else if shC l≠0 then shC l else if tol < 0∨5184000 < tol then 2 else if 255 < (d.Events.length:Int) then 9 else 0
structure TaskZ (d:T_api_Document) (p:T_api_Profile) (l:List Int):Prop where
 doc:DocZ d
 name:p.Name.length≤1048576
 forb:p.Forbidden.length≤1048576
 shots:l.length≤1000
def bnS (d:T_api_Document) (p:T_api_Profile) (l:List Int) (tol:Int):List T_api_Bound × Int :=
 if ckB d p l tol≠0 then([],ckB d p l tol) else(bnR d p l tol).elim (fun e=>([],e)) (fun bs=>(bs,0))
theorem ckB_0 {d:T_api_Document} {p:T_api_Profile} {l:List Int} {tol:Int} (h:ckB d p l tol=0):dcS d=0∧ckS p=0∧shC l=0∧(0≤tol∧tol≤5184000)∧d.Events.length≤255:=by
 unfold ckB at h
 split at h
 ·exact absurd h ‹_›
 ·split at h
  ·exact absurd h ‹_›
  ·split at h
   ·exact absurd h ‹_›
   ·split at h
    ·cases h
    ·split at h
     ·cases h
     ·omega
theorem runF_all {α:Type} {F:List T_api_Bound→α→(Int ⊕ List T_api_Bound) ⊕ List T_api_Bound} {P:T_api_Bound→Prop} {Q:α→Prop} (hF:∀ s a s',Q a→F s a=.inr s'→(∀ b ∈ s,P b)→∀ b ∈ s',P b) (hF2:∀ s a e,F s a=.inl e→∃ v,e=.inl v):∀ (L:List α) (s bs:List T_api_Bound),(∀ a ∈ L,Q a)→runF F .inr s L=.inr bs→(∀ b ∈ s,P b)→∀ b ∈ bs,P b
 | [],s,bs,_,h,hs=>by cases h;exact hs
 | a::L,s,bs,hQ,h,hs=>by
  simp only[runF] at h
  cases hf:F s a with
  | inl e =>
   rw[hf] at h
   obtain⟨v,rfl⟩:=hF2 s a e hf
   cases h
  | inr s' =>
   rw[hf] at h
   exact runF_all hF hF2 L s' bs (fun a ha=>hQ a (by simp[ha])) h (hF s a s' (hQ a (by simp)) hf hs)
theorem runF_len {α:Type} {F:List T_api_Bound→α→(Int ⊕ List T_api_Bound) ⊕ List T_api_Bound} (hF:∀ s a s',F s a=.inr s'→s'.length≤s.length+12) (hF2:∀ s a e,F s a=.inl e→∃ v,e=.inl v):∀ (L:List α) (s bs:List T_api_Bound),runF F .inr s L=.inr bs→bs.length≤s.length+12 * L.length
 | [],s,bs,h=>by cases h;simp
 | a::L,s,bs,h=>by
  simp only[runF] at h
  cases hf:F s a with
  | inl e =>
   rw[hf] at h
   obtain⟨v,rfl⟩:=hF2 s a e hf
   cases h
  | inr s' =>
   rw[hf] at h
   have h1:=runF_len hF hF2 L s' bs h
   have h2:=hF s a s' hf
   simp only[List.length_cons]
   omega
theorem bnF_inl {d:T_api_Document} {p:T_api_Profile} {l:List Int} {tol:Int} {s:List T_api_Bound} {a:T_api_Event × Nat} {e:Int ⊕ List T_api_Bound} (h:bnF d p l tol s a=.inl e):∃ v,e=.inl v:=by
 unfold bnF at h
 split at h
 ·cases h;exact⟨_,rfl⟩
 ·cases h
theorem bnF_inr {d:T_api_Document} {p:T_api_Profile} {l:List Int} {tol:Int} {s s':List T_api_Bound} {a:T_api_Event × Nat} (h:bnF d p l tol s a=.inr s'):∃ bs,bsE d p l tol a.2 a.1=.inr bs∧s'=s++bs:=by
 unfold bnF at h
 split at h
 ·cases h
 ·rename_i bs hb;cases h;exact⟨bs,hb,rfl⟩
theorem bnR_ok {d:T_api_Document} {p:T_api_Profile} {l:List Int} (h:TaskZ d p l) {tol:Int} (hc:ckB d p l tol=0) {bs:List T_api_Bound} (hb:bnR d p l tol=.inr bs):BdsOK (2 * d.Events.length+1) bs:=by
 obtain⟨a,b,c,e,f⟩:=ckB_0 hc
 have hD:=(dcS_eq d h.doc).2 a
 have hp:=okR_of b
 have hlz:d.Events.zipIdx.length=d.Events.length:=List.length_zipIdx
 have hlen:=runF_len (fun s a s' hf=>by
  obtain⟨bs,hb,rfl⟩:=bnF_inr hf
  have:=bsE_len hb
  simp;omega) (fun s a e hf=>bnF_inl hf) _ _ _ hb
 simp only[List.length_nil,hlz] at hlen
 refine⟨by omega,by omega,by omega,?_⟩
 refine runF_all (F:=bnF d p l tol) (P:=fun b=>0≤b.I∧b.I < ((2 * d.Events.length+1:Nat):Int)∧0≤b.J∧b.J < ((2 * d.Events.length+1:Nat):Int)∧-1099511627776≤b.C∧b.C≤1099511627776) (Q:=fun a:T_api_Event × Nat=>a.2 < d.Events.length∧EvOK a.1∧(a.2+1=d.Events.length→d.Events[a.2+1]? = none)) ?_ (fun s a e hf=>bnF_inl hf) d.Events.zipIdx [] bs (fun a ha=>?_) hb (by simp)
 ·rintro s ⟨x,i⟩ s' ⟨hi,hx,_⟩ hf hs
  obtain⟨b1,hb1,rfl⟩:=bnF_inr hf
  intro b hbm
  rcases List.mem_append.1 hbm with hbm|hbm
  ·exact hs b hbm
  ·dsimp only at hi hx hb1
   have hsp:=hx.span
   have hnd:=needS_bd d.Rate (letS x) p.Reading h.doc.rate.1 h.doc.rate.2
   unfold okR at hp
   unfold bsE at hb1
   split at hb1
   ·cases hb1
   ·rename_i q1
    split at hb1
    ·cases hb1
    ·rename_i q2
     cases hb1
     have z1:=zoS_bd l h.shots x.Span.In p (by omega)
     have z2:=zoS_bd l h.shots x.Span.Out p (by omega)
     simp only[bsA,bsZ,bsT,List.mem_append,List.mem_cons,List.not_mem_nil,or_false] at hbm
     rcases hbm with(((rfl|rfl|rfl)|(rfl|rfl)|rfl|rfl)|(rfl|rfl)|rfl|rfl)|hg
     all_goals first|(dsimp only;omega)|skip
     by_cases q3:i+1 < d.Events.length
     ·rw[List.getElem?_eq_getElem q3] at hg
      simp only[bsG,List.mem_singleton] at hg
      subst hg
      dsimp only
      omega
     ·rw[List.getElem?_eq_none (by omega)] at hg
      simp[bsG] at hg
 ·obtain⟨j,hj,rfl⟩:=List.getElem_of_mem ha
  have hj':j < d.Events.length:=by omega
  rw[show d.Events.zipIdx[j]=(d.Events[j],j) from by simp[List.getElem_zipIdx]]
  exact⟨hj',hD.ev _ (List.getElem_mem hj'),fun q=>List.getElem?_eq_none (by dsimp only;omega)⟩
def RB (n:Nat) (K:Int) (r:List Int):Prop:=r.length=n∧∀ v,v < n→r.getD v 0≠far→-(K * 1099511627776)≤r.getD v 0∧r.getD v 0≤K * 1099511627776
theorem BdsOK.sub {n:Nat} {l t:List T_api_Bound} (h:BdsOK n l) (hs:∀ b ∈ t,b ∈ l) (ht:t.length≤4000):BdsOK n t:=⟨h.n1,h.n2,ht,fun b hb=>h.bd b (hs b hb)⟩
theorem BdsOK.drop {n:Nat} {l:List T_api_Bound} (h:BdsOK n l) (k:Nat):BdsOK n (l.drop k):=h.sub (fun b hb=>List.mem_of_mem_drop hb) (by have:=h.len;simp;omega)
def eAt (l:List T_api_Bound) (i:Int):Ed:=(eds l).getD i.toNat ⟨0,0,0⟩
structure CfOK (l:List T_api_Bound) (k:Nat) (out:List Int):Prop where
 len:out.length=k
 idx:∀ i ∈ out,0≤i∧i < (l.length:Int)
 cyc:∃ u,Wlk (· ∈ eds l) u u (out.map (eAt l))
 neg:sumE (out.map (eAt l)) < 0
theorem RB.mono {n:Nat} {K K':Int} {r:List Int} (h:RB n K r) (hk:K≤K'):RB n K' r :=
 ⟨h.1,fun v hv hf=>by have:=h.2 v hv hf;omega⟩
structure BkI (n:Nat) (l:List T_api_Bound) (first t k:Nat) (r a:Nat) (sum:Int) (out:List Int):Prop where
 an:a < n
 len:out.length+r=k
 idx:∀ i ∈ out,0≤i∧i < (l.length:Int)
 wlk:Wlk (· ∈ eds l) t a (out.map (eAt l))
 tot:sumE (out.map (eAt l))=sum
 rest:∃ L,Wlk (· ∈ eds (l.drop (first+1))) a t L∧L.length=r∧sum+sumE L < 0
theorem clU {l:List T_api_Run} (h:l.length≤1048576):g_slices_Clone_api_Run_api_Run l=some l:=by unfold g_slices_Clone_api_Run_api_Run;rw[if_pos (by omega)]
theorem clR {l:List T_api_Row} (h:l.length≤1048576):g_slices_Clone_api_Row_api_Row l=some l:=by unfold g_slices_Clone_api_Row_api_Row;rw[if_pos (by omega)]
theorem clE {l:List T_api_Event} (h:l.length≤1048576):g_slices_Clone_api_Event_api_Event l=some l:=by unfold g_slices_Clone_api_Event_api_Event;rw[if_pos (by omega)]
theorem clG {l:List T_api_Region} (h:l.length≤1048576):g_slices_Clone_api_Region_api_Region l=some l:=by unfold g_slices_Clone_api_Region_api_Region;rw[if_pos (by omega)]
theorem clC {l:List T_api_Comment} (h:l.length≤1048576):g_slices_Clone_api_Comment_api_Comment l=some l:=by unfold g_slices_Clone_api_Comment_api_Comment;rw[if_pos (by omega)]
theorem same_loop {α:Type} {step:Int × List α→Option (Nx (Int × List α) (List α))} (l:List α) (hn:l.length≤9223372036854775807) (hgo:∀ (i:Nat) (h:i < l.length),step ((i:Int),l)=some (.go ((i:Int)+1,l))) (hend:step ((l.length:Int),l)=some (.out l)):iter step (0,l)=some l:=by
 have:=iter_run (step:=step) l hn (fun i (_:Unit)=>(i,l)) (fun _ _=>.inr ()) (fun _=>l) (fun _ _=>True) (s0:=()) trivial (fun i hi _ _=>.inr ⟨(),rfl,hgo i hi,trivial⟩) (fun _ _=>hend)
 rw[show((0:Int),l)=(fun i (_:Unit)=>(i,l)) 0 () from rfl,this]
 congr 1
 have:∀ t:List α,runF (fun(_:Unit) (_:α)=>(.inr ():List α ⊕ Unit)) (fun _=>l) () t=l:=by
  intro t
  induction t with
  | nil=>rfl
  | cons a t ih=>simp only[runF];exact ih
 exact this l
theorem set_same {α:Type} {l:List α} {i:Nat} (h:i < l.length):setI l (i:Int) l[i]=some l:=by
 rw[setI_nat _ h];simp
theorem styClone (rows:List T_api_Row) (h:rows.length≤1048576) (hr:∀ r ∈ rows,r.Runs.length≤1048576):g_style_Clone rows=some rows:=by
 unfold g_style_Clone
 cases rows with
 | nil =>
  simp only[List.isEmpty_nil,if_true]
  rw[clR (by simp)]
  simp only[Option.bind_some]
  have:iter (g_style_Clone_s1 []) ()=some ():=by
   refine iter_of (fun x e=>True) (fun _=>0) ?_ (x:=()) trivial (by decide)
   intro x e _
   right
   unfold g_style_Clone_s1
   rw[if_neg (by simp)]
  rw[this]
  rfl
 | cons a t =>
  simp only[List.isEmpty_cons,Bool.false_eq_true,if_false]
  generalize hl:a::t=l at *
  have hne:l.isEmpty=false:=by rw[← hl];rfl
  rw[show g_slices_Clone_api_Row_api_Row_nw l=some l from by unfold g_slices_Clone_api_Row_api_Row_nw;rw[hne];exact clR h]
  simp only[Option.bind_some]
  rw[same_loop l (by omega) (fun i hi=>by
   unfold g_style_Clone_s2
   dsimp only
   rw[if_pos (by simpa using hi),atI_nat hi,wr64 (x:=(i:Int)+1) (by omega)]
   simp only[Option.bind_some]
   have hz:=hr _ (List.getElem_mem hi)
   rw[clU hz,show g_slices_Clone_api_Run_api_Run_nw l[i].Runs=if l[i].Runs.isEmpty then none else some l[i].Runs from by unfold g_slices_Clone_api_Run_api_Run_nw;rw[clU hz]]
   have hs:setI l (i:Int) (T_api_Row.mk l[i].Runs)=some l:=set_same hi
   cases hq:l[i].Runs.isEmpty with
   | true=>simp only[if_true,Option.bind_some];rw[hs];rfl
   | false=>simp only[Bool.false_eq_true,if_false,Option.bind_some];rw[hs];rfl) (by unfold g_style_Clone_s2;dsimp only;rw[if_neg (by simp)])]
  rfl
theorem evClone (e:T_api_Event) (h:EvZ e):g_event_Clone e=some e:=by
 unfold g_event_Clone
 rw[styClone _ h.1 (fun r hr=>(h.2 r hr).2)]
 rfl
theorem dcl_loop (l:List T_api_Event) (h:l.length≤1048576) (hz:∀ e ∈ l,EvZ e):iter (g_document_Clone_s2 l) (0,l)=some l :=
 same_loop l (by omega) (fun i hi=>by
  unfold g_document_Clone_s2
  dsimp only
  rw[if_pos (by simpa using hi),atI_nat hi,wr64 (x:=(i:Int)+1) (by omega)]
  simp only[Option.bind_some]
  rw[evClone _ (hz _ (List.getElem_mem hi))]
  simp only[Option.bind_some]
  rw[set_same hi]
  rfl) (by unfold g_document_Clone_s2;dsimp only;rw[if_neg (by simp)])
theorem dcl_nil:iter (g_document_Clone_s1 []) ()=some ():=by
 refine iter_of (fun x e=>True) (fun _=>0) ?_ (x:=()) trivial (by decide)
 intro x e _
 right
 unfold g_document_Clone_s1
 rw[if_neg (by simp)]
theorem empty_nil {α:Type} {l:List α} (h:l.isEmpty=true):l=[]:=List.isEmpty_iff.1 h
theorem docClone (d:T_api_Document) (hd:DocZ d):g_document_Clone d=some d:=by
 have e1:=dcl_loop d.Events hd.evs hd.ev
 have e2:iter (g_document_Clone_s4 d.Events) (0,d.Events)=some d.Events:=e1
 have e3:iter (g_document_Clone_s6 d.Events) (0,d.Events)=some d.Events:=e1
 have e4:iter (g_document_Clone_s8 d.Events) (0,d.Events)=some d.Events:=e1
 have n1:iter (g_document_Clone_s3 []) ()=some ():=dcl_nil
 have n2:iter (g_document_Clone_s5 []) ()=some ():=dcl_nil
 have n3:iter (g_document_Clone_s7 []) ()=some ():=dcl_nil
 unfold g_document_Clone
 have c1:=clG hd.regs
 have c2:=clC hd.coms
 have c3:=clE hd.evs
 have w1:d.Regions.isEmpty=false→g_slices_Clone_api_Region_api_Region_nw d.Regions=some d.Regions:=fun h=>by unfold g_slices_Clone_api_Region_api_Region_nw;rw[h];exact c1
 have w2:d.Comments.isEmpty=false→g_slices_Clone_api_Comment_api_Comment_nw d.Comments=some d.Comments:=fun h=>by unfold g_slices_Clone_api_Comment_api_Comment_nw;rw[h];exact c2
 have w3:d.Events.isEmpty=false→g_slices_Clone_api_Event_api_Event_nw d.Events=some d.Events:=fun h=>by unfold g_slices_Clone_api_Event_api_Event_nw;rw[h];exact c3
 cases h1:d.Regions.isEmpty<;>cases h2:d.Comments.isEmpty<;>cases h3:d.Events.isEmpty<;>simp only[Bool.false_eq_true,if_false,if_true]
 ·rw[w1 h1];simp only[Option.bind_some];rw[w2 h2];simp only[Option.bind_some];rw[w3 h3];simp only[Option.bind_some];rw[e4];rfl
 ·rw[w1 h1];simp only[Option.bind_some];rw[w2 h2];simp only[Option.bind_some];rw[c3];simp only[Option.bind_some];rw[empty_nil h3,n3,Option.bind_some,← empty_nil h3]
 ·rw[w1 h1];simp only[Option.bind_some];rw[c2];simp only[Option.bind_some];rw[w3 h3];simp only[Option.bind_some];rw[e3];rfl
 ·rw[w1 h1];simp only[Option.bind_some];rw[c2];simp only[Option.bind_some];rw[c3];simp only[Option.bind_some];rw[empty_nil h3,n2,Option.bind_some,← empty_nil h3]
 ·rw[c1];simp only[Option.bind_some];rw[w2 h2];simp only[Option.bind_some];rw[w3 h3];simp only[Option.bind_some];rw[e2];rfl
 ·rw[c1];simp only[Option.bind_some];rw[w2 h2];simp only[Option.bind_some];rw[c3];simp only[Option.bind_some];rw[empty_nil h3,n1,Option.bind_some,← empty_nil h3]
 ·rw[c1];simp only[Option.bind_some];rw[c2];simp only[Option.bind_some];rw[w3 h3];simp only[Option.bind_some];rw[e1];rfl
 ·rw[c1];simp only[Option.bind_some];rw[c2];simp only[Option.bind_some];rw[c3];simp only[Option.bind_some];rw[empty_nil h3,dcl_nil,Option.bind_some,← empty_nil h3]
theorem docClone_nw (d:T_api_Document) (hd:DocZ d) (h3:d.Events.isEmpty=false):g_document_Clone_nw d=some d:=by
 have e1:iter (g_document_Clone_nw_s2 d.Events) (0,d.Events)=some d.Events:=dcl_loop d.Events hd.evs hd.ev
 have e2:iter (g_document_Clone_nw_s4 d.Events) (0,d.Events)=some d.Events:=e1
 have e3:iter (g_document_Clone_nw_s6 d.Events) (0,d.Events)=some d.Events:=e1
 have e4:iter (g_document_Clone_nw_s8 d.Events) (0,d.Events)=some d.Events:=e1
 unfold g_document_Clone_nw
 have c1:=clG hd.regs
 have c2:=clC hd.coms
 have c3:=clE hd.evs
 have w1:d.Regions.isEmpty=false→g_slices_Clone_api_Region_api_Region_nw d.Regions=some d.Regions:=fun h=>by unfold g_slices_Clone_api_Region_api_Region_nw;rw[h];exact c1
 have w2:d.Comments.isEmpty=false→g_slices_Clone_api_Comment_api_Comment_nw d.Comments=some d.Comments:=fun h=>by unfold g_slices_Clone_api_Comment_api_Comment_nw;rw[h];exact c2
 have w3:g_slices_Clone_api_Event_api_Event_nw d.Events=some d.Events:=by unfold g_slices_Clone_api_Event_api_Event_nw;rw[h3];exact c3
 cases h1:d.Regions.isEmpty<;>cases h2:d.Comments.isEmpty<;>simp only[h3,Bool.false_eq_true,if_false,if_true]
 ·rw[w1 h1];simp only[Option.bind_some];rw[w2 h2];simp only[Option.bind_some];rw[w3];simp only[Option.bind_some];rw[e4];rfl
 ·rw[w1 h1];simp only[Option.bind_some];rw[c2];simp only[Option.bind_some];rw[w3];simp only[Option.bind_some];rw[e3];rfl
 ·rw[c1];simp only[Option.bind_some];rw[w2 h2];simp only[Option.bind_some];rw[w3];simp only[Option.bind_some];rw[e2];rfl
 ·rw[c1];simp only[Option.bind_some];rw[c2];simp only[Option.bind_some];rw[w3];simp only[Option.bind_some];rw[e1];rfl
theorem find_loop {step:Int→Option (Nx Int (Int ⊕ Unit))} (l:List T_api_Event) (hn:l.length≤1048576) (id:Int) (hgo:∀ (i:Nat) (h:i < l.length),step (i:Int)=if(l[i].ID == id)=true then some (.out (.inl (i:Int))) else some (.go ((i:Int)+1))) (hend:step (l.length:Int)=some (.out (.inr ()))) :
  ∃ e,iter step 0=some e∧((∃ i,∃ h:i < l.length,e=.inl (i:Int)∧l[i].ID=id)∨(e=.inr ()∧∀ i (h:i < l.length),l[i].ID≠id)):=by
 refine iter_cnt l.length (by omega) (fun i=>∀ j (h:j < l.length),j < i→l[j].ID≠id) _ (fun j _ h=>by omega) (fun i hi hI=>?_) (fun hI=>⟨_,hend,.inr ⟨rfl,fun i h=>hI i h h⟩⟩)
 rw[hgo i hi]
 by_cases q:l[i].ID=id
 ·rw[if_pos (by simpa using q)]
  exact .inr ⟨_,rfl,.inl ⟨i,hi,rfl,q⟩⟩
 ·rw[if_neg (by simpa using q)]
  refine .inl ⟨rfl,fun j hj hji=>?_⟩
  rcases Nat.lt_succ_iff_lt_or_eq.1 hji with h|rfl
  ·exact hI j hj h
  ·exact q
theorem find_eq (d:T_api_Document) (hn:d.Events.length≤1048576) (id:Int):∃ r,g_document_Find d id=some r∧g_document_Find_ro d id=some r∧((∃ i,∃ h:i < d.Events.length,r=(i:Int)∧d.Events[i].ID=id)∨(r=-1∧∀ i (h:i < d.Events.length),d.Events[i].ID≠id)):=by
 obtain⟨e,he,hp⟩:=find_loop (step:=g_slices_IndexFunc_api_Event_api_Event_s1 d.Events id) d.Events hn id (fun i hi=>by
  unfold g_slices_IndexFunc_api_Event_api_Event_s1 g_document_Find_1
  rw[if_pos (by simpa using hi),atI_nat hi,wr64 (x:=(i:Int)+1) (by omega)]
  rfl) (by unfold g_slices_IndexFunc_api_Event_api_Event_s1;rw[if_neg (by simp)])
 have he':iter (g_slices_IndexFunc_api_Event_api_Event_ro_s1 d.Events id) 0=some e:=he
 unfold g_document_Find g_slices_IndexFunc_api_Event_api_Event g_document_Find_ro g_slices_IndexFunc_api_Event_api_Event_ro
 rw[he,he']
 rcases hp with⟨i,h,rfl,hid⟩|⟨rfl,hno⟩
 ·exact⟨(i:Int),rfl,rfl,.inl ⟨i,h,rfl,hid⟩⟩
 ·exact⟨-1,rfl,rfl,.inr ⟨rfl,hno⟩⟩
theorem sort1_eq (a b:T_api_Event):∃ r,g_document_Sort_1 a b=some r∧decide (r < 0)=ltE a b:=by
 have h:=less_eq a b
 unfold g_document_Sort_1
 unfold g_event_Less at h
 rw[cmp_eq,cmp_eq] at h ⊢
 simp only[Option.bind_some,or2_eq] at h ⊢
 exact⟨_,rfl,Option.some.inj h⟩
theorem ltE_trans {a b c:T_api_Event} (h1:ltE b a=false) (h2:ltE c b=false):ltE c a=false:=by
 unfold ltE at *
 simp only[Bool.or_eq_false_iff,decide_eq_false_iff_not,Bool.and_eq_false_imp,decide_eq_true_eq] at *
 omega
theorem ltE_asym {a b:T_api_Event} (h1:ltE a b=true):ltE b a=false:=by
 unfold ltE at *
 simp only[Bool.or_eq_false_iff,decide_eq_false_iff_not,Bool.and_eq_false_imp,decide_eq_true_eq,Bool.or_eq_true,Bool.and_eq_true] at *
 omega
def SrtTo (i:Nat) (x:List T_api_Event):Prop:=∀ p q a b,p < q→q < i→x[p]? = some a→x[q]? = some b→ltE b a=false
structure InI (l:List T_api_Event) (i j:Nat) (x:List T_api_Event):Prop where
 ji:j≤i
 perm:x.Perm l
 a:∀ p q a b,p < q→q≤i→p≠j→q≠j→x[p]? = some a→x[q]? = some b→ltE b a=false
 b:∀ q a b,j < q→q≤i→x[j]? = some a→x[q]? = some b→ltE b a=false
theorem ins2 (l:List T_api_Event) (hl:l.length≤1000) {i:Nat} (hi:i < l.length) (hs:SrtTo i l):∃ r,iter (g_slices_insertionSortCmpFunc_api_Event_w_s2 0) ((i:Int),l)=some r∧r.Perm l∧SrtTo (i+1) r:=by
 refine iter_post (step:=g_slices_insertionSortCmpFunc_api_Event_w_s2 0) (fun x=>∃ j:Nat,x.1=j∧InI l i j x.2) (fun x=>x.1.toNat) (fun r=>r.Perm l∧SrtTo (i+1) r) (x:=((i:Int),l)) ⟨i,rfl,Nat.le_refl _,.refl _,fun p q a b h1 h2 h3 h4 h5 h6=>hs p q a b h1 (by omega) h5 h6,fun q a b h1 h2=>by omega⟩ (by dsimp only;omega) ?_
 rintro⟨xj,x⟩ ⟨j,h1,hI⟩
 dsimp only at h1 hI
 subst h1
 have hlen:=hI.perm.length_eq
 have hji:=hI.ji
 have hj:j < x.length:=by omega
 unfold g_slices_insertionSortCmpFunc_api_Event_w_s2
 dsimp only
 have fin:(j=0∨∀ a b,x[j - 1]? = some a→x[j]? = some b→ltE b a=false)→SrtTo (i+1) x:=by
  intro hex p q a b hpq hq ha hb
  by_cases hp:p=j
  ·subst hp;exact hI.b q a b hpq (by omega) ha hb
  ·by_cases hqj:q=j
   ·subst hqj
    rcases hex with h0|hex
    ·omega
    ·by_cases hp1:p=q - 1
     ·subst hp1;exact hex a b ha hb
     ·have hm:q - 1 < x.length:=by omega
      have h2:=hI.a p (q - 1) a x[q - 1] (by omega) (by omega) (by omega) (by omega) ha (List.getElem?_eq_getElem hm)
      exact ltE_trans h2 (hex _ b (List.getElem?_eq_getElem hm) hb)
   ·exact hI.a p q a b hpq (by omega) hp hqj ha hb
 by_cases q0:j=0
 ·right
  subst q0
  simp only[show ¬ (0:Int) < ((0:Nat):Int) by omega,decide_false,Bool.false_eq_true,if_false,Option.bind_some]
  exact⟨_,rfl,hI.perm,fin (.inl rfl)⟩
 ·have hj1:j - 1 < x.length:=by omega
  rw[if_pos (by simp;omega),wr64 (x:=(j:Int) - 1) (by omega),show(j:Int) - 1=((j - 1:Nat):Int) by omega,atI_nat hj,atI_nat hj1]
  simp only[Option.bind_some]
  obtain⟨r,hr,hlt⟩:=sort1_eq x[j] x[j - 1]
  rw[hr]
  simp only[Option.bind_some,hlt]
  cases hc:ltE x[j] x[j - 1] with
  | false =>
   right
   simp only[Bool.false_eq_true,if_false]
   refine⟨_,rfl,hI.perm,fin (.inr fun a b ha hb=>?_)⟩
   rw[List.getElem?_eq_getElem hj1] at ha
   rw[List.getElem?_eq_getElem hj] at hb
   cases ha;cases hb
   exact hc
  | true =>
   left
   simp only[if_true]
   rw[setI_nat _ hj]
   simp only[Option.bind_some]
   rw[atI_nat (show j - 1 < (x.set j x[j - 1]).length by simpa using hj1)]
   simp only[Option.bind_some]
   rw[setI_nat _ (show j - 1 < (x.set j x[j - 1]).length by simpa using hj1)]
   simp only[Option.bind_some]
   refine⟨_,rfl,⟨j - 1,rfl,by omega,(List.set_set_perm hj hj1).trans hI.perm,?_,?_⟩,by dsimp only;omega⟩
   ·intro p q a b hpq hq hp hqj ha hb
    dsimp only at ha hb
    have gp:∀ k c,k≠j - 1→((x.set j x[j - 1]).set (j - 1) x[j])[k]? = some c→(k=j∧c=x[j - 1])∨(k≠j∧x[k]? = some c):=by
     intro k c hk hc'
     rw[List.getElem?_set_ne (by omega),List.getElem?_set] at hc'
     by_cases hkj:j=k
     ·subst hkj
      rw[if_pos rfl,if_pos hj] at hc'
      exact .inl ⟨rfl,(Option.some.inj hc').symm⟩
     ·rw[if_neg hkj] at hc'
      exact .inr ⟨fun e=>hkj e.symm,hc'⟩
    rcases gp p a hp ha with⟨hp1,hp2⟩|⟨hpj,ha'⟩
    ·subst hp2
     rcases gp q b hqj hb with⟨h2,_⟩|⟨hqj2,hb'⟩
     ·omega
     ·exact hI.a (j - 1) q _ b (by omega) hq (by omega) hqj2 (List.getElem?_eq_getElem hj1) hb'
    ·rcases gp q b hqj hb with⟨hq1,hq2⟩|⟨hqj2,hb'⟩
     ·subst hq2
      exact hI.a p (j - 1) a _ (by omega) (by omega) hpj (by omega) ha' (List.getElem?_eq_getElem hj1)
     ·exact hI.a p q a b hpq hq hpj hqj2 ha' hb'
   ·intro q a b hq hqi ha hb
    dsimp only at ha hb
    rw[List.getElem?_set_self (by simpa using hj1)] at ha
    cases ha
    by_cases hqj:q=j
    ·subst hqj
     rw[List.getElem?_set_ne (by omega),List.getElem?_set_self hj] at hb
     cases hb
     exact ltE_asym hc
    ·rw[List.getElem?_set_ne (by omega),List.getElem?_set_ne (by omega)] at hb
     exact hI.b q _ b (by omega) hqi (List.getElem?_eq_getElem hj) hb
theorem ins1 (l:List T_api_Event) (hl:l.length≤1000):∃ r,g_slices_insertionSortCmpFunc_api_Event l 0 (l.length:Int)=some r∧r.Perm l∧SrtTo l.length r:=by
 obtain⟨r,hr,h1,h2⟩:=iter_post (step:=g_slices_insertionSortCmpFunc_api_Event_w_s1 0 (l.length:Int)) (fun x=>∃ i:Nat,x.1=i∧(i≤l.length∨i=1)∧x.2.Perm l∧SrtTo i x.2) (fun x=>l.length - x.1.toNat) (fun r=>r.Perm l∧SrtTo l.length r) (x:=(1,l)) ⟨1,rfl,.inr rfl,.refl _,fun p q a b h1 h2=>by omega⟩ (by dsimp only;omega) (by
  rintro⟨xi,x⟩ ⟨i,h1,h2,h3,h4⟩
  dsimp only at h1 h3 h4
  subst h1
  have hlen:=h3.length_eq
  unfold g_slices_insertionSortCmpFunc_api_Event_w_s1
  dsimp only
  by_cases q:i < l.length
  ·left
   rw[if_pos (by simpa using q),wr64 (x:=(i:Int)+1) (by omega)]
   obtain⟨r,hr,h5,h6⟩:=ins2 x (by omega) (i:=i) (by omega) h4
   rw[hr]
   exact⟨_,rfl,⟨i+1,by simp,.inl (by omega),h5.trans h3,h6⟩,by dsimp only;omega⟩
  ·right
   rw[if_neg (by simpa using q)]
   exact⟨_,rfl,h3,fun p q' a b hpq hq=>h4 p q' a b hpq (by omega)⟩)
 refine⟨r,?_,h1,h2⟩
 unfold g_slices_insertionSortCmpFunc_api_Event g_slices_insertionSortCmpFunc_api_Event_w
 rw[show IntKind.i64.wrap (0+1)=1 from by decide,hr]
 simp only[Option.bind_some]
 rw[if_pos h1.length_eq]
theorem sort_eq (l:List T_api_Event) (hl:l.length≤19) (hz:∀ e ∈ l,EvZ e):∃ r,g_document_Sort l=some r∧r.Perm l∧SrtTo l.length r:=by
 obtain⟨r,hr,h1,h2⟩:=ins1 l (by omega)
 have hst:g_slices_stableCmpFunc_api_Event l (l.length:Int)=some r:=by
  unfold g_slices_stableCmpFunc_api_Event g_slices_stableCmpFunc_api_Event_w
  have s1:iter (g_slices_stableCmpFunc_api_Event_w_s1 (l.length:Int)) (0,20,l)=some (l,0):=by
   refine iter_of (fun x e=>x=(0,20,l)∧e=(l,0)) (fun _=>0) ?_ (x:=(0,20,l)) ⟨rfl,rfl⟩ (by decide)
   rintro x e ⟨rfl,rfl⟩
   right
   unfold g_slices_stableCmpFunc_api_Event_w_s1
   rw[if_neg (by simp;omega)]
  have s2:iter (g_slices_stableCmpFunc_api_Event_w_s2 (l.length:Int)) (20,r)=some r:=by
   refine iter_of (fun x e=>x=(20,r)∧e=r) (fun _=>0) ?_ (x:=(20,r)) ⟨rfl,rfl⟩ (by decide)
   rintro x e ⟨rfl,rfl⟩
   right
   unfold g_slices_stableCmpFunc_api_Event_w_s2
   rw[if_neg (by simp;omega)]
  rw[s1]
  simp only[Option.bind_some]
  rw[hr]
  simp only[Option.bind_some]
  rw[s2]
  simp only[Option.bind_some]
  rw[if_pos h1.length_eq]
 refine⟨r,?_,h1,h2⟩
 have hc:=iter_run (step:=g_document_Sort_s1 l) l (by omega) (fun i (s:List T_api_Event)=>(s,i)) (fun s e=>.inr (s++[e])) id (fun i s=>s.length=i) (s0:=[]) rfl
  (fun i hi s hs=>.inr ⟨_,rfl,by
   unfold g_document_Sort_s1
   dsimp only
   rw[if_pos (by simpa using hi),atI_nat hi,wr64 (x:=(i:Int)+1) (by omega)]
   simp only[Option.bind_some]
   rw[evClone _ (hz _ (List.getElem_mem hi))]
   simp only[Option.bind_some]
   rw[if_pos (by omega)],by simp[hs]⟩)
  (fun s hs=>by unfold g_document_Sort_s1;dsimp only;rw[if_neg (by simp)];rfl)
 have hid:∀ (t s:List T_api_Event),runF (fun(s:List T_api_Event) e=>(.inr (s++[e]):List T_api_Event ⊕ List T_api_Event)) id s t=s++t:=by
  intro t
  induction t with
  | nil=>intro s;simp[runF]
  | cons a t ih=>intro s;simp only[runF];rw[ih];simp
 rw[hid,List.nil_append] at hc
 unfold g_document_Sort
 rw[show(([]:List T_api_Event),(0:Int))=(fun i (s:List T_api_Event)=>(s,i)) 0 [] from rfl,hc]
 simp only[Option.bind_some]
 unfold g_slices_SortStableFunc_api_Event_api_Event g_slices_SortStableFunc_api_Event_api_Event_w
 rw[hst]
 simp only[Option.bind_some]
 rw[if_pos h1.length_eq]
 rfl
def badS (s:T_api_Shift):Bool:=decide (s.In < 0)||decide (s.Out≤s.In)||decide (5184000 < s.Out)
def upE (s:T_api_Shift) (e:T_api_Event):T_api_Event:=if e.ID=s.ID then⟨e.ID,⟨s.In,s.Out⟩,e.Region,e.Kind,e.Speaker,e.Rows⟩ else e
theorem upE_id (s:T_api_Shift) (e:T_api_Event):(upE s e).ID=e.ID:=by unfold upE;split<;>rfl
theorem upE_z {s:T_api_Shift} {e:T_api_Event} (h:EvZ e):EvZ (upE s e):=by unfold upE;split<;>exact h
theorem upE_ids (s:T_api_Shift) (l:List T_api_Event):(l.map (upE s)).map (·.ID)=l.map (·.ID):=by
 rw[List.map_map]
 exact List.map_congr_left fun e _=>upE_id s e
def apF (ev:List T_api_Event) (s:T_api_Shift):(Int ⊕ List T_api_Event) ⊕ List T_api_Event :=
 if(ev.map (·.ID)).contains s.ID then(if badS s then .inl (.inl 2) else .inr (ev.map (upE s))) else .inl (.inl 6)
def apR (ev:List T_api_Event) (l:List T_api_Shift):Int ⊕ List T_api_Event:=runF apF .inr ev l
theorem nodup_at {l:List T_api_Event} (hd:(l.map (·.ID)).Nodup) {i j:Nat} (hi:i < l.length) (hj:j < l.length) (h:l[i].ID=l[j].ID):i=j:=by
 have hp:=List.pairwise_iff_getElem.1 hd
 rcases Nat.lt_trichotomy i j with q|q|q
 ·exact absurd (by rw[List.getElem_map,List.getElem_map];exact h) (hp i j (by simpa using hi) (by simpa using hj) q)
 ·exact q
 ·exact absurd (by rw[List.getElem_map,List.getElem_map];exact h.symm) (hp j i (by simpa using hj) (by simpa using hi) q)
theorem set_map {l:List T_api_Event} (hd:(l.map (·.ID)).Nodup) {i:Nat} (hi:i < l.length) (s:T_api_Shift) (h:l[i].ID=s.ID):l.set i ⟨l[i].ID,⟨s.In,s.Out⟩,l[i].Region,l[i].Kind,l[i].Speaker,l[i].Rows⟩=l.map (upE s):=by
 refine List.ext_getElem (by simp) fun j hj1 hj2=>?_
 have hj:j < l.length:=by simpa using hj1
 rw[List.getElem_map]
 by_cases q:i=j
 ·subst q
  rw[List.getElem_set_self]
  unfold upE
  rw[if_pos h]
 ·rw[List.getElem_set_ne q]
  unfold upE
  rw[if_neg (fun e=>q (nodup_at hd hi hj (h.trans e.symm)))]
theorem bad_eq (s:T_api_Shift):(if(decide (s.In < 0)) then(some true) else(if(decide (s.Out≤s.In)) then(some true) else(some (decide (5184000 < s.Out)))):Option Bool)=some (badS s):=by
 unfold badS
 by_cases h1:s.In < 0<;>by_cases h2:s.Out≤s.In<;>simp[h1,h2]
structure ApI (n:Nat) (ids:List Int) (ev:List T_api_Event):Prop where
 len:ev.length=n
 ids:ev.map (·.ID)=ids
 z:∀ e ∈ ev,EvZ e
theorem ap_loop (d:T_api_Document) (l:List T_api_Shift) (hl:l.length≤1000) (hz:∀ e ∈ d.Events,EvZ e) (hn:d.Events.length≤1048576) (hd:(d.Events.map (·.ID)).Nodup):iter (g_repair_Apply_s2 l d) (0,d.Events)=some (apR d.Events l):=by
 refine iter_run (step:=g_repair_Apply_s2 l d) l (by omega) (fun i (s:List T_api_Event)=>(i,s)) apF .inr (fun _ ev=>ApI d.Events.length (d.Events.map (·.ID)) ev) (s0:=d.Events) ⟨rfl,rfl,hz⟩ (fun i hi ev hI=>?_) (fun ev hI=>by unfold g_repair_Apply_s2;dsimp only;rw[if_neg (by simp)])
 have hst:g_repair_Apply_s2 l d ((i:Int),ev)=(apF ev l[i]).elim (fun e=>some (.out e)) (fun ev'=>some (.go ((i:Int)+1,ev'))):=by
  unfold g_repair_Apply_s2
  dsimp only
  rw[if_pos (by simpa using hi),atI_nat hi,wr64 (x:=(i:Int)+1) (by omega)]
  simp only[Option.bind_some]
  generalize l[i]=s
  obtain⟨r,_,hr,hp⟩:=find_eq (T_api_Document.mk d.Title d.Lang d.Rate d.Drop d.Last d.Regions ev d.Comments) (by show ev.length≤_;rw[hI.len];exact hn) s.ID
  rw[hr]
  simp only[Option.bind_some,bad_eq]
  rcases hp with⟨k,hk,rfl,hid⟩|⟨rfl,hno⟩
  ·have hc:(ev.map (·.ID)).contains s.ID=true:=List.contains_iff_mem.2 (List.mem_map.2 ⟨ev[k],List.getElem_mem hk,hid⟩)
   unfold apF
   rw[hc]
   simp only[show ¬ ((k:Int) < 0) by omega,decide_false,Bool.false_eq_true,if_false,if_true]
   cases badS s with
   | true=>rfl
   | false =>
    simp only[Bool.false_eq_true,if_false]
    have hk':k < ev.length:=hk
    rw[atI_nat hk']
    simp only[Option.bind_some]
    rw[setI_nat _ hk',set_map (by rw[hI.ids];exact hd) hk' s hid]
    rfl
  ·have hc:(ev.map (·.ID)).contains s.ID=false:=by
    cases hq:(ev.map (·.ID)).contains s.ID with
    | false=>rfl
    | true =>
     obtain⟨e,he,heq⟩:=List.mem_map.1 (List.contains_iff_mem.1 hq)
     obtain⟨j,hj,rfl⟩:=List.getElem_of_mem he
     exact absurd heq (hno j hj)
   unfold apF
   rw[hc]
   rfl
 rw[hst]
 cases hf:apF ev l[i] with
 | inl e=>exact .inl ⟨e,rfl,rfl⟩
 | inr ev' =>
  refine .inr ⟨ev',rfl,rfl,?_⟩
  unfold apF at hf
  split at hf
  ·split at hf
   ·cases hf
   ·cases hf
    refine⟨by simp[hI.len],by rw[upE_ids];exact hI.ids,fun e he=>?_⟩
    obtain⟨e0,he0,rfl⟩:=List.mem_map.1 he
    exact upE_z (hI.z _ he0)
  ·cases hf
theorem apR_inr:∀ (l:List T_api_Shift) (ev ev':List T_api_Event),apR ev l=.inr ev'→ev'.length=ev.length∧ev'.map (·.ID)=ev.map (·.ID)∧((∀ e ∈ ev,EvZ e)→∀ e ∈ ev',EvZ e)
 | [],ev,ev',h=>by cases h;exact⟨rfl,rfl,fun h=>h⟩
 | s::l,ev,ev',h=>by
  unfold apR at h
  simp only[runF] at h
  cases hf:apF ev s with
  | inl e =>
   rw[hf] at h
   simp only at h
   unfold apF at hf
   split at hf
   ·split at hf<;>cases hf
    cases h
   ·cases hf;cases h
  | inr e1 =>
   rw[hf] at h
   simp only at h
   obtain⟨a,b,c⟩:=apR_inr l e1 ev' h
   unfold apF at hf
   split at hf
   ·split at hf
    ·cases hf
    ·cases hf
     refine⟨by rw[a];simp,by rw[b,upE_ids],fun hz=>c fun e he=>?_⟩
     obtain⟨e0,he0,rfl⟩:=List.mem_map.1 he
     exact upE_z (hz _ he0)
   ·cases hf
def docN:T_api_Document:=⟨[],[],0,false,0,[],[],[]⟩
def withE (d:T_api_Document) (ev:List T_api_Event):T_api_Document:=⟨d.Title,d.Lang,d.Rate,d.Drop,d.Last,d.Regions,ev,d.Comments⟩
theorem apply_eq (d:T_api_Document) (hd:DocZ d) (hc:g_document_Check d=some 0) (hD:DocOK d) (hn:d.Events.length≤19) (l:List T_api_Shift) (hl:l.length≤1000) :
  (∃ e,apR d.Events l=.inl e∧g_repair_Apply d l=some (docN,e))∨(∃ ev r,apR d.Events l=.inr ev∧g_repair_Apply d l=some (withE d r,0)∧r.Perm ev∧SrtTo ev.length r):=by
 unfold g_repair_Apply
 rw[hc]
 simp only[Option.bind_some,bne_self_eq_false,Bool.false_eq_true,if_false]
 cases h:d.Events.isEmpty with
 | true =>
  have he:=empty_nil h
  simp only[if_true]
  rw[docClone d hd]
  simp only[Option.bind_some]
  cases l with
  | nil =>
   right
   have:iter (g_repair_Apply_s1 [] d) ()=some (.inr ()):=by
    refine iter_of (fun x e=>e=.inr ()) (fun _=>0) ?_ (x:=()) rfl (by decide)
    rintro x e rfl
    right
    unfold g_repair_Apply_s1
    rw[if_neg (by simp)]
   rw[this]
   simp only[Option.bind_some]
   obtain⟨r,hr,h1,h2⟩:=sort_eq d.Events hn hd.ev
   rw[hr]
   exact⟨d.Events,r,by rw[he];rfl,rfl,h1,h2⟩
  | cons s t =>
   left
   have:iter (g_repair_Apply_s1 (s::t) d) ()=some (.inl 6):=by
    refine iter_of (fun x e=>e=.inl 6) (fun _=>0) ?_ (x:=()) rfl (by decide)
    rintro x e rfl
    right
    unfold g_repair_Apply_s1
    rw[if_pos (by simp),show atI (s::t) 0=some s from rfl]
    simp only[Option.bind_some]
    obtain⟨r,hr,_,hp⟩:=find_eq d hd.evs s.ID
    rw[hr]
    simp only[Option.bind_some]
    rcases hp with⟨k,hk,_⟩|⟨rfl,_⟩
    ·rw[he] at hk;simp at hk
    ·rfl
   rw[this]
   refine⟨6,?_,rfl⟩
   rw[he]
   rfl
 | false =>
  simp only[Bool.false_eq_true,if_false]
  rw[docClone_nw d hd h]
  simp only[Option.bind_some]
  rw[ap_loop d l hl hd.ev hd.evs hD.ids]
  simp only[Option.bind_some]
  cases hr:apR d.Events l with
  | inl e=>exact .inl ⟨e,rfl,rfl⟩
  | inr ev =>
   right
   obtain⟨a,b,c⟩:=apR_inr l d.Events ev hr
   obtain⟨r,hs,h1,h2⟩:=sort_eq ev (by omega) (c hd.ev)
   simp only[hs,Option.bind_some]
   exact⟨ev,r,rfl,rfl,h1,h2⟩
def bnT (d:T_api_Document) (p:T_api_Profile) (l:List Int) (t:Int):List T_api_Bound:=(bnR d p l t).elim (fun _=>[]) id
structure Good (d:T_api_Document) (p:T_api_Profile) (l:List Int):Prop where
 z:TaskZ d p l
 dc:dcS d=0
 pc:ckS p=0
 sc:shC l=0
 num:d.Events.length≤255
 bn:∀ t,∃ bs,bnR d p l t=.inr bs
theorem Good.ck {d:T_api_Document} {p:T_api_Profile} {l:List Int} (g:Good d p l) {t:Int} (ht:0≤t∧t≤5184000):ckB d p l t=0:=by
 unfold ckB
 rw[if_neg (fun q=>q g.dc),if_neg (fun q=>q g.pc),if_neg (fun q=>q g.sc),if_neg (by omega),if_neg (by have:=g.num;omega)]
theorem Good.bs {d:T_api_Document} {p:T_api_Profile} {l:List Int} (g:Good d p l) {t:Int} (ht:0≤t∧t≤5184000):bnS d p l t=(bnT d p l t,0)∧BdsOK (2 * d.Events.length+1) (bnT d p l t):=by
 obtain⟨bs,hb⟩:=g.bn t
 have hT:bnT d p l t=bs:=by unfold bnT;rw[hb];rfl
 refine⟨?_,by rw[hT];exact bnR_ok g.z (g.ck ht) hb⟩
 unfold bnS
 rw[if_neg (fun q=>q (g.ck ht)),hb,hT]
 rfl
end Go.Proofs.YtobglplholhkcaaGreatDoor

namespace Go.Proofs.YtobglplholhkcaaGreatDoor
set_option maxRecDepth 100000
theorem subH_take {α:Type} (l:List α) (k:Nat):subH l (if(k:Int) < (l.length:Int) then(k:Int) else(l.length:Int))=some (l.take k):=by
 unfold subH
 split
 ·rename_i h
  rw[if_pos (by omega),Int.toNat_natCast,Nat.sub_zero,List.drop_zero]
 ·rename_i h
  rw[if_pos (by omega),Int.toNat_natCast,Nat.sub_zero,List.drop_zero,List.take_length,List.take_of_length_le (by omega)]
theorem awake43:g_law43_awake=some true:=by decide +kernel
structure TskZ (t:T_captionerlaw43_Task):Prop where
 doc:DocZ t.Doc
 name:t.House.Name.length≤1048576
 forb:t.House.Forbidden.length≤1048576
def fewT (t:T_captionerlaw43_Task):T_captionerlaw43_Task:=⟨⟨t.Doc.Title,t.Doc.Lang,t.Doc.Rate,t.Doc.Drop,t.Doc.Last,t.Doc.Regions,t.Doc.Events.take 4,t.Doc.Comments.take 4⟩,t.House,t.Shots.take 6,t.Tol⟩
theorem few_eq (t:T_captionerlaw43_Task):g_law43_few t=some (fewT t):=by
 unfold g_law43_few
 have a:=subH_take t.Doc.Events 4
 have b:=subH_take t.Doc.Comments 4
 have c:=subH_take t.Shots 6
 rw[show(if 4 < (t.Doc.Events.length:Int) then 4 else(t.Doc.Events.length:Int))=(if((4:Nat):Int) < (t.Doc.Events.length:Int) then((4:Nat):Int) else(t.Doc.Events.length:Int)) from rfl,a]
 simp only[Option.bind_some]
 rw[show(if 4 < (t.Doc.Comments.length:Int) then 4 else(t.Doc.Comments.length:Int))=(if((4:Nat):Int) < (t.Doc.Comments.length:Int) then((4:Nat):Int) else(t.Doc.Comments.length:Int)) from rfl,b]
 simp only[Option.bind_some]
 rw[show(if 6 < (t.Shots.length:Int) then 6 else(t.Shots.length:Int))=(if((6:Nat):Int) < (t.Shots.length:Int) then((6:Nat):Int) else(t.Shots.length:Int)) from rfl,c]
 rfl
theorem fewT_z {t:T_captionerlaw43_Task} (h:TskZ t):TaskZ (fewT t).Doc (fewT t).House (fewT t).Shots∧(fewT t).Doc.Events.length≤4:=by
 have hd:=h.doc
 refine⟨⟨⟨hd.title,hd.rate,hd.regs,?_,fun e he=>hd.ev e (List.mem_of_mem_take he),?_,fun c hc=>hd.com c (List.mem_of_mem_take hc)⟩,h.name,h.forb,?_⟩,?_⟩
 ·show(t.Doc.Events.take 4).length≤_;simp;omega
 ·show(t.Doc.Comments.take 4).length≤_;simp;omega
 ·show(t.Shots.take 6).length≤_;simp;omega
 ·show(t.Doc.Events.take 4).length≤_;simp;omega
open Go.ChangeShapes Go.WideShapes Go.ChangeAt Go.RowKit
theorem own:ownKnob Tryz.prog.godebug=none:=by kernel_rfl
theorem laidOut:laidOutB Tryz.prog=true:=by kernel_rfl
theorem standIn_all (ts:List TypeId) (h:ts.all (fun t=>!(Tryz.prog.wantsStandIn t))=true) (t:TypeId) (ht:t ∈ ts):Tryz.pinned.checked.prog.wantsStandIn t=false:=by
 have:=List.all_eq_true.1 h t ht
 exact(show Tryz.prog.wantsStandIn t=false by simpa using this)
def putCells (cs:Array Value):Obj→Obj
 | .cells _ t frozen=>.cells cs t frozen
 | o=>o
theorem u8t_of9 {W:World} (h:laidMetH Tryz.prog [("unicode/utf8.acceptRanges", Rows.laid_unicode_utf8_acceptRanges),("unicode/utf8.first", Rows.laid_unicode_utf8_first)] W):U8T W :=
 utf8Tabs_of_readsT (U8Types.of196 Tryz.laysValid) ⟨by kernel_rfl,by kernel_rfl,by kernel_rfl,by kernel_rfl,by kernel_rfl,by kernel_rfl,by kernel_rfl⟩ (Lib.laidMet.reads h (.tail _ (.head _))) (Lib.laidMet.reads h (.head _))
theorem cell_keep {w w':World} {g c:Nat} {v:Value} (h:w.cell? ⟨g,c,none⟩=some v) (hb:Below w.heap.size w w'):w'.cell? ⟨g,c,none⟩=some v:=by
 have hlt:g < w.heap.size:=by
  rcases Nat.lt_or_ge g w.heap.size with h1|h1
  ·exact h1
  ·simp[World.cell?,Array.getElem?_eq_none h1] at h
 rw[World.cell?_of_block (hb.block g hlt)]
 exact h
theorem stabU8T:Stab U8T:=fun w w' h hb=>⟨fun c hc=>cell_keep (h.1 c hc) hb,fun i hi=>⟨cell_keep (h.2 i hi).1 hb,cell_keep (h.2 i hi).2 hb⟩⟩
theorem shp_of {W:World} (h:W.ShapedOpen Tryz.prog):Shp W :=
 cell_of_shapedOpen_int (k:=.i64) (t:=3) (zero:=#[.int .i64 0]) h (of_decide_eq_true (by kernel_rfl)) (by kernel_rfl) rfl (by kernel_rfl) (by kernel_rfl) Tryz.underlying3
def Env9 (w:World):Prop:=U8T w∧Shp w
theorem stabEnv9:Stab Env9:=fun w w' ⟨a,b⟩ hb=>⟨stabU8T w w' a hb,stabShp w w' b hb⟩
theorem env_of9 {W:World} (h:laidMetH Tryz.prog [("unicode/utf8.acceptRanges", Rows.laid_unicode_utf8_acceptRanges),("unicode/utf8.first", Rows.laid_unicode_utf8_first)] W) (hs:W.ShapedOpen Tryz.prog):Env9 W:=⟨u8t_of9 h,shp_of hs⟩
noncomputable def laidWorld9 (os:Os):World :=
 { (World.holding Tryz.prog os ⟨#[],#[],[]⟩) with heap:=(((World.holding Tryz.prog os ⟨#[],#[],[]⟩).heap.modify 1 (putCells #[.int .u8 128,.int .u8 191,.int .u8 160,.int .u8 191,.int .u8 128,.int .u8 159,.int .u8 144,.int .u8 191,.int .u8 128,.int .u8 143,.int .u8 0,.int .u8 0,.int .u8 0,.int .u8 0,.int .u8 0,.int .u8 0,.int .u8 0,.int .u8 0,.int .u8 0,.int .u8 0,.int .u8 0,.int .u8 0,.int .u8 0,.int .u8 0,.int .u8 0,.int .u8 0,.int .u8 0,.int .u8 0,.int .u8 0,.int .u8 0,.int .u8 0,.int .u8 0])).modify 0 (putCells (Pinned.utf8FirstZ.map fun(z:Nat)=>Value.int .u8 (z:Int)).toArray)) }
def T_api_Region.sz (x:T_api_Region):Prop:=(x.Name.length≤1048576)∧(True)∧(True)∧(True)∧(True)∧(True)∧(True)∧True
def T_api_Span.sz (x:T_api_Span):Prop:=(True)∧(True)∧True
def T_api_Style.sz (x:T_api_Style):Prop:=(True)∧(True)∧(True)∧True
def T_api_Run.sz (x:T_api_Run):Prop:=(x.Text.length≤1048576)∧(T_api_Style.sz x.Style)∧(x.Ruby.length≤1048576)∧True
def T_api_Row.sz (x:T_api_Row):Prop:=(x.Runs.length≤1048576∧∀ a ∈ x.Runs,T_api_Run.sz a)∧True
def T_api_Event.sz (x:T_api_Event):Prop:=(True)∧(T_api_Span.sz x.Span)∧(x.Region.length≤1048576)∧(True)∧(x.Speaker.length≤1048576)∧(x.Rows.length≤1048576∧∀ a ∈ x.Rows,T_api_Row.sz a)∧True
def T_api_Comment.sz (x:T_api_Comment):Prop:=(True)∧(True)∧(True)∧(True)∧(x.Author.length≤1048576)∧(x.Text.length≤1048576)∧(True)∧(True)∧True
def T_api_Document.sz (x:T_api_Document):Prop:=(x.Title.length≤1048576)∧(x.Lang.length≤1048576)∧(True)∧(True)∧(True)∧(x.Regions.length≤1048576∧∀ a ∈ x.Regions,T_api_Region.sz a)∧(x.Events.length≤1048576∧∀ a ∈ x.Events,T_api_Event.sz a)∧(x.Comments.length≤1048576∧∀ a ∈ x.Comments,T_api_Comment.sz a)∧True
def T_api_Profile.sz (x:T_api_Profile):Prop:=(x.Name.length≤1048576)∧(True)∧(True)∧(True)∧(True)∧(True)∧(True)∧(True)∧(True)∧(x.Forbidden.length≤1048576)∧(True)∧(True)∧(True)∧(True)∧True
def T_captionerlaw43_Task.sz (x:T_captionerlaw43_Task):Prop:=(T_api_Document.sz x.Doc)∧(T_api_Profile.sz x.House)∧(x.Shots.length≤1048576∧∀ a ∈ x.Shots,True)∧(True)∧True
theorem doc_z {d:T_api_Document} (h:T_api_Document.sz d) (hr:0≤d.Rate∧d.Rate≤255):DocZ d :=
 ⟨h.1,hr,h.2.2.2.2.2.1.1,h.2.2.2.2.2.2.1.1,fun e he=>by
  have:=(h.2.2.2.2.2.2.1.2 e he).2.2.2.2.2.1
  exact⟨this.1,fun r hr=>⟨fun u hu=>⟨((this.2 r hr).1.2 u hu).1,((this.2 r hr).1.2 u hu).2.2.1⟩,(this.2 r hr).1.1⟩⟩,h.2.2.2.2.2.2.2.1.1,fun c hc=>(h.2.2.2.2.2.2.2.1.2 c hc).2.2.2.2.2.1⟩
def rdR (r:Int) (d:Bool):Option Bool:=((g_ref02_Valid r).bind fun r92=>(if r92 then(if d then((g_ref02_CanDrop r).bind fun r96=>(some (!r96))) else(some false)) else(some true)))
theorem rd_fin:∀ r:Fin 256,(g_document_rate ((r.val:Nat):Int) true=(rdR ((r.val:Nat):Int) true).map fun b=>if b then 13 else 0)∧(g_document_rate ((r.val:Nat):Int) false=(rdR ((r.val:Nat):Int) false).map fun b=>if b then 13 else 0):=by decide +kernel
theorem rd_eq (r:Int) (h0:0≤r) (h1:r≤255) (d:Bool):g_document_rate r d=(rdR r d).map fun b=>if b then 13 else 0:=by
 have:=rd_fin ⟨r.toNat,by omega⟩
 simp only[Int.toNat_of_nonneg h0] at this
 cases d
 ·exact this.2
 ·exact this.1
theorem rgCheck_eq (r:T_api_Region):g_ref10_Check r=g_region_Check r:=by
 unfold g_ref10_Check g_region_Check
 rw[ref07_Name_eq,lines_Name_eq]
 simp only[Option.bind_some,from_eq]
 cases isNm r.Name with
 | false=>rfl
 | true =>
  simp only[if_true]
  generalize IntKind.i64.wrap (15 - r.Top)=a
  generalize IntKind.i64.wrap (32 - r.Left)=b
  have hal:(if(r.Align != 1) then(if(r.Align != 2) then(if(r.Align != 3) then(some 3) else(some 0)) else(some 0)) else(some 0):Option Int)=(if(decide (r.Align < 1)) then(some 3) else(if(decide (3 < r.Align)) then(some 3) else(some 0))):=by
   by_cases q1:r.Align < 1
   ·have:r.Align≠1∧r.Align≠2∧r.Align≠3:=by omega
    simp[q1,this]
   ·by_cases q2:3 < r.Align
    ·have:r.Align≠1∧r.Align≠2∧r.Align≠3:=by omega
     simp[q1,q2,this]
    ·have:r.Align=1∨r.Align=2∨r.Align=3:=by omega
     rcases this with h|h|h<;>simp[h]
  rw[hal]
  by_cases h1:r.Top < 0
  ·have:¬ 0≤r.Top:=by omega
   simp[h1,this]
  ·have e1:0≤r.Top:=by omega
   by_cases h2:14 < r.Top
   ·have:¬ r.Top≤14:=by omega
    simp[h1,h2,this]
   ·have e2:r.Top≤14:=by omega
    by_cases h3:r.Height < 1
    ·have:¬ 1≤r.Height:=by omega
     simp[h1,h2,h3,e1,e2,this]
    ·have e3:1≤r.Height:=by omega
     by_cases h4:a < r.Height
     ·have:¬ r.Height≤a:=by omega
      simp[h1,h2,h3,h4,e1,e2,e3,this]
     ·have e4:r.Height≤a:=by omega
      by_cases h5:r.Left < 0
      ·have:¬ 0≤r.Left:=by omega
       simp[h1,h2,h3,h4,h5,e1,e2,e3,e4,this]
      ·have e5:0≤r.Left:=by omega
       by_cases h6:31 < r.Left
       ·have:¬ r.Left≤31:=by omega
        simp[h1,h2,h3,h4,h5,h6,e1,e2,e3,e4,e5,this]
       ·have e6:r.Left≤31:=by omega
        by_cases h7:r.Width < 1
        ·have:¬ 1≤r.Width:=by omega
         simp[h1,h2,h3,h4,h5,h6,h7,e1,e2,e3,e4,e5,e6,this]
        ·have e7:1≤r.Width:=by omega
         by_cases h8:b < r.Width
         ·have:¬ r.Width≤b:=by omega
          simp[h1,h2,h3,h4,h5,h6,h7,h8,e1,e2,e3,e4,e5,e6,e7,this]
         ·have e8:r.Width≤b:=by omega
          simp[h1,h2,h3,h4,h5,h6,h7,h8,e1,e2,e3,e4,e5,e6,e7,e8]
theorem rgList_eq:g_ref10_CheckList=g_region_CheckList:=by
 have:g_ref10_CheckList_s1=g_region_CheckList_s1:=by
  funext l x
  unfold g_ref10_CheckList_s1 g_region_CheckList_s1
  simp only[rgCheck_eq]
 funext l
 unfold g_ref10_CheckList g_region_CheckList
 rw[this]
 rfl
theorem rgFind_eq:g_ref10_Find=g_region_Find:=rfl
theorem less_ref (a b:T_api_Event):g_ref11_Less a b=some (ltE a b):=by
 unfold g_ref11_Less ltE
 by_cases h1:a.Span.In < b.Span.In<;>by_cases h2:a.Span.In=b.Span.In<;>simp[h1,h2]
theorem atI_mem {α:Type} {l:List α} {n:Int} {y:α} (h:atI l n=some y):y ∈ l:=by
 unfold atI at h
 split at h
 ·exact List.mem_of_getElem? h
 ·cases h
theorem valid_same (s:List UInt8) (h:s.length≤1048576):g_ref08_Valid s=g_charset_Valid s:=by
 rw[ref_Valid_eq s (by omega),prog_Valid_eq s (by omega)]
theorem styCheck_same (r:T_api_Row) (h:RowZ r):g_ref09_Check r=g_style_Check r:=by
 have:g_ref09_Check_s1 r=g_style_Check_s1 r:=by
  funext x
  unfold g_ref09_Check_s1 g_style_Check_s1
  by_cases hx:x < (r.Runs.length:Int)
  ·rw[if_pos (by simpa using hx),if_pos (by simpa using hx)]
   cases hy:atI r.Runs x with
   | none=>rfl
   | some y =>
    have hz:=h y (atI_mem hy)
    simp only[Option.bind_some]
    rw[valid_same _ hz.1,valid_same _ hz.2]
    cases g_charset_Valid y.Text with
    | none=>rfl
    | some b =>
     simp only[Option.bind_some,g_ref09_Valid,g_style_Valid]
     cases b with
     | false=>rfl
     | true =>
      simp only[if_true]
      split
      ·rfl
      ·split
       ·cases g_charset_Valid y.Ruby with
        | none=>rfl
        | some b2 =>
         simp only[Option.bind_some]
         cases b2 with
         | false=>rfl
         | true =>
          simp only[if_true]
          by_cases q:0 < x
          ·rw[if_pos (by simpa using q),if_pos (by simpa using q)]
           cases atI r.Runs (IntKind.i64.wrap (x - 1)) with
           | none=>rfl
           | some w=>rfl
          ·rw[if_neg (by simpa using q),if_neg (by simpa using q)]
           rfl
       ·rfl
  ·rw[if_neg (by simpa using hx),if_neg (by simpa using hx)]
 unfold g_ref09_Check g_style_Check
 rw[this]
 rfl
theorem rcF:∀ (fuel pos:Nat) (s:List UInt8),s.length≤pos+fuel→Lib.runeCountFrom ⟨s.toArray⟩ fuel pos=(rnL (s.drop pos)).length
 | 0,pos,s,h=>by rw[rnL_end (by omega)];rfl
 | fuel+1,pos,s,h=>by
  have hsz:(⟨s.toArray⟩:ByteArray).size=s.length:=bsize s
  unfold Lib.runeCountFrom
  rw[hsz]
  by_cases hp:pos < s.length
  ·rw[if_pos hp,decL_eq s pos hp,rnL_at hp]
   have hw:=wd_pos hp
   have:=rcF fuel (pos+widthAt s pos) s (by omega)
   unfold widthAt at this
   rw[this,List.length_cons]
   unfold widthAt
   omega
  ·rw[if_neg hp,rnL_end (by omega)];rfl
theorem rcL (s:List UInt8):Lib.runeCountL s=(rnL s).length:=by
 unfold Lib.runeCountL Lib.runeCount
 rw[rcF _ 0 s (by rw[bsize];omega),List.drop_zero]
theorem chLen_same (s:List UInt8) (h:s.length≤1048576):g_ref08_Len s=g_charset_Len s:=by
 unfold g_ref08_Len g_charset_Len
 rw[ref_Valid_eq s (by omega),prog_Valid_eq s (by omega)]
 simp only[Option.bind_some]
 cases gv s with
 | false=>rfl
 | true =>
  simp only[if_true,g_unicode_utf8_RuneCountInString]
  rw[if_pos (by omega),runes_eq s h,rcL]
  rfl
theorem styLen_same (r:T_api_Row) (h:RowZ r):g_ref09_Len r=g_style_Len r:=by
 have:g_ref09_Len_s1 r=g_style_Len_s1 r:=by
  funext x
  unfold g_ref09_Len_s1 g_style_Len_s1
  by_cases hx:x.2 < (r.Runs.length:Int)
  ·rw[if_pos (by simpa using hx),if_pos (by simpa using hx)]
   cases hy:atI r.Runs x.2 with
   | none=>rfl
   | some y =>
    have hz:=h y (atI_mem hy)
    simp only[Option.bind_some]
    rw[chLen_same _ hz.1]
  ·rw[if_neg (by simpa using hx),if_neg (by simpa using hx)]
 unfold g_ref09_Len g_style_Len
 rw[this]
 rfl
def plS (r:T_api_Row):List UInt8:=(r.Runs.map (·.Text)).flatten
theorem runF_app {α β:Type} (f:α→List β):∀ (L:List α) (s:List β),runF (fun s y=>(.inr (s++f y):List β ⊕ List β)) id s L=s++(L.map f).flatten
 | [],s=>by simp[runF]
 | y::t,s=>by simp only[runF];rw[runF_app f t];simp
theorem bytes_toI (s:List UInt8):bytesOf (toI s)=s:=by
 unfold bytesOf toI
 rw[List.map_map]
 conv=>rhs;rw[← List.map_id s]
 refine List.map_congr_left fun b _=>?_
 simp
theorem toI_flat:∀ (l:List (List UInt8)),bytesOf (l.map toI).flatten=l.flatten
 | []=>rfl
 | s::t=>by
  have:=toI_flat t
  unfold bytesOf at this ⊢
  simp only[List.map_cons,List.flatten_cons,List.map_append,this]
  congr 1
  exact bytes_toI s
theorem plain_prog (r:T_api_Row) (h:RowZ r) (h16:r.Runs.length≤16):g_style_Plain r=some (plS r):=by
 have:=iter_run (step:=g_style_Plain_s1 r) r.Runs (by omega) (fun i (s:List Int)=>(i,s)) (fun s y=>.inr (s++toI y.Text)) id (fun i s=>s.length≤i * 1048576) (s0:=[]) (by simp)
  (fun i hi s hs=>.inr ⟨_,rfl,by
   have hz:=h _ (List.getElem_mem hi)
   unfold g_style_Plain_s1
   dsimp only
   rw[if_pos (by simpa using hi),atI_nat hi,wr64 (x:=(i:Int)+1) (by omega)]
   simp only[Option.bind_some]
   rw[if_pos (by omega)],by
   have hz:=h _ (List.getElem_mem hi)
   simp only[List.length_append,toI,List.length_map]
   omega⟩)
  (fun s hs=>by unfold g_style_Plain_s1;dsimp only;rw[if_neg (by simp)];rfl)
 rw[runF_app (fun y:T_api_Run=>toI y.Text),List.nil_append] at this
 unfold g_style_Plain
 rw[this]
 simp only[Option.bind_some,plS]
 rw[← toI_flat,List.map_map]
 rfl
theorem plain_ref (r:T_api_Row) (h:RowZ r) (h16:r.Runs.length≤16):g_ref09_Plain r=some (plS r):=by
 have:=iter_run (step:=g_ref09_Plain_s1 r) r.Runs (by omega) (fun i (s:List UInt8)=>(s,i)) (fun s y=>.inr (s++y.Text)) id (fun i s=>s.length≤i * 1048576) (s0:=[]) (by simp)
  (fun i hi s hs=>.inr ⟨_,rfl,by
   have hz:=h _ (List.getElem_mem hi)
   unfold g_ref09_Plain_s1
   dsimp only
   rw[if_pos (by simpa using hi),atI_nat hi,wr64 (x:=(i:Int)+1) (by omega)]
   simp only[Option.bind_some]
   rw[if_pos (by omega)],by
   have hz:=h _ (List.getElem_mem hi)
   simp only[List.length_append]
   omega⟩)
  (fun s hs=>by unfold g_ref09_Plain_s1;dsimp only;rw[if_neg (by simp)];rfl)
 rw[runF_app (fun y:T_api_Run=>y.Text),List.nil_append] at this
 unfold g_ref09_Plain
 rw[this]
 rfl
theorem plS_len (r:T_api_Row) (h:RowZ r) (h16:r.Runs.length≤16):(plS r).length≤16777216:=by
 obtain⟨s,hs,hl⟩:=plain_tot r h h16
 rw[plain_prog r h h16] at hs
 injection hs with hs
 subst hs
 exact hl
theorem cont2 (s:List UInt8):Lib.contains s [32,32]=true ↔ ∃ j,∃ h:j+1 < s.length,s[j]=32∧s[j+1]=32:=by
 have occ:∀ j,Lib.occAt s [32,32] j=true ↔ ∃ h:j+1 < s.length,s[j]=32∧s[j+1]=32:=by
  intro j
  unfold Lib.occAt
  rw[List.isPrefixOf_iff_prefix]
  constructor
  ·rintro⟨t,ht⟩
   have hl:=congrArg List.length ht
   simp at hl
   have h0:=congrArg (fun l=>l[0]?) ht
   have h1:=congrArg (fun l=>l[1]?) ht
   simp only[List.getElem?_drop,List.cons_append,List.nil_append,List.getElem?_cons_zero,List.getElem?_cons_succ,Nat.add_zero] at h0 h1
   rw[List.getElem?_eq_getElem (by omega)] at h0 h1
   injection h0 with h0
   injection h1 with h1
   exact⟨by omega,h0.symm,h1.symm⟩
  ·rintro⟨h,h0,h1⟩
   refine⟨s.drop (j+2),?_⟩
   rw[List.drop_eq_getElem_cons (show j < s.length by omega),List.drop_eq_getElem_cons (show j+1 < s.length by omega),h0,h1]
   rfl
 unfold Lib.contains
 rcases Lib.index_spec s [32,32] with⟨h1,h2⟩|⟨i,h1,_,h3,_⟩
 ·rw[h1]
  constructor
  ·intro h;simp at h
  ·rintro⟨j,h,h0,h4⟩
   have:=h2 j (by omega)
   rw[(occ j).2 ⟨h,h0,h4⟩] at this
   cases this
 ·rw[h1]
  constructor
  ·intro _;exact⟨i,(occ i).1 h3⟩
  ·intro _;simp
def unT (s:List UInt8):Bool:=match s with
 | []=>true
 | b::t=>b == 32||(b::t).getLastD 0 == 32||Lib.contains (b::t) [32,32]
theorem bn32 (b:UInt8):((b.toNat:Int) == 32)=(b == 32):=by
 rw[Bool.eq_iff_iff,beq_iff_eq,beq_iff_eq]
 constructor
 ·intro h;exact UInt8.toNat_inj.1 (by simpa using(show b.toNat=32 by omega))
 ·rintro rfl;rfl
theorem lastAt (b:UInt8) (t:List UInt8) (h:(b::t).length≤16777216):atI (b::t) (IntKind.i64.wrap (((b::t).length:Int) - 1))=some ((b::t).getLastD 0):=by
 rw[wr64 (by omega),show(((b::t).length:Int) - 1)=((t.length:Nat):Int) by simp,atI_nat (show t.length < (b::t).length by simp)]
 congr 1
 rw[List.getLastD_eq_getLast?,List.getLast?_eq_getElem?]
 simp
theorem neat_eq (s:List UInt8) (hl:s.length≤16777216):g_ref11_neat s=some (!unT s):=by
 unfold g_ref11_neat
 cases s with
 | nil=>rfl
 | cons b t =>
  rw[if_neg (by simp),show atI (b::t) 0=some b from rfl,lastAt b t hl]
  simp only[Option.bind_some,bn32,unT]
  cases h1:(b == 32) with
  | true=>simp
  | false =>
   simp only[Bool.false_eq_true,if_false,Option.bind_some,Bool.false_or]
   cases h2:((b::t).getLastD 0 == 32) with
   | true=>simp
   | false =>
    simp only[Bool.false_eq_true,if_false,Bool.false_or]
    generalize hs:b::t=s at *
    obtain⟨e,he,hp⟩:=iter_post (step:=g_ref11_neat_s1 s) (fun x=>1≤x∧x≤(s.length:Int)∧∀ j:Nat,((j+1:Nat):Int) < x→∀ (h:j+1 < s.length),¬ (s[j]=32∧s[j+1]=32)) (fun x=>s.length - x.toNat) (fun e=>(match e with|.inl _=>Lib.contains s [32,32]=true|.inr _=>Lib.contains s [32,32]=false)) (x:=1) ⟨by omega,by rw[← hs];simp only[List.length_cons];omega,fun j h=>by omega⟩ (by omega) (by
     rintro x ⟨q1,q2,q3⟩
     obtain⟨i,rfl⟩:=Int.eq_ofNat_of_zero_le (show 0≤x by omega)
     unfold g_ref11_neat_s1
     by_cases hi:i < s.length
     ·rw[if_pos (by simpa using hi),atI_nat hi,wr64 (x:=(i:Int)+1) (by omega),wr64 (x:=(i:Int) - 1) (by omega),show((i:Int) - 1)=((i - 1:Nat):Int) by omega,atI_nat (show i - 1 < s.length by omega)]
      simp only[Option.bind_some,bn32]
      have step:¬ (s[i - 1]=32∧s[i]=32)→(1≤(i:Int)+1∧(i:Int)+1≤(s.length:Int)∧∀ j:Nat,((j+1:Nat):Int) < (i:Int)+1→∀ (h:j+1 < s.length),¬ (s[j]=32∧s[j+1]=32)):=by
       intro hn
       refine⟨by omega,by omega,fun j hj h=>?_⟩
       rcases Nat.lt_or_ge (j+1) i with h4|h4
       ·exact q3 j (by omega) h
       ·obtain rfl:i=j+1:=by omega
        exact hn
      by_cases h5:s[i]=32
      ·by_cases h6:s[i - 1]=32
       ·right
        refine⟨.inl (),by simp[h5,h6],?_⟩
        exact(cont2 s).2 ⟨i - 1,by omega,h6,by rw[← h5];congr 1;omega⟩
       ·left
        exact⟨_,by simp[h5,h6],step (fun h=>h6 h.1),by omega⟩
      ·left
       exact⟨_,by simp[h5],step (fun h=>h5 h.2),by omega⟩
     ·right
      refine⟨.inr (),by rw[if_neg (by simpa using hi)],?_⟩
      rw[Bool.eq_false_iff]
      intro hc
      obtain⟨j,h,hj⟩:=(cont2 s).1 hc
      exact q3 j (by omega) h hj)
    rw[he]
    cases e with
    | inl _=>simp only at hp;simp[hp]
    | inr _=>simp only at hp;simp[hp]
theorem un_prog (s:List UInt8) (hl:s.length≤16777216):(if(s == ([]:List UInt8)) then(some true) else((atI s 0).bind fun b33=>(if((b33.toNat:Int) == 32) then(some true) else((atI s (IntKind.i64.wrap ((s.length:Int) - 1))).bind fun b36=>(if((b36.toNat:Int) == 32) then(some true) else((g_strings_Contains s [32,32]).bind fun r39=>(some r39)))))))=some (unT s):=by
 cases s with
 | nil=>rfl
 | cons b t =>
  rw[if_neg (by simp),show atI (b::t) 0=some b from rfl,lastAt b t hl]
  simp only[Option.bind_some,bn32,unT,g_strings_Contains]
  rw[if_pos (show(b::t).length < 4294967281 by omega)]
  simp only[Option.bind_some]
  cases h1:(b == 32)<;>cases h2:((b::t).getLastD 0 == 32)<;>simp
def erR (r:T_api_Row):Int:=(g_event_row r).getD 0
def lnR (r:T_api_Row):Int:=(g_style_Len r).getD 0
theorem erR_eq (r:T_api_Row) (h:RowZ r):g_event_row r=some (erR r)∧(erR r=0→r.Runs.length≤16):=by
 obtain⟨v,hv,h2⟩:=row_tot r h
 unfold erR
 rw[hv]
 exact⟨rfl,h2⟩
theorem lnR_eq (r:T_api_Row) (h:RowZ r) (hr:r.Runs.length≤1048576):g_style_Len r=some (lnR r):=by
 obtain⟨v,hv⟩:=styLen_tot r h hr
 unfold lnR
 rw[hv]
 rfl
theorem wadd (a b:Int):IntKind.i64.wrap (IntKind.i64.wrap a+b)=IntKind.i64.wrap (a+b):=by
 simp only[IntKind.wrap,IntKind.bits,IntKind.signed]
 simp only[Bool.true_and,decide_eq_true_eq]
 (repeat' split)<;>first|omega|(simp at *;omega)
theorem wadd2 (a b:Int):IntKind.i64.wrap (a+IntKind.i64.wrap b)=IntKind.i64.wrap (a+b):=by
 rw[Int.add_comm,wadd,Int.add_comm]
theorem plc_same (r:T_api_Region) (l:List Int):g_ref10_Place r l=g_region_Place r l:=by
 have hu:g_ref10_usable r=g_region_usable r:=by
  unfold g_ref10_usable g_region_usable
  obtain⟨v,hv⟩:=regCheck_tot r
  rw[rgCheck_eq,hv,show g_ref10_Default=g_region_Default from rfl]
  unfold g_region_Default
  simp only[Option.bind_some]
  generalize (r.Name == ([]:List UInt8)&&_)=b1
  generalize (v == 0)=b2
  cases b1<;>cases b2<;>rfl
 have h1:r.Bottom=true→g_ref10_Place_s1 r l=g_region_Place_s1 r l:=by
  intro hb
  funext x
  unfold g_ref10_Place_s1 g_region_Place_s1
  simp only[hb,if_true]
  by_cases hx:x.2 < (l.length:Int)
  ·rw[if_pos (by simpa using hx),if_pos (by simpa using hx)]
   cases atI l x.2 with
   | none=>rfl
   | some y =>
    simp only[Option.bind_some]
    have e1:IntKind.i64.wrap (IntKind.i64.wrap (r.Top+x.2)+IntKind.i64.wrap (r.Height - (l.length:Int)))=IntKind.i64.wrap (IntKind.i64.wrap (r.Top+IntKind.i64.wrap (r.Height - (l.length:Int)))+x.2):=by
     generalize r.Height - (l.length:Int)=z
     have a1:=wadd (r.Top+x.2) (IntKind.i64.wrap z)
     have a2:=wadd2 (r.Top+x.2) z
     have a3:=wadd (r.Top+IntKind.i64.wrap z) x.2
     have a4:=wadd2 (r.Top+x.2) z
     rw[a1,a3,show r.Top+IntKind.i64.wrap z+x.2=r.Top+x.2+IntKind.i64.wrap z by omega]
    simp only[e1]
    by_cases hc:(x.1.length+1) * 24≤140737488355328<;>simp only[hc,if_true,if_false]<;>generalize decide (y < 0)=b1<;>generalize decide (r.Width < y)=b2<;>generalize (r.Align == 3)=b3<;>generalize (r.Align == 2)=b4<;>cases b1<;>cases b2<;>cases b3<;>cases b4<;>rfl
  ·rw[if_neg (by simpa using hx),if_neg (by simpa using hx)]
 have h2:r.Bottom=false→g_ref10_Place_s1 r l=g_region_Place_s2 r l:=by
  intro hb
  funext x
  unfold g_ref10_Place_s1 g_region_Place_s2
  simp only[hb,Bool.false_eq_true,if_false]
  by_cases hx:x.2 < (l.length:Int)
  ·rw[if_pos (by simpa using hx),if_pos (by simpa using hx)]
   cases atI l x.2 with
   | none=>rfl
   | some y =>
    simp only[Option.bind_some]
    by_cases hc:(x.1.length+1) * 24≤140737488355328<;>simp only[hc,if_true,if_false]<;>generalize decide (y < 0)=b1<;>generalize decide (r.Width < y)=b2<;>generalize (r.Align == 3)=b3<;>generalize (r.Align == 2)=b4<;>cases b1<;>cases b2<;>cases b3<;>cases b4<;>rfl
  ·rw[if_neg (by simpa using hx),if_neg (by simpa using hx)]
 unfold g_ref10_Place g_region_Place
 rw[hu]
 cases g_region_usable r with
 | none=>rfl
 | some u =>
  simp only[Option.bind_some]
  cases u with
  | false=>rfl
  | true =>
   simp only[if_true]
   split
   ·rfl
   ·cases hb:r.Bottom with
    | true=>rw[h1 hb];rfl
    | false=>rw[h2 hb];rfl
theorem kind_same (k:Int):∃ v,g_event_KindName k=some v∧(v == ([]:List UInt8))=(decide (k < 1)||decide (4 < k)):=by
 unfold g_event_KindName
 by_cases h1:k < 1
 ·exact⟨[],by simp[h1],by simp[h1]⟩
 ·by_cases h2:4 < k
  ·exact⟨[],by simp[h1,h2],by simp[h2]⟩
  ·simp only[h1,h2,decide_false,Bool.false_eq_true,if_false,Option.bind_some]
   have:k=1∨k=2∨k=3∨k=4:=by omega
   rcases this with rfl|rfl|rfl|rfl<;>exact⟨_,rfl,rfl⟩
theorem erR_spec (y:T_api_Row) (h:RowZ y) (hr:y.Runs.length≤1048576):∃ v,g_style_Check y=some v∧erR y=(if v≠0 then v else if unT (plS y) then 4 else if 32 < lnR y then 11 else 0)∧(v=0→y.Runs.length≤16):=by
 obtain⟨v,hv,h16⟩:=styCheck_tot y h
 refine⟨v,hv,?_,h16⟩
 unfold erR g_event_row
 rw[hv]
 simp only[Option.bind_some]
 by_cases h0:v=0
 ·have hl:=h16 h0
  rw[if_neg (by simpa using h0),if_neg (by simpa using h0),plain_prog y h hl,lnR_eq y h hr]
  simp only[Option.bind_some]
  rw[un_prog _ (plS_len y h hl)]
  simp only[Option.bind_some]
  cases unT (plS y)
  ·by_cases q:32 < lnR y<;>simp[q]
  ·rfl
 ·rw[if_pos (by simpa using h0),if_pos (by simpa using h0)]
  rfl
theorem rows_prog (e:T_api_Event) (h:EvZ e):iter (g_event_Check_s1 e) 0=some (runF (fun(_:Unit) y=>if erR y≠0 then .inl (.inl (erR y)) else .inr ()) (fun _=>(.inr ():Int ⊕ Unit)) () e.Rows) :=
 iter_run (step:=g_event_Check_s1 e) e.Rows (by have:=h.1;omega) (fun i (_:Unit)=>i) (fun _ y=>if erR y≠0 then .inl (.inl (erR y)) else .inr ()) (fun _=>(.inr ():Int ⊕ Unit)) (fun _ _=>True) (s0:=()) trivial
  (fun i hi s _=>by
   have hz:=h.2 _ (List.getElem_mem hi)
   have hn:=h.1
   have hst:g_event_Check_s1 e (i:Int)=if(erR e.Rows[i] != 0)=true then some (.out (.inl (erR e.Rows[i]))) else some (.go ((i:Int)+1)):=by
    unfold g_event_Check_s1
    rw[if_pos (by simpa using hi),atI_nat hi,wr64 (x:=(i:Int)+1) (by omega)]
    simp only[Option.bind_some]
    rw[(erR_eq _ hz.1).1]
    rfl
   rw[hst]
   by_cases q:erR e.Rows[i]=0
   ·exact .inr ⟨(),by simp[q],by simp[q],trivial⟩
   ·exact .inl ⟨_,by rw[if_pos q],by rw[if_pos (by simpa using q)]⟩)
  (fun s _=>by unfold g_event_Check_s1;rw[if_neg (by simp)])
theorem runF_one {α β:Type} (f:α→β):∀ (L:List α) (s:List β),runF (fun s y=>(.inr (s++[f y]):List β ⊕ List β)) id s L=s++L.map f
 | [],s=>by simp[runF]
 | y::t,s=>by simp only[runF];rw[runF_one f t];simp
theorem lens_prog (e:T_api_Event) (h:EvZ e):g_event_lens e=some (e.Rows.map lnR):=by
 have hn:=h.1
 have:=iter_run (step:=g_event_lens_s1 e) e.Rows (by omega) (fun i (s:List Int)=>(s,i)) (fun s y=>.inr (s++[lnR y])) id (fun i s=>s.length=i) (s0:=[]) rfl
  (fun i hi s hs=>.inr ⟨_,rfl,by
   have hz:=h.2 _ (List.getElem_mem hi)
   unfold g_event_lens_s1
   dsimp only
   rw[if_pos (by simpa using hi),atI_nat hi,wr64 (x:=(i:Int)+1) (by omega)]
   simp only[Option.bind_some]
   rw[lnR_eq _ hz.1 hz.2]
   simp only[Option.bind_some]
   rw[if_pos (by omega)],by simp[hs]⟩)
  (fun s hs=>by unfold g_event_lens_s1;dsimp only;rw[if_neg (by simp)];rfl)
 rw[runF_one] at this
 unfold g_event_lens
 rw[this]
 rfl
theorem rows_ref (e:T_api_Event) (h:EvZ e):iter (g_ref11_Check_s1 e) ([],0)=some (runF (fun s y=>if erR y≠0 then .inl (.inl (erR y)) else .inr (s++[lnR y])) (fun s=>(.inr s:Int ⊕ List Int)) [] e.Rows):=by
 have hn:=h.1
 refine iter_run (step:=g_ref11_Check_s1 e) e.Rows (by omega) (fun i (s:List Int)=>(s,i)) (fun s y=>if erR y≠0 then .inl (.inl (erR y)) else .inr (s++[lnR y])) (fun s=>(.inr s:Int ⊕ List Int)) (fun i s=>s.length=i) (s0:=[]) rfl
  (fun i hi s hs=>?_) (fun s hs=>by unfold g_ref11_Check_s1;dsimp only;rw[if_neg (by simp)])
 have hz:=h.2 _ (List.getElem_mem hi)
 have hst:g_ref11_Check_s1 e (s,(i:Int))=if erR e.Rows[i]≠0 then some (.out (.inl (erR e.Rows[i]))) else some (.go (s++[lnR e.Rows[i]],(i:Int)+1)):=by
  unfold g_ref11_Check_s1
  dsimp only
  rw[if_pos (by simpa using hi),atI_nat hi,wr64 (x:=(i:Int)+1) (by omega)]
  simp only[Option.bind_some]
  generalize e.Rows[i]=y at hz
  obtain⟨v,h1,h2,h3⟩:=erR_spec y hz.1 hz.2
  rw[styCheck_same y hz.1,h1,styLen_same y hz.1,lnR_eq y hz.1 hz.2]
  simp only[Option.bind_some]
  by_cases q:v=0
  ·rw[if_neg (by simpa using q),plain_ref y hz.1 (h3 q)]
   simp only[Option.bind_some]
   rw[neat_eq _ (plS_len y hz.1 (h3 q))]
   rw[if_neg (by simpa using q)] at h2
   simp only[Option.bind_some]
   have hc:(s.length+1) * 8≤140737488355328:=by omega
   cases hu:unT (plS y) with
   | true =>
    rw[hu,if_pos rfl] at h2
    rw[h2]
    rfl
   | false =>
    rw[hu,if_neg (by simp)] at h2
    by_cases q2:32 < lnR y
    ·rw[if_pos q2] at h2
     rw[h2]
     simp[q2]
    ·rw[if_neg q2] at h2
     rw[h2]
     simp[q2,hc]
  ·rw[if_pos (by simpa using q)]
   rw[if_pos q] at h2
   rw[if_pos (by rw[h2];exact q),h2]
 rw[hst]
 by_cases q:erR e.Rows[i]=0
 ·exact .inr ⟨s++[lnR e.Rows[i]],by simp[q],by simp[q],by simp[hs]⟩
 ·exact .inl ⟨.inl (erR e.Rows[i]),by simp[q],by simp[q]⟩
theorem rows_rel:∀ (L:List T_api_Row) (s:List Int),runF (fun s y=>if erR y≠0 then .inl (.inl (erR y)) else .inr (s++[lnR y])) (fun s=>(.inr s:Int ⊕ List Int)) s L=match runF (fun(_:Unit) y=>if erR y≠0 then .inl (.inl (erR y)) else .inr ()) (fun _=>(.inr ():Int ⊕ Unit)) () L with
  | .inl v=>.inl v
  | .inr _=>.inr (s++L.map lnR)
 | [],s=>by simp[runF]
 | y::t,s=>by
  by_cases q:erR y=0
  ·simp only[runF,q,ne_eq,not_true,if_false]
   rw[rows_rel t]
   simp
  ·simp only[runF,ne_eq,q,not_false_eq_true,if_true]
theorem ev_same (e:T_api_Event) (h:EvZ e) (l:List T_api_Region) (hl:l.length≤1048576):g_ref11_Check e l=g_event_Check e l:=by
 unfold g_ref11_Check g_event_Check
 obtain⟨f,hf⟩:=regFind_tot l (by omega) e.Region
 obtain⟨kn,hk,hk2⟩:=kind_same e.Kind
 rw[rgFind_eq,hf,show g_ref11_spanned=g_event_spans from rfl,spans_eq,hk,lines_Name_eq,ref07_Name_eq,rows_ref e h,rows_prog e h,lens_prog e h,rows_rel]
 simp only[Option.bind_some,hk2,List.nil_append,plc_same]
 generalize (if decide (e.ID < 1)=true then some true else if decide (1099511627776 < e.ID)=true then some true else some !spB e.Span:Option Bool)=o1
 cases o1 with
 | none=>rfl
 | some b1 =>
  simp only[Option.bind_some]
  cases b1 with
  | true=>rfl
  | false =>
   simp only[Bool.false_eq_true,if_false]
   cases f.2 with
   | false=>rfl
   | true =>
    simp only[if_true]
    by_cases k1:e.Kind < 1
    ·simp[k1]
    ·by_cases k2:4 < e.Kind
     ·simp[k1,k2]
     ·simp only[k1,k2,decide_false,Bool.false_eq_true,if_false,Option.bind_some,Bool.or_false]
      generalize (if(e.Speaker == ([]:List UInt8))=true then some false else some !isNm e.Speaker:Option Bool)=o2
      cases o2 with
      | none=>rfl
      | some b2 =>
       simp only[Option.bind_some]
       cases b2 with
       | true=>rfl
       | false =>
        simp only[Bool.false_eq_true,if_false]
        generalize (if((e.Rows.length:Int) == 0)=true then some true else some (decide (4 < (e.Rows.length:Int))):Option Bool)=o3
        cases o3 with
        | none=>rfl
        | some b3 =>
         simp only[Option.bind_some]
         cases b3 with
         | true=>rfl
         | false =>
          simp only[Bool.false_eq_true,if_false]
          cases runF (fun(_:Unit) y=>if erR y≠0 then .inl (.inl (erR y)) else .inr ()) (fun _=>(.inr ():Int ⊕ Unit)) () e.Rows with
          | inl v=>rfl
          | inr _=>simp only[plc_same]
def mx (n:Int):Int:=if n - 1 < 0 then 0 else n - 1
theorem mx_pos {n:Int} (h:1≤n):mx n=n - 1:=by unfold mx;rw[if_neg (by omega)]
theorem mx_0 {n:Int} (h:n≤0):mx n=0:=by
 unfold mx
 by_cases q:n - 1 < 0
 ·rw[if_pos q]
 ·omega
theorem evLen_loop (e:T_api_Event) (h:EvZ e):iter (g_event_Len_s1 (e.Rows.map lnR)) ((if 0 > (IntKind.i64.wrap ((e.Rows.length:Int) - 1)) then 0 else(IntKind.i64.wrap ((e.Rows.length:Int) - 1))),0)=some (runF (fun(s:Int) y=>if lnR y < 0 then .inl (.inl ()) else .inr (s+lnR y)) (fun s=>(.inr (IntKind.i64.wrap (mx e.Rows.length+s)):Unit ⊕ Int)) 0 e.Rows):=by
 have hn:=h.1
 have hl:(e.Rows.map lnR).length=e.Rows.length:=List.length_map ..
 have c0:(if 0 > (IntKind.i64.wrap ((e.Rows.length:Int) - 1)) then 0 else(IntKind.i64.wrap ((e.Rows.length:Int) - 1)))=IntKind.i64.wrap (mx e.Rows.length+0):=by
  rw[wr64 (x:=(e.Rows.length:Int) - 1) (by omega)]
  by_cases q:1≤(e.Rows.length:Int)
  ·rw[mx_pos q,Int.add_zero,if_neg (by omega),wr64 (by omega)]
  ·rw[mx_0 (by omega),if_pos (by omega)];rfl
 rw[c0]
 refine iter_run (step:=g_event_Len_s1 (e.Rows.map lnR)) e.Rows (by omega) (fun i (s:Int)=>(IntKind.i64.wrap (mx e.Rows.length+s),i)) (fun(s:Int) y=>if lnR y < 0 then .inl (.inl ()) else .inr (s+lnR y)) (fun s=>(.inr (IntKind.i64.wrap (mx e.Rows.length+s)):Unit ⊕ Int)) (fun _ _=>True) (s0:=0) trivial (fun i hi s _=>?_) (fun s _=>by unfold g_event_Len_s1;dsimp only;rw[if_neg (by rw[hl];simp)])
 generalize mx e.Rows.length=c at *
 have hst:g_event_Len_s1 (e.Rows.map lnR) (IntKind.i64.wrap (c+s),(i:Int))=if decide (lnR e.Rows[i] < 0)=true then some (.out (.inl ())) else some (.go (IntKind.i64.wrap (c+s+lnR e.Rows[i]),(i:Int)+1)):=by
  unfold g_event_Len_s1
  dsimp only
  rw[if_pos (by rw[hl];simpa using hi),atI_nat (show i < (e.Rows.map lnR).length by omega),wr64 (x:=(i:Int)+1) (by omega)]
  simp only[Option.bind_some,List.getElem_map]
  rw[wadd]
 rw[hst]
 by_cases q:lnR e.Rows[i] < 0
 ·exact .inl ⟨.inl (),by simp[q],by simp[q]⟩
 ·exact .inr ⟨s+lnR e.Rows[i],by simp[q],by simp[q,Int.add_assoc],trivial⟩
theorem evLen_ref_loop (e:T_api_Event) (h:EvZ e):iter (g_ref11_Len_s1 e) (0,0)=some (runF (fun(s:Int) y=>if lnR y < 0 then .inl (.inl ()) else .inr (s+lnR y)) (fun s=>(.inr (IntKind.i64.wrap (mx e.Rows.length+s)):Unit ⊕ Int)) 0 e.Rows):=by
 have hn:=h.1
 refine iter_run (step:=g_ref11_Len_s1 e) e.Rows (by omega) (fun i (s:Int)=>(IntKind.i64.wrap (mx i+s),i)) (fun(s:Int) y=>if lnR y < 0 then .inl (.inl ()) else .inr (s+lnR y)) (fun s=>(.inr (IntKind.i64.wrap (mx e.Rows.length+s)):Unit ⊕ Int)) (fun _ _=>True) (s0:=0) trivial (fun i hi s _=>?_) (fun s _=>by unfold g_ref11_Len_s1;dsimp only;rw[if_neg (by simp)])
 have hz:=h.2 _ (List.getElem_mem hi)
 have hst:g_ref11_Len_s1 e (IntKind.i64.wrap (mx i+s),(i:Int))=if decide (lnR e.Rows[i] < 0)=true then some (.out (.inl ())) else some (.go (IntKind.i64.wrap (mx ((i:Int)+1)+(s+lnR e.Rows[i])),(i:Int)+1)):=by
  unfold g_ref11_Len_s1
  dsimp only
  rw[if_pos (by simpa using hi),atI_nat hi,wr64 (x:=(i:Int)+1) (by omega)]
  simp only[Option.bind_some]
  rw[styLen_same _ hz.1,lnR_eq _ hz.1 hz.2]
  simp only[Option.bind_some]
  generalize lnR e.Rows[i]=v
  by_cases q:v < 0
  ·simp[q]
  ·simp only[q,decide_false,Bool.false_eq_true,if_false]
   rw[mx_pos (n:=(i:Int)+1) (by omega),Int.add_sub_cancel]
   by_cases q2:0 < (i:Int)
   ·rw[if_pos (by simpa using q2),mx_pos (by omega),wadd,Int.add_assoc,wadd,show(i:Int) - 1+s+(1+v)=(i:Int)+(s+v) by omega]
   ·rw[if_neg (by simpa using q2),mx_0 (by omega),wadd,show(0:Int)+s+v=(i:Int)+(s+v) by omega]
 rw[hst]
 by_cases q:lnR e.Rows[i] < 0
 ·exact .inl ⟨.inl (),by simp[q],by simp[q]⟩
 ·exact .inr ⟨s+lnR e.Rows[i],by simp[q],by simp[q],trivial⟩
theorem evLen_same (e:T_api_Event) (h:EvZ e):g_ref11_Len e=g_event_Len e:=by
 unfold g_ref11_Len g_event_Len
 rw[lens_prog e h,evLen_ref_loop e h]
 simp only[Option.bind_some]
 rw[evLen_loop e h]
 rfl
def ixE:List T_api_Event→Int→Nat→Int
 | [],_,_=>-1
 | e::t,id,k=>if e.ID=id then(k:Int) else ixE t id (k+1)
theorem ixE_look:∀ (l:List T_api_Event) (id:Int) (k:Nat),((l.map (·.ID)).contains id=true→lookV (l.map (·.ID)) ((List.range' k l.length).map Int.ofNat) id 0=ixE l id k∧0≤ixE l id k)∧((l.map (·.ID)).contains id=false→ixE l id k=-1)
 | [],id,k=>by simp[ixE]
 | e::t,id,k=>by
  have ih:=ixE_look t id (k+1)
  simp only[List.map_cons,List.contains_cons,List.length_cons,List.range'_succ]
  unfold lookV ixE
  by_cases q:e.ID=id
  ·subst q;simp
  ·rw[if_neg q,if_neg q]
   have:(id == e.ID)=false:=by simp;exact fun h=>q h.symm
   rw[this,Bool.false_or]
   exact ih
theorem ref_find (d:T_api_Document) (hn:d.Events.length≤1048576) (id:Int):g_ref12_Find d id=some (ixE d.Events id 0):=by
 have key:=iter_run (step:=g_ref12_Find_s1 d id) d.Events.zipIdx (by simp;omega) (fun i (_:Unit)=>i) (fun _ a=>if a.1.ID=id then .inl (.inl (a.2:Int)) else .inr ()) (fun _=>(.inr ():Int ⊕ Unit)) (fun _ _=>True) (s0:=()) trivial
  (fun i hi s _=>by
   have hi':i < d.Events.length:=by simpa using hi
   rw[show d.Events.zipIdx[i]=(d.Events[i],i) from by simp[List.getElem_zipIdx]]
   have hst:g_ref12_Find_s1 d id (i:Int)=if(d.Events[i].ID == id)=true then some (.out (.inl (i:Int))) else some (.go ((i:Int)+1)):=by
    unfold g_ref12_Find_s1
    rw[if_pos (by simpa using hi'),atI_nat hi',wr64 (x:=(i:Int)+1) (by omega)]
    rfl
   rw[hst]
   by_cases q:d.Events[i].ID=id
   ·exact .inl ⟨.inl (i:Int),by simp[q],by simp[q]⟩
   ·exact .inr ⟨(),by simp[q],by simp[q],trivial⟩)
  (fun s _=>by unfold g_ref12_Find_s1;rw[if_neg (by simp)])
 have hr:∀ (l:List T_api_Event) (k:Nat),(match runF (fun(_:Unit) (a:T_api_Event × Nat)=>if a.1.ID=id then .inl (.inl (a.2:Int)) else .inr ()) (fun _=>(.inr ():Int ⊕ Unit)) () (l.zipIdx k) with|.inl v=>v|.inr _=>-1)=ixE l id k:=by
  intro l
  induction l with
  | nil=>intro k;rfl
  | cons e t ih =>
   intro k
   simp only[List.zipIdx_cons,runF]
   unfold ixE
   by_cases q:e.ID=id
   ·simp[q]
   ·simp only[q,if_false];exact ih (k+1)
 unfold g_ref12_Find
 rw[key,← hr d.Events 0]
 simp only[Option.bind_some]
 generalize runF (fun(_:Unit) (a:T_api_Event × Nat)=>if a.1.ID=id then .inl (.inl (a.2:Int)) else .inr ()) (fun _=>(.inr ():Int ⊕ Unit)) () (d.Events.zipIdx 0)=e
 cases e<;>rfl
def mpE (l:List T_api_Event):MI Int:=MI.mk (l.map (·.ID)) ((List.range' 0 l.length).map Int.ofNat)
theorem com_same (d:T_api_Document) (hd:DocZ d):g_document_comments_s1 d (mpE d.Events)=g_ref12_Check_s2 d:=by
 funext x
 unfold g_document_comments_s1 g_ref12_Check_s2
 by_cases hx:x < (d.Comments.length:Int)
 ·rw[if_pos (by simpa using hx),if_pos (by simpa using hx)]
  unfold g_ref12_checkComment
  cases hc:atI d.Comments x with
  | none=>rfl
  | some c =>
   have hct:=hd.com c (atI_mem hc)
   simp only[Option.bind_some]
   by_cases h1:c.ID < 1
   ·simp[h1]
   by_cases h2:d.Last < c.ID
   ·simp[h1,h2]
   simp only[h1,h2,decide_false,Bool.false_eq_true,if_false,Option.bind_some]
   -- what stands behind the order
   have rest:(if(mpE d.Events).ks.contains c.ID=true then some (.out (.inl 7)) else((g_document_anchored d c (mpE d.Events)).bind fun r=>if(r != 0)=true then some (.out (.inl r)) else((g_lines_Name c.Author).bind fun r=>if r=true then((g_charset_Valid c.Text).bind fun r=>if r=true then(if(c.Text == ([]:List UInt8))=true then some (.out (.inl 4)) else if decide (400 < (c.Text.length:Int))=true then some (.out (.inl 9)) else some (.go (IntKind.i64.wrap (x+1)))) else some (.out (.inl 10))) else some (.out (.inl 5)))):Option (Nx Int (Int ⊕ Unit))) =
     (((g_ref12_Find d c.ID).bind fun r35=>(if(decide (0≤r35)) then(some 7) else(((if(decide (c.Event < 1)) then(some true) else(some (decide (d.Last < c.Event)))):Option (Bool)).bind fun v42=>(if v42 then(some 2) else(if c.Lost then(((if(c.From != 0) then(some true) else(some (c.To != 0))):Option (Bool)).bind fun v54=>(if v54 then(some 2) else((g_ref07_Name c.Author).bind fun r93=>(if r93 then((g_ref08_Valid c.Text).bind fun r100=>(if r100 then(if(c.Text == ([]:List UInt8)) then(some 4) else(if(decide (400 < (c.Text.length:Int))) then(some 9) else(some 0))) else(some 10))) else(some 5))))) else((g_ref12_Find d c.Event).bind fun r123=>(if(decide (r123 < 0)) then(some 6) else(((if(decide (c.From < 0)) then(some true) else(if(decide (c.To≤c.From)) then(some true) else((atI d.Events r123).bind fun y141=>((g_ref11_Len y141).bind fun r143=>(some (decide (r143 < c.To))))))):Option (Bool)).bind fun v137=>(if v137 then(some 2) else((g_ref07_Name c.Author).bind fun r181=>(if r181 then((g_ref08_Valid c.Text).bind fun r188=>(if r188 then(if(c.Text == ([]:List UInt8)) then(some 4) else(if(decide (400 < (c.Text.length:Int))) then(some 9) else(some 0))) else(some 10))) else(some 5))))))))))):Option Int).bind fun r=>if(r != 0)=true then some (.out (.inl r)) else some (.go (IntKind.i64.wrap (x+1)))):=by
    rw[ref_find d hd.evs,ref_find d hd.evs,ref07_Name_eq,lines_Name_eq,ref_Valid_eq _ (by omega),prog_Valid_eq _ (by omega)]
    simp only[Option.bind_some]
    have hk:=ixE_look d.Events c.ID 0
    have hk2:=ixE_look d.Events c.Event 0
    have hks:(mpE d.Events).ks=d.Events.map (·.ID):=rfl
    have hvs:(mpE d.Events).vs=(List.range' 0 d.Events.length).map Int.ofNat:=rfl
    rw[hks]
    cases hb:(d.Events.map (·.ID)).contains c.ID with
    | true=>simp only[decide_eq_true (hk.1 hb).2,if_true];rfl
    | false =>
     simp only[hk.2 hb,show decide ((0:Int)≤-1)=false from rfl,Bool.false_eq_true,if_false]
     unfold g_document_anchored
     rw[hks,hvs]
     have tail:∀ (r:Int),(if(r != 0)=true then some (.out (.inl r)) else(if isNm c.Author=true then(if gv c.Text=true then(if(c.Text == ([]:List UInt8))=true then some (.out (.inl 4)) else if decide (400 < (c.Text.length:Int))=true then some (.out (.inl 9)) else some (.go (IntKind.i64.wrap (x+1)))) else some (.out (.inl 10))) else some (.out (.inl 5))):Option (Nx Int (Int ⊕ Unit)))=(((if(r != 0)=true then some r else(if isNm c.Author=true then(if gv c.Text=true then(if(c.Text == ([]:List UInt8))=true then(some 4) else(if decide (400 < (c.Text.length:Int))=true then(some 9) else(some 0))) else(some 10)) else(some 5))):Option Int).bind fun r=>if(r != 0)=true then some (.out (.inl r)) else some (.go (IntKind.i64.wrap (x+1)))):=by
      intro r
      by_cases q:r=0
      ·subst q
       generalize isNm c.Author=b1
       generalize gv c.Text=b2
       generalize (c.Text == ([]:List UInt8))=b3
       generalize decide (400 < (c.Text.length:Int))=b4
       cases b1<;>cases b2<;>cases b3<;>cases b4<;>rfl
      ·rw[if_pos (by simpa using q),if_pos (by simpa using q)]
       simp only[Option.bind_some]
       rw[if_pos (by simpa using q)]
     by_cases a1:c.Event < 1
     ·simp[a1]
     by_cases a2:d.Last < c.Event
     ·simp[a1,a2]
     simp only[a1,a2,decide_false,Bool.false_eq_true,if_false,Option.bind_some]
     cases hL:c.Lost with
     | true =>
      simp only[if_true]
      by_cases a3:c.From=0
      ·by_cases a4:c.To=0
       ·simp only[a3,a4,bne_self_eq_false,Bool.false_eq_true,if_false,Option.bind_some]
        have:=tail 0
        simpa using this
       ·simp[a3,a4]
      ·simp[a3]
     | false =>
      simp only[Bool.false_eq_true,if_false]
      cases hb2:(d.Events.map (·.ID)).contains c.Event with
      | false=>simp only[hk2.2 hb2,show decide ((-1:Int) < 0)=true from rfl,Bool.false_eq_true,if_false,if_true];rfl
      | true =>
       obtain⟨k1,k2⟩:=hk2.1 hb2
       simp only[k1,decide_eq_false (Int.not_lt.2 k2),Bool.false_eq_true,if_false,if_true]
       by_cases a3:c.From < 0
       ·simp[a3]
       by_cases a4:c.To≤c.From
       ·simp[a3,a4]
       simp only[a3,a4,decide_false,Bool.false_eq_true,if_false]
       cases he:atI d.Events (ixE d.Events c.Event 0) with
       | none=>rfl
       | some y =>
        have hy:=hd.ev y (atI_mem he)
        simp only[Option.bind_some]
        rw[evLen_same y hy]
        obtain⟨v,hv⟩:=evLen_tot y hy
        rw[hv]
        simp only[Option.bind_some]
        by_cases a5:v < c.To
        ·simp[a5]
        ·simp only[a5,decide_false,Bool.false_eq_true,if_false,Option.bind_some]
         have:=tail 0
         simpa using this
   by_cases h3:0 < x
   ·simp only[decide_eq_true h3,if_true]
    cases hp:atI d.Comments (IntKind.i64.wrap (x - 1)) with
    | none=>rfl
    | some c' =>
     simp only[Option.bind_some]
     by_cases h4:c.ID≤c'.ID
     ·simp only[decide_eq_true h4,if_true];rfl
     ·simp only[decide_eq_false h4,Bool.false_eq_true,if_false]
      exact rest
   ·simp only[decide_eq_false h3,Bool.false_eq_true,if_false,Option.bind_some]
    exact rest
 ·rw[if_neg (by simpa using hx),if_neg (by simpa using hx)]
def evE (d:T_api_Document) (a:T_api_Event × Nat):Int :=
 if(g_event_Check a.1 d.Regions).getD 0≠0 then(g_event_Check a.1 d.Regions).getD 0 else if d.Last < a.1.ID then 2 else if(∃ h:0 < a.2∧a.2 - 1 < d.Events.length,ltE (d.Events[a.2 - 1]'h.2) a.1=false) then 8 else if((d.Events.take a.2).map (·.ID)).contains a.1.ID=true then 7 else 0
def evF {E:Type} (d:T_api_Document) (_:Unit) (a:T_api_Event × Nat):(Int ⊕ E) ⊕ Unit:=if evE d a≠0 then .inl (.inl (evE d a)) else .inr ()
theorem mp_snoc (l:List T_api_Event) {i:Nat} (hi:i < l.length) (hc:((l.take i).map (·.ID)).contains l[i].ID=false):putK ((l.take i).map (·.ID)) l[i].ID=(l.take (i+1)).map (·.ID)∧putV ((l.take i).map (·.ID)) ((List.range' 0 i).map Int.ofNat) l[i].ID (i:Int)=(List.range' 0 (i+1)).map Int.ofNat:=by
 rw[putK_new _ _ hc,putV_new _ _ _ _ hc (by simp;omega)]
 constructor
 ·rw[List.take_succ_eq_append_getElem hi,List.map_append];rfl
 ·rw[List.range'_concat,List.map_append];simp
theorem prog_evs (d:T_api_Document) (hd:DocZ d):iter (g_document_Check_s1 d) (0,[],[])=some (runF (evF d) (fun _=>(.inr ((mpE d.Events).ks,(mpE d.Events).vs):Int ⊕ (List Int × List Int))) () d.Events.zipIdx):=by
 have hn:=hd.evs
 have hlz:d.Events.zipIdx.length=d.Events.length:=List.length_zipIdx
 refine iter_run (step:=g_document_Check_s1 d) d.Events.zipIdx (by omega) (fun i (_:Unit)=>(i,(d.Events.take i.toNat).map (·.ID),(List.range' 0 i.toNat).map Int.ofNat)) (evF d) (fun _=>(.inr ((mpE d.Events).ks,(mpE d.Events).vs):Int ⊕ (List Int × List Int))) (fun _ _=>True) (s0:=()) trivial (fun i hi s _=>?_)
  (fun s _=>by unfold g_document_Check_s1;dsimp only;rw[if_neg (by rw[hlz];simp),hlz,Int.toNat_natCast,List.take_length];rfl)
 have hi':i < d.Events.length:=by omega
 have hst:g_document_Check_s1 d ((i:Int),(d.Events.take i).map (·.ID),(List.range' 0 i).map Int.ofNat)=if evE d (d.Events[i],i)≠0 then some (.out (.inl (evE d (d.Events[i],i)))) else some (.go ((i:Int)+1,(d.Events.take (i+1)).map (·.ID),(List.range' 0 (i+1)).map Int.ofNat)):=by
  unfold g_document_Check_s1 evE
  dsimp only
  rw[if_pos (by simpa using hi'),atI_nat hi',wr64 (x:=(i:Int)+1) (by omega)]
  simp only[Option.bind_some]
  obtain⟨v,hv,_⟩:=evCheck_tot _ (hd.ev _ (List.getElem_mem hi')) d.Regions hd.regs
  rw[hv]
  simp only[Option.bind_some,Option.getD_some]
  by_cases q:v=0
  ·subst q
   simp only[bne_self_eq_false,Bool.false_eq_true,if_false,ne_eq,not_true_eq_false]
   by_cases q1:d.Last < d.Events[i].ID
   ·simp[q1]
   ·simp only[q1,decide_false,Bool.false_eq_true,if_false]
    have tail:((if(((d.Events.take i).map (·.ID)).contains d.Events[i].ID)=true then some (.out 7) else some (.go ()):Option (Nx Unit Int)).bind fun w=>match w with|.go v=>(some (.go ((i:Int)+1,putK ((d.Events.take i).map (·.ID)) d.Events[i].ID,putV ((d.Events.take i).map (·.ID)) ((List.range' 0 i).map Int.ofNat) d.Events[i].ID (i:Int))):Option (Nx (Int × List Int × List Int) (Int ⊕ (List Int × List Int))))|.out e=>some (.out (.inl e)))=if((if((d.Events.take i).map (·.ID)).contains d.Events[i].ID=true then 7 else 0:Int)=0) then some (.go ((i:Int)+1,(d.Events.take (i+1)).map (·.ID),(List.range' 0 (i+1)).map Int.ofNat)) else some (.out (.inl (if((d.Events.take i).map (·.ID)).contains d.Events[i].ID=true then 7 else 0))):=by
     cases hc:((d.Events.take i).map (·.ID)).contains d.Events[i].ID with
     | true=>rfl
     | false =>
      obtain⟨m1,m2⟩:=mp_snoc d.Events hi' hc
      simp only[Bool.false_eq_true,if_false,Option.bind_some,if_true]
      rw[m1,m2]
    by_cases q2:0 < i
    ·rw[if_pos (by simpa using q2),wr64 (by omega),show((i:Int) - 1)=((i - 1:Nat):Int) by omega,atI_nat (show i - 1 < d.Events.length by omega)]
     simp only[Option.bind_some,less_eq]
     have hex:(∃ h:0 < i∧i - 1 < d.Events.length,ltE (d.Events[i - 1]'h.2) d.Events[i]=false) ↔ ltE (d.Events[i - 1]'(by omega)) d.Events[i]=false:=⟨fun⟨_,h⟩=>h,fun h=>⟨⟨q2,by omega⟩,h⟩⟩
     simp only[hex]
     cases q3:ltE (d.Events[i - 1]'(by omega)) d.Events[i] with
     | false=>simp
     | true =>
      simp only[if_true,Bool.true_eq_false,if_false]
      refine tail.trans ?_
      split<;>simp_all
    ·rw[if_neg (by simpa using q2)]
     have hex:¬ (∃ h:0 < i∧i - 1 < d.Events.length,ltE (d.Events[i - 1]'h.2) d.Events[i]=false):=fun⟨h,_⟩=>q2 h.1
     simp only[hex,if_false]
     refine tail.trans ?_
     split<;>simp_all
  ·have:(v != 0)=true:=by simpa using q
   simp[q,this]
 rw[show d.Events.zipIdx[i]=(d.Events[i],i) from by simp[List.getElem_zipIdx]]
 simp only[Int.toNat_natCast,show((i:Int)+1).toNat=i+1 by omega]
 rw[hst]
 unfold evF
 by_cases q:evE d (d.Events[i],i)=0
 ·exact .inr ⟨(),by simp[q],by simp[q],trivial⟩
 ·exact .inl ⟨.inl (evE d (d.Events[i],i)),by simp[q],by simp[q]⟩
theorem ixE_at:∀ (l:List T_api_Event) (i k:Nat) (h:i < l.length),(ixE l l[i].ID k=((k+i:Nat):Int)) ↔ ((l.take i).map (·.ID)).contains l[i].ID=false
 | [],i,k,h=>by simp at h
 | e::t,0,k,h=>by simp[ixE]
 | e::t,i+1,k,h=>by
  have hi:i < t.length:=by simpa using h
  have ih:=ixE_at t i (k+1) hi
  simp only[List.getElem_cons_succ,List.take_succ_cons,List.map_cons,List.contains_cons,Bool.or_eq_false_iff]
  unfold ixE
  by_cases q:e.ID=t[i].ID
  ·rw[if_pos q]
   constructor
   ·intro h;omega
   ·rintro⟨h,_⟩;rw[q] at h;simp at h
  ·rw[if_neg q,show k+(i+1)=k+1+i by omega,ih]
   constructor
   ·intro h;exact⟨by simp;exact fun x=>q x.symm,h⟩
   ·exact fun h=>h.2
theorem ref_evs (d:T_api_Document) (hd:DocZ d):iter (g_ref12_Check_s1 d) 0=some (runF (evF d) (fun _=>(.inr ():Int ⊕ Unit)) () d.Events.zipIdx):=by
 have hn:=hd.evs
 have hlz:d.Events.zipIdx.length=d.Events.length:=List.length_zipIdx
 refine iter_run (step:=g_ref12_Check_s1 d) d.Events.zipIdx (by omega) (fun i (_:Unit)=>i) (evF d) (fun _=>(.inr ():Int ⊕ Unit)) (fun _ _=>True) (s0:=()) trivial (fun i hi s _=>?_)
  (fun s _=>by unfold g_ref12_Check_s1;rw[if_neg (by rw[hlz];simp)])
 have hi':i < d.Events.length:=by omega
 have hst:g_ref12_Check_s1 d (i:Int)=if evE d (d.Events[i],i)≠0 then some (.out (.inl (evE d (d.Events[i],i)))) else some (.go ((i:Int)+1)):=by
  unfold g_ref12_Check_s1 evE
  dsimp only
  rw[if_pos (by simpa using hi'),atI_nat hi',wr64 (x:=(i:Int)+1) (by omega)]
  simp only[Option.bind_some]
  have hz:=hd.ev _ (List.getElem_mem hi')
  rw[ev_same _ hz _ hd.regs]
  obtain⟨v,hv,_⟩:=evCheck_tot _ hz d.Regions hd.regs
  rw[hv,ref_find d hn]
  simp only[Option.bind_some,Option.getD_some]
  by_cases q:v=0
  ·subst q
   simp only[bne_self_eq_false,Bool.false_eq_true,if_false,ne_eq,not_true_eq_false]
   by_cases q1:d.Last < d.Events[i].ID
   ·simp[q1]
   ·simp only[q1,decide_false,Bool.false_eq_true,if_false]
    have hix:=ixE_at d.Events i 0 hi'
    simp only[Nat.zero_add] at hix
    have tail:(if(ixE d.Events d.Events[i].ID 0 != (i:Int))=true then some (.out (.inl 7)) else some (.go ((i:Int)+1)):Option (Nx Int (Int ⊕ Unit)))=if((if((d.Events.take i).map (·.ID)).contains d.Events[i].ID=true then 7 else 0:Int)=0) then some (.go ((i:Int)+1)) else some (.out (.inl (if((d.Events.take i).map (·.ID)).contains d.Events[i].ID=true then 7 else 0))):=by
     cases hc:((d.Events.take i).map (·.ID)).contains d.Events[i].ID with
     | true =>
      have:ixE d.Events d.Events[i].ID 0≠(i:Int):=fun e=>by rw[hix.1 e] at hc;cases hc
      simp[this]
     | false=>simp[hix.2 hc]
    by_cases q2:0 < i
    ·rw[if_pos (by simpa using q2),wr64 (by omega),show((i:Int) - 1)=((i - 1:Nat):Int) by omega,atI_nat (show i - 1 < d.Events.length by omega)]
     simp only[Option.bind_some,less_ref]
     have hex:(∃ h:0 < i∧i - 1 < d.Events.length,ltE (d.Events[i - 1]'h.2) d.Events[i]=false) ↔ ltE (d.Events[i - 1]'(by omega)) d.Events[i]=false:=⟨fun⟨_,h⟩=>h,fun h=>⟨⟨q2,by omega⟩,h⟩⟩
     simp only[hex]
     cases q3:ltE (d.Events[i - 1]'(by omega)) d.Events[i] with
     | false=>simp
     | true =>
      simp only[Bool.not_true,Bool.false_eq_true,Bool.true_eq_false,if_false]
      rw[tail]
      split<;>simp_all
    ·rw[if_neg (by simpa using q2)]
     have hex:¬ (∃ h:0 < i∧i - 1 < d.Events.length,ltE (d.Events[i - 1]'h.2) d.Events[i]=false):=fun⟨h,_⟩=>q2 h.1
     simp only[hex,Option.bind_some,Bool.false_eq_true,if_false]
     rw[tail]
     split<;>simp_all
  ·have:(v != 0)=true:=by simpa using q
   simp[q,this]
 rw[show d.Events.zipIdx[i]=(d.Events[i],i) from by simp[List.getElem_zipIdx],hst]
 unfold evF
 by_cases q:evE d (d.Events[i],i)=0
 ·exact .inr ⟨(),by simp[q],by simp[q],trivial⟩
 ·exact .inl ⟨.inl (evE d (d.Events[i],i)),by simp[q],by simp[q]⟩
theorem evs_rel {E:Type} (d:T_api_Document) (y:E):∀ (L:List (T_api_Event × Nat)),runF (evF d) (fun _=>(.inr y:Int ⊕ E)) () L=match runF (evF d) (fun _=>(.inr ():Int ⊕ Unit)) () L with
  | .inl v=>.inl v
  | .inr _=>.inr y
 | []=>rfl
 | a::t=>by
  simp only[runF,evF]
  by_cases q:evE d a=0
  ·simp only[q,ne_eq,not_true,if_false];exact evs_rel d y t
  ·simp only[q,ne_eq,not_false_eq_true,if_true]
theorem head_same (d:T_api_Document) (hd:DocZ d):g_ref12_checkHead d=g_document_header d:=by
 unfold g_ref12_checkHead g_document_header
 have ht:=hd.title
 rw[ref_Valid_eq _ (by omega),prog_Valid_eq _ (by omega),ref07_Name_eq,lines_Name_eq,rd_eq _ hd.rate.1 hd.rate.2]
 simp only[Option.bind_some]
 unfold rdR
 obtain⟨b,hb⟩:∃ b,rdR d.Rate d.Drop=some b:=by
  obtain⟨v,hv⟩:=rate_tot d.Rate hd.rate.1 hd.rate.2 d.Drop
  rw[rd_eq _ hd.rate.1 hd.rate.2] at hv
  cases hr:rdR d.Rate d.Drop with
  | none=>rw[hr] at hv;cases hv
  | some b=>exact⟨b,rfl⟩
 unfold rdR at hb
 rw[hb]
 simp only[Option.bind_some,Option.map_some]
 generalize gv d.Title=b1
 generalize decide (400 < (d.Title.length:Int))=b2
 generalize (d.Lang == ([]:List UInt8))=b3
 generalize isNm d.Lang=b4
 cases b1<;>cases b2<;>cases b3<;>cases b4<;>cases b<;>rfl
theorem doc_same (d:T_api_Document) (hd:DocZ d):g_ref12_Check d=g_document_Check d:=by
 unfold g_ref12_Check g_document_Check
 rw[head_same d hd,rgList_eq,prog_evs d hd,ref_evs d hd,evs_rel d ((mpE d.Events).ks,(mpE d.Events).vs)]
 obtain⟨v1,h1⟩:=header_tot d hd.title hd.rate.1 hd.rate.2
 obtain⟨v2,h2⟩:=regList_tot d.Regions
 rw[h1,h2]
 simp only[Option.bind_some]
 split
 ·rfl
 ·split
  ·rfl
  ·split
   ·rfl
   ·cases runF (evF d) (fun _=>(.inr ():Int ⊕ Unit)) () d.Events.zipIdx with
    | inl v=>rfl
    | inr _ =>
     dsimp only
     unfold g_document_comments
     have:=com_same d hd
     unfold mpE at this
     simp only[mpE]
     rw[this]
     split
     ·rfl
     ·cases iter (g_ref12_Check_s2 d) 0 with
      | none=>rfl
      | some e=>cases e<;>rfl
theorem evs_ok (d:T_api_Document) (hd:DocZ d) (h:g_document_Check d=some 0):∀ e ∈ d.Events,g_event_Check e d.Regions=some 0:=by
 have hall:∀ (L:List (T_api_Event × Nat)),(∃ u,runF (evF d) (fun _=>(.inr ():Int ⊕ Unit)) () L=.inr u)→∀ a ∈ L,evE d a=0:=by
  intro L
  induction L with
  | nil=>intro _ a ha;cases ha
  | cons b t ih =>
   rintro⟨u,hu⟩ a ha
   simp only[runF,evF] at hu
   by_cases q:evE d b=0
   ·simp only[q,ne_eq,not_true,if_false] at hu
    rcases List.mem_cons.1 ha with rfl|ha
    ·exact q
    ·exact ih ⟨u,hu⟩ a ha
   ·simp only[q,ne_eq,not_false_eq_true,if_true] at hu
    cases hu
 unfold g_document_Check at h
 rw[prog_evs d hd,evs_rel d ((mpE d.Events).ks,(mpE d.Events).vs)] at h
 obtain⟨v1,h1⟩:=header_tot d hd.title hd.rate.1 hd.rate.2
 obtain⟨v2,h2⟩:=regList_tot d.Regions
 rw[h1,h2] at h
 simp only[Option.bind_some] at h
 split at h
 ·rename_i q;cases h;simp at q
 ·split at h
  ·rename_i q;cases h;simp at q
  ·split at h
   ·cases h
   ·cases hr:runF (evF d) (fun _=>(.inr ():Int ⊕ Unit)) () d.Events.zipIdx with
    | inl v =>
     rw[hr] at h
     simp only[Option.some.injEq] at h
     subst h
     exfalso
     have hne:∀ (L:List (T_api_Event × Nat)),runF (evF d) (fun _=>(.inr ():Int ⊕ Unit)) () L≠.inl 0:=by
      intro L
      induction L with
      | nil=>intro h;cases h
      | cons b t ih =>
       intro h
       simp only[runF,evF] at h
       by_cases q:evE d b=0
       ·simp only[q,ne_eq,not_true,if_false] at h;exact ih h
       ·simp only[q,ne_eq,not_false_eq_true,if_true] at h
        injection h with h
        exact q h
     exact hne _ hr
    | inr u =>
     intro e he
     obtain⟨i,hi,rfl⟩:=List.getElem_of_mem he
     have:=hall _ ⟨u,hr⟩ (d.Events[i],i) (List.mem_zipIdx_iff_getElem?.2 (List.getElem?_eq_getElem hi))
     obtain⟨v,hv,_⟩:=evCheck_tot _ (hd.ev _ (List.getElem_mem hi)) d.Regions hd.regs
     unfold evE at this
     rw[hv] at this ⊢
     simp only[Option.getD_some] at this
     by_cases q:v=0
     ·rw[q]
     ·rw[if_pos q] at this;exact absurd this q
def up (e:T_api_Event) (s:T_api_Shift):T_api_Event:=upE s e
theorem apR_map:∀ (l:List T_api_Shift) (ev ev':List T_api_Event),apR ev l=.inr ev'→ev'=ev.map (fun e=>l.foldl up e)
 | [],ev,ev',h=>by cases h;simp
 | s::l,ev,ev',h=>by
  unfold apR at h
  simp only[runF] at h
  cases hf:apF ev s with
  | inl e =>
   rw[hf] at h
   simp only at h
   unfold apF at hf
   split at hf
   ·split at hf<;>cases hf
    cases h
   ·cases hf;cases h
  | inr e1 =>
   rw[hf] at h
   have h1:=apR_map l e1 ev' h
   unfold apF at hf
   split at hf
   ·split at hf
    ·cases hf
    ·cases hf
     rw[h1,List.map_map]
     rfl
   ·cases hf
theorem apR_inl:∀ (l:List T_api_Shift) (ev:List T_api_Event) (e:Int),apR ev l=.inl e→e=6∨e=2
 | [],ev,e,h=>by cases h
 | s::l,ev,e,h=>by
  unfold apR at h
  simp only[runF] at h
  cases hf:apF ev s with
  | inl e1 =>
   rw[hf] at h
   simp only at h
   subst h
   unfold apF at hf
   split at hf
   ·split at hf<;>cases hf
    exact .inr rfl
   ·cases hf;exact .inl rfl
  | inr e1=>rw[hf] at h;exact apR_inl l e1 e h
open Go.RowKit
theorem Wk.pubV {S:AS} {t j n:Nat} {e2:TypeId} {k2:Nat} {ys:List D} {p:Bool} (h1:S.env t=.own j n) (h2:S.heap j=some (.vec e2 k2 ys p)) (hn:ys.length=n) :
  Wk S ⟨upd S.env t (.sl ys),upd S.heap j (some (.vec e2 k2 ys true)),S.next,S.nt⟩:=by
 subst hn
 refine⟨rfl,fun I G C a w hR=>?_⟩
 have hH:=hR.ok.heap
 obtain⟨C',P1,hsl⟩:=pub_vec hH hR.ok.fb h2
 refine⟨C',⟨⟨fun t'=>?_,P1.ok,P1.fb,hR.ok.base⟩,hR.inv,hR.below,fun b o hF=>(P1.new b o hF).elim (hR.new b o) .inr,hR.ext.trans P1.ext,hR.defers,hR.size,fun id hl=>hR.live id (by rw[← P1.live];exact hl)⟩⟩
 by_cases ht:t'=t
 ·subst ht
  have:=hR.ok.env t'
  rw[h1] at this
  simp only[upd,if_true]
  exact(hsl _ this).ext cF_ext
 ·simp only[upd,ht,if_false]
  exact(hR.ok.env t').ext P1.ext
set_option maxHeartbeats 10000000
theorem dd_EP:(∀ x,T_api_Region.d x=.agg [.str x.Name,.int .i64 x.Top,.int .i64 x.Height,.int .i64 x.Left,.int .i64 x.Width,.int .u8 x.Align,.bool x.Bottom])∧(∀ x,T_api_Comment.d x=.agg [.int .i64 x.ID,.int .i64 x.Event,.int .i64 x.From,.int .i64 x.To,.str x.Author,.str x.Text,.bool x.Done,.bool x.Lost])∧(∀ x,T_api_Span.d x=.agg [.int .i64 x.In,.int .i64 x.Out])∧(∀ x,T_api_Style.d x=.agg [.int .u8 x.Color,.bool x.Italic,.bool x.Underline])∧(∀ x,T_api_Run.d x=.agg [.str x.Text,.int .u8 x.Style.Color,.bool x.Style.Italic,.bool x.Style.Underline,.str x.Ruby])∧(∀ x,T_api_Row.d x=.agg [.sl (x.Runs.map T_api_Run.d)])∧(∀ x,T_api_Event.d x=.agg [.int .i64 x.ID,.int .i64 x.Span.In,.int .i64 x.Span.Out,.str x.Region,.int .u8 x.Kind,.str x.Speaker,.sl (x.Rows.map T_api_Row.d)])∧(∀ x,T_api_Bound.d x=.agg [.int .i64 x.I,.int .i64 x.J,.int .i64 x.C,.int .u8 x.Rule,.int .i64 x.ID,.int .i64 x.Other])∧(∀ x,T_api_Document.d x=.agg [.str x.Title,.str x.Lang,.int .u8 x.Rate,.bool x.Drop,.int .i64 x.Last,.sl (x.Regions.map T_api_Region.d),.sl (x.Events.map T_api_Event.d),.sl (x.Comments.map T_api_Comment.d)])∧(∀ x,T_api_Profile.d x=.agg [.str x.Name,.int .i64 x.Reading,.int .i64 x.MinFrames,.int .i64 x.MaxFrames,.int .i64 x.MinGap,.int .i64 x.ShotBefore,.int .i64 x.ShotAfter,.int .i64 x.Rows,.int .i64 x.Cols,.str x.Forbidden,.int .i64 x.SafeTop,.int .i64 x.SafeBottom,.int .i64 x.SafeLeft,.int .i64 x.SafeRight])∧(∀ x,T_api_Shift.d x=.agg [.int .i64 x.ID,.int .i64 x.In,.int .i64 x.Out])∧(∀ x,T_api_Repair.d x=.agg [.str x.Doc.Title,.str x.Doc.Lang,.int .u8 x.Doc.Rate,.bool x.Doc.Drop,.int .i64 x.Doc.Last,.sl (x.Doc.Regions.map T_api_Region.d),.sl (x.Doc.Events.map T_api_Event.d),.sl (x.Doc.Comments.map T_api_Comment.d),.sl (x.Shifts.map T_api_Shift.d),.int .i64 x.Needed,.sl (x.Conflict.map T_api_Bound.d)])∧(∀ x:List Int,dl_List_Int_i64 x=.sl (x.map (D.int .i64))):=⟨fun _=>rfl,fun _=>rfl,fun _=>rfl,fun _=>rfl,fun _=>rfl,fun _=>rfl,fun _=>rfl,fun _=>rfl,fun _=>rfl,fun _=>rfl,fun _=>rfl,fun _=>rfl,fun _=>rfl⟩
def g_ref09_Clone_s1 (rows_0:List T_api_Row) (x7:(List T_api_Row) × Int):Option (Nx ((List T_api_Row) × Int) ((List T_api_Row))) :=
 (if(decide (x7.2 < (rows_0.length:Int))) then((atI rows_0 x7.2).bind fun y78=>(if y78.Runs.length * 40≤140737488355328 then(if(x7.1.length+1) * 24≤140737488355328 then(some (.go ((x7.1++[y78]),(IntKind.i64.wrap (x7.2+1))))) else none) else none)) else(some (.out x7.1)))
def g_ref09_Clone (rows_0:List T_api_Row):Option ((List T_api_Row)) :=
 ((iter (g_ref09_Clone_s1 rows_0) ([],0)).bind fun e8=>(some e8))
theorem a_ref09_Clone {I:World→Prop} (hI:Stab I) {rows_0:List T_api_Row} {r:(List T_api_Row)} (h:g_ref09_Clone rows_0=some r):AFun Tryz.prog I 145 [.sl (rows_0.map T_api_Row.d)] (.sl (r.map T_api_Row.d)):=by
 have dd:=dd_EP;have k:=True.intro;have q:=k;have rs:=Tryz.results145
 unfold g_ref09_Clone at h
 refine .en hI Tryz.func145 Tryz.ntmps145 ?_
 refine xs<|rz ?_
 refine es<|xs<|rz ?_
 refine es<|xs<|xs<|rz ?_
 refine es<|xb ?_
 obtain⟨e8,h86,h⟩:=bs h
 refine rb_loop (fun x7=>⟨envL [(3,.own 0 x7.1.length),(6,.sl (rows_0.map T_api_Row.d)),(7,.int .i64 (rows_0.length:Int)),(8,.int .i64 x7.2)],heapL [(0,.vec 129 1 (x7.1.map T_api_Row.d) false)],1,22⟩) (fun _=>.exit 0) (fun e8=>⟨envL [(3,.own 0 e8.length)],heapL [(0,.vec 129 1 (e8.map T_api_Row.d) false)],1,22⟩) h86 (wk [(0,none)]) (by intro w;simp) ?_ ?_
 ·clear h
  intro x7 y h
  unfold g_ref09_Clone_s1 at h
  refine xs<|rz ?_
  refine es<|xs ?_
  rcases iK k h with⟨k,h⟩|⟨k,h⟩
  ·refine xt<|xk<|es<|xs<|xb<|xs<|rK fun K77 RK77 hK77 gK77=>zz ?_
   obtain⟨y78,q,h⟩:=bK q h
   refine zz ?_
   subst hK77 gK77
   refine es<|rK fun K80 RK80 hK80 gK80=>zz ?_
   obtain⟨h81,h⟩:=ite_on h
   have h82:y78.Runs.length≤9223372036854775807:=by omega
   try simp only[Nat.reduceLeDiff] at h82
   have q:=And.intro @h82<|And.intro @h81<|q
   refine zz ?_
   obtain⟨h83,h⟩:=ite_on h
   have h84:x7.1.length+1≤9223372036854775807:=by omega
   try simp only[Nat.reduceLeDiff] at h84
   have q:=And.intro @h84<|And.intro @h83<|q
   refine zz ?_
   subst hK80 gK80
   refine bn<|es<|rz ?_
   cases h
   exact en ⟨rfl,wk [(0,some 13)]⟩
  ·refine xf<|xx<|ee ?_
   cases h
   exact en ⟨rfl,wk []⟩
 ·refine bh<|es<|xs<|rz ?_
  refine es<|xr ?_
  cases h
  exact en fr
def g_ref11_Clone (e_0:T_api_Event):Option (T_api_Event) :=
 ((g_ref09_Clone e_0.Rows).bind fun r7=>(some (T_api_Event.mk e_0.ID e_0.Span e_0.Region e_0.Kind e_0.Speaker r7)))
theorem a_ref11_Clone {I:World→Prop} (hI:Stab I) {e_0:T_api_Event} {r:T_api_Event} (h:g_ref11_Clone e_0=some r):AFun Tryz.prog I 106 [T_api_Event.d e_0] (T_api_Event.d r):=by
 have dd:=dd_EP;have k:=True.intro;have q:=k;have rs:=Tryz.results106
 unfold g_ref11_Clone at h
 refine .en hI Tryz.func106 Tryz.ntmps106 ?_
 refine xs<|rz ?_
 refine es<|xs<|rK fun K6 RK6 hK6 gK6=>zz ?_
 obtain⟨r7,h8,h⟩:=bs h
 refine cw (a_ref09_Clone hI h8)<|zz ?_
 subst hK6 gK6
 refine es<|xs<|rz ?_
 refine es<|xr ?_
 cases h
 exact en fr
def g_ref12_Clone_nw_s1 (d_0:T_api_Document) (x19:(List T_api_Event) × Int):Option (Nx ((List T_api_Event) × Int) ((List T_api_Event))) :=
 (if(decide (x19.2 < (d_0.Events.length:Int))) then((atI d_0.Events x19.2).bind fun y117=>((g_ref11_Clone y117).bind fun r120=>(if(x19.1.length+1) * 88≤140737488355328 then(some (.go ((x19.1++[r120]),(IntKind.i64.wrap (x19.2+1))))) else none))) else(some (.out x19.1)))
def g_ref12_Clone_nw (d_0:T_api_Document):Option (T_api_Document) :=
 (if d_0.Regions.length * 56≤140737488355328 then(if d_0.Comments.length * 72≤140737488355328 then((iter (g_ref12_Clone_nw_s1 d_0) ([],0)).bind fun e20=>(some (T_api_Document.mk d_0.Title d_0.Lang d_0.Rate d_0.Drop d_0.Last d_0.Regions e20 d_0.Comments))) else none) else none)
theorem a_ref12_Clone_nw {I:World→Prop} (hI:Stab I) {H:Nat→Option Blk} {nid:Nat} {d_0:T_api_Document} {r:T_api_Document} (h:g_ref12_Clone_nw d_0=some r):CallOK Tryz.prog I 50 [T_api_Document.d d_0] H nid (.agg [.str r.Title,.str r.Lang,.int .u8 r.Rate,.bool r.Drop,.int .i64 r.Last,.sl (r.Regions.map T_api_Region.d),.own nid r.Events.length,.sl (r.Comments.map T_api_Comment.d)]) [(nid,some (.vec 64 7 (r.Events.map T_api_Event.d) false))]:=by
 refine CallOK.own hI Tryz.func50 rfl (by decide) (by simp[Tryz.f50]) (by kernel_rfl) rfl rfl ?_
 have dd:=dd_EP;have k:=True.intro;have q:=k;have rs:=Tryz.results50
 unfold g_ref12_Clone_nw at h
 simp only[List.length_cons,List.length_nil,Nat.zero_add,Nat.reduceAdd,Tryz.ntmps50,dd]
 refine xs<|rz ?_
 refine es<|xs<|rK fun K6 RK6 hK6 gK6=>zz ?_
 obtain⟨h7,h⟩:=ite_on h
 have h8:d_0.Regions.length≤9223372036854775807:=by omega
 try simp only[Nat.reduceLeDiff] at h8
 have q:=And.intro @h8<|And.intro @h7<|q
 refine zz ?_
 subst hK6 gK6
 refine es<|xs<|rK fun K12 RK12 hK12 gK12=>zz ?_
 obtain⟨h13,h⟩:=ite_on h
 have h14:d_0.Comments.length≤9223372036854775807:=by omega
 try simp only[Nat.reduceLeDiff] at h14
 have q:=And.intro @h14<|And.intro @h13<|q
 refine zz ?_
 subst hK12 gK12
 refine es<|xs<|rz ?_
 refine es<|xs<|xs<|rz ?_
 refine es<|xb ?_
 obtain⟨e20,h125,h⟩:=bs h
 refine rb_loop (fun x19=>⟨envL [(1,.ptr 0 0),(2,.ptr 3 0),(3,.own 4 x19.1.length),(17,.sl (d_0.Events.map T_api_Event.d)),(18,.int .i64 (d_0.Events.length:Int)),(19,.int .i64 x19.2)],heapL [(0,.box none [.str d_0.Title,.str d_0.Lang,.int .u8 d_0.Rate,.bool d_0.Drop,.int .i64 d_0.Last,.own 1 d_0.Regions.length,.sl (d_0.Events.map T_api_Event.d),.own 2 d_0.Comments.length]),(1,.vec 102 7 (d_0.Regions.map T_api_Region.d) false),(2,.vec 107 8 (d_0.Comments.map T_api_Comment.d) false),(3,.box none [.str [],.str [],.int .u8 0,.bool false,.int .i64 0,.nils,.nils,.nils]),(4,.vec 64 7 (x19.1.map T_api_Event.d) false)],5,32⟩) (fun _=>.exit 0) (fun e20=>⟨envL [(1,.ptr 0 0),(2,.ptr 3 0),(3,.own 4 e20.length)],heapL [(0,.box none [.str d_0.Title,.str d_0.Lang,.int .u8 d_0.Rate,.bool d_0.Drop,.int .i64 d_0.Last,.own 1 d_0.Regions.length,.sl (d_0.Events.map T_api_Event.d),.own 2 d_0.Comments.length]),(1,.vec 102 7 (d_0.Regions.map T_api_Region.d) false),(2,.vec 107 8 (d_0.Comments.map T_api_Comment.d) false),(3,.box none [.str [],.str [],.int .u8 0,.bool false,.int .i64 0,.nils,.nils,.nils]),(4,.vec 64 7 (e20.map T_api_Event.d) false)],5,32⟩) h125 (wk [(1,some 5),(2,some 11),(3,some 1),(4,none)]) (by intro w;simp) ?_ ?_
 ·clear h
  intro x19 y h
  unfold g_ref12_Clone_nw_s1 at h
  refine xs<|rz ?_
  refine es<|xs ?_
  rcases iK k h with⟨k,h⟩|⟨k,h⟩
  ·refine xt<|xk<|es<|xs<|xb<|xs<|rK fun K116 RK116 hK116 gK116=>zz ?_
   obtain⟨y117,q,h⟩:=bK q h
   refine zz ?_
   subst hK116 gK116
   refine es<|rK fun K119 RK119 hK119 gK119=>zz ?_
   obtain⟨r120,h121,h⟩:=bs h
   refine cw (a_ref11_Clone hI h121)<|zz ?_
   obtain⟨h122,h⟩:=ite_on h
   have h123:x19.1.length+1≤9223372036854775807:=by omega
   try simp only[Nat.reduceLeDiff] at h123
   have q:=And.intro @h123<|And.intro @h122<|q
   refine zz ?_
   subst hK119 gK119
   refine bn<|es<|rz ?_
   cases h
   exact en ⟨rfl,wk [(4,some 14)]⟩
  ·refine xf<|xx<|ee ?_
   cases h
   exact en ⟨rfl,wk []⟩
 ·refine bh<|es<|xs<|rz ?_
  refine es<|xs<|rz ?_
  refine es<|xr ?_
  cases h
  exact en (fO 4)
def g_ref12_Sort_nw_s2 (x7:(List T_api_Event) × Int) (y722:T_api_Event) (x771:Int):Option (Nx (Int) (Int)) :=
 (if(decide (0 < x771)) then((atI x7.1 (IntKind.i64.wrap (x771 - 1))).bind fun y809=>((g_ref11_Less y722 y809).bind fun r811=>(if r811 then(some (.go (IntKind.i64.wrap (x771 - 1)))) else(some (.out x771))))) else(some (.out x771)))
def g_ref12_Sort_nw_s1 (l_0:List T_api_Event) (x7:(List T_api_Event) × Int):Option (Nx ((List T_api_Event) × Int) ((List T_api_Event))) :=
 (if(decide (x7.2 < (l_0.length:Int))) then((atI l_0 x7.2).bind fun y722=>((iter (g_ref12_Sort_nw_s2 x7 y722) (x7.1.length:Int)).bind fun e772=>((subH x7.1 e772).bind fun z838=>(if z838.length * 88≤140737488355328 then((g_ref11_Clone y722).bind fun r845=>(if(z838.length+1) * 88≤140737488355328 then((subL x7.1 e772).bind fun z849=>(if((z838.length+1)+z849.length) * 88≤140737488355328 then(some (.go (((z838++[r845])++z849),(IntKind.i64.wrap (x7.2+1))))) else none)) else none)) else none)))) else(some (.out x7.1)))
def g_ref12_Sort_nw (l_0:List T_api_Event):Option ((List T_api_Event)) :=
 ((iter (g_ref12_Sort_nw_s1 l_0) ([],0)).bind fun e8=>(some e8))
theorem a_ref12_Sort_nw {I:World→Prop} (hI:Stab I) {H:Nat→Option Blk} {nid:Nat} {l_0:List T_api_Event} {r:(List T_api_Event)} (h:g_ref12_Sort_nw l_0=some r):CallOK Tryz.prog I 52 [.sl (l_0.map T_api_Event.d)] H nid (.own nid r.length) [(nid,some (.vec 64 7 (r.map T_api_Event.d) false))]:=by
 refine CallOK.own hI Tryz.func52 rfl (by decide) (by simp[Tryz.f52]) (by kernel_rfl) rfl rfl ?_
 have dd:=dd_EP;have k:=True.intro;have q:=k;have rs:=Tryz.results52
 unfold g_ref12_Sort_nw at h
 simp only[List.length_cons,List.length_nil,Nat.zero_add,Nat.reduceAdd,Tryz.ntmps52,dd]
 refine xs<|rz ?_
 refine es<|xs<|rz ?_
 refine es<|xs<|xs<|rz ?_
 refine es<|xb ?_
 obtain⟨e8,h858,h⟩:=bs h
 refine rb_loop (fun x7=>⟨envL [(3,.own 0 x7.1.length),(8,.sl (l_0.map T_api_Event.d)),(9,.int .i64 (l_0.length:Int)),(10,.int .i64 x7.2)],heapL [(0,.vec 64 7 (x7.1.map T_api_Event.d) false)],1,45⟩) (fun _=>.exit 0) (fun e8=>⟨envL [(3,.own 0 e8.length)],heapL [(0,.vec 64 7 (e8.map T_api_Event.d) false)],1,45⟩) h858 (wk [(0,none)]) (by intro w;simp) ?_ ?_
 ·clear h
  intro x7 y h
  unfold g_ref12_Sort_nw_s1 at h
  refine xs<|rz ?_
  refine es<|xs ?_
  rcases iK k h with⟨k,h⟩|⟨k,h⟩
  ·refine xt<|xk<|es<|xs<|xb<|xs<|rK fun K721 RK721 hK721 gK721=>zz ?_
   obtain⟨y722,q,h⟩:=bK q h
   refine zz ?_
   subst hK721 gK721
   refine eWk _ ((Wk.pubV (t:=3) (j:=0) (e2:=64) (k2:=7) (ys:=x7.1.map T_api_Event.d) fz fz fs).trans (wkF (l:=[(3,.sl (x7.1.map T_api_Event.d)),(5,.ptr 4 0),(8,.sl (l_0.map T_api_Event.d)),(9,.int .i64 (l_0.length:Int)),(10,.int .i64 x7.2)]) (h:=[(4,.box none [.int .i64 y722.ID,.int .i64 y722.Span.In,.int .i64 y722.Span.Out,.str y722.Region,.int .u8 y722.Kind,.str y722.Speaker,.sl (y722.Rows.map T_api_Row.d)])]) (n:=6) [(4,some 4)]))<|xs<|rz ?_
   refine es<|xs<|xb ?_
   obtain⟨e772,h815,h⟩:=bs h
   refine rb_loop (fun x771=>⟨envL [(3,.sl (x7.1.map T_api_Event.d)),(5,.ptr 0 0),(6,.int .i64 x771),(8,.sl (l_0.map T_api_Event.d)),(9,.int .i64 (l_0.length:Int)),(10,.int .i64 x7.2)],heapL [(0,.box none [.int .i64 y722.ID,.int .i64 y722.Span.In,.int .i64 y722.Span.Out,.str y722.Region,.int .u8 y722.Kind,.str y722.Speaker,.sl (y722.Rows.map T_api_Row.d)])],1,45⟩) (fun _=>.exit 2) (fun e772=>⟨envL [(3,.sl (x7.1.map T_api_Event.d)),(5,.ptr 0 0),(6,.int .i64 e772),(8,.sl (l_0.map T_api_Event.d)),(9,.int .i64 (l_0.length:Int)),(10,.int .i64 x7.2)],heapL [(0,.box none [.int .i64 y722.ID,.int .i64 y722.Span.In,.int .i64 y722.Span.Out,.str y722.Region,.int .u8 y722.Kind,.str y722.Speaker,.sl (y722.Rows.map T_api_Row.d)])],1,45⟩) h815 (wk [(0,some 4)]) (by intro w;simp) ?_ ?_
   ·clear h
    intro x771 y h
    unfold g_ref12_Sort_nw_s2 at h
    refine xs<|xs<|rD hI fun K807 RK807 hK807 gK807=>zz ?_
    rcases iK k h with⟨k,h⟩|⟨k,h⟩
    ·refine zz ?_
     obtain⟨y809,q,h⟩:=bK q h
     refine zz ?_
     obtain⟨r811,h812,h⟩:=bs h
     refine cd (a_ref11_Less hI h812)<|zz ?_
     subst hK807 gK807
     refine es ?_
     rcases iK k h with⟨k,h⟩|⟨k,h⟩
     ·refine xt<|xk<|es<|xb<|rz ?_
      refine bn ?_
      cases h
      exact en ⟨rfl,wk []⟩
     ·refine xf<|xx<|ee ?_
      cases h
      exact en ⟨rfl,wk []⟩
    ·refine zz ?_
     subst hK807 gK807
     refine es<|xf<|xx<|ee ?_
     cases h
     exact en ⟨rfl,wk []⟩
   ·refine bh<|es<|xs<|rz ?_
    refine es<|xs<|rP hI fun K837 hK837=>rgP_cons<|zq ?_
    refine sP.light rfl fd<|rgP_cons<|zq ?_
    refine sP.light rfl fd<|rgP_cons<|zq ?_
    refine sP.light rfl fd<|rgP_cons<|zq ?_
    obtain⟨z838,h839,h⟩:=bind_some h
    obtain⟨⟨h840,h841⟩,h842⟩:=subH_some h839
    have q:=And.intro @h840<|And.intro @h841<|q
    try simp -implicitDefEqProofs only[vt,vm,sevalprocAttr,dd,k,q] at h842
    have q:=And.intro @h842<|q
    refine zq ?_
    refine sP.foot (.ids []) (fun hN=>FootOK.idsB [] (by rfl) rfl hN) fd (by first|exact .inl (by first|rfl|decide)|exact .inr (by kernel_rfl))<|rgP_cons<|zq ?_
    obtain⟨h843,h⟩:=ite_on h
    have h844:z838.length≤9223372036854775807:=by omega
    try simp only[Nat.reduceLeDiff] at h844
    have q:=And.intro @h844<|And.intro @h843<|q
    refine zq ?_
    refine sP.foot (.ids []) (fun hN=>FootOK.idsB [] (by rfl) rfl hN) fd (by first|exact .inl (by first|rfl|decide)|exact .inr (by kernel_rfl))<|rgP_cons<|zq ?_
    refine sP.foot (.cell 0 0 7) (fun _=>FootOK.ld rfl rfl rfl (by kernel_rfl) (by decide)) fd (by first|exact .inl (by first|rfl|decide)|exact .inr (by kernel_rfl))<|rgP_cons<|zq ?_
    obtain⟨r845,h846,h⟩:=bs h
    refine cP.intro (a_ref11_Clone hI h846) fi (.ids []) (fun hN=>FootOK.idsB [] (by rfl) rfl hN) fd (by first|exact .inl (by first|rfl|decide)|exact .inr (by kernel_rfl))<|rgP_cons<|zq ?_
    refine sP.foot (.ids []) (fun hN=>FootOK.idsB [] (by rfl) rfl hN) fd (by first|exact .inl (by first|rfl|decide)|exact .inr (by kernel_rfl))<|rgP_cons<|zq ?_
    obtain⟨h847,h⟩:=ite_on h
    have h848:z838.length+1≤9223372036854775807:=by omega
    try simp only[Nat.reduceLeDiff] at h848
    have q:=And.intro @h848<|And.intro @h847<|q
    refine zq ?_
    refine sP.foot (.ids [6,9]) (fun hN=>FootOK.idsB [6,9] (by rfl) rfl hN) fd (by first|exact .inl (by first|rfl|decide)|exact .inr (by kernel_rfl))<|rgP_cons<|zq ?_
    refine sP.light rfl fd<|rgP_cons<|zq ?_
    refine sP.light rfl fd<|rgP_cons<|zq ?_
    obtain⟨z849,h850,h⟩:=bind_some h
    obtain⟨⟨h851,h852⟩,h853⟩:=subL_some h850
    have q:=And.intro @h851<|And.intro @h852<|q
    try simp -implicitDefEqProofs only[vt,vm,sevalprocAttr,dd,k,q] at h853
    have q:=And.intro @h853<|q
    refine zq ?_
    refine sP.foot (.ids []) (fun hN=>FootOK.idsB [] (by rfl) rfl hN) fd (by first|exact .inl (by first|rfl|decide)|exact .inr (by kernel_rfl))<|rgP_cons<|zq ?_
    obtain⟨h854,h⟩:=ite_on h
    have h855:(z838.length+1)+z849.length≤9223372036854775807:=by omega
    try simp only[Nat.reduceLeDiff] at h855
    have q:=And.intro @h855<|And.intro @h854<|q
    refine zq ?_
    refine sP.foot (.ids [10]) (fun hN=>FootOK.idsB [10] (by rfl) rfl hN) fd (by first|exact .inl (by first|rfl|decide)|exact .inr (by kernel_rfl))<|rgP_cons<|zq ?_
    refine sP.light rfl fd<|zq ?_
    refine rgP_nil fk ?_
    subst hK837
    refine es<|rz ?_
    refine bn<|es<|rz ?_
    cases h
    exact en ⟨rfl,wk [(0,some 14)]⟩
  ·refine xf<|xx<|ee ?_
   cases h
   exact en ⟨rfl,wk []⟩
 ·refine bh<|es<|xs<|rz ?_
  refine es<|xr ?_
  cases h
  exact en (fO 0)
def g_ref43_Apply_s1 (l_1:List T_api_Shift) (r18:T_api_Document) (x22:Int × (List T_api_Event)):Option (Nx (Int × (List T_api_Event)) (Int ⊕ ((List T_api_Event)))) :=
 (if(decide (x22.1 < (l_1.length:Int))) then((atI l_1 x22.1).bind fun y277=>((g_ref12_Find_ro (T_api_Document.mk r18.Title r18.Lang r18.Rate r18.Drop r18.Last r18.Regions x22.2 r18.Comments) y277.ID).bind fun r283=>(if(decide (r283 < 0)) then(some (.out (.inl 6))) else(((if(decide (y277.In < 0)) then(some true) else(if(decide (y277.Out≤y277.In)) then(some true) else(some (decide (5184000 < y277.Out))))):Option (Bool)).bind fun v293=>(if v293 then(some (.out (.inl 2))) else((atI x22.2 r283).bind fun y310=>((setI x22.2 r283 (T_api_Event.mk y310.ID (T_api_Span.mk y277.In y277.Out) y310.Region y310.Kind y310.Speaker y310.Rows)).bind fun m311=>((g_ref12_Sort_nw m311).bind fun r318=>(some (.go ((IntKind.i64.wrap (x22.1+1)),r318))))))))))) else(some (.out (.inr x22.2))))
def g_ref43_Apply (d_0:T_api_Document) (l_1:List T_api_Shift):Option (T_api_Document × Int) :=
 ((g_ref12_Check d_0).bind fun r7=>(if(r7 != 0) then(some ((T_api_Document.mk [] [] 0 false 0 [] [] []),r7)) else((g_ref12_Clone_nw d_0).bind fun r18=>((iter (g_ref43_Apply_s1 l_1 r18) (0,r18.Events)).bind fun e23=>(match e23 with|Sum.inl e23=>(some ((T_api_Document.mk [] [] 0 false 0 [] [] []),e23))|Sum.inr (e23)=>(some ((T_api_Document.mk r18.Title r18.Lang r18.Rate r18.Drop r18.Last r18.Regions e23 r18.Comments),0)))))))
theorem a_ref43_Apply {I:World→Prop} (hI:Stab I) {d_0:T_api_Document} {l_1:List T_api_Shift} {r:T_api_Document × Int} (h:g_ref43_Apply d_0 l_1=some r):AFun Tryz.prog I 21 [T_api_Document.d d_0,.sl (l_1.map T_api_Shift.d)] (.tup [T_api_Document.d r.1,.int .i64 r.2]):=by
 have dd:=dd_EP;have k:=True.intro;have q:=k;have rs:=Tryz.results21
 unfold g_ref43_Apply at h
 refine .en hI Tryz.func21 Tryz.ntmps21 ?_
 refine xs<|rz ?_
 refine es<|xs<|xs<|rK fun K6 RK6 hK6 gK6=>zz ?_
 obtain⟨r7,h8,h⟩:=bs h
 refine cw (a_ref12_Check hI h8)<|zz ?_
 subst hK6 gK6
 refine es<|xs<|rz ?_
 refine es ?_
 rcases iK k h with⟨k,h⟩|⟨k,h⟩
 ·refine xt<|xs<|rz ?_
  refine es<|xr<|er ?_
  cases h
  exact en fr
 ·refine xf<|xk<|es<|xs<|rK fun K17 RK17 hK17 gK17=>zz ?_
  obtain⟨r18,h19,h⟩:=bs h
  refine cW.introE (a_ref12_Clone_nw hI (nid:=9) h19) fz rfl<|zz ?_
  subst hK17 gK17
  refine es<|xs<|xs<|rz ?_
  refine es<|xb ?_
  obtain⟨e23,h321,h⟩:=bs h
  refine rb_loop (fun x22=>⟨envL [(4,.ptr 0 0),(7,.ptr 1 0),(19,.sl (l_1.map T_api_Shift.d)),(20,.int .i64 (l_1.length:Int)),(21,.int .i64 x22.1)],heapL [(0,.box none [.str [],.str [],.int .u8 0,.bool false,.int .i64 0,.nils,.nils,.nils]),(1,.box none [.str r18.Title,.str r18.Lang,.int .u8 r18.Rate,.bool r18.Drop,.int .i64 r18.Last,.sl (r18.Regions.map T_api_Region.d),.own 2 x22.2.length,.sl (r18.Comments.map T_api_Comment.d)]),(2,.vec 64 7 (x22.2.map T_api_Event.d) false)],3,64⟩) (fun w=>match w with|Sum.inl _=>.ret|Sum.inr (_)=>.exit 0) (fun w=>match w with|Sum.inl e23=>⟨envL [(4,.ptr 0 0),(5,.int .i64 e23)],heapL [(0,.box none [.str [],.str [],.int .u8 0,.bool false,.int .i64 0,.nils,.nils,.nils])],1,64⟩|Sum.inr (e23)=>⟨envL [(4,.ptr 0 0),(7,.ptr 1 0)],heapL [(0,.box none [.str [],.str [],.int .u8 0,.bool false,.int .i64 0,.nils,.nils,.nils]),(1,.box none [.str r18.Title,.str r18.Lang,.int .u8 r18.Rate,.bool r18.Drop,.int .i64 r18.Last,.sl (r18.Regions.map T_api_Region.d),.own 2 e23.length,.sl (r18.Comments.map T_api_Comment.d)]),(2,.vec 64 7 (e23.map T_api_Event.d) false)],3,64⟩) h321 (wk [(0,some 1),(1,some 10),(2,some 9)]) (by intro w;rcases w with w|w<;>simp) ?_ ?_
  ·clear h
   intro x22 y h
   unfold g_ref43_Apply_s1 at h
   refine xs<|rz ?_
   refine es<|xs ?_
   rcases iK k h with⟨k,h⟩|⟨k,h⟩
   ·refine xt<|xk<|es<|xs<|xb<|xs<|rK fun K276 RK276 hK276 gK276=>zz ?_
    obtain⟨y277,q,h⟩:=bK q h
    refine zz ?_
    subst hK276 gK276
    refine es<|xs<|rK fun K282 RK282 hK282 gK282=>zz ?_
    obtain⟨r283,h284,h⟩:=bs h
    refine cW.introR (a_ref12_Find_ro hI (nid:=11) (i0:=2) h284 fz) fs rfl<|zz ?_
    subst hK282 gK282
    refine es<|xs<|xs<|rz ?_
    refine es ?_
    rcases iK k h with⟨k,h⟩|⟨k,h⟩
    ·refine xt<|xs<|rz ?_
     refine es<|xr<|er<|br<|er ?_
     cases h
     exact en ⟨rfl,wk []⟩
    ·refine xf<|xk<|es<|xs ?_
     obtain⟨v293,h297,h⟩:=bs h
     refine rb_cut (fun v293=>⟨envL [(4,.ptr 0 0),(7,.ptr 1 0),(9,.ptr 3 0),(10,.int .i64 r283),(19,.sl (l_1.map T_api_Shift.d)),(20,.int .i64 (l_1.length:Int)),(21,.int .i64 x22.1),(46,.bool v293)],heapL [(0,.box none [.str [],.str [],.int .u8 0,.bool false,.int .i64 0,.nils,.nils,.nils]),(1,.box none [.str r18.Title,.str r18.Lang,.int .u8 r18.Rate,.bool r18.Drop,.int .i64 r18.Last,.sl (r18.Regions.map T_api_Region.d),.own 2 x22.2.length,.sl (r18.Comments.map T_api_Comment.d)]),(2,.vec 64 7 (x22.2.map T_api_Event.d) false),(3,.box none [.int .i64 y277.ID,.int .i64 y277.In,.int .i64 y277.Out])],4,64⟩) h297 ?_ ?_
     ·clear h
      intro v293 h
      refine rK fun K294 RK294 hK294 gK294=>zz ?_
      rcases iK k h with⟨k,h⟩|⟨k,h⟩
      ·refine zz ?_
       subst hK294 gK294
       cases h
       exact en ⟨rfl,wk [(3,some 6)]⟩
      ·refine zz ?_
       rcases iK k h with⟨k,h⟩|⟨k,h⟩
       ·refine zz ?_
        subst hK294 gK294
        cases h
        exact en ⟨rfl,wk [(3,some 6)]⟩
       ·refine zz ?_
        subst hK294 gK294
        cases h
        exact en ⟨rfl,wk [(3,some 6)]⟩
     ·rcases iK k h with⟨k,h⟩|⟨k,h⟩
      ·refine xt<|xs<|rz ?_
       refine es<|xr<|er<|br<|er ?_
       cases h
       exact en ⟨rfl,wk []⟩
      ·refine xf<|xk<|es<|xs<|rK fun K309 RK309 hK309 gK309=>zz ?_
       obtain⟨y310,q,h⟩:=oN q h
       refine zz ?_
       obtain⟨m311,h312,h⟩:=bind_some h
       obtain⟨h313,h314,h315,h316⟩:=setI_some h312
       have h316:=h316 T_api_Event.d
       try simp only[sevalprocAttr,List.map_nil,dd] at h316
       have q:=And.intro @h313<|And.intro @h314<|And.intro @h315<|And.intro @h316<|q
       refine zz ?_
       subst hK309 gK309
       refine es<|rK fun K317 RK317 hK317 gK317=>zz ?_
       obtain⟨r318,h319,h⟩:=bs h
       refine cW.introE (a_ref12_Sort_nw hI (nid:=17) h319) fz rfl<|zz ?_
       subst hK317 gK317
       refine bn<|es<|rz ?_
       cases h
       exact en ⟨rfl,wk [(2,some 17)]⟩
   ·refine xf<|xx<|ee ?_
    cases h
    exact en ⟨rfl,wk []⟩
  ·rcases e23 with e23|e23
   ·try dsimp only at h ⊢
    refine br<|er ?_
    cases h
    exact en fr
   ·try dsimp only at h ⊢
    refine bh<|es<|xs<|rz ?_
    refine es<|xr ?_
    cases h
    exact en fr
theorem runF_id {α:Type}:∀ (t s:List α),runF (fun(s:List α) e=>(.inr (s++[e]):List α ⊕ List α)) id s t=s++t
 | [],s=>by simp[runF]
 | a::t,s=>by simp only[runF];rw[runF_id t];simp
theorem ref09Clone (rows:List T_api_Row) (h:rows.length≤1048576) (hr:∀ r ∈ rows,r.Runs.length≤1048576):g_ref09_Clone rows=some rows:=by
 have:=iter_run (step:=g_ref09_Clone_s1 rows) rows (by omega) (fun i (s:List T_api_Row)=>(s,i)) (fun s y=>.inr (s++[y])) id (fun i s=>s.length=i) (s0:=[]) rfl
  (fun i hi s hs=>.inr ⟨_,rfl,by
   have hz:=hr _ (List.getElem_mem hi)
   unfold g_ref09_Clone_s1
   dsimp only
   rw[if_pos (by simpa using hi),atI_nat hi,wr64 (x:=(i:Int)+1) (by omega)]
   simp only[Option.bind_some]
   rw[if_pos (by omega),if_pos (by omega)],by simp[hs]⟩)
  (fun s hs=>by unfold g_ref09_Clone_s1;dsimp only;rw[if_neg (by simp)];rfl)
 rw[runF_id,List.nil_append] at this
 unfold g_ref09_Clone
 rw[this]
 rfl
theorem ref11Clone (e:T_api_Event) (h:EvZ e):g_ref11_Clone e=some e:=by
 unfold g_ref11_Clone
 rw[ref09Clone _ h.1 fun r hr=>(h.2 r hr).2]
 rfl
theorem ref12Clone (d:T_api_Document) (hd:DocZ d):g_ref12_Clone_nw d=some d:=by
 have hn:=hd.evs
 have hg:=hd.regs
 have hc:=hd.coms
 have:=iter_run (step:=g_ref12_Clone_nw_s1 d) d.Events (by omega) (fun i (s:List T_api_Event)=>(s,i)) (fun s y=>.inr (s++[y])) id (fun i s=>s.length=i) (s0:=[]) rfl
  (fun i hi s hs=>.inr ⟨_,rfl,by
   unfold g_ref12_Clone_nw_s1
   dsimp only
   rw[if_pos (by simpa using hi),atI_nat hi,wr64 (x:=(i:Int)+1) (by omega)]
   simp only[Option.bind_some]
   rw[ref11Clone _ (hd.ev _ (List.getElem_mem hi))]
   simp only[Option.bind_some]
   rw[if_pos (by omega)],by simp[hs]⟩)
  (fun s hs=>by unfold g_ref12_Clone_nw_s1;dsimp only;rw[if_neg (by simp)];rfl)
 rw[runF_id,List.nil_append] at this
 unfold g_ref12_Clone_nw
 rw[if_pos (by omega),if_pos (by omega),this]
 rfl
def Srt (l:List T_api_Event):Prop:=l.Pairwise fun a b=>ltE b a=false
theorem Srt.of {l:List T_api_Event} (h:SrtTo l.length l):Srt l:=by
 refine List.pairwise_iff_getElem.2 fun i j hi hj hij=>?_
 exact h i j _ _ hij hj (List.getElem?_eq_getElem hi) (List.getElem?_eq_getElem hj)
theorem Srt.at {l:List T_api_Event} (h:Srt l) {i j:Nat} (hij:i < j) (hj:j < l.length):ltE l[j] (l[i]'(by omega))=false :=
 List.pairwise_iff_getElem.1 h i j (by omega) hj hij
theorem Srt.chain {l:List T_api_Event} (h:∀ i (h:i+1 < l.length),ltE l[i] l[i+1]=true):Srt l:=by
 have key:∀ (k i:Nat) (h1:i+(k+1) < l.length),ltE l[i+(k+1)] (l[i]'(by omega))=false:=by
  intro k
  induction k with
  | zero=>intro i h1;exact ltE_asym (h i h1)
  | succ k ih =>
   intro i h1
   have:=ltE_trans (ih i (by omega)) (ltE_asym (h (i+(k+1)) (by omega)))
   exact this
 refine List.pairwise_iff_getElem.2 fun i j hi hj hij=>?_
 have:=key (j - i - 1) i (by omega)
 simp only[show i+(j - i - 1+1)=j by omega] at this
 exact this
theorem srt_uniq {a b:List T_api_Event} (hd:(a.map (·.ID)).Nodup) (ha:Srt a) (hb:Srt b) (hp:a.Perm b):a=b:=by
 refine List.Perm.eq_of_pairwise (le:=fun a b=>ltE b a=false) (fun x y hx hy h1 h2=>?_) ha hb hp
 have hy':=hp.symm.subset hy
 obtain⟨i,hi,rfl⟩:=List.getElem_of_mem hx
 obtain⟨j,hj,rfl⟩:=List.getElem_of_mem hy'
 have:a[i].ID=a[j].ID:=by
  unfold ltE at h1 h2
  simp only[Bool.or_eq_false_iff,decide_eq_false_iff_not,Bool.and_eq_false_imp,decide_eq_true_eq] at h1 h2
  omega
 have:=nodup_at hd hi hj this
 subst this
 rfl
theorem subH_at {α:Type} {s:List α} {i:Nat} (h:i≤s.length):subH s (i:Int)=some (s.take i):=by
 unfold subH
 rw[if_pos (by omega)]
 simp
theorem subL_at {α:Type} {s:List α} {i:Nat} (h:i≤s.length):subL s (i:Int)=some (s.drop i):=by
 unfold subL
 rw[if_pos (by omega),Int.toNat_natCast,List.take_of_length_le (by simp)]
theorem ins_at (out:List T_api_Event) (hl:out.length≤1000) (q:Int) (y:T_api_Event):∃ k:Nat,iter (g_ref12_Sort_nw_s2 (out,q) y) (out.length:Int)=some (k:Int)∧k≤out.length∧(∀ j (h:j < out.length),k≤j→ltE y out[j]=true)∧(∀ h:0 < k∧k≤out.length,ltE y (out[k - 1]'(by omega))=false):=by
 obtain⟨e,he,k,rfl,h1,h2,h3⟩:=iter_post (step:=g_ref12_Sort_nw_s2 (out,q) y) (fun x=>0≤x∧x≤(out.length:Int)∧∀ j (h:j < out.length),x≤(j:Int)→ltE y out[j]=true) (fun x=>x.toNat) (fun e=>∃ k:Nat,e=(k:Int)∧k≤out.length∧(∀ j (h:j < out.length),k≤j→ltE y out[j]=true)∧(∀ h:0 < k∧k≤out.length,ltE y (out[k - 1]'(by omega))=false)) (x:=(out.length:Int)) ⟨by omega,by omega,fun j h h'=>by omega⟩ (by omega) (by
  rintro x ⟨q1,q2,q3⟩
  obtain⟨i,rfl⟩:=Int.eq_ofNat_of_zero_le q1
  unfold g_ref12_Sort_nw_s2
  dsimp only
  by_cases h:0 < i
  ·rw[if_pos (by simpa using h),wr64 (by omega),show((i:Int) - 1)=((i - 1:Nat):Int) by omega,atI_nat (show i - 1 < out.length by omega)]
   simp only[Option.bind_some,less_ref]
   cases hc:ltE y (out[i - 1]'(by omega)) with
   | true =>
    left
    rw[if_pos rfl]
    refine⟨_,rfl,⟨by omega,by omega,fun j hj hij=>?_⟩,by omega⟩
    by_cases hji:j=i - 1
    ·subst hji;exact hc
    ·exact q3 j hj (by omega)
   | false =>
    right
    rw[if_neg (by simp)]
    exact⟨_,rfl,i,rfl,by omega,fun j hj hij=>q3 j hj (by omega),fun _=>hc⟩
  ·right
   rw[if_neg (by simpa using h)]
   exact⟨_,rfl,i,rfl,by omega,fun j hj hij=>q3 j hj (by omega),fun h'=>absurd h'.1 h⟩)
 exact⟨k,he,h1,h2,h3⟩
theorem rsort_eq (l:List T_api_Event) (hl:l.length≤1000) (hz:∀ e ∈ l,EvZ e):∃ r,g_ref12_Sort_nw l=some r∧r.Perm l∧Srt r:=by
 obtain⟨e,he,h1,h2⟩:=iter_post (step:=g_ref12_Sort_nw_s1 l) (fun x=>∃ i:Nat,x.2=(i:Int)∧i≤l.length∧x.1.Perm (l.take i)∧Srt x.1) (fun x=>l.length - x.2.toNat) (fun e=>e.Perm l∧Srt e) (x:=([],0)) ⟨0,rfl,by omega,by simp,List.Pairwise.nil⟩ (by dsimp only;omega) (by
  rintro⟨out,x⟩ ⟨i,h1,hi,h2,h3⟩
  dsimp only at h1 h2 h3
  subst h1
  have hol:out.length=i:=by rw[h2.length_eq,List.length_take];omega
  unfold g_ref12_Sort_nw_s1
  dsimp only
  by_cases h:i < l.length
  ·left
   rw[if_pos (by simpa using h),atI_nat h,wr64 (x:=(i:Int)+1) (by omega)]
   simp only[Option.bind_some]
   obtain⟨k,hk,k1,k2,k3⟩:=ins_at out (by omega) (i:Int) l[i]
   rw[hk]
   simp only[Option.bind_some]
   rw[subH_at k1,subL_at k1,ref11Clone _ (hz _ (List.getElem_mem h))]
   simp only[Option.bind_some]
   have c1:(out.take k).length * 88≤140737488355328:=by rw[List.length_take];omega
   have c2:((out.take k).length+1) * 88≤140737488355328:=by rw[List.length_take];omega
   have c3:(((out.take k).length+1)+(out.drop k).length) * 88≤140737488355328:=by rw[List.length_take,List.length_drop];omega
   rw[if_pos c1,if_pos c2,if_pos c3]
   refine⟨_,rfl,⟨i+1,by simp,by omega,?_,?_⟩,by dsimp only;omega⟩
   ·dsimp only
    rw[List.take_succ_eq_append_getElem h,List.append_assoc,List.singleton_append]
    refine(List.perm_middle).trans ?_
    rw[List.take_append_drop]
    exact(List.Perm.cons _ h2).trans (List.perm_append_singleton _ _).symm
   ·dsimp only
    unfold Srt
    rw[List.append_assoc,List.singleton_append,List.pairwise_append]
    refine⟨h3.sublist (List.take_sublist ..),?_,fun a ha b hb=>?_⟩
    ·rw[List.pairwise_cons]
     refine⟨fun b hb=>?_,h3.sublist (List.drop_sublist ..)⟩
     obtain⟨j,hj,rfl⟩:=List.getElem_of_mem hb
     rw[List.getElem_drop]
     rw[List.length_drop] at hj
     exact ltE_asym (k2 (k+j) (by omega) (by omega))
    ·obtain⟨j,hj,rfl⟩:=List.getElem_of_mem ha
     rw[List.length_take] at hj
     rw[List.getElem_take]
     have hlast:ltE l[i] (out[j]'(by omega))=false:=by
      have h0:=k3 ⟨by omega,k1⟩
      by_cases hjk:j=k - 1
      ·subst hjk;exact h0
      ·exact ltE_trans (Srt.at h3 (i:=j) (j:=k - 1) (by omega) (by omega)) h0
     rcases List.mem_cons.1 hb with rfl|hb
     ·exact hlast
     ·obtain⟨m,hm,rfl⟩:=List.getElem_of_mem hb
      rw[List.length_drop] at hm
      rw[List.getElem_drop]
      exact Srt.at h3 (i:=j) (j:=k+m) (by omega) (by omega)
  ·right
   obtain rfl:i=l.length:=by omega
   rw[if_neg (by simp)]
   rw[List.take_length] at h2
   exact⟨_,rfl,h2,h3⟩)
 unfold g_ref12_Sort_nw
 rw[he]
 exact⟨e,rfl,h1,h2⟩
theorem ixE_spec:∀ (l:List T_api_Event) (id:Int) (k:Nat),((l.map (·.ID)).contains id=false∧ixE l id k=-1)∨((l.map (·.ID)).contains id=true∧∃ i,∃ h:i < l.length,ixE l id k=((k+i:Nat):Int)∧l[i].ID=id)
 | [],id,k=>.inl ⟨rfl,rfl⟩
 | e::t,id,k=>by
  simp only[List.map_cons,List.contains_cons]
  unfold ixE
  by_cases q:e.ID=id
  ·right
   rw[if_pos q]
   exact⟨by simp[q],0,by simp,rfl,q⟩
  ·rw[if_neg q]
   have hq:(id == e.ID)=false:=by simp;exact fun x=>q x.symm
   rw[hq,Bool.false_or]
   rcases ixE_spec t id (k+1) with⟨h1,h2⟩|⟨h1,i,hi,h2,h3⟩
   ·exact .inl ⟨h1,h2⟩
   ·exact .inr ⟨h1,i+1,by simpa using hi,by rw[h2];congr 1;omega,by simpa using h3⟩
theorem rapply_loop (d:T_api_Document) (hd:DocZ d) (hD:DocOK d) (hn:d.Events.length≤19) (l:List T_api_Shift) (hl:l.length≤1000):∃ e,iter (g_ref43_Apply_s1 l d) (0,d.Events)=some e∧((∃ v,e=.inl v∧apR d.Events l=.inl v)∨∃ r ev,e=.inr r∧apR d.Events l=.inr ev∧r.Perm ev∧Srt r):=by
 refine iter_post (step:=g_ref43_Apply_s1 l d) (fun x=>∃ (i:Nat) (ev:List T_api_Event),x.1=(i:Int)∧i≤l.length∧x.2.Perm ev∧Srt x.2∧ApI d.Events.length (d.Events.map (·.ID)) ev∧runF apF .inr ev (l.drop i)=apR d.Events l) (fun x=>l.length - x.1.toNat) _ (x:=(0,d.Events)) ⟨0,d.Events,rfl,by omega,List.Perm.refl _,Srt.chain hD.ord,⟨rfl,rfl,hd.ev⟩,by rw[List.drop_zero];rfl⟩ (by dsimp only;omega) ?_
 rintro⟨x,er⟩ ⟨i,ev,h1,hi,hp,hs,hI,hr⟩
 dsimp only at h1 hp hs
 subst h1
 have hel:er.length=d.Events.length:=by rw[hp.length_eq,hI.len]
 have hez:∀ e ∈ er,EvZ e:=fun e he=>hI.z e (hp.subset he)
 have hids:(er.map (·.ID)).Perm (d.Events.map (·.ID)):=by rw[← hI.ids];exact hp.map _
 have hnd:(er.map (·.ID)).Nodup:=hids.nodup_iff.2 hD.ids
 unfold g_ref43_Apply_s1
 dsimp only
 by_cases h:i < l.length
 ·rw[if_pos (by simpa using h),atI_nat h,wr64 (x:=(i:Int)+1) (by omega)]
  simp only[Option.bind_some]
  rw[List.drop_eq_getElem_cons h] at hr
  simp only[runF] at hr
  generalize l[i]=s at hr
  rw[show g_ref12_Find_ro (T_api_Document.mk d.Title d.Lang d.Rate d.Drop d.Last d.Regions er d.Comments) s.ID=g_ref12_Find (T_api_Document.mk d.Title d.Lang d.Rate d.Drop d.Last d.Regions er d.Comments) s.ID from rfl,ref_find _ (by show er.length≤_;omega)]
  simp only[Option.bind_some,bad_eq]
  have hcc:(ev.map (·.ID)).contains s.ID=(er.map (·.ID)).contains s.ID:=by
   rw[Bool.eq_iff_iff,List.contains_iff_mem,List.contains_iff_mem]
   exact(hp.map (·.ID)).mem_iff.symm
  unfold apF at hr
  rw[hcc] at hr
  rcases ixE_spec er s.ID 0 with⟨c1,c2⟩|⟨c1,k,hk,c2,c3⟩
  ·right
   rw[c1] at hr
   simp only[c2,show decide ((-1:Int) < 0)=true from rfl,if_true,Bool.false_eq_true,if_false] at hr ⊢
   exact⟨_,rfl,.inl ⟨6,rfl,hr.symm⟩⟩
  ·rw[c1] at hr
   simp only[c2,Nat.zero_add,show decide ((k:Int) < 0)=false from decide_eq_false (by omega),Bool.false_eq_true,if_false,if_true] at hr ⊢
   cases hb:badS s with
   | true =>
    right
    rw[hb] at hr
    simp only[if_true] at hr ⊢
    exact⟨_,rfl,.inl ⟨2,rfl,hr.symm⟩⟩
   | false =>
    left
    rw[hb] at hr
    simp only[Bool.false_eq_true,if_false] at hr ⊢
    rw[atI_nat hk]
    simp only[Option.bind_some]
    rw[setI_nat _ hk]
    simp only[Option.bind_some]
    rw[set_map hnd hk s c3]
    obtain⟨r,g1,g2,g3⟩:=rsort_eq (er.map (upE s)) (by simp;omega) (fun e he=>by
     obtain⟨e0,he0,rfl⟩:=List.mem_map.1 he
     exact upE_z (hez _ he0))
    rw[g1]
    simp only[Option.bind_some]
    refine⟨_,rfl,⟨i+1,ev.map (upE s),by simp,by omega,g2.trans (hp.map _),g3,⟨by simp[hI.len],by rw[upE_ids,hI.ids],fun e he=>?_⟩,hr⟩,by dsimp only;omega⟩
    obtain⟨e0,he0,rfl⟩:=List.mem_map.1 he
    exact upE_z (hI.z _ he0)
 ·right
  obtain rfl:i=l.length:=by omega
  rw[if_neg (by simp)]
  rw[List.drop_length] at hr
  exact⟨_,rfl,.inr ⟨er,ev,rfl,hr.symm,hp,hs⟩⟩
theorem rapply_eq (d:T_api_Document) (hd:DocZ d) (hn:d.Events.length≤19) (l:List T_api_Shift) (hl:l.length≤1000):g_ref43_Apply d l=g_repair_Apply d l:=by
 obtain⟨c,hc,hD⟩:=docCheck d hd
 by_cases h0:c=0
 ·subst h0
  have hD:=hD rfl
  have hr:g_ref43_Apply d l=((iter (g_ref43_Apply_s1 l d) (0,d.Events)).bind fun e=>(match e with|Sum.inl e=>(some (docN,e))|Sum.inr e=>(some (withE d e,0)))):=by
   unfold g_ref43_Apply
   rw[doc_same d hd,hc]
   simp only[Option.bind_some,bne_self_eq_false,Bool.false_eq_true,if_false]
   rw[ref12Clone d hd]
   simp only[Option.bind_some]
   cases iter (g_ref43_Apply_s1 l d) (0,d.Events) with
   | none=>rfl
   | some e=>cases e<;>rfl
  rw[hr]
  obtain⟨e,he,h⟩:=rapply_loop d hd hD hn l hl
  rw[he]
  simp only[Option.bind_some]
  rcases apply_eq d hd hc hD hn l hl with⟨v,a1,a2⟩|⟨ev,r,a1,a2,a3,a4⟩
  ·rcases h with⟨v',rfl,b1⟩|⟨r',ev',rfl,b1,_⟩
   ·rw[a1] at b1;cases b1;rw[a2]
   ·rw[a1] at b1;cases b1
  ·rcases h with⟨v',rfl,b1⟩|⟨r',ev',rfl,b1,b2,b3⟩
   ·rw[a1] at b1;cases b1
   ·rw[a1] at b1
    cases b1
    rw[a2]
    have hids:=(apR_inr l d.Events ev a1).2.1
    have hrs:Srt r:=Srt.of (by rw[a3.length_eq];exact a4)
    have hnd:(r'.map (·.ID)).Nodup:=(b2.map (·.ID)).nodup_iff.2 (by rw[hids];exact hD.ids)
    rw[srt_uniq hnd b3 hrs (b2.trans a3.symm)]
 ·unfold g_ref43_Apply g_repair_Apply
  rw[doc_same d hd,hc]
  simp only[Option.bind_some]
  rw[if_pos (by rw[bne_iff_ne];exact h0),if_pos (by rw[bne_iff_ne];exact h0)]
theorem self_loop {step:Int→Option (Nx Int (Unit ⊕ Unit))} (n:Nat) (hn:n≤1048576) (hgo:∀ i:Nat,i < n→step (i:Int)=some (.go ((i:Int)+1))) (hend:step (n:Int)=some (.out (.inr ()))):iter step 0=some (.inr ()):=by
 obtain⟨e,he,rfl⟩:=iter_cnt n (by omega) (fun _=>True) (fun e=>e=Sum.inr ()) trivial (fun i hi _=>.inl ⟨hgo i hi,trivial⟩) (fun _=>⟨_,hend,rfl⟩)
 exact he
theorem regSelf (l:List T_api_Region) (hn:l.length≤1048576):g_slices_Equal_api_Region_api_Region l l=some true:=by
 unfold g_slices_Equal_api_Region_api_Region
 rw[if_neg (by simp),self_loop l.length hn (fun i hi=>by
  unfold g_slices_Equal_api_Region_api_Region_s1
  rw[if_pos (by simpa using hi),atI_nat hi,wr64 (x:=(i:Int)+1) (by omega)]
  simp) (by unfold g_slices_Equal_api_Region_api_Region_s1;rw[if_neg (by simp)])]
 rfl
theorem runSelf (l:List T_api_Run) (hn:l.length≤1048576):g_slices_Equal_api_Run_api_Run l l=some true:=by
 unfold g_slices_Equal_api_Run_api_Run
 rw[if_neg (by simp),self_loop l.length hn (fun i hi=>by
  unfold g_slices_Equal_api_Run_api_Run_s1
  rw[if_pos (by simpa using hi),atI_nat hi,wr64 (x:=(i:Int)+1) (by omega)]
  simp) (by unfold g_slices_Equal_api_Run_api_Run_s1;rw[if_neg (by simp)])]
 rfl
theorem comSelf (l:List T_api_Comment) (hn:l.length≤1048576):g_slices_Equal_api_Comment_api_Comment l l=some true:=by
 unfold g_slices_Equal_api_Comment_api_Comment
 rw[if_neg (by simp),self_loop l.length hn (fun i hi=>by
  unfold g_slices_Equal_api_Comment_api_Comment_s1
  rw[if_pos (by simpa using hi),atI_nat hi,wr64 (x:=(i:Int)+1) (by omega)]
  simp) (by unfold g_slices_Equal_api_Comment_api_Comment_s1;rw[if_neg (by simp)])]
 rfl
theorem rowsSelf (l:List T_api_Row) (hn:l.length≤1048576) (hr:∀ r ∈ l,r.Runs.length≤1048576):g_style_SameRows l l=some true:=by
 unfold g_style_SameRows g_slices_EqualFunc_api_Row_api_Row_api_Row_api_Row
 rw[if_neg (by simp),self_loop l.length hn (fun i hi=>by
  unfold g_slices_EqualFunc_api_Row_api_Row_api_Row_api_Row_s1 g_style_Same
  rw[if_pos (by simpa using hi),atI_nat hi,wr64 (x:=(i:Int)+1) (by omega)]
  simp only[Option.bind_some]
  rw[runSelf _ (hr _ (List.getElem_mem hi))]
  rfl) (by unfold g_slices_EqualFunc_api_Row_api_Row_api_Row_api_Row_s1;rw[if_neg (by simp)])]
 rfl
theorem evSelf (e:T_api_Event) (h:EvZ e):g_event_Same e e=some true:=by
 unfold g_event_Same
 simp only[beq_self_eq_true,Bool.and_self,if_true]
 rw[rowsSelf _ h.1 (fun r hr=>(h.2 r hr).2)]
 rfl
theorem docSelf (d:T_api_Document) (h:DocZ d):g_document_Same d d=some true:=by
 unfold g_document_Same g_document_Head
 simp only[Option.bind_some,beq_self_eq_true,Bool.and_self,if_true]
 rw[regSelf _ h.regs]
 simp only[Option.bind_some,if_true]
 have he:g_slices_EqualFunc_api_Event_api_Event_api_Event_api_Event d.Events d.Events=some true:=by
  unfold g_slices_EqualFunc_api_Event_api_Event_api_Event_api_Event
  rw[if_neg (by simp),self_loop d.Events.length h.evs (fun i hi=>by
   unfold g_slices_EqualFunc_api_Event_api_Event_api_Event_api_Event_s1
   have hn:=h.evs
   rw[if_pos (by simpa using hi),atI_nat hi,wr64 (x:=(i:Int)+1) (by omega)]
   simp only[Option.bind_some]
   rw[evSelf _ (h.ev _ (List.getElem_mem hi))]
   rfl) (by unfold g_slices_EqualFunc_api_Event_api_Event_api_Event_api_Event_s1;rw[if_neg (by simp)])]
  rfl
 rw[he]
 simp only[Option.bind_some,if_true]
 rw[comSelf _ h.coms]
 rfl
theorem dd_EN:(∀ x,T_api_Region.d x=.agg [.str x.Name,.int .i64 x.Top,.int .i64 x.Height,.int .i64 x.Left,.int .i64 x.Width,.int .u8 x.Align,.bool x.Bottom])∧(∀ x,T_api_Comment.d x=.agg [.int .i64 x.ID,.int .i64 x.Event,.int .i64 x.From,.int .i64 x.To,.str x.Author,.str x.Text,.bool x.Done,.bool x.Lost])∧(∀ x,T_api_Span.d x=.agg [.int .i64 x.In,.int .i64 x.Out])∧(∀ x,T_api_Style.d x=.agg [.int .u8 x.Color,.bool x.Italic,.bool x.Underline])∧(∀ x,T_api_Run.d x=.agg [.str x.Text,.int .u8 x.Style.Color,.bool x.Style.Italic,.bool x.Style.Underline,.str x.Ruby])∧(∀ x,T_api_Row.d x=.agg [.sl (x.Runs.map T_api_Run.d)])∧(∀ x,T_api_Event.d x=.agg [.int .i64 x.ID,.int .i64 x.Span.In,.int .i64 x.Span.Out,.str x.Region,.int .u8 x.Kind,.str x.Speaker,.sl (x.Rows.map T_api_Row.d)])∧(∀ x,T_api_Bound.d x=.agg [.int .i64 x.I,.int .i64 x.J,.int .i64 x.C,.int .u8 x.Rule,.int .i64 x.ID,.int .i64 x.Other])∧(∀ x,T_api_Document.d x=.agg [.str x.Title,.str x.Lang,.int .u8 x.Rate,.bool x.Drop,.int .i64 x.Last,.sl (x.Regions.map T_api_Region.d),.sl (x.Events.map T_api_Event.d),.sl (x.Comments.map T_api_Comment.d)])∧(∀ x,T_api_Shift.d x=.agg [.int .i64 x.ID,.int .i64 x.In,.int .i64 x.Out])∧(∀ x,T_api_Profile.d x=.agg [.str x.Name,.int .i64 x.Reading,.int .i64 x.MinFrames,.int .i64 x.MaxFrames,.int .i64 x.MinGap,.int .i64 x.ShotBefore,.int .i64 x.ShotAfter,.int .i64 x.Rows,.int .i64 x.Cols,.str x.Forbidden,.int .i64 x.SafeTop,.int .i64 x.SafeBottom,.int .i64 x.SafeLeft,.int .i64 x.SafeRight])∧(∀ x,T_captionerlaw43_Task.d x=.agg [.str x.Doc.Title,.str x.Doc.Lang,.int .u8 x.Doc.Rate,.bool x.Doc.Drop,.int .i64 x.Doc.Last,.sl (x.Doc.Regions.map T_api_Region.d),.sl (x.Doc.Events.map T_api_Event.d),.sl (x.Doc.Comments.map T_api_Comment.d),.str x.House.Name,.int .i64 x.House.Reading,.int .i64 x.House.MinFrames,.int .i64 x.House.MaxFrames,.int .i64 x.House.MinGap,.int .i64 x.House.ShotBefore,.int .i64 x.House.ShotAfter,.int .i64 x.House.Rows,.int .i64 x.House.Cols,.str x.House.Forbidden,.int .i64 x.House.SafeTop,.int .i64 x.House.SafeBottom,.int .i64 x.House.SafeLeft,.int .i64 x.House.SafeRight,.sl (x.Shots.map (D.int .i64)),.int .i64 x.Tol]):=⟨fun _=>rfl,fun _=>rfl,fun _=>rfl,fun _=>rfl,fun _=>rfl,fun _=>rfl,fun _=>rfl,fun _=>rfl,fun _=>rfl,fun _=>rfl,fun _=>rfl,fun _=>rfl⟩
def g_law43_RepairApplies (d_0:T_api_Document) (l_1:List T_api_Shift):Option (Bool) :=
 ((g_law43_awake).bind fun r7=>(if r7 then((g_law43_few (T_captionerlaw43_Task.mk d_0 (T_api_Profile.mk [] 0 0 0 0 0 0 0 0 [] 0 0 0 0) [] 0)).bind fun r19=>((subH l_1 (if 6 < (l_1.length:Int) then 6 else(l_1.length:Int))).bind fun z21=>((g_repair_Apply r19.Doc z21).bind fun r30=>((g_ref43_Apply r19.Doc z21).bind fun r36=>((g_document_Same r30.1 r36.1).bind fun r47=>(if r47 then(if(r30.2 == r36.2) then(if(r30.2 != 0) then(some true) else((g_document_Check r30.1).bind fun r52=>(some (r52 == 0)))) else(some false)) else(some false))))))) else(some false)))
theorem a_law43_RepairApplies {I:World→Prop} (hI:Stab I) (hShp:∀ w,I w→Shp w) (hU8T:∀ w,I w→U8T w) {d_0:T_api_Document} {l_1:List T_api_Shift} {r:Bool} (h:g_law43_RepairApplies d_0 l_1=some r):AFun Tryz.prog I 7 [T_api_Document.d d_0,.sl (l_1.map T_api_Shift.d)] (.bool r):=by
 have dd:=dd_EN;have k:=True.intro;have q:=k;have rs:=Tryz.results7
 unfold g_law43_RepairApplies at h
 refine .en hI Tryz.func7 Tryz.ntmps7 ?_
 refine xs<|rz ?_
 refine es<|xs<|xs<|rK fun K6 RK6 hK6 gK6=>zz ?_
 obtain⟨r7,h8,h⟩:=bs h
 refine cw (a_law43_awake hI hShp hU8T h8)<|zz ?_
 subst hK6 gK6
 refine es ?_
 rcases iK k h with⟨k,h⟩|⟨k,h⟩
 ·refine xf<|xk<|es<|xs<|rP hI fun K18 hK18=>rgP_cons<|zq ?_
  refine sP.foot (.cell 0 0 8) (fun _=>FootOK.ld rfl rfl rfl (by kernel_rfl) (by decide)) fd (by first|exact .inl (by first|rfl|decide)|exact .inr (by kernel_rfl))<|rgP_cons<|zq ?_
  refine sP.light rfl fd<|rgP_cons<|zq ?_
  obtain⟨r19,h20,h⟩:=bs h
  refine cP.intro (a_law43_few hI h20) fi (.ids []) (fun hN=>FootOK.idsB [] (by rfl) rfl hN) fd (by first|exact .inl (by first|rfl|decide)|exact .inr (by kernel_rfl))<|rgP_cons<|zq ?_
  refine sP.light rfl fd<|rgP_cons<|zq ?_
  refine sP.light rfl fd<|rgP_cons<|zq ?_
  refine sP.light rfl fd<|rgP_cons<|zq ?_
  refine sP.light rfl fd<|rgP_cons<|zq ?_
  refine sP.light rfl fd<|rgP_cons<|zq ?_
  obtain⟨z21,h22,h⟩:=bind_some h
  obtain⟨⟨h23,h24⟩,h25⟩:=subH_some h22
  have q:=And.intro @h23<|And.intro @h24<|q
  try simp -implicitDefEqProofs only[vt,vm,sevalprocAttr,dd,k,q] at h25
  have q:=And.intro @h25<|q
  refine zq ?_
  refine sP.foot (.ids []) (fun hN=>FootOK.idsB [] (by rfl) rfl hN) fd (by first|exact .inl (by first|rfl|decide)|exact .inr (by kernel_rfl))<|rgP_cons<|zq ?_
  refine sP.pat 0 0 8 rfl rfl rfl<|rgP_cons<|zq ?_
  refine sP.light rfl fd<|zq ?_
  refine rgP_nil fk ?_
  subst hK18
  refine es<|xs<|rK fun K29 RK29 hK29 gK29=>zz ?_
  obtain⟨r30,h31,h⟩:=bs h
  refine cw (a_repair_Apply hI hShp hU8T h31)<|zz ?_
  subst hK29 gK29
  refine es<|xs<|rK fun K35 RK35 hK35 gK35=>zz ?_
  obtain⟨r36,h37,h⟩:=bs h
  refine cw (a_ref43_Apply hI h37)<|zz ?_
  subst hK35 gK35
  refine es<|xs<|rK fun K46 RK46 hK46 gK46=>zz ?_
  obtain⟨r47,h48,h⟩:=bs h
  refine cw (a_document_Same hI h48)<|zz ?_
  rcases iK k h with⟨k,h⟩|⟨k,h⟩
  ·refine zz ?_
   rcases iK k h with⟨k,h⟩|⟨k,h⟩
   ·refine zz ?_
    rcases iK k h with⟨k,h⟩|⟨k,h⟩
    ·refine zz ?_
     subst hK46 gK46
     refine es<|xr ?_
     cases h
     exact en fr
    ·refine zz ?_
     obtain⟨r52,h53,h⟩:=bs h
     refine cw (a_document_Check hI hShp hU8T h53)<|zz ?_
     subst hK46 gK46
     refine es<|xr ?_
     cases h
     exact en fr
   ·refine zz ?_
    subst hK46 gK46
    refine es<|xr ?_
    cases h
    exact en fr
  ·refine zz ?_
   subst hK46 gK46
   refine es<|xr ?_
   cases h
   exact en fr
 ·refine xt<|xs<|rz ?_
  refine es<|xr<|er ?_
  cases h
  exact en fr
structure Rl (e e':T_api_Event):Prop where
 id:e'.ID=e.ID
 reg:e'.Region=e.Region
 kind:e'.Kind=e.Kind
 spk:e'.Speaker=e.Speaker
 rows:e'.Rows=e.Rows
 span:spB e'.Span=true
theorem apR_ok:∀ (l:List T_api_Shift) (ev ev':List T_api_Event),apR ev l=.inr ev'→∀ s ∈ l,badS s=false
 | [],ev,ev',h=>by simp
 | s::l,ev,ev',h=>by
  unfold apR at h
  simp only[runF] at h
  unfold apF at h
  intro s' hs'
  by_cases hc:(ev.map (·.ID)).contains s.ID=true
  ·rw[if_pos hc] at h
   cases hb:badS s with
   | true=>rw[hb] at h;simp only[if_true] at h;cases h
   | false =>
    rw[hb] at h
    simp only[Bool.false_eq_true,if_false] at h
    rcases List.mem_cons.1 hs' with rfl|hs'
    ·exact hb
    ·exact apR_ok l _ ev' h s' hs'
  ·rw[if_neg hc] at h;cases h
theorem fold_rl:∀ (l:List T_api_Shift) (e0 e:T_api_Event),(∀ s ∈ l,badS s=false)→Rl e0 e→Rl e0 (l.foldl up e)
 | [],e0,e,_,h=>h
 | s::l,e0,e,hb,h=>by
  simp only[List.foldl_cons]
  refine fold_rl l e0 _ (fun s' hs'=>hb s' (by simp[hs'])) ?_
  unfold up upE
  by_cases q:e.ID=s.ID
  ·rw[if_pos q]
   refine⟨h.id,h.reg,h.kind,h.spk,h.rows,?_⟩
   have:=hb s (by simp)
   unfold badS at this
   unfold spB
   simp only[Bool.or_eq_false_iff,decide_eq_false_iff_not] at this
   simp only[Bool.and_eq_true,decide_eq_true_eq]
   omega
  ·rw[if_neg q];exact h
theorem evChk_rl {e e':T_api_Event} (h:Rl e e') (regs:List T_api_Region) (hc:g_event_Check e regs=some 0):g_event_Check e' regs=some 0:=by
 have hs1:g_event_Check_s1 e'=g_event_Check_s1 e:=by
  funext x
  unfold g_event_Check_s1
  rw[h.rows]
 have hs2:g_event_lens_s1 e'=g_event_lens_s1 e:=by
  funext x
  unfold g_event_lens_s1
  rw[h.rows]
 unfold g_event_Check g_event_lens at hc ⊢
 rw[hs1,hs2,h.reg,h.id,h.kind,h.spk,h.rows]
 rw[spans_eq] at hc ⊢
 rw[h.span]
 cases hf:g_region_Find regs e.Region with
 | none=>rw[hf] at hc;cases hc
 | some f =>
  rw[hf] at hc
  simp only[Option.bind_some] at hc ⊢
  by_cases k1:e.ID < 1
  ·simp[k1] at hc
  ·by_cases k2:1099511627776 < e.ID
   ·simp[k1,k2] at hc
   ·simp only[k1,k2,decide_false,Bool.false_eq_true,if_false,Option.bind_some,Bool.not_true] at hc ⊢
    cases hsp:spB e.Span with
    | false=>rw[hsp] at hc;simp at hc
    | true =>
     rw[hsp] at hc
     simp only[Bool.not_true,Bool.false_eq_true,if_false] at hc
     exact hc
theorem evLen_rows {e e':T_api_Event} (h:e'.Rows=e.Rows):g_event_Len e'=g_event_Len e:=by
 have hs2:g_event_lens_s1 e'=g_event_lens_s1 e:=by
  funext x
  unfold g_event_lens_s1
  rw[h]
 unfold g_event_Len g_event_lens
 rw[hs2,h]
theorem coms_rl (d:T_api_Document) (r:List T_api_Event) (hids:(r.map (·.ID)).Perm (d.Events.map (·.ID))) (hrows:∀ e' ∈ r,∀ e ∈ d.Events,e'.ID=e.ID→e'.Rows=e.Rows):g_document_comments (withE d r) (mpE r)=g_document_comments d (mpE d.Events):=by
 have hcon:∀ id,(r.map (·.ID)).contains id=(d.Events.map (·.ID)).contains id:=fun id=>by
  rw[Bool.eq_iff_iff,List.contains_iff_mem,List.contains_iff_mem]
  exact hids.mem_iff
 have hanc:∀ c,g_document_anchored (withE d r) c (mpE r)=g_document_anchored d c (mpE d.Events):=by
  intro c
  unfold g_document_anchored
  have hk1:=ixE_look r c.Event 0
  have hk2:=ixE_look d.Events c.Event 0
  have e1:(mpE r).ks=r.map (·.ID):=rfl
  have e2:(mpE r).vs=(List.range' 0 r.length).map Int.ofNat:=rfl
  have e3:(mpE d.Events).ks=d.Events.map (·.ID):=rfl
  have e4:(mpE d.Events).vs=(List.range' 0 d.Events.length).map Int.ofNat:=rfl
  have e5:(withE d r).Last=d.Last:=rfl
  have e6:(withE d r).Events=r:=rfl
  rw[e1,e2,e3,e4,e5,e6,hcon]
  cases hb:(d.Events.map (·.ID)).contains c.Event with
  | false=>rfl
  | true =>
   obtain⟨k1,_⟩:=hk1.1 (by rw[hcon];exact hb)
   obtain⟨k2,_⟩:=hk2.1 hb
   rw[k1,k2]
   rcases ixE_spec r c.Event 0 with⟨q,_⟩|⟨_,i,hi,q2,q3⟩
   ·rw[hcon,hb] at q;cases q
   ·rcases ixE_spec d.Events c.Event 0 with⟨q,_⟩|⟨_,j,hj,p2,p3⟩
    ·rw[hb] at q;cases q
    ·rw[q2,p2,Nat.zero_add,Nat.zero_add,atI_nat hi,atI_nat hj]
     simp only[Option.bind_some]
     rw[evLen_rows (hrows _ (List.getElem_mem hi) _ (List.getElem_mem hj) (by rw[q3,p3]))]
 have hst:g_document_comments_s1 (withE d r) (mpE r)=g_document_comments_s1 d (mpE d.Events):=by
  funext x
  unfold g_document_comments_s1
  have e1:(mpE r).ks=r.map (·.ID):=rfl
  have e3:(mpE d.Events).ks=d.Events.map (·.ID):=rfl
  have e5:(withE d r).Last=d.Last:=rfl
  have e6:(withE d r).Comments=d.Comments:=rfl
  simp only[e1,e3,e5,e6,hcon,hanc]
 unfold g_document_comments
 rw[hst]
 rfl
theorem all_evs {E:Type} (d:T_api_Document) (y:E):∀ (L:List (T_api_Event × Nat)),(∀ a ∈ L,evE d a=0)→runF (evF d) (fun _=>(.inr y:Int ⊕ E)) () L=.inr y
 | [],_=>rfl
 | a::t,h=>by
  simp only[runF,evF]
  simp only[h a (by simp),ne_eq,not_true,if_false]
  exact all_evs d y t fun b hb=>h b (by simp[hb])
theorem chk_parts (d:T_api_Document) (hd:DocZ d) (h:g_document_Check d=some 0):g_document_header d=some 0∧g_region_CheckList d.Regions=some 0∧¬ 400 < (d.Events.length:Int)∧(∀ a ∈ d.Events.zipIdx,evE d a=0)∧g_document_comments d (mpE d.Events)=some 0:=by
 have hall:∀ (L:List (T_api_Event × Nat)),(∃ u,runF (evF d) (fun _=>(.inr ():Int ⊕ Unit)) () L=.inr u)→∀ a ∈ L,evE d a=0:=by
  intro L
  induction L with
  | nil=>intro _ a ha;cases ha
  | cons b t ih =>
   rintro⟨u,hu⟩ a ha
   simp only[runF,evF] at hu
   by_cases q:evE d b=0
   ·simp only[q,ne_eq,not_true,if_false] at hu
    rcases List.mem_cons.1 ha with rfl|ha
    ·exact q
    ·exact ih ⟨u,hu⟩ a ha
   ·simp only[q,ne_eq,not_false_eq_true,if_true] at hu
    cases hu
 have hne:∀ (L:List (T_api_Event × Nat)),runF (evF d) (fun _=>(.inr ():Int ⊕ Unit)) () L≠.inl 0:=by
  intro L
  induction L with
  | nil=>intro h;cases h
  | cons b t ih =>
   intro h
   simp only[runF,evF] at h
   by_cases q:evE d b=0
   ·simp only[q,ne_eq,not_true,if_false] at h;exact ih h
   ·simp only[q,ne_eq,not_false_eq_true,if_true] at h
    injection h with h
    exact q h
 unfold g_document_Check at h
 rw[prog_evs d hd,evs_rel d ((mpE d.Events).ks,(mpE d.Events).vs)] at h
 obtain⟨v1,h1⟩:=header_tot d hd.title hd.rate.1 hd.rate.2
 obtain⟨v2,h2⟩:=regList_tot d.Regions
 rw[h1,h2] at h ⊢
 simp only[Option.bind_some] at h
 by_cases q1:v1=0
 ·subst q1
  simp only[bne_self_eq_false,Bool.false_eq_true,if_false] at h
  by_cases q2:v2=0
  ·subst q2
   simp only[bne_self_eq_false,Bool.false_eq_true,if_false] at h
   by_cases q3:400 < (d.Events.length:Int)
   ·simp[q3] at h
   ·simp only[q3,decide_false,Bool.false_eq_true,if_false] at h
    cases hr:runF (evF d) (fun _=>(.inr ():Int ⊕ Unit)) () d.Events.zipIdx with
    | inl v =>
     rw[hr] at h
     simp only[Option.some.injEq] at h
     subst h
     exact absurd hr (hne _)
    | inr u =>
     rw[hr] at h
     simp only[Option.bind_fun_some] at h
     exact⟨rfl,rfl,q3,hall _ ⟨u,hr⟩,h⟩
  ·rw[if_pos (by simpa using q2)] at h
   cases h
   exact absurd rfl q2
 ·rw[if_pos (by simpa using q1)] at h
  cases h
  exact absurd rfl q1
theorem apply_valid (d:T_api_Document) (hd:DocZ d) (hc:g_document_Check d=some 0) (hD:DocOK d) {l:List T_api_Shift} {ev r:List T_api_Event} (ha:apR d.Events l=.inr ev) (hp:r.Perm ev) (hs:Srt r):DocZ (withE d r)∧g_document_Check (withE d r)=some 0:=by
 obtain⟨b1,b2,b3⟩:=apR_inr l d.Events ev ha
 have hmap:=apR_map l d.Events ev ha
 have hbad:=apR_ok l d.Events ev ha
 have hids:(r.map (·.ID)).Perm (d.Events.map (·.ID)):=by rw[← b2];exact hp.map _
 have hnd:(r.map (·.ID)).Nodup:=hids.nodup_iff.2 hD.ids
 have hrl:∀ e' ∈ r,∃ e ∈ d.Events,Rl e e':=by
  intro e' he'
  have:=hp.subset he'
  rw[hmap] at this
  obtain⟨e,he,rfl⟩:=List.mem_map.1 this
  have hok:=hD.ev e he
  exact⟨e,he,fold_rl l e e hbad ⟨rfl,rfl,rfl,rfl,rfl,by unfold spB;simp[hok.span]⟩⟩
 have hlen:r.length=d.Events.length:=by rw[hp.length_eq,b1]
 have hz:DocZ (withE d r):=⟨hd.title,hd.rate,hd.regs,by show r.length≤_;rw[hlen];exact hd.evs,fun e he=>b3 hd.ev e (hp.subset he),hd.coms,hd.com⟩
 refine⟨hz,?_⟩
 obtain⟨p1,p2,p3,p4,p5⟩:=chk_parts d hd hc
 have hrows:∀ e' ∈ r,∀ e ∈ d.Events,e'.ID=e.ID→e'.Rows=e.Rows:=by
  intro e' he' e he hid
  obtain⟨e0,he0,hR⟩:=hrl e' he'
  obtain⟨i,hi,rfl⟩:=List.getElem_of_mem he
  obtain⟨j,hj,rfl⟩:=List.getElem_of_mem he0
  have:=nodup_at hD.ids hj hi (by rw[← hR.id,hid])
  subst this
  exact hR.rows
 have hev:∀ a ∈ r.zipIdx,evE (withE d r) a=0:=by
  rintro⟨e',i⟩ ha'
  rw[List.mem_zipIdx_iff_getElem?] at ha'
  simp only at ha'
  obtain⟨hi,rfl⟩:=List.getElem?_eq_some_iff.1 ha'
  obtain⟨e,he,hR⟩:=hrl _ (List.getElem_mem hi)
  obtain⟨j,hj,rfl⟩:=List.getElem_of_mem he
  have h0:=p4 (d.Events[j],j) (List.mem_zipIdx_iff_getElem?.2 (List.getElem?_eq_getElem hj))
  have hchk:=evs_ok d hd hc _ (List.getElem_mem hj)
  unfold evE at h0 ⊢
  have e1:(withE d r).Regions=d.Regions:=rfl
  have e2:(withE d r).Events=r:=rfl
  have e3:(withE d r).Last=d.Last:=rfl
  rw[hchk] at h0
  rw[e1,evChk_rl hR _ hchk]
  simp only[Option.getD_some,ne_eq,not_true_eq_false,if_false,e2,e3] at h0 ⊢
  have q1:¬ d.Last < d.Events[j].ID:=by
   intro q
   rw[if_pos q] at h0
   cases h0
  rw[hR.id,if_neg q1]
  have q2:¬ (∃ h:0 < i∧i - 1 < r.length,ltE (r[i - 1]'h.2) r[i]=false):=by
   rintro⟨h,hl⟩
   have:=Srt.at hs (i:=i - 1) (j:=i) (by omega) hi
   have hne:r[i].ID≠(r[i - 1]'h.2).ID:=fun e=>by
    have:=nodup_at hnd hi h.2 e
    omega
   unfold ltE at this hl
   simp only[Bool.or_eq_false_iff,decide_eq_false_iff_not,Bool.and_eq_false_imp,decide_eq_true_eq] at this hl
   omega
  rw[if_neg q2]
  have q3:((r.take i).map (·.ID)).contains d.Events[j].ID=false:=by
   rw[← hR.id,Bool.eq_false_iff]
   intro q
   rw[List.contains_iff_mem] at q
   obtain⟨x,hx,hxe⟩:=List.mem_map.1 q
   obtain⟨m,hm,rfl⟩:=List.getElem_of_mem hx
   rw[List.length_take] at hm
   rw[List.getElem_take] at hxe
   have:=nodup_at hnd (show m < r.length by omega) hi hxe
   omega
  rw[q3]
  simp
 unfold g_document_Check
 rw[prog_evs _ hz,show(withE d r).Events=r from rfl,all_evs _ _ _ hev]
 rw[show g_document_header (withE d r)=g_document_header d from rfl,p1,show(withE d r).Regions=d.Regions from rfl,p2]
 simp only[Option.bind_some,bne_self_eq_false,Bool.false_eq_true,if_false]
 rw[if_neg (by rw[hlen];simpa using p3)]
 have:=coms_rl d r hids hrows
 rw[p5] at this
 simp only[Option.bind_fun_some]
 exact this
theorem docN_z:DocZ docN:=⟨by simp[docN],by simp[docN],by simp[docN],by simp[docN],fun e he=>by simp[docN] at he,by simp[docN],fun c hc=>by simp[docN] at hc⟩
theorem repairApplies_true (d:T_api_Document) (hd:DocZ d) (l:List T_api_Shift):g_law43_RepairApplies d l=some true:=by
 obtain⟨hz,hn⟩:=fewT_z (t:=T_captionerlaw43_Task.mk d (T_api_Profile.mk [] 0 0 0 0 0 0 0 0 [] 0 0 0 0) [] 0) ⟨hd,by simp,by simp⟩
 unfold g_law43_RepairApplies
 rw[awake43,few_eq]
 simp only[Option.bind_some,if_true]
 have hH:=subH_take l 6
 rw[show(if((6:Nat):Int) < (l.length:Int) then((6:Nat):Int) else(l.length:Int))=(if 6 < (l.length:Int) then 6 else(l.length:Int)) from rfl] at hH
 rw[hH]
 simp only[Option.bind_some]
 have hdz:=hz.doc
 generalize (fewT (T_captionerlaw43_Task.mk d (T_api_Profile.mk [] 0 0 0 0 0 0 0 0 [] 0 0 0 0) [] 0)).Doc=u at hdz hn
 have hl6:(l.take 6).length≤1000:=by rw[List.length_take];omega
 generalize l.take 6=l at hl6
 rw[rapply_eq u hdz (by omega) l hl6]
 obtain⟨c,hc,hD⟩:=docCheck u hdz
 by_cases h0:c=0
 ·subst h0
  rcases apply_eq u hdz hc (hD rfl) (by omega) l hl6 with⟨v,a1,a2⟩|⟨ev,r,a1,a2,a3,a4⟩
  ·rw[a2]
   simp only[Option.bind_some]
   rw[docSelf docN docN_z]
   have hv:v≠0:=by rcases apR_inl l u.Events v a1 with rfl|rfl<;>decide
   simp[hv]
  ·rw[a2]
   simp only[Option.bind_some]
   obtain⟨z1,z2⟩:=apply_valid u hdz hc (hD rfl) a1 a3 (Srt.of (by rw[a3.length_eq];exact a4))
   rw[docSelf _ z1,z2]
   simp
 ·have ha:g_repair_Apply u l=some (docN,c):=by
   unfold g_repair_Apply
   rw[hc]
   simp only[Option.bind_some]
   rw[if_pos (by rw[bne_iff_ne];exact h0)]
   rfl
  rw[ha]
  simp only[Option.bind_some]
  rw[docSelf docN docN_z]
  simp[h0]
def T_api_Shift.sz (x:T_api_Shift):Prop:=(True)∧(True)∧(True)∧True
theorem doc_rate {ds:List D} {d:T_api_Document} (h:∀ d ∈ ds,Sz d) (hm:d.d ∈ ds):0≤d.Rate∧d.Rate≤255 :=
 Sz_u8.1 (Sz_agg.1 (h _ hm) (.int .u8 d.Rate) (by simp))
theorem law_RepairApplies (d:T_api_Document) (l:List T_api_Shift) (hB:T_api_Document.sz d) (hC:l.length≤1048576∧∀ a ∈ l,T_api_Shift.sz a):AFun Tryz.prog Env9 7 [d.d,.sl (l.map T_api_Shift.d)] (.bool true):=by
 refine AFun.sized (by kernel_rfl) fun hz=>?_
 exact a_law43_RepairApplies stabEnv9 (fun _ h=>h.2) (fun _ h=>h.1) (repairApplies_true d (doc_z hB (doc_rate hz (by simp))) l)
end Go.Proofs.YtobglplholhkcaaGreatDoor
