/- Texts of one proof, put together (ED, EE, EF, EG, EI, V1, EJ, EK, V1n, V2, V4, V5). No condition but those that each theorem states. -/
import Derived.Test.YtobglplholhkcaaGreatDoorS4
import Derived.Lib.ValidLaws
set_option linter.unusedSimpArgs false
set_option linter.unusedVariables false
namespace Go.Proofs.YtobglplholhkcaaGreatDoor
open Go.RowKit
set_option maxRecDepth 100000
set_option maxHeartbeats 10000000
structure Z8 where
 ID:Int
 In:Int
 Out:Int
 deriving DecidableEq
def Z8.d (x:Z8):D:=.agg [.int .i64 x.ID,.int .i64 x.In,.int .i64 x.Out]
structure Zu where
 Doc:Z2
 Shifts:List Z8
 Needed:Int
 Conflict:List Z1
 deriving DecidableEq
def Zu.d (x:Zu):D:=.agg [.str x.Doc.Title,.str x.Doc.Lang,.int .u8 x.Doc.Rate,.bool x.Doc.Drop,.int .i64 x.Doc.Last,.sl (x.Doc.Regions.map Z3.d),.sl (x.Doc.Events.map Z0.d),.sl (x.Doc.Comments.map Z4.d),.sl (x.Shifts.map Z8.d),.int .i64 x.Needed,.sl (x.Conflict.map Z1.d)]
theorem Z3g:(∀ x,Z3.d x=.agg [.str x.Name,.int .i64 x.Top,.int .i64 x.Height,.int .i64 x.Left,.int .i64 x.Width,.int .u8 x.Align,.bool x.Bottom])/\(∀ x,Z4.d x=.agg [.int .i64 x.ID,.int .i64 x.Event,.int .i64 x.From,.int .i64 x.To,.str x.Author,.str x.Text,.bool x.Done,.bool x.Lost])/\(∀ x,Ze.d x=.agg [.int .i64 x.In,.int .i64 x.Out])/\(∀ x,Zw.d x=.agg [.int .u8 x.Color,.bool x.Italic,.bool x.Underline])/\(∀ x,Zd.d x=.agg [.str x.Text,.int .u8 x.Style.Color,.bool x.Style.Italic,.bool x.Style.Underline,.str x.Ruby])/\(∀ x,Z6.d x=.agg [.sl (x.Runs.map Zd.d)])/\(∀ x,Z0.d x=.agg [.int .i64 x.ID,.int .i64 x.Span.In,.int .i64 x.Span.Out,.str x.Region,.int .u8 x.Kind,.str x.Speaker,.sl (x.Rows.map Z6.d)])/\(∀ x,Z1.d x=.agg [.int .i64 x.I,.int .i64 x.J,.int .i64 x.C,.int .u8 x.Rule,.int .i64 x.ID,.int .i64 x.Other])/\(∀ x,Z2.d x=.agg [.str x.Title,.str x.Lang,.int .u8 x.Rate,.bool x.Drop,.int .i64 x.Last,.sl (x.Regions.map Z3.d),.sl (x.Events.map Z0.d),.sl (x.Comments.map Z4.d)])/\(∀ x,Z7.d x=.agg [.str x.Name,.int .i64 x.Reading,.int .i64 x.MinFrames,.int .i64 x.MaxFrames,.int .i64 x.MinGap,.int .i64 x.ShotBefore,.int .i64 x.ShotAfter,.int .i64 x.Rows,.int .i64 x.Cols,.str x.Forbidden,.int .i64 x.SafeTop,.int .i64 x.SafeBottom,.int .i64 x.SafeLeft,.int .i64 x.SafeRight])/\(∀ x,Z8.d x=.agg [.int .i64 x.ID,.int .i64 x.In,.int .i64 x.Out])/\(∀ x,Zu.d x=.agg [.str x.Doc.Title,.str x.Doc.Lang,.int .u8 x.Doc.Rate,.bool x.Doc.Drop,.int .i64 x.Doc.Last,.sl (x.Doc.Regions.map Z3.d),.sl (x.Doc.Events.map Z0.d),.sl (x.Doc.Comments.map Z4.d),.sl (x.Shifts.map Z8.d),.int .i64 x.Needed,.sl (x.Conflict.map Z1.d)]):=⟨fun _=>rfl,fun _=>rfl,fun _=>rfl,fun _=>rfl,fun _=>rfl,fun _=>rfl,fun _=>rfl,fun _=>rfl,fun _=>rfl,fun _=>rfl,fun _=>rfl,fun _=>rfl⟩
def Z1Z (t_0:Int)(a_1:Z2)(a_2:Z7)(a_3:List Int)(a_4:Int):Option ((List Int) × Bool) :=
 ((Z2S a_1 a_2 a_3 t_0).bind fun r7=>((Z0m a_4 r7.1).bind fun r0=>(some (r0.1,(r0.2.2 == 0)))))
theorem Z7L{I:World->Prop}(hI:Stab I)(hShp:∀ w,I w->Shp w)(hU8T:∀ w,I w->U8T w){t_0:Int}{a_1:Z2}{a_2:Z7}{a_3:List Int}{a_4:Int}{r:(List Int) × Bool}(h:Z1Z t_0 a_1 a_2 a_3 a_4=some r):AFun Tryz.prog I 44 [.int .i64 t_0,.iptr [.str a_1.Title,.str a_1.Lang,.int .u8 a_1.Rate,.bool a_1.Drop,.int .i64 a_1.Last,.sl (a_1.Regions.map Z3.d),.sl (a_1.Events.map Z0.d),.sl (a_1.Comments.map Z4.d)],.iptr [.str a_2.Name,.int .i64 a_2.Reading,.int .i64 a_2.MinFrames,.int .i64 a_2.MaxFrames,.int .i64 a_2.MinGap,.int .i64 a_2.ShotBefore,.int .i64 a_2.ShotAfter,.int .i64 a_2.Rows,.int .i64 a_2.Cols,.str a_2.Forbidden,.int .i64 a_2.SafeTop,.int .i64 a_2.SafeBottom,.int .i64 a_2.SafeLeft,.int .i64 a_2.SafeRight],.iptr [.sl (a_3.map (D.int .i64))],.iptr [.int .i64 a_4]] (.tup [.sl (r.1.map (D.int .i64)),.bool r.2]):=by
 have dd:=Z3g;have k:=True.intro;have q:=k;have rs:=Tryz.results44;unfold Z1Z at h;refine .en hI Tryz.func44 Tryz.ntmps44 ?_;refine xs<|rz ?_;refine es<|xs<|rK fun K _ E J=>zz ?_;obtain⟨r7,h8,h⟩:=bs h;refine cw (Z7K hI hShp hU8T h8)<|zz ?_;subst E J;refine es<|xs<|rK fun K _ E J=>zz ?_;obtain⟨r0,h0,h⟩:=bs h;refine cw (Z7F hI h0)<|zz ?_;exact LQ
def Z5v (t_0:Int)(a_1_0:Z2)(a_1_1:Z7)(a_1_2:List Int)(a_1_3:Int):Option (Bool) :=
 ((Z1Z t_0 a_1_0 a_1_1 a_1_2 a_1_3).bind fun r9=>(some r9.2))
theorem ZaX{I:World->Prop}(hI:Stab I)(hShp:∀ w,I w->Shp w)(hU8T:∀ w,I w->U8T w){t_0:Int}{a_1_0:Z2}{a_1_1:Z7}{a_1_2:List Int}{a_1_3:Int}{r:Bool}(h:Z5v t_0 a_1_0 a_1_1 a_1_2 a_1_3=some r):AFun Tryz.prog I 46 [.int .i64 t_0,.iptr [.fn 44 [.iptr [.str a_1_0.Title,.str a_1_0.Lang,.int .u8 a_1_0.Rate,.bool a_1_0.Drop,.int .i64 a_1_0.Last,.sl (a_1_0.Regions.map Z3.d),.sl (a_1_0.Events.map Z0.d),.sl (a_1_0.Comments.map Z4.d)],.iptr [.str a_1_1.Name,.int .i64 a_1_1.Reading,.int .i64 a_1_1.MinFrames,.int .i64 a_1_1.MaxFrames,.int .i64 a_1_1.MinGap,.int .i64 a_1_1.ShotBefore,.int .i64 a_1_1.ShotAfter,.int .i64 a_1_1.Rows,.int .i64 a_1_1.Cols,.str a_1_1.Forbidden,.int .i64 a_1_1.SafeTop,.int .i64 a_1_1.SafeBottom,.int .i64 a_1_1.SafeLeft,.int .i64 a_1_1.SafeRight],.iptr [.sl (a_1_2.map (D.int .i64))],.iptr [.int .i64 a_1_3]]]] (.bool r):=by
 have dd:=Z3g;have k:=True.intro;have q:=k;have rs:=Tryz.results46;unfold Z5v at h;refine .en hI Tryz.func46 Tryz.ntmps46 ?_;refine xs<|rz ?_;refine es<|xs<|rK fun K _ E J=>zz ?_;have h8:=(show aggT Tryz.prog 86=some false by kernel_rfl);have q:=And.intro @h8<|q;refine zz ?_;obtain⟨r9,h0,h⟩:=bs h;refine cw (Z7L hI hShp hU8T h0)<|zz ?_;exact LQ
def Z4Q (c1_0_0:Z2)(c1_0_1:Z7)(c1_0_2:List Int)(c1_0_3:Int)(x0:Int × Int):Option (Nx (Int × Int) (Int)) :=
 (if(decide (x0.1 < x0.2)) then((Z5v (IntKind.i64.wrap (Int.fdiv (IntKind.u64.wrap (IntKind.i64.wrap (x0.1+x0.2))) 2)) c1_0_0 c1_0_1 c1_0_2 c1_0_3).bind fun r0=>(if r0 then(some (.go (x0.1,(IntKind.i64.wrap (Int.fdiv (IntKind.u64.wrap (IntKind.i64.wrap (x0.1+x0.2))) 2))))) else(some (.go ((IntKind.i64.wrap ((IntKind.i64.wrap (Int.fdiv (IntKind.u64.wrap (IntKind.i64.wrap (x0.1+x0.2))) 2))+1)),x0.2))))) else(some (.out x0.1)))
def Z59 (n_0:Int)(c1_0_0:Z2)(c1_0_1:Z7)(c1_0_2:List Int)(c1_0_3:Int):Option (Int) :=
 ((iter (Z4Q c1_0_0 c1_0_1 c1_0_2 c1_0_3) (0,n_0)).bind fun e0=>(some e0))
theorem ZcQ{I:World->Prop}(hI:Stab I)(hShp:∀ w,I w->Shp w)(hU8T:∀ w,I w->U8T w){n_0:Int}{c1_0_0:Z2}{c1_0_1:Z7}{c1_0_2:List Int}{c1_0_3:Int}{r:Int}(h:Z59 n_0 c1_0_0 c1_0_1 c1_0_2 c1_0_3=some r):AFun Tryz.prog I 45 [.int .i64 n_0,.fn 46 [.iptr [.fn 44 [.iptr [.str c1_0_0.Title,.str c1_0_0.Lang,.int .u8 c1_0_0.Rate,.bool c1_0_0.Drop,.int .i64 c1_0_0.Last,.sl (c1_0_0.Regions.map Z3.d),.sl (c1_0_0.Events.map Z0.d),.sl (c1_0_0.Comments.map Z4.d)],.iptr [.str c1_0_1.Name,.int .i64 c1_0_1.Reading,.int .i64 c1_0_1.MinFrames,.int .i64 c1_0_1.MaxFrames,.int .i64 c1_0_1.MinGap,.int .i64 c1_0_1.ShotBefore,.int .i64 c1_0_1.ShotAfter,.int .i64 c1_0_1.Rows,.int .i64 c1_0_1.Cols,.str c1_0_1.Forbidden,.int .i64 c1_0_1.SafeTop,.int .i64 c1_0_1.SafeBottom,.int .i64 c1_0_1.SafeLeft,.int .i64 c1_0_1.SafeRight],.iptr [.sl (c1_0_2.map (D.int .i64))],.iptr [.int .i64 c1_0_3]]]]] (.int .i64 r):=by
 have dd:=Z3g;have k:=True.intro;have q:=k;have rs:=Tryz.results45;unfold Z59 at h;refine .en hI Tryz.func45 Tryz.ntmps45 ?_;refine xs<|rz ?_;refine es<|xs<|rz ?_;refine es<|xs<|xb ?_;obtain⟨e0,h0,h⟩:=bs h;refine Zb (fun x0=>⟨envL [(1,.fn 46 [.iptr [.fn 44 [.iptr [.str c1_0_0.Title,.str c1_0_0.Lang,.int .u8 c1_0_0.Rate,.bool c1_0_0.Drop,.int .i64 c1_0_0.Last,.sl (c1_0_0.Regions.map Z3.d),.sl (c1_0_0.Events.map Z0.d),.sl (c1_0_0.Comments.map Z4.d)],.iptr [.str c1_0_1.Name,.int .i64 c1_0_1.Reading,.int .i64 c1_0_1.MinFrames,.int .i64 c1_0_1.MaxFrames,.int .i64 c1_0_1.MinGap,.int .i64 c1_0_1.ShotBefore,.int .i64 c1_0_1.ShotAfter,.int .i64 c1_0_1.Rows,.int .i64 c1_0_1.Cols,.str c1_0_1.Forbidden,.int .i64 c1_0_1.SafeTop,.int .i64 c1_0_1.SafeBottom,.int .i64 c1_0_1.SafeLeft,.int .i64 c1_0_1.SafeRight],.iptr [.sl (c1_0_2.map (D.int .i64))],.iptr [.int .i64 c1_0_3]]]]),(5,.int .i64 x0.1),(6,.int .i64 x0.2)],Z5 [],0,26⟩) (fun _=>.exit 0) (fun e0=>⟨envL [(5,.int .i64 e0)],Z5 [],0,26⟩) h0 (wk []) (by intro w;simp) ?_ ?_
 ·clear h;intro x0 y h;unfold Z4Q at h;refine xs<|xs<|rz ?_;refine es ?_;obtain⟨k,h⟩|⟨k,h⟩:=iK k h
  ·refine xt<|xk<|es<|xb<|xs<|rz ?_;refine es<|xs<|rK fun K _ E J=>zz ?_;obtain⟨r0,h1,h⟩:=bs h;refine cw (ZaX hI hShp hU8T h1)<|zz ?_;subst E J;refine es ?_;obtain⟨k,h⟩|⟨k,h⟩:=iK k h
   ·refine xf<|rz ?_;exact LC
   refine xt<|rz ?_;exact LC
  exact Le
 exact Lg
def Z4R (r9:(List Z6))(x0:Unit):Option (Nx (Unit) (Unit)) :=
 (if(decide (0 < (r9.length:Int))) then((atI r9 0).bind fun y0=>(if y0.Runs.isEmpty then((ZU y0.Runs).bind fun r0=>none) else((ZA y0.Runs).bind fun r1=>none))) else(some (.out ())))
def Z4S (r0:(List Z6))(x0:Int × (List Z6)):Option (Nx (Int × (List Z6)) ((List Z6))) :=
 (if(decide (x0.1 < ((r0.length:Nat):Int))) then((atI x0.2 x0.1).bind fun y0=>(if y0.Runs.isEmpty then((ZU y0.Runs).bind fun r1=>((setI x0.2 x0.1 (Z6.mk r1)).bind fun m0=>(some (.go ((IntKind.i64.wrap (x0.1+1)),m0))))) else((ZA y0.Runs).bind fun r2=>((setI x0.2 x0.1 (Z6.mk r2)).bind fun m1=>(some (.go ((IntKind.i64.wrap (x0.1+1)),m1))))))) else(some (.out x0.2)))
def Z5a (rows_0:List Z6):Option ((List Z6)) :=
 (if rows_0.isEmpty then((Z09 rows_0).bind fun r9=>((iter (Z4R r9) ()).bind fun e0=>(some r9))) else((ZJ rows_0).bind fun r0=>((iter (Z4S r0) (0,r0)).bind fun e1=>(some e1))))
theorem ZcS{I:World->Prop}(hI:Stab I){rows_0:List Z6}{r:(List Z6)}(h:Z5a rows_0=some r):AFun Tryz.prog I 117 [.sl (rows_0.map Z6.d)] (.sl (r.map Z6.d)):=by
 have dd:=Z3g;have k:=True.intro;have q:=k;have rs:=Tryz.results117;unfold Z5a at h;refine .en hI Tryz.func117 Tryz.ntmps117 ?_;refine xs<|rz ?_;refine es<|xs<|rK fun K _ E J=>zz ?_;obtain⟨k,h⟩|⟨k,h⟩:=iK k h
 ·obtain⟨r9,h0,h⟩:=bs h;refine cw (Z6k hI h0)<|zz ?_;subst E J;refine es<|xs<|xs<|rz ?_;refine es<|xb ?_;obtain⟨e0,h1,h⟩:=bs h;refine Zb (fun x0=>⟨envL [(3,.sl (r9.map Z6.d)),(8,.int .i64 (r9.length:Int)),(9,.int .i64 0)],Z5 [],0,24⟩) (fun _=>.exit 0) (fun e0=>⟨envL [(3,.sl (r9.map Z6.d))],Z5 [],0,24⟩) h1 (wk []) (by intro w;simp) ?_ ?_
  ·clear h;intro x0 y h;unfold Z4R at h;refine xs<|rz ?_;refine es<|xs ?_;obtain⟨k,h⟩|⟨k,h⟩:=iK k h
   ·refine xt<|xk<|es<|xs<|xb<|xs<|rz ?_;refine es<|rK fun K _ E J=>zz ?_;obtain⟨y0,q,h⟩:=bK q h;refine zz ?_;obtain⟨k,h⟩|⟨k,h⟩:=iK k h
    ·obtain⟨r0,h2,h⟩:=bs h;refine cw (Z43 hI h2)<|zz ?_;cases h
    obtain⟨r1,h3,h⟩:=bs h;refine cW.introE (Z1q hI (nid:=10) h3) fz rfl<|zz ?_;cases h
   exact Le
  exact Lg
 obtain⟨r2,h4,h⟩:=bs h;refine cW.introE (Z3l hI (nid:=2) h4) fz rfl<|zz ?_;subst E J;refine es<|xs<|xs<|rz ?_;refine es<|xb ?_;obtain⟨e1,h5,h⟩:=bs h;refine Zb (fun x1=>⟨envL [(3,.own 0 x1.2.length),(8,.int .i64 ((r2.length:Nat):Int)),(9,.int .i64 x1.1)],Z5 [(0,.vec 129 1 (x1.2.map Z6.d) false)],1,24⟩) (fun _=>.exit 0) (fun e1=>⟨envL [(3,.own 0 e1.length)],Z5 [(0,.vec 129 1 (e1.map Z6.d) false)],1,24⟩) h5 (wk [(0,some 2)]) (by intro w;simp) ?_ ?_
 ·clear h;intro x1 y h;unfold Z4S at h;refine xs<|rz ?_;refine es<|xs ?_;obtain⟨k,h⟩|⟨k,h⟩:=iK k h
  ·refine xt<|xk<|es<|xs<|xb<|xs<|rz ?_;refine es<|rK fun K _ E J=>zz ?_;obtain⟨y1,q,h⟩:=oN q h;refine zz ?_;obtain⟨k,h⟩|⟨k,h⟩:=iK k h
   ·obtain⟨r3,h6,h⟩:=bs h;refine cw (Z43 hI h6)<|zz ?_;obtain⟨m0,h7,h⟩:=bind_some h;obtain⟨h8,h9,h11,h12⟩:=Z0l h7;have h12:=h12 Z6.d;try simp only[sevalprocAttr,List.map_nil,dd] at h12
    have q:=And.intro @h8<|And.intro @h9<|And.intro @h11<|And.intro @h12<|q;exact LI
   obtain⟨r4,h13,h⟩:=bs h;refine cW.introE (Z1q hI (nid:=11) h13) fz rfl<|zz ?_;obtain⟨m1,h14,h⟩:=bind_some h;obtain⟨h15,h16,h17,h18⟩:=Z0l h14;have h18:=h18 Z6.d;try simp only[sevalprocAttr,List.map_nil,dd] at h18
   have q:=And.intro @h15<|And.intro @h16<|And.intro @h17<|And.intro @h18<|q;exact LI
  exact Le
 exact Lg
def Z1u (e_0:Z0):Option (Z0) :=
 ((Z5a e_0.Rows).bind fun r7=>(some (Z0.mk e_0.ID e_0.Span e_0.Region e_0.Kind e_0.Speaker r7)))
theorem Z4X{I:World->Prop}(hI:Stab I){e_0:Z0}{r:Z0}(h:Z1u e_0=some r):AFun Tryz.prog I 66 [Z0.d e_0] (Z0.d r):=by
 have dd:=Z3g;have k:=True.intro;have q:=k;have rs:=Tryz.results66;unfold Z1u at h;refine .en hI Tryz.func66 Tryz.ntmps66 ?_;refine xs<|rz ?_;refine es<|xs<|rK fun K _ E J=>zz ?_;obtain⟨r7,h8,h⟩:=bs h;refine cw (ZcS hI h8)<|zz ?_;exact LQ
def Z3P (r0:(List Z0))(x0:Unit):Option (Nx (Unit) (Unit)) :=
 (if(decide (0 < (r0.length:Int))) then((atI r0 0).bind fun y0=>((Z1u y0).bind fun r1=>none)) else(some (.out ())))
def Z2l (r0:(List Z0))(x0:Int × (List Z0)):Option (Nx (Int × (List Z0)) ((List Z0))) :=
 (if(decide (x0.1 < ((r0.length:Nat):Int))) then((atI x0.2 x0.1).bind fun y0=>((Z1u y0).bind fun r1=>((setI x0.2 x0.1 r1).bind fun m0=>(some (.go ((IntKind.i64.wrap (x0.1+1)),m0)))))) else(some (.out x0.2)))
def Z3t (d_0:Z2):Option (Z2) :=
 ((ZB d_0.Regions).bind fun r9=>((Zy d_0.Comments).bind fun r0=>(if d_0.Events.isEmpty then((ZE d_0.Events).bind fun r1=>((iter (Z3P r1) ()).bind fun e0=>(some (Z2.mk d_0.Title d_0.Lang d_0.Rate d_0.Drop d_0.Last r9 r1 r0)))) else((Zl d_0.Events).bind fun r2=>((iter (Z2l r2) (0,r2)).bind fun e1=>(some (Z2.mk d_0.Title d_0.Lang d_0.Rate d_0.Drop d_0.Last r9 e1 r0)))))))
theorem Zab{I:World->Prop}(hI:Stab I){d_0:Z2}{r:Z2}(h:Z3t d_0=some r):AFun Tryz.prog I 24 [Z2.d d_0] (Z2.d r):=by
 have dd:=Z3g;have k:=True.intro;have q:=k;have rs:=Tryz.results24;unfold Z3t at h;refine .en hI Tryz.func24 Tryz.ntmps24 ?_;refine xs<|rz ?_;refine es<|xs<|rD hI fun K _ E J=>zz ?_;obtain⟨r9,h0,h⟩:=bs h;refine cd (Z2x hI h0)<|zz ?_;obtain⟨r0,h1,h⟩:=bs h;refine cd (Z2h hI h1)<|zz ?_;refine hd<|zz ?_;refine hd<|zz ?_;subst E J;refine es<|xs<|rK fun K _ E J=>zz ?_;obtain⟨k,h⟩|⟨k,h⟩:=iK k h
 ·obtain⟨r1,h2,h⟩:=bs h;refine cw (Z36 hI h2)<|zz ?_;subst E J;refine es<|xs<|xs<|rz ?_;refine es<|xb ?_;obtain⟨e0,h3,h⟩:=bs h;refine Zb (fun x0=>⟨envL [(1,.ptr 0 0),(2,.ptr 1 0),(18,.sl (r1.map Z0.d)),(19,.int .i64 (r1.length:Int)),(20,.int .i64 0)],Z5 [(0,.box none [.str d_0.Title,.str d_0.Lang,.int .u8 d_0.Rate,.bool d_0.Drop,.int .i64 d_0.Last,.sl (r9.map Z3.d),.sl (r1.map Z0.d),.sl (r0.map Z4.d)]),(1,.box none [.str [],.str [],.int .u8 0,.bool false,.int .i64 0,.nils,.nils,.nils])],2,33⟩) (fun _=>.exit 0) (fun e0=>⟨envL [(1,.ptr 0 0),(2,.ptr 1 0)],Z5 [(0,.box none [.str d_0.Title,.str d_0.Lang,.int .u8 d_0.Rate,.bool d_0.Drop,.int .i64 d_0.Last,.sl (r9.map Z3.d),.sl (r1.map Z0.d),.sl (r0.map Z4.d)]),(1,.box none [.str [],.str [],.int .u8 0,.bool false,.int .i64 0,.nils,.nils,.nils])],2,33⟩) h3 (wk []) (by intro w;simp) ?_ ?_
  ·clear h;intro x0 y h;unfold Z3P at h;refine xs<|rz ?_;refine es<|xs ?_;obtain⟨k,h⟩|⟨k,h⟩:=iK k h
   ·refine xt<|xk<|es<|xs<|xb<|xs<|rK fun K _ E J=>zz ?_;obtain⟨y0,q,h⟩:=bK q h;refine zz ?_;subst E J;refine es<|rD hI fun K _ E J=>zz ?_;obtain⟨r2,h4,h⟩:=bs h;refine cd (Z4X hI h4)<|zz ?_;cases h
   exact Le
  exact Lg
 obtain⟨r3,h5,h⟩:=bs h;refine cW.introE (Z14 hI (nid:=14) h5) fz rfl<|zz ?_;subst E J;refine es<|xs<|xs<|rz ?_;refine es<|xb ?_;obtain⟨e1,h6,h⟩:=bs h;refine Zb (fun x1=>⟨envL [(1,.ptr 0 0),(2,.ptr 2 0),(18,.own 1 x1.2.length),(19,.int .i64 ((r3.length:Nat):Int)),(20,.int .i64 x1.1)],Z5 [(0,.box none [.str d_0.Title,.str d_0.Lang,.int .u8 d_0.Rate,.bool d_0.Drop,.int .i64 d_0.Last,.sl (r9.map Z3.d),.own 1 x1.2.length,.sl (r0.map Z4.d)]),(1,.vec 64 7 (x1.2.map Z0.d) false),(2,.box none [.str [],.str [],.int .u8 0,.bool false,.int .i64 0,.nils,.nils,.nils])],3,33⟩) (fun _=>.exit 0) (fun e1=>⟨envL [(1,.ptr 0 0),(2,.ptr 2 0)],Z5 [(0,.box none [.str d_0.Title,.str d_0.Lang,.int .u8 d_0.Rate,.bool d_0.Drop,.int .i64 d_0.Last,.sl (r9.map Z3.d),.own 1 e1.length,.sl (r0.map Z4.d)]),(1,.vec 64 7 (e1.map Z0.d) false),(2,.box none [.str [],.str [],.int .u8 0,.bool false,.int .i64 0,.nils,.nils,.nils])],3,33⟩) h6 (wk [(1,some 14),(2,some 1)]) (by intro w;simp) ?_ ?_
 ·clear h;intro x1 y h;unfold Z2l at h;refine xs<|rz ?_;refine es<|xs ?_;obtain⟨k,h⟩|⟨k,h⟩:=iK k h
  ·refine xt<|xk<|es<|xs<|xb<|xs<|rK fun K _ E J=>zz ?_;obtain⟨y1,q,h⟩:=oN q h;refine zz ?_;subst E J;refine es<|rD hI fun K _ E J=>zz ?_;obtain⟨r4,h7,h⟩:=bs h;refine cd (Z4X hI h7)<|zz ?_;obtain⟨m0,h8,h⟩:=bind_some h;obtain⟨h9,h11,h13,h14⟩:=Z0l h8;have h14:=h14 Z0.d;try simp only[sevalprocAttr,List.map_nil,dd] at h14
   have q:=And.intro @h9<|And.intro @h11<|And.intro @h13<|And.intro @h14<|q;exact Lw
  exact Le
 exact Lg
def Z5X (r0:(List Z0))(x0:Unit):Option (Nx (Unit) (Unit)) :=
 (if(decide (0 < (r0.length:Int))) then((atI r0 0).bind fun y0=>((Z1u y0).bind fun r1=>none)) else(some (.out ())))
def Z4n (r0:(List Z0))(x0:Int × (List Z0)):Option (Nx (Int × (List Z0)) ((List Z0))) :=
 (if(decide (x0.1 < ((r0.length:Nat):Int))) then((atI x0.2 x0.1).bind fun y0=>((Z1u y0).bind fun r1=>((setI x0.2 x0.1 r1).bind fun m0=>(some (.go ((IntKind.i64.wrap (x0.1+1)),m0)))))) else(some (.out x0.2)))
def Z2k (d_0:Z2):Option (Z2) :=
 ((ZB d_0.Regions).bind fun r9=>((Zy d_0.Comments).bind fun r0=>(if d_0.Events.isEmpty then((ZE d_0.Events).bind fun r1=>((iter (Z5X r1) ()).bind fun e0=>none)) else((Zl d_0.Events).bind fun r2=>((iter (Z4n r2) (0,r2)).bind fun e1=>(some (Z2.mk d_0.Title d_0.Lang d_0.Rate d_0.Drop d_0.Last r9 e1 r0)))))))
theorem Z8X{I:World->Prop}(hI:Stab I){H:Nat->Option Blk}{nid:Nat}{d_0:Z2}{r:Z2}(h:Z2k d_0=some r):Zi Tryz.prog I 24 [Z2.d d_0] H nid (.agg [.str r.Title,.str r.Lang,.int .u8 r.Rate,.bool r.Drop,.int .i64 r.Last,.sl (r.Regions.map Z3.d),.own nid r.Events.length,.sl (r.Comments.map Z4.d)]) [(nid,some (.vec 64 7 (r.Events.map Z0.d) false))]:=by
 refine Zi.own hI Tryz.func24 rfl (by decide) (by simp[Tryz.f24]) (by kernel_rfl) rfl rfl ?_;have dd:=Z3g;have k:=True.intro;have q:=k;have rs:=Tryz.results24;unfold Z2k at h;simp only[List.length_cons,List.length_nil,Nat.zero_add,Nat.reduceAdd,Tryz.ntmps24,dd];refine xs<|rz ?_;refine es<|xs<|rD hI fun K _ E J=>zz ?_;obtain⟨r9,h0,h⟩:=bs h;refine cd (Z2x hI h0)<|zz ?_;obtain⟨r0,h1,h⟩:=bs h;refine cd (Z2h hI h1)<|zz ?_;refine hd<|zz ?_;refine hd<|zz ?_;subst E J;refine es<|xs<|rK fun K _ E J=>zz ?_;obtain⟨k,h⟩|⟨k,h⟩:=iK k h
 ·obtain⟨r1,h2,h⟩:=bs h;refine cw (Z36 hI h2)<|zz ?_;subst E J;refine es<|xs<|xs<|rz ?_;refine es<|xb ?_;obtain⟨e0,h3,h⟩:=bs h;refine Zb (fun x0=>⟨envL [(1,.ptr 0 0),(2,.ptr 1 0),(18,.sl (r1.map Z0.d)),(19,.int .i64 (r1.length:Int)),(20,.int .i64 0)],Z5 [(0,.box none [.str d_0.Title,.str d_0.Lang,.int .u8 d_0.Rate,.bool d_0.Drop,.int .i64 d_0.Last,.sl (r9.map Z3.d),.sl (r1.map Z0.d),.sl (r0.map Z4.d)]),(1,.box none [.str [],.str [],.int .u8 0,.bool false,.int .i64 0,.nils,.nils,.nils])],2,33⟩) (fun _=>.exit 0) (fun e0=>⟨envL [(1,.ptr 0 0),(2,.ptr 1 0)],Z5 [(0,.box none [.str d_0.Title,.str d_0.Lang,.int .u8 d_0.Rate,.bool d_0.Drop,.int .i64 d_0.Last,.sl (r9.map Z3.d),.sl (r1.map Z0.d),.sl (r0.map Z4.d)]),(1,.box none [.str [],.str [],.int .u8 0,.bool false,.int .i64 0,.nils,.nils,.nils])],2,33⟩) h3 (wk []) (by intro w;simp) ?_ ?_
  ·clear h;intro x0 y h;unfold Z5X at h;refine xs<|rz ?_;refine es<|xs ?_;obtain⟨k,h⟩|⟨k,h⟩:=iK k h
   ·refine xt<|xk<|es<|xs<|xb<|xs<|rK fun K _ E J=>zz ?_;obtain⟨y0,q,h⟩:=bK q h;refine zz ?_;subst E J;refine es<|rD hI fun K _ E J=>zz ?_;obtain⟨r2,h4,h⟩:=bs h;refine cd (Z4X hI h4)<|zz ?_;cases h
   exact Le
  refine bh<|es<|xs<|rz ?_;refine es<|xr ?_;cases h
 obtain⟨r3,h5,h⟩:=bs h;refine cW.introE (Z14 hI (nid:=14) h5) fz rfl<|zz ?_;subst E J;refine es<|xs<|xs<|rz ?_;refine es<|xb ?_;obtain⟨e1,h6,h⟩:=bs h;refine Zb (fun x1=>⟨envL [(1,.ptr 0 0),(2,.ptr 2 0),(18,.own 1 x1.2.length),(19,.int .i64 ((r3.length:Nat):Int)),(20,.int .i64 x1.1)],Z5 [(0,.box none [.str d_0.Title,.str d_0.Lang,.int .u8 d_0.Rate,.bool d_0.Drop,.int .i64 d_0.Last,.sl (r9.map Z3.d),.own 1 x1.2.length,.sl (r0.map Z4.d)]),(1,.vec 64 7 (x1.2.map Z0.d) false),(2,.box none [.str [],.str [],.int .u8 0,.bool false,.int .i64 0,.nils,.nils,.nils])],3,33⟩) (fun _=>.exit 0) (fun e1=>⟨envL [(1,.ptr 0 0),(2,.ptr 2 0)],Z5 [(0,.box none [.str d_0.Title,.str d_0.Lang,.int .u8 d_0.Rate,.bool d_0.Drop,.int .i64 d_0.Last,.sl (r9.map Z3.d),.own 1 e1.length,.sl (r0.map Z4.d)]),(1,.vec 64 7 (e1.map Z0.d) false),(2,.box none [.str [],.str [],.int .u8 0,.bool false,.int .i64 0,.nils,.nils,.nils])],3,33⟩) h6 (wk [(1,some 14),(2,some 1)]) (by intro w;simp) ?_ ?_
 ·clear h;intro x1 y h;unfold Z4n at h;refine xs<|rz ?_;refine es<|xs ?_;obtain⟨k,h⟩|⟨k,h⟩:=iK k h
  ·refine xt<|xk<|es<|xs<|xb<|xs<|rK fun K _ E J=>zz ?_;obtain⟨y1,q,h⟩:=oN q h;refine zz ?_;subst E J;refine es<|rD hI fun K _ E J=>zz ?_;obtain⟨r4,h7,h⟩:=bs h;refine cd (Z4X hI h7)<|zz ?_;obtain⟨m0,h8,h⟩:=bind_some h;obtain⟨h9,h11,h13,h14⟩:=Z0l h8;have h14:=h14 Z0.d;try simp only[sevalprocAttr,List.map_nil,dd] at h14
   have q:=And.intro @h9<|And.intro @h11<|And.intro @h13<|And.intro @h14<|q;exact Lw
  exact Le
 refine bh<|es<|xs<|rz ?_;refine es<|xr ?_;cases h;exact en (fO 1)
def Z3b (x_0:Z0)(a_1:Int):Option (Bool) :=
 (some (x_0.ID == a_1))
theorem Z78{I:World->Prop}(hI:Stab I){x_0:Z0}{a_1:Int}{r:Bool}(h:Z3b x_0 a_1=some r):AFun Tryz.prog I 68 [Z0.d x_0,.iptr [.int .i64 a_1]] (.bool r):=by
 have dd:=Z3g;have k:=True.intro;have q:=k;have rs:=Tryz.results68;unfold Z3b at h;refine .en hI Tryz.func68 Tryz.ntmps68 ?_;exact LA
def ZP (s_0:List Z0)(c1_0:Int)(x5:Int):Option (Nx (Int) (Int ⊕ Unit)) :=
 (if(decide (x5 < (s_0.length:Int))) then((atI s_0 x5).bind fun y0=>((Z3b y0 c1_0).bind fun r0=>(if r0 then(some (.out (.inl x5))) else(some (.go (IntKind.i64.wrap (x5+1))))))) else(some (.out (.inr ()))))
def Z0p (s_0:List Z0)(c1_0:Int):Option (Int) :=
 ((iter (ZP s_0 c1_0) 0).bind fun e6=>(match e6 with|Sum.inl e6=>(some e6)|Sum.inr (e6)=>(some (-1))))
theorem Z5i{I:World->Prop}(hI:Stab I){s_0:List Z0}{c1_0:Int}{r:Int}(h:Z0p s_0 c1_0=some r):AFun Tryz.prog I 67 [.sl (s_0.map Z0.d),.fn 68 [.iptr [.int .i64 c1_0]]] (.int .i64 r):=by
 have dd:=Z3g;have k:=True.intro;have q:=k;have rs:=Tryz.results67;unfold Z0p at h;refine .en hI Tryz.func67 Tryz.ntmps67 ?_;refine xs<|rz ?_;refine es<|xs<|xs<|rz ?_;refine es<|xb ?_;obtain⟨e6,h0,h⟩:=bs h;refine Zb (fun x5=>⟨envL [(0,.sl (s_0.map Z0.d)),(1,.fn 68 [.iptr [.int .i64 c1_0]]),(7,.int .i64 (s_0.length:Int)),(8,.int .i64 x5)],Z5 [],0,19⟩) (fun w=>match w with|Sum.inl _=>.ret|Sum.inr (_)=>.exit 0) (fun w=>match w with|Sum.inl e6=>⟨envL [(4,.int .i64 e6)],Z5 [],0,19⟩|Sum.inr (e6)=>⟨envL [],Z5 [],0,19⟩) h0 (wk []) (by intro w;rcases w with w|w<;>simp) ?_ ?_
 ·clear h;intro x5 y h;unfold ZP at h;refine xs<|rz ?_;refine es<|xs ?_;obtain⟨k,h⟩|⟨k,h⟩:=iK k h
  ·refine xt<|xk<|es<|xs<|xb<|xs<|rz ?_;refine es<|xs<|rK fun K _ E J=>zz ?_;obtain⟨y0,q,h⟩:=bK q h;refine zz ?_;obtain⟨r0,h1,h⟩:=bs h;refine cw (Z78 hI h1)<|zz ?_;subst E J;refine es ?_;obtain⟨k,h⟩|⟨k,h⟩:=iK k h
   ·exact Lk
   exact Ll
  exact Le
 rcases e6 with e6|e6
 ·try dsimp only at h ⊢
  exact Li
 try dsimp only at h ⊢
 exact Lg
def Z0C (s_0:List Z0)(c1_0:Int)(x5:Int):Option (Nx (Int) (Int ⊕ Unit)) :=
 (if(decide (x5 < ((s_0.length:Nat):Int))) then((atI s_0 x5).bind fun y0=>((Z3b y0 c1_0).bind fun r0=>(if r0 then(some (.out (.inl x5))) else(some (.go (IntKind.i64.wrap (x5+1))))))) else(some (.out (.inr ()))))
def ZO (s_0:List Z0)(c1_0:Int):Option (Int) :=
 ((iter (Z0C s_0 c1_0) 0).bind fun e6=>(match e6 with|Sum.inl e6=>(some e6)|Sum.inr (e6)=>(some (-1))))
theorem Z4x{I:World->Prop}(hI:Stab I){H:Nat->Option Blk}{nid i0:Nat}{pn:Option Value}{s_0:List Z0}{c1_0:Int}{r:Int}(h:ZO s_0 c1_0=some r)(b0:H i0=some (rowB pn 64 7 (s_0.map Z0.d))):Zi Tryz.prog I 67 [.own i0 s_0.length,.fn 68 [.iptr [.int .i64 c1_0]]] H nid (.int .i64 r) []:=by
 refine Zi.ro (eff:=[(i0,some (rowB pn 64 7 (s_0.map Z0.d)))]) (Zi.inrow (i0:=i0) (ds0:=[.own 0 s_0.length,.fn 68 [.iptr [.int .i64 c1_0]]]) hI Tryz.func67 rfl (by decide) (by simp[Tryz.f67]) (by kernel_rfl) rfl rfl b0 fun uv=>?_) (ro1 b0);have dd:=Z3g;have k:=True.intro;have q:=k;have rs:=Tryz.results67;unfold ZO at h;simp only[List.length_cons,List.length_nil,Nat.zero_add,Nat.reduceAdd,Tryz.ntmps67,dd];refine xs<|rz ?_;refine es<|xs<|xs<|rz ?_;refine es<|xb ?_;obtain⟨e6,h0,h⟩:=bs h;refine Zb (fun x5=>⟨envL [(0,.own 0 s_0.length),(1,.fn 68 [.iptr [.int .i64 c1_0]]),(7,.int .i64 ((s_0.length:Nat):Int)),(8,.int .i64 x5)],Z5 [(0,.lrow uv 64 7 (s_0.map Z0.d))],1,19⟩) (fun w=>match w with|Sum.inl _=>.ret|Sum.inr (_)=>.exit 0) (fun w=>match w with|Sum.inl e6=>⟨envL [(0,.own 0 s_0.length),(4,.int .i64 e6)],Z5 [(0,.lrow uv 64 7 (s_0.map Z0.d))],1,19⟩|Sum.inr (e6)=>⟨envL [(0,.own 0 s_0.length)],Z5 [(0,.lrow uv 64 7 (s_0.map Z0.d))],1,19⟩) h0 (wk []) (by intro w;rcases w with w|w<;>simp) ?_ ?_
 ·clear h;intro x5 y h;unfold Z0C at h;refine xs<|rz ?_;refine es<|xs ?_;obtain⟨k,h⟩|⟨k,h⟩:=iK k h
  ·refine xt<|xk<|es<|xs<|xb<|xs<|rz ?_;refine es<|xs<|rK fun K _ E J=>zz ?_;obtain⟨y0,q,h⟩:=oN q h;refine zz ?_;obtain⟨r0,h1,h⟩:=bs h;refine cw (Z78 hI h1)<|zz ?_;subst E J;refine es ?_;obtain⟨k,h⟩|⟨k,h⟩:=iK k h
   ·exact Lk
   exact Ll
  exact Le
 rcases e6 with e6|e6
 ·try dsimp only at h ⊢
  refine br<|er ?_;exact LS
 try dsimp only at h ⊢
 exact LE
theorem Z4r{I:World->Prop}(hI:Stab I){H:Nat->Option Blk}{nid i0:Nat}{u:Value}{s_0:List Z0}{c1_0:Int}{r:Int}(h:ZO s_0 c1_0=some r)(b0:H i0=some (.lrow u 64 7 (s_0.map Z0.d))):Zi Tryz.prog I 67 [.own i0 s_0.length,.fn 68 [.iptr [.int .i64 c1_0]]] H nid (.int .i64 r) [] :=
 Z4x hI (pn:=some u) h b0
def Z4a (d_0:Z2)(id_1:Int):Option (Int) :=
 ((Z0p d_0.Events id_1).bind fun r7=>(some r7))
theorem ZaN{I:World->Prop}(hI:Stab I){d_0:Z2}{id_1:Int}{r:Int}(h:Z4a d_0 id_1=some r):AFun Tryz.prog I 25 [Z2.d d_0,.int .i64 id_1] (.int .i64 r):=by
 have dd:=Z3g;have k:=True.intro;have q:=k;have rs:=Tryz.results25;unfold Z4a at h;refine .en hI Tryz.func25 Tryz.ntmps25 ?_;refine xs<|rz ?_;refine eWk _ ((Wk.freeze (id:=1) (cs:=[.int .i64 id_1]) fz fz).trans (wkF (l:=[(2,.ptr 0 0),(3,.iptr [.int .i64 id_1])]) (h:=[(0,.box none [.str d_0.Title,.str d_0.Lang,.int .u8 d_0.Rate,.bool d_0.Drop,.int .i64 d_0.Last,.sl (d_0.Regions.map Z3.d),.sl (d_0.Events.map Z0.d),.sl (d_0.Comments.map Z4.d)])]) (n:=3) []))<|xs<|rK fun K _ E J=>zz ?_;obtain⟨r7,h8,h⟩:=bs h;refine cw (Z5i hI h8)<|zz ?_;exact Lz
def Z1N (d_0:Z2)(id_1:Int):Option (Int) :=
 ((ZO d_0.Events id_1).bind fun r7=>(some r7))
theorem Z8Y{I:World->Prop}(hI:Stab I){H:Nat->Option Blk}{nid i0:Nat}{pn:Option Value}{d_0:Z2}{id_1:Int}{r:Int}(h:Z1N d_0 id_1=some r)(b0:H i0=some (rowB pn 64 7 (d_0.Events.map Z0.d))):Zi Tryz.prog I 25 [.agg [.str d_0.Title,.str d_0.Lang,.int .u8 d_0.Rate,.bool d_0.Drop,.int .i64 d_0.Last,.sl (d_0.Regions.map Z3.d),.own i0 d_0.Events.length,.sl (d_0.Comments.map Z4.d)],.int .i64 id_1] H nid (.int .i64 r) []:=by
 refine Zi.ro (eff:=[(i0,some (rowB pn 64 7 (d_0.Events.map Z0.d)))]) (Zi.inrow (i0:=i0) (ds0:=[.agg [.str d_0.Title,.str d_0.Lang,.int .u8 d_0.Rate,.bool d_0.Drop,.int .i64 d_0.Last,.sl (d_0.Regions.map Z3.d),.own 0 d_0.Events.length,.sl (d_0.Comments.map Z4.d)],.int .i64 id_1]) hI Tryz.func25 rfl (by decide) (by simp[Tryz.f25]) (by kernel_rfl) rfl rfl b0 fun uv=>?_) (ro1 b0);have dd:=Z3g;have k:=True.intro;have q:=k;have rs:=Tryz.results25;unfold Z1N at h;simp only[List.length_cons,List.length_nil,Nat.zero_add,Nat.reduceAdd,Tryz.ntmps25,dd];refine xs<|rz ?_;refine eWk _ ((Wk.freeze (id:=2) (cs:=[.int .i64 id_1]) fz fz).trans (wkF (l:=[(0,.agg [.str d_0.Title,.str d_0.Lang,.int .u8 d_0.Rate,.bool d_0.Drop,.int .i64 d_0.Last,.sl (d_0.Regions.map Z3.d),.own 0 d_0.Events.length,.sl (d_0.Comments.map Z4.d)]),(2,.ptr 1 0),(3,.iptr [.int .i64 id_1])]) (h:=[(0,.lrow uv 64 7 (d_0.Events.map Z0.d)),(1,.box none [.str d_0.Title,.str d_0.Lang,.int .u8 d_0.Rate,.bool d_0.Drop,.int .i64 d_0.Last,.sl (d_0.Regions.map Z3.d),.own 0 d_0.Events.length,.sl (d_0.Comments.map Z4.d)])]) (n:=4) []))<|xs<|rK fun K _ E J=>zz ?_;obtain⟨r7,h8,h⟩:=bs h;refine rW.intro (Z4r hI (nid:=7) (i0:=0) (u:=uv) h8 fz) fi rfl<|zz ?_;subst E J;refine es<|xr ?_;exact LS
theorem Z95{I:World->Prop}(hI:Stab I){H:Nat->Option Blk}{nid i0:Nat}{d_0:Z2}{id_1:Int}{r:Int}(h:Z1N d_0 id_1=some r)(b0:H i0=some (.vec 64 7 (d_0.Events.map Z0.d) false)):Zi Tryz.prog I 25 [.agg [.str d_0.Title,.str d_0.Lang,.int .u8 d_0.Rate,.bool d_0.Drop,.int .i64 d_0.Last,.sl (d_0.Regions.map Z3.d),.own i0 d_0.Events.length,.sl (d_0.Comments.map Z4.d)],.int .i64 id_1] H nid (.int .i64 r) [] :=
 Z8Y hI (pn:=none) h b0
def Z3c (a_0:Z0)(b_1:Z0):Option (Int) :=
 ((Z0G a_0.Span.In b_1.Span.In).bind fun r0=>((Z0G a_0.ID b_1.ID).bind fun r1=>((Z4z [r0,r1]).bind fun r2=>(some r2))))
theorem Z9V{I:World->Prop}(hI:Stab I){a_0:Z0}{b_1:Z0}{r:Int}(h:Z3c a_0 b_1=some r):AFun Tryz.prog I 103 [Z0.d a_0,Z0.d b_1] (.int .i64 r):=by
 have dd:=Z3g;have k:=True.intro;have q:=k;have rs:=Tryz.results103;unfold Z3c at h;refine .en hI Tryz.func103 Tryz.ntmps103 ?_;refine xs<|rz ?_;refine es<|xs<|rD hI fun K _ E J=>zz ?_;obtain⟨r0,h0,h⟩:=bs h;refine cd (Z3N hI h0)<|zz ?_;obtain⟨r1,h1,h⟩:=bs h;refine cd (Z3N hI h1)<|zz ?_;obtain⟨r2,h2,h⟩:=bs h;refine cd (Z91 hI h2)<|zz ?_;exact Lz
def ZK (a_1:Int)(x0:Int × (List Z0)):Option (Nx (Int × (List Z0)) ((List Z0))) :=
 (((if(decide (a_1 < x0.1)) then((atI x0.2 x0.1).bind fun y0=>((atI x0.2 (IntKind.i64.wrap (x0.1 - 1))).bind fun y1=>((Z3c y0 y1).bind fun r0=>(some (decide (r0 < 0)))))) else(some false)):Option (Bool)).bind fun v0=>(if v0 then((atI x0.2 (IntKind.i64.wrap (x0.1 - 1))).bind fun y2=>((atI x0.2 x0.1).bind fun y3=>((setI x0.2 x0.1 y2).bind fun m0=>((atI m0 (IntKind.i64.wrap (x0.1 - 1))).bind fun y4=>((setI m0 (IntKind.i64.wrap (x0.1 - 1)) y3).bind fun m1=>(some (.go ((IntKind.i64.wrap (x0.1 - 1)),m1)))))))) else(some (.out x0.2))))
def Z03 (a_1:Int)(b_2:Int)(x3:Int × (List Z0)):Option (Nx (Int × (List Z0)) ((List Z0))) :=
 (if(decide (x3.1 < b_2)) then((iter (ZK a_1) (x3.1,x3.2)).bind fun e0=>(some (.go ((IntKind.i64.wrap (x3.1+1)),e0)))) else(some (.out x3.2)))
def ZQ (data_0:List Z0)(a_1:Int)(b_2:Int):Option ((List Z0)) :=
 ((iter (Z03 a_1 b_2) ((IntKind.i64.wrap (a_1+1)),data_0)).bind fun e4=>(some e4))
theorem Z4K{I:World->Prop}(hI:Stab I){H:Nat->Option Blk}{nid i0:Nat}{pn:Option Value}{data_0:List Z0}{a_1:Int}{b_2:Int}{r:(List Z0)}(h:ZQ data_0 a_1 b_2=some r)(b0:H i0=some (rowB pn 64 7 (data_0.map Z0.d))):Zi Tryz.prog I 168 [.own i0 data_0.length,.int .i64 a_1,.int .i64 b_2,.fn 103 []] H nid (.tup []) [(i0,some (rowB pn 64 7 (r.map Z0.d)))]:=by
 refine Zi.inrow (i0:=i0) (ds0:=[.own 0 data_0.length,.int .i64 a_1,.int .i64 b_2,.fn 103 []]) hI Tryz.func168 rfl (by decide) (by simp[Tryz.f168]) (by kernel_rfl) rfl rfl b0 fun uv=>?_;have dd:=Z3g;have k:=True.intro;have q:=k;have rs:=Tryz.results168;unfold ZQ at h;simp only[List.length_cons,List.length_nil,Nat.zero_add,Nat.reduceAdd,Tryz.ntmps168,dd];refine xs<|rz ?_;refine es<|xb ?_;obtain⟨e4,h0,h⟩:=bs h;refine Zb (fun x3=>⟨envL [(0,.own 0 x3.2.length),(1,.int .i64 a_1),(2,.int .i64 b_2),(3,.fn 103 []),(8,.int .i64 x3.1)],Z5 [(0,.lrow uv 64 7 (x3.2.map Z0.d))],1,53⟩) (fun _=>.exit 0) (fun e4=>⟨envL [(0,.own 0 e4.length)],Z5 [(0,.lrow uv 64 7 (e4.map Z0.d))],1,53⟩) h0 (wk []) (by intro w;simp) ?_ ?_
 ·clear h;intro x3 y h;unfold Z03 at h;refine xs<|xs<|rz ?_;refine es ?_;obtain⟨k,h⟩|⟨k,h⟩:=iK k h
  ·refine xt<|xk<|es<|xs<|xb<|xs<|rz ?_;refine es<|xb ?_;obtain⟨e0,h1,h⟩:=bs h;refine Zb (fun x0=>⟨envL [(0,.own 0 x0.2.length),(1,.int .i64 a_1),(2,.int .i64 b_2),(3,.fn 103 []),(8,.int .i64 x3.1),(9,.int .i64 x0.1)],Z5 [(0,.lrow uv 64 7 (x0.2.map Z0.d))],1,53⟩) (fun _=>.exit 2) (fun e0=>⟨envL [(0,.own 0 e0.length),(1,.int .i64 a_1),(2,.int .i64 b_2),(3,.fn 103 []),(8,.int .i64 x3.1)],Z5 [(0,.lrow uv 64 7 (e0.map Z0.d))],1,53⟩) h1 (wk []) (by intro w;simp) ?_ ?_
   ·clear h;intro x0 y h;unfold ZK at h;refine xs ?_;obtain⟨v0,h2,h⟩:=bs h;refine Zk (fun v0=>⟨envL [(0,.own 0 x0.2.length),(1,.int .i64 a_1),(2,.int .i64 b_2),(3,.fn 103 []),(8,.int .i64 x3.1),(9,.int .i64 x0.1),(34,.bool v0)],Z5 [(0,.lrow uv 64 7 (x0.2.map Z0.d))],1,53⟩) h2 ?_ ?_
    ·clear h;intro v0 h;refine rD hI fun K _ E J=>zz ?_;obtain⟨k,h⟩|⟨k,h⟩:=iK k h
     ·refine zz ?_;obtain⟨y0,q,h⟩:=oN q h;refine zz ?_;obtain⟨y1,q,h⟩:=oN q h;refine zz ?_;obtain⟨r0,h3,h⟩:=bs h;refine cd (Z9V hI h3)<|zz ?_;exact LO
     exact Ld
    obtain⟨k,h⟩|⟨k,h⟩:=iK k h
    ·refine xt<|xk<|es<|xs<|xb<|rD hI fun K _ E J=>zz ?_;obtain⟨y2,q,h⟩:=oN q h;refine zz ?_;obtain⟨y3,q,h⟩:=oN q h;refine zz ?_;obtain⟨m0,h4,h⟩:=bind_some h;obtain⟨h5,h6,h7,h8⟩:=Z0l h4;have h8:=h8 Z0.d;try simp only[sevalprocAttr,List.map_nil,dd] at h8
     have q:=And.intro @h5<|And.intro @h6<|And.intro @h7<|And.intro @h8<|q;refine zz ?_;refine hd<|zz ?_;obtain⟨y4,q,h⟩:=oN q h;refine zz ?_;obtain⟨m1,h9,h⟩:=bind_some h;obtain⟨h10,h11,h12,h13⟩:=Z0l h9;have h13:=h13 Z0.d;try simp only[sevalprocAttr,List.map_nil,dd] at h13
     have q:=And.intro @h10<|And.intro @h11<|And.intro @h12<|And.intro @h13<|q;exact Lw
    exact Le
   exact LK
  exact Le
 refine bh ?_;exact LS
def Zp (data_0:List Z0)(a_1:Int)(b_2:Int):Option ((List Z0)):=(ZQ data_0 a_1 b_2).bind fun r=>if r.length=data_0.length then some r else none
theorem Z1x{data_0:List Z0}{a_1:Int}{b_2:Int}{r:(List Z0)}(h:Zp data_0 a_1 b_2=some r):data_0.length=r.length:=by
 unfold Zp at h;obtain⟨x,_,h⟩:=bs h;obtain⟨h1,h⟩:=Zo h;cases h;exact h1.symm
theorem Z4y{data_0:List Z0}{a_1:Int}{b_2:Int}{r:(List Z0)}(h:Zp data_0 a_1 b_2=some r):ZQ data_0 a_1 b_2=some r:=by
 unfold Zp at h;obtain⟨x,h0,h⟩:=bs h;obtain⟨h1,h⟩:=Zo h;cases h;exact h0
theorem Z1S{I:World->Prop}(hI:Stab I){H:Nat->Option Blk}{nid i0:Nat}{u:Value}{data_0:List Z0}{a_1:Int}{b_2:Int}{r:(List Z0)}(h:Zp data_0 a_1 b_2=some r)(b0:H i0=some (.lrow u 64 7 (data_0.map Z0.d))):Zi Tryz.prog I 168 [.own i0 data_0.length,.int .i64 a_1,.int .i64 b_2,.fn 103 []] H nid (.tup []) [(i0,some (.lrow u 64 7 (r.map Z0.d)))] :=
 Z4K hI (pn:=some u) (Z4y h) b0
def Z0t (n_1:Int)(x0:Int × Int × (List Z0)):Option (Nx (Int × Int × (List Z0)) ((List Z0) × Int)) :=
 (if(decide (x0.2.1<=n_1)) then((Zp x0.2.2 x0.1 x0.2.1).bind fun r0=>(some (.go (x0.2.1,(IntKind.i64.wrap (x0.2.1+20)),r0)))) else(some (.out (x0.2.2,x0.1))))
def Z2w (n_1:Int)(x0:Int × (List Z0))(x1:Int × Int × (List Z0)):Option (Nx (Int × Int × (List Z0)) ((List Z0) × Int)) :=
 (if(decide (x1.2.1<=n_1)) then((Z0H x1.2.2 x1.1 (IntKind.i64.wrap (x1.1+x0.1)) x1.2.1).bind fun r0=>(some (.go (x1.2.1,(IntKind.i64.wrap (x1.2.1+(IntKind.i64.wrap (2 * x0.1)))),r0)))) else(some (.out (x1.2.2,x1.1))))
def Z0u (n_1:Int)(x0:Int × (List Z0)):Option (Nx (Int × (List Z0)) ((List Z0))) :=
 (if(decide (x0.1 < n_1)) then((iter (Z2w n_1 x0) (0,(IntKind.i64.wrap (2 * x0.1)),x0.2)).bind fun e0=>(if(decide ((IntKind.i64.wrap (e0.2+x0.1)) < n_1)) then((Z0H e0.1 e0.2 (IntKind.i64.wrap (e0.2+x0.1)) n_1).bind fun r0=>(some (.go ((IntKind.i64.wrap (x0.1 * 2)),r0)))) else(some (.go ((IntKind.i64.wrap (x0.1 * 2)),e0.1))))) else(some (.out x0.2)))
def Z0i (data_0:List Z0)(n_1:Int):Option ((List Z0)) :=
 ((iter (Z0t n_1) (0,20,data_0)).bind fun e0=>((Zp e0.1 e0.2 n_1).bind fun r0=>((iter (Z0u n_1) (20,r0)).bind fun e1=>(some e1))))
theorem Z5U{I:World->Prop}(hI:Stab I){H:Nat->Option Blk}{nid i0:Nat}{pn:Option Value}{data_0:List Z0}{n_1:Int}{r:(List Z0)}(h:Z0i data_0 n_1=some r)(b0:H i0=some (rowB pn 64 7 (data_0.map Z0.d))):Zi Tryz.prog I 143 [.own i0 data_0.length,.int .i64 n_1,.fn 103 []] H nid (.tup []) [(i0,some (rowB pn 64 7 (r.map Z0.d)))]:=by
 refine Zi.inrow (i0:=i0) (ds0:=[.own 0 data_0.length,.int .i64 n_1,.fn 103 []]) hI Tryz.func143 rfl (by decide) (by simp[Tryz.f143]) (by kernel_rfl) rfl rfl b0 fun uv=>?_;have dd:=Z3g;have k:=True.intro;have q:=k;have rs:=Tryz.results143;unfold Z0i at h;simp only[List.length_cons,List.length_nil,Nat.zero_add,Nat.reduceAdd,Tryz.ntmps143,dd];refine xs<|rz ?_;refine es<|xs<|rz ?_;refine es<|xs<|xb ?_;obtain⟨e0,h0,h⟩:=bs h;refine Zb (fun x0=>⟨envL [(0,.own 0 x0.2.2.length),(1,.int .i64 n_1),(2,.fn 103 []),(6,.int .i64 20),(7,.int .i64 x0.1),(8,.int .i64 x0.2.1)],Z5 [(0,.lrow uv 64 7 (x0.2.2.map Z0.d))],1,63⟩) (fun _=>.exit 0) (fun e0=>⟨envL [(0,.own 0 e0.1.length),(1,.int .i64 n_1),(2,.fn 103 []),(6,.int .i64 20),(7,.int .i64 e0.2)],Z5 [(0,.lrow uv 64 7 (e0.1.map Z0.d))],1,63⟩) h0 (wk []) (by intro w;simp) ?_ ?_
 ·clear h;intro x0 y h;unfold Z0t at h;refine xs<|xs<|rz ?_;refine es ?_;obtain⟨k,h⟩|⟨k,h⟩:=iK k h
  ·refine xt<|xk<|es<|xb<|xs<|rK fun K _ E J=>zz ?_;obtain⟨r0,h1,h⟩:=bs h;have q:=And.intro (Z1x h1) q;refine rW.intro (Z1S hI (nid:=8) (i0:=0) (u:=uv) h1 fz) fi rfl<|zz ?_;subst E J;refine es<|xs<|rz ?_;refine es<|rz ?_;exact LC
  exact Le
 refine bh<|es<|xs<|rK fun K _ E J=>zz ?_;obtain⟨r1,h2,h⟩:=bs h;have q:=And.intro (Z1x h2) q;refine rW.intro (Z1S hI (nid:=5) (i0:=0) (u:=uv) h2 fz) fi rfl<|zz ?_;subst E J;refine es<|xb ?_;obtain⟨e1,h3,h⟩:=bs h;refine Zb (fun x1=>⟨envL [(0,.own 0 x1.2.length),(1,.int .i64 n_1),(2,.fn 103 []),(6,.int .i64 x1.1)],Z5 [(0,.lrow uv 64 7 (x1.2.map Z0.d))],1,63⟩) (fun _=>.exit 2) (fun e1=>⟨envL [(0,.own 0 e1.length)],Z5 [(0,.lrow uv 64 7 (e1.map Z0.d))],1,63⟩) h3 (wk []) (by intro w;simp) ?_ ?_
 ·clear h;intro x1 y h;unfold Z0u at h;refine xs<|xs<|rz ?_;refine es ?_;obtain⟨k,h⟩|⟨k,h⟩:=iK k h
  ·refine xt<|xk<|es<|xb<|xs<|rz ?_;refine es<|xs<|xb ?_;obtain⟨e2,h4,h⟩:=bs h;refine Zb (fun x2=>⟨envL [(0,.own 0 x2.2.2.length),(1,.int .i64 n_1),(2,.fn 103 []),(6,.int .i64 x1.1),(7,.int .i64 x2.1),(8,.int .i64 x2.2.1)],Z5 [(0,.lrow uv 64 7 (x2.2.2.map Z0.d))],1,63⟩) (fun _=>.exit 4) (fun e2=>⟨envL [(0,.own 0 e2.1.length),(1,.int .i64 n_1),(2,.fn 103 []),(6,.int .i64 x1.1),(7,.int .i64 e2.2)],Z5 [(0,.lrow uv 64 7 (e2.1.map Z0.d))],1,63⟩) h4 (wk []) (by intro w;simp) ?_ ?_
   ·clear h;intro x2 y h;unfold Z2w at h;refine xs<|xs<|rz ?_;refine es ?_;obtain⟨k,h⟩|⟨k,h⟩:=iK k h
    ·refine xt<|xk<|es<|xb<|xs<|rK fun K _ E J=>zz ?_;obtain⟨r2,h5,h⟩:=bs h;have q:=And.intro (Z2i h5) q;refine rW.intro (Z2y hI (nid:=11) (i0:=0) (u:=uv) h5 fz) fi rfl<|zz ?_;subst E J;refine es<|xs<|rz ?_;refine es<|rz ?_;exact LC
    exact Le
   refine bh<|es<|xs<|xs<|rz ?_;refine es<|xs<|rz ?_;refine es ?_;obtain⟨k,h⟩|⟨k,h⟩:=iK k h
   ·refine xt<|rK fun K _ E J=>zz ?_;obtain⟨r3,h6,h⟩:=bs h;have q:=And.intro (Z2i h6) q;refine rW.intro (Z2y hI (nid:=13) (i0:=0) (u:=uv) h6 fz) fi rfl<|zz ?_;subst E J;refine es<|rz ?_;exact LC
   refine xf<|xk<|es<|rz ?_;exact LC
  exact Le
 refine bh ?_;exact LS
def ZC (data_0:List Z0)(n_1:Int):Option ((List Z0)):=(Z0i data_0 n_1).bind fun r=>if r.length=data_0.length then some r else none
theorem Z5y{data_0:List Z0}{n_1:Int}{r:(List Z0)}(h:ZC data_0 n_1=some r):data_0.length=r.length:=by
 unfold ZC at h;obtain⟨x,_,h⟩:=bs h;obtain⟨h1,h⟩:=Zo h;cases h;exact h1.symm
theorem Z5K{data_0:List Z0}{n_1:Int}{r:(List Z0)}(h:ZC data_0 n_1=some r):Z0i data_0 n_1=some r:=by
 unfold ZC at h;obtain⟨x,h0,h⟩:=bs h;obtain⟨h1,h⟩:=Zo h;cases h;exact h0
theorem Z5T{I:World->Prop}(hI:Stab I){H:Nat->Option Blk}{nid i0:Nat}{u:Value}{data_0:List Z0}{n_1:Int}{r:(List Z0)}(h:ZC data_0 n_1=some r)(b0:H i0=some (.lrow u 64 7 (data_0.map Z0.d))):Zi Tryz.prog I 143 [.own i0 data_0.length,.int .i64 n_1,.fn 103 []] H nid (.tup []) [(i0,some (.lrow u 64 7 (r.map Z0.d)))] :=
 Z5U hI (pn:=some u) (Z5K h) b0
def ZH (x_0:List Z0):Option ((List Z0)) :=
 ((ZC x_0 ((x_0.length:Nat):Int)).bind fun r2=>(some r2))
theorem Z44{I:World->Prop}(hI:Stab I){H:Nat->Option Blk}{nid i0:Nat}{pn:Option Value}{x_0:List Z0}{r:(List Z0)}(h:ZH x_0=some r)(b0:H i0=some (rowB pn 64 7 (x_0.map Z0.d))):Zi Tryz.prog I 102 [.own i0 x_0.length,.fn 103 []] H nid (.tup []) [(i0,some (rowB pn 64 7 (r.map Z0.d)))]:=by
 refine Zi.inrow (i0:=i0) (ds0:=[.own 0 x_0.length,.fn 103 []]) hI Tryz.func102 rfl (by decide) (by simp[Tryz.f102]) (by kernel_rfl) rfl rfl b0 fun uv=>?_;have dd:=Z3g;have k:=True.intro;have q:=k;have rs:=Tryz.results102;unfold ZH at h;simp only[List.length_cons,List.length_nil,Nat.zero_add,Nat.reduceAdd,Tryz.ntmps102,dd];refine rK fun K _ E J=>zz ?_;obtain⟨r2,h3,h⟩:=bs h;have q:=And.intro (Z5y h3) q;refine rW.intro (Z5T hI (nid:=5) (i0:=0) (u:=uv) h3 fz) fi rfl<|zz ?_;subst E J;exact LS
def Zt (x_0:List Z0):Option ((List Z0)):=(ZH x_0).bind fun r=>if r.length=x_0.length then some r else none
theorem Z3V{x_0:List Z0}{r:(List Z0)}(h:Zt x_0=some r):x_0.length=r.length:=by
 unfold Zt at h;obtain⟨x,_,h⟩:=bs h;obtain⟨h1,h⟩:=Zo h;cases h;exact h1.symm
theorem Z3W{x_0:List Z0}{r:(List Z0)}(h:Zt x_0=some r):ZH x_0=some r:=by
 unfold Zt at h;obtain⟨x,h0,h⟩:=bs h;obtain⟨h1,h⟩:=Zo h;cases h;exact h0
theorem Z4s{I:World->Prop}(hI:Stab I){H:Nat->Option Blk}{nid i0:Nat}{x_0:List Z0}{r:(List Z0)}(h:Zt x_0=some r)(b0:H i0=some (.vec 64 7 (x_0.map Z0.d) false)):Zi Tryz.prog I 102 [.own i0 x_0.length,.fn 103 []] H nid (.tup []) [(i0,some (.vec 64 7 (r.map Z0.d) false))] :=
 Z44 hI (pn:=none) (Z3W h) b0
def Z2D (l_0:List Z0)(x7:(List Z0) × Int):Option (Nx ((List Z0) × Int) ((List Z0))) :=
 (if(decide (x7.2 < (l_0.length:Int))) then((atI l_0 x7.2).bind fun y0=>((Z1u y0).bind fun r0=>(if(x7.1.length+1) * 88<=140737488355328 then(some (.go ((x7.1++[r0]),(IntKind.i64.wrap (x7.2+1))))) else none))) else(some (.out x7.1)))
def Z2K (l_0:List Z0):Option ((List Z0)) :=
 ((iter (Z2D l_0) ([],0)).bind fun e8=>((Zt e8).bind fun r0=>(some r0)))
theorem Z7H{I:World->Prop}(hI:Stab I){l_0:List Z0}{r:(List Z0)}(h:Z2K l_0=some r):AFun Tryz.prog I 49 [.sl (l_0.map Z0.d)] (.sl (r.map Z0.d)):=by
 have dd:=Z3g;have k:=True.intro;have q:=k;have rs:=Tryz.results49;unfold Z2K at h;refine .en hI Tryz.func49 Tryz.ntmps49 ?_;refine xs<|rz ?_;refine es<|xs<|rz ?_;refine es<|xs<|xs<|rz ?_;refine es<|xb ?_;obtain⟨e8,h0,h⟩:=bs h;refine Zb (fun x7=>⟨envL [(3,.own 0 x7.1.length),(6,.sl (l_0.map Z0.d)),(7,.int .i64 (l_0.length:Int)),(8,.int .i64 x7.2)],Z5 [(0,.vec 64 7 (x7.1.map Z0.d) false)],1,21⟩) (fun _=>.exit 0) (fun e8=>⟨envL [(3,.own 0 e8.length)],Z5 [(0,.vec 64 7 (e8.map Z0.d) false)],1,21⟩) h0 (wk [(0,none)]) (by intro w;simp) ?_ ?_
 ·clear h;intro x7 y h;unfold Z2D at h;refine xs<|rz ?_;refine es<|xs ?_;obtain⟨k,h⟩|⟨k,h⟩:=iK k h
  ·refine xt<|xk<|es<|xs<|xb<|xs<|rK fun K _ E J=>zz ?_;obtain⟨y0,q,h⟩:=bK q h;refine zz ?_;subst E J;refine es<|rK fun K _ E J=>zz ?_;obtain⟨r0,h1,h⟩:=bs h;refine cw (Z4X hI h1)<|zz ?_;obtain⟨h2,h⟩:=Zo h;have h3:x7.1.length+1<=9223372036854775807:=by omega
   try simp only[Nat.reduceLeDiff] at h3
   have q:=And.intro @h3<|And.intro @h2<|q;refine zz ?_;subst E J;refine bn<|es<|rz ?_;cases h;exact en ⟨rfl,wk [(0,some 10)]⟩
  exact Le
 refine bh<|es<|xs<|rK fun K _ E J=>zz ?_;obtain⟨r1,h4,h⟩:=bs h;have q:=And.intro (Z3V h4) q;refine cW.introR (Z4s hI (nid:=2) (i0:=0) h4 fz) fs rfl<|zz ?_;exact LQ
def Z23 (l_1:List Z8)(r0:Z2)(x0:Unit):Option (Nx (Unit) (Int ⊕ Unit)) :=
 (if(decide (0 < (l_1.length:Int))) then((atI l_1 0).bind fun y0=>((Z4a r0 y0.ID).bind fun r1=>(if(decide (r1 < 0)) then(some (.out (.inl 6))) else(((if(decide (y0.In < 0)) then(some true) else(if(decide (y0.Out<=y0.In)) then(some true) else(some (decide (5184000 < y0.Out))))):Option (Bool)).bind fun v0=>(if v0 then(some (.out (.inl 2))) else((atI r0.Events r1).bind fun y1=>none)))))) else(some (.out (.inr ()))))
def Z1m (l_1:List Z8)(r0:Z2)(x0:Int × (List Z0)):Option (Nx (Int × (List Z0)) (Int ⊕ ((List Z0)))) :=
 (if(decide (x0.1 < (l_1.length:Int))) then((atI l_1 x0.1).bind fun y0=>((Z1N (Z2.mk r0.Title r0.Lang r0.Rate r0.Drop r0.Last r0.Regions x0.2 r0.Comments) y0.ID).bind fun r1=>(if(decide (r1 < 0)) then(some (.out (.inl 6))) else(((if(decide (y0.In < 0)) then(some true) else(if(decide (y0.Out<=y0.In)) then(some true) else(some (decide (5184000 < y0.Out))))):Option (Bool)).bind fun v0=>(if v0 then(some (.out (.inl 2))) else((atI x0.2 r1).bind fun y1=>((setI x0.2 r1 (Z0.mk y1.ID (Ze.mk y0.In y0.Out) y1.Region y1.Kind y1.Speaker y1.Rows)).bind fun m0=>(some (.go ((IntKind.i64.wrap (x0.1+1)),m0)))))))))) else(some (.out (.inr x0.2))))
def Z0Z (d_0:Z2)(l_1:List Z8):Option (Z2 × Int) :=
 ((Zq d_0).bind fun r7=>(if(r7 != 0) then(some ((Z2.mk [] [] 0 false 0 [] [] []),r7)) else(if d_0.Events.isEmpty then((Z3t d_0).bind fun r0=>((iter (Z23 l_1 r0) ()).bind fun e0=>(match e0 with|Sum.inl e0=>(some ((Z2.mk [] [] 0 false 0 [] [] []),e0))|Sum.inr (e0)=>((Z2K r0.Events).bind fun r1=>(some ((Z2.mk r0.Title r0.Lang r0.Rate r0.Drop r0.Last r0.Regions r1 r0.Comments),0)))))) else((Z2k d_0).bind fun r2=>((iter (Z1m l_1 r2) (0,r2.Events)).bind fun e1=>(match e1 with|Sum.inl e1=>(some ((Z2.mk [] [] 0 false 0 [] [] []),e1))|Sum.inr (e1)=>((Z2K e1).bind fun r3=>(some ((Z2.mk r2.Title r2.Lang r2.Rate r2.Drop r2.Last r2.Regions r3 r2.Comments),0)))))))))
theorem ZbC{I:World->Prop}(hI:Stab I)(hShp:∀ w,I w->Shp w)(hU8T:∀ w,I w->U8T w){d_0:Z2}{l_1:List Z8}{r:Z2 × Int}(h:Z0Z d_0 l_1=some r):AFun Tryz.prog I 20 [Z2.d d_0,.sl (l_1.map Z8.d)] (.tup [Z2.d r.1,.int .i64 r.2]):=by
 have dd:=Z3g;have k:=True.intro;have q:=k;have rs:=Tryz.results20;unfold Z0Z at h;refine .en hI Tryz.func20 Tryz.ntmps20 ?_;refine xs<|rz ?_;refine es<|xs<|xs<|rK fun K _ E J=>zz ?_;obtain⟨r7,h8,h⟩:=bs h;refine cw (Z7o hI hShp hU8T h8)<|zz ?_;subst E J;refine es<|xs<|rz ?_;refine es ?_;obtain⟨k,h⟩|⟨k,h⟩:=iK k h
 ·exact Lc
 refine xf<|xk<|es<|xs<|rK fun K _ E J=>zz ?_;obtain⟨k,h⟩|⟨k,h⟩:=iK k h
 ·obtain⟨r0,h0,h⟩:=bs h;refine cw (Zab hI h0)<|zz ?_;subst E J;refine es<|xs<|xs<|rz ?_;refine es<|xb ?_;obtain⟨e0,h1,h⟩:=bs h;refine Zb (fun x0=>⟨envL [(4,.ptr 0 0),(7,.ptr 1 0),(19,.sl (l_1.map Z8.d)),(20,.int .i64 (l_1.length:Int)),(21,.int .i64 0)],Z5 [(0,.box none [.str [],.str [],.int .u8 0,.bool false,.int .i64 0,.nils,.nils,.nils]),(1,.box none [.str r0.Title,.str r0.Lang,.int .u8 r0.Rate,.bool r0.Drop,.int .i64 r0.Last,.sl (r0.Regions.map Z3.d),.sl (r0.Events.map Z0.d),.sl (r0.Comments.map Z4.d)])],2,64⟩) (fun w=>match w with|Sum.inl _=>.ret|Sum.inr (_)=>.exit 0) (fun w=>match w with|Sum.inl e0=>⟨envL [(4,.ptr 0 0),(5,.int .i64 e0)],Z5 [(0,.box none [.str [],.str [],.int .u8 0,.bool false,.int .i64 0,.nils,.nils,.nils])],1,64⟩|Sum.inr (e0)=>⟨envL [(4,.ptr 0 0),(7,.ptr 1 0)],Z5 [(0,.box none [.str [],.str [],.int .u8 0,.bool false,.int .i64 0,.nils,.nils,.nils]),(1,.box none [.str r0.Title,.str r0.Lang,.int .u8 r0.Rate,.bool r0.Drop,.int .i64 r0.Last,.sl (r0.Regions.map Z3.d),.sl (r0.Events.map Z0.d),.sl (r0.Comments.map Z4.d)])],2,64⟩) h1 (wk [(0,some 1),(1,some 10)]) (by intro w;rcases w with w|w<;>simp) ?_ ?_
  ·clear h;intro x0 y h;unfold Z23 at h;refine xs<|rz ?_;refine es<|xs ?_;obtain⟨k,h⟩|⟨k,h⟩:=iK k h
   ·refine xt<|xk<|es<|xs<|xb<|xs<|rK fun K _ E J=>zz ?_;obtain⟨y0,q,h⟩:=bK q h;refine zz ?_;subst E J;refine es<|xs<|rK fun K _ E J=>zz ?_;obtain⟨r1,h2,h⟩:=bs h;refine cw (ZaN hI h2)<|zz ?_;subst E J;refine es<|xs<|xs<|rz ?_;refine es ?_;obtain⟨k,h⟩|⟨k,h⟩:=iK k h
    ·exact Lh
    refine xf<|xk<|es<|xs ?_;obtain⟨v0,h3,h⟩:=bs h;refine Zk (fun v0=>⟨envL [(4,.ptr 0 0),(7,.ptr 1 0),(9,.ptr 2 0),(10,.int .i64 r1),(19,.sl (l_1.map Z8.d)),(20,.int .i64 (l_1.length:Int)),(21,.int .i64 0),(46,.bool v0)],Z5 [(0,.box none [.str [],.str [],.int .u8 0,.bool false,.int .i64 0,.nils,.nils,.nils]),(1,.box none [.str r0.Title,.str r0.Lang,.int .u8 r0.Rate,.bool r0.Drop,.int .i64 r0.Last,.sl (r0.Regions.map Z3.d),.sl (r0.Events.map Z0.d),.sl (r0.Comments.map Z4.d)]),(2,.box none [.int .i64 y0.ID,.int .i64 y0.In,.int .i64 y0.Out])],3,64⟩) h3 ?_ ?_
    ·clear h;intro v0 h;refine rK fun K _ E J=>zz ?_;obtain⟨k,h⟩|⟨k,h⟩:=iK k h
     ·refine zz ?_;subst E J;cases h;exact en ⟨rfl,wk [(2,some 5)]⟩
     refine zz ?_;obtain⟨k,h⟩|⟨k,h⟩:=iK k h
     ·refine zz ?_;subst E J;cases h;exact en ⟨rfl,wk [(2,some 5)]⟩
     refine zz ?_;subst E J;cases h;exact en ⟨rfl,wk [(2,some 5)]⟩
    obtain⟨k,h⟩|⟨k,h⟩:=iK k h
    ·exact Lh
    refine xf<|xk<|es<|rK fun K _ E J=>zz ?_;obtain⟨y1,q,h⟩:=bK q h;refine zz ?_;cases h
   exact Le
  rcases e0 with e0|e0
  ·try dsimp only at h ⊢
   exact Li
  try dsimp only at h ⊢
  refine bh<|es<|xs<|rK fun K _ E J=>zz ?_;obtain⟨r2,h4,h⟩:=bs h;refine cw (Z7H hI h4)<|zz ?_;exact LQ
 obtain⟨r3,h5,h⟩:=bs h;refine cW.introE (Z8X hI (nid:=9) h5) fz rfl<|zz ?_;subst E J;refine es<|xs<|xs<|rz ?_;refine es<|xb ?_;obtain⟨e1,h6,h⟩:=bs h;refine Zb (fun x1=>⟨envL [(4,.ptr 0 0),(7,.ptr 1 0),(19,.sl (l_1.map Z8.d)),(20,.int .i64 (l_1.length:Int)),(21,.int .i64 x1.1)],Z5 [(0,.box none [.str [],.str [],.int .u8 0,.bool false,.int .i64 0,.nils,.nils,.nils]),(1,.box none [.str r3.Title,.str r3.Lang,.int .u8 r3.Rate,.bool r3.Drop,.int .i64 r3.Last,.sl (r3.Regions.map Z3.d),.own 2 x1.2.length,.sl (r3.Comments.map Z4.d)]),(2,.vec 64 7 (x1.2.map Z0.d) false)],3,64⟩) (fun w=>match w with|Sum.inl _=>.ret|Sum.inr (_)=>.exit 0) (fun w=>match w with|Sum.inl e1=>⟨envL [(4,.ptr 0 0),(5,.int .i64 e1)],Z5 [(0,.box none [.str [],.str [],.int .u8 0,.bool false,.int .i64 0,.nils,.nils,.nils])],1,64⟩|Sum.inr (e1)=>⟨envL [(4,.ptr 0 0),(7,.ptr 1 0)],Z5 [(0,.box none [.str [],.str [],.int .u8 0,.bool false,.int .i64 0,.nils,.nils,.nils]),(1,.box none [.str r3.Title,.str r3.Lang,.int .u8 r3.Rate,.bool r3.Drop,.int .i64 r3.Last,.sl (r3.Regions.map Z3.d),.own 2 e1.length,.sl (r3.Comments.map Z4.d)]),(2,.vec 64 7 (e1.map Z0.d) false)],3,64⟩) h6 (wk [(0,some 1),(1,some 10),(2,some 9)]) (by intro w;rcases w with w|w<;>simp) ?_ ?_
 ·clear h;intro x1 y h;unfold Z1m at h;refine xs<|rz ?_;refine es<|xs ?_;obtain⟨k,h⟩|⟨k,h⟩:=iK k h
  ·refine xt<|xk<|es<|xs<|xb<|xs<|rK fun K _ E J=>zz ?_;obtain⟨y2,q,h⟩:=bK q h;refine zz ?_;subst E J;refine es<|xs<|rK fun K _ E J=>zz ?_;obtain⟨r4,h7,h⟩:=bs h;refine cW.introR (Z95 hI (nid:=11) (i0:=2) h7 fz) fs rfl<|zz ?_;subst E J;refine es<|xs<|xs<|rz ?_;refine es ?_;obtain⟨k,h⟩|⟨k,h⟩:=iK k h
   ·exact Lh
   refine xf<|xk<|es<|xs ?_;obtain⟨v1,h9,h⟩:=bs h;refine Zk (fun v1=>⟨envL [(4,.ptr 0 0),(7,.ptr 1 0),(9,.ptr 3 0),(10,.int .i64 r4),(19,.sl (l_1.map Z8.d)),(20,.int .i64 (l_1.length:Int)),(21,.int .i64 x1.1),(46,.bool v1)],Z5 [(0,.box none [.str [],.str [],.int .u8 0,.bool false,.int .i64 0,.nils,.nils,.nils]),(1,.box none [.str r3.Title,.str r3.Lang,.int .u8 r3.Rate,.bool r3.Drop,.int .i64 r3.Last,.sl (r3.Regions.map Z3.d),.own 2 x1.2.length,.sl (r3.Comments.map Z4.d)]),(2,.vec 64 7 (x1.2.map Z0.d) false),(3,.box none [.int .i64 y2.ID,.int .i64 y2.In,.int .i64 y2.Out])],4,64⟩) h9 ?_ ?_
   ·clear h;intro v1 h;refine rK fun K _ E J=>zz ?_;obtain⟨k,h⟩|⟨k,h⟩:=iK k h
    ·exact Lu
    refine zz ?_;obtain⟨k,h⟩|⟨k,h⟩:=iK k h
    ·exact Lu
    exact Lu
   obtain⟨k,h⟩|⟨k,h⟩:=iK k h
   ·exact Lh
   refine xf<|xk<|es<|rK fun K _ E J=>zz ?_;obtain⟨y3,q,h⟩:=oN q h;refine zz ?_;obtain⟨m0,h10,h⟩:=bind_some h;obtain⟨h11,h12,h13,h14⟩:=Z0l h10;have h14:=h14 Z0.d;try simp only[sevalprocAttr,List.map_nil,dd] at h14
   have q:=And.intro @h11<|And.intro @h12<|And.intro @h13<|And.intro @h14<|q;exact LI
  exact Le
 rcases e1 with e1|e1
 ·try dsimp only at h ⊢
  exact Li
 try dsimp only at h ⊢
 refine bh<|es<|xs<|rK fun K _ E J=>zz ?_;obtain⟨r5,h15,h⟩:=bs h;refine cw (Z7H hI h15)<|zz ?_;exact LQ
def Z2t (r7:(List Z1) × Int)(r0:(List Int) × (List Int) × Int)(x0:Int × (List Z1)):Option (Nx (Int × (List Z1)) ((List Z1))) :=
 (if(decide (x0.1 < (r0.2.1.length:Int))) then((atI r0.2.1 x0.1).bind fun y0=>((atI r7.1 y0).bind fun y1=>(if(x0.2.length+1) * 48<=140737488355328 then(some (.go ((IntKind.i64.wrap (x0.1+1)),(x0.2++[y1])))) else none))) else(some (.out x0.2)))
def Z2u (d_0:Z2)(r0:(List Int) × Bool)(x0:Int × (List Z8)):Option (Nx (Int × (List Z8)) ((List Z8))) :=
 (if(decide (x0.1 < (d_0.Events.length:Int))) then((atI d_0.Events x0.1).bind fun y0=>((atI r0.1 (IntKind.i64.wrap ((IntKind.i64.wrap (2 * x0.1))+1))).bind fun y1=>((atI r0.1 0).bind fun y2=>((atI r0.1 (IntKind.i64.wrap ((IntKind.i64.wrap (2 * x0.1))+2))).bind fun y3=>(((if((IntKind.i64.wrap (y1 - y2)) != y0.Span.In) then(some true) else(some ((IntKind.i64.wrap (y3 - y2)) != y0.Span.Out))):Option (Bool)).bind fun v0=>(if v0 then(if(x0.2.length+1) * 24<=140737488355328 then(some (.go ((IntKind.i64.wrap (x0.1+1)),(x0.2++[(Z8.mk y0.ID (IntKind.i64.wrap (y1 - y2)) (IntKind.i64.wrap (y3 - y2)))])))) else none) else(some (.go ((IntKind.i64.wrap (x0.1+1)),x0.2))))))))) else(some (.out x0.2)))
def Z0I (d_0:Z2)(p_1:Z7)(l_2:List Int)(tol_3:Int):Option (Zu × Int) :=
 ((Z2S d_0 p_1 l_2 tol_3).bind fun r7=>(if(r7.2 != 0) then(some ((Zu.mk (Z2.mk [] [] 0 false 0 [] [] []) [] 0 []),r7.2)) else((Z0m (IntKind.i64.wrap ((IntKind.i64.wrap (2 * (d_0.Events.length:Int)))+1)) r7.1).bind fun r0=>(if(r0.2.2 != 0) then((iter (Z2t r7 r0) (0,[])).bind fun e0=>(some ((Zu.mk (Z2.mk [] [] 0 false 0 [] [] []) [] 0 e0),r0.2.2))) else((Z59 tol_3 d_0 p_1 l_2 (IntKind.i64.wrap ((IntKind.i64.wrap (2 * (d_0.Events.length:Int)))+1))).bind fun r1=>((Z1Z r1 d_0 p_1 l_2 (IntKind.i64.wrap ((IntKind.i64.wrap (2 * (d_0.Events.length:Int)))+1))).bind fun r2=>((iter (Z2u d_0 r2) (0,[])).bind fun e1=>((Z0Z d_0 e1).bind fun r3=>(some ((Zu.mk r3.1 e1 r1 []),r3.2))))))))))
theorem Z71{I:World->Prop}(hI:Stab I)(hShp:∀ w,I w->Shp w)(hU8T:∀ w,I w->U8T w){d_0:Z2}{p_1:Z7}{l_2:List Int}{tol_3:Int}{r:Zu × Int}(h:Z0I d_0 p_1 l_2 tol_3=some r):AFun Tryz.prog I 17 [Z2.d d_0,Z7.d p_1,.sl (l_2.map (D.int .i64)),.int .i64 tol_3] (.tup [Zu.d r.1,.int .i64 r.2]):=by
 have dd:=Z3g;have k:=True.intro;have q:=k;have rs:=Tryz.results17;unfold Z0I at h;refine .en hI Tryz.func17 Tryz.ntmps17 ?_;refine xs<|rz ?_;refine eWk _ (((Wk.freeze (id:=0) (cs:=[.str d_0.Title,.str d_0.Lang,.int .u8 d_0.Rate,.bool d_0.Drop,.int .i64 d_0.Last,.sl (d_0.Regions.map Z3.d),.sl (d_0.Events.map Z0.d),.sl (d_0.Comments.map Z4.d)]) fz fz).trans (wkF (l:=[(3,.int .i64 tol_3),(4,.iptr [.str d_0.Title,.str d_0.Lang,.int .u8 d_0.Rate,.bool d_0.Drop,.int .i64 d_0.Last,.sl (d_0.Regions.map Z3.d),.sl (d_0.Events.map Z0.d),.sl (d_0.Comments.map Z4.d)]),(5,.ptr 1 0),(6,.ptr 2 0),(8,.ptr 3 0)]) (h:=[(1,.box none [.str p_1.Name,.int .i64 p_1.Reading,.int .i64 p_1.MinFrames,.int .i64 p_1.MaxFrames,.int .i64 p_1.MinGap,.int .i64 p_1.ShotBefore,.int .i64 p_1.ShotAfter,.int .i64 p_1.Rows,.int .i64 p_1.Cols,.str p_1.Forbidden,.int .i64 p_1.SafeTop,.int .i64 p_1.SafeBottom,.int .i64 p_1.SafeLeft,.int .i64 p_1.SafeRight]),(2,.box none [.sl (l_2.map (D.int .i64))]),(3,.box none [.str [],.str [],.int .u8 0,.bool false,.int .i64 0,.nils,.nils,.nils,.nils,.int .i64 0,.nils])]) (n:=5) [])).trans (((Wk.freeze (id:=1) (cs:=[.str p_1.Name,.int .i64 p_1.Reading,.int .i64 p_1.MinFrames,.int .i64 p_1.MaxFrames,.int .i64 p_1.MinGap,.int .i64 p_1.ShotBefore,.int .i64 p_1.ShotAfter,.int .i64 p_1.Rows,.int .i64 p_1.Cols,.str p_1.Forbidden,.int .i64 p_1.SafeTop,.int .i64 p_1.SafeBottom,.int .i64 p_1.SafeLeft,.int .i64 p_1.SafeRight]) fz fz).trans (wkF (l:=[(3,.int .i64 tol_3),(4,.iptr [.str d_0.Title,.str d_0.Lang,.int .u8 d_0.Rate,.bool d_0.Drop,.int .i64 d_0.Last,.sl (d_0.Regions.map Z3.d),.sl (d_0.Events.map Z0.d),.sl (d_0.Comments.map Z4.d)]),(5,.iptr [.str p_1.Name,.int .i64 p_1.Reading,.int .i64 p_1.MinFrames,.int .i64 p_1.MaxFrames,.int .i64 p_1.MinGap,.int .i64 p_1.ShotBefore,.int .i64 p_1.ShotAfter,.int .i64 p_1.Rows,.int .i64 p_1.Cols,.str p_1.Forbidden,.int .i64 p_1.SafeTop,.int .i64 p_1.SafeBottom,.int .i64 p_1.SafeLeft,.int .i64 p_1.SafeRight]),(6,.ptr 2 0),(8,.ptr 3 0)]) (h:=[(2,.box none [.sl (l_2.map (D.int .i64))]),(3,.box none [.str [],.str [],.int .u8 0,.bool false,.int .i64 0,.nils,.nils,.nils,.nils,.int .i64 0,.nils])]) (n:=5) [])).trans ((Wk.freeze (id:=2) (cs:=[.sl (l_2.map (D.int .i64))]) fz fz).trans (wkF (l:=[(3,.int .i64 tol_3),(4,.iptr [.str d_0.Title,.str d_0.Lang,.int .u8 d_0.Rate,.bool d_0.Drop,.int .i64 d_0.Last,.sl (d_0.Regions.map Z3.d),.sl (d_0.Events.map Z0.d),.sl (d_0.Comments.map Z4.d)]),(5,.iptr [.str p_1.Name,.int .i64 p_1.Reading,.int .i64 p_1.MinFrames,.int .i64 p_1.MaxFrames,.int .i64 p_1.MinGap,.int .i64 p_1.ShotBefore,.int .i64 p_1.ShotAfter,.int .i64 p_1.Rows,.int .i64 p_1.Cols,.str p_1.Forbidden,.int .i64 p_1.SafeTop,.int .i64 p_1.SafeBottom,.int .i64 p_1.SafeLeft,.int .i64 p_1.SafeRight]),(6,.iptr [.sl (l_2.map (D.int .i64))]),(8,.ptr 3 0)]) (h:=[(3,.box none [.str [],.str [],.int .u8 0,.bool false,.int .i64 0,.nils,.nils,.nils,.nils,.int .i64 0,.nils])]) (n:=5) []))))<|xs<|rK fun K _ E J=>zz ?_;obtain⟨r7,h8,h⟩:=bs h;refine cw (Z7K hI hShp hU8T h8)<|zz ?_;subst E J;refine es<|xs<|xs<|rz ?_;refine es ?_;obtain⟨k,h⟩|⟨k,h⟩:=iK k h
 ·exact Lc
 refine xf<|xk<|es<|xs<|rz ?_;refine eWk _ ((Wk.freeze (id:=22) (cs:=[.int .i64 (IntKind.i64.wrap ((IntKind.i64.wrap (2 * (d_0.Events.length:Int)))+1))]) fz fz).trans (wkF (l:=[(3,.int .i64 tol_3),(4,.iptr [.str d_0.Title,.str d_0.Lang,.int .u8 d_0.Rate,.bool d_0.Drop,.int .i64 d_0.Last,.sl (d_0.Regions.map Z3.d),.sl (d_0.Events.map Z0.d),.sl (d_0.Comments.map Z4.d)]),(5,.iptr [.str p_1.Name,.int .i64 p_1.Reading,.int .i64 p_1.MinFrames,.int .i64 p_1.MaxFrames,.int .i64 p_1.MinGap,.int .i64 p_1.ShotBefore,.int .i64 p_1.ShotAfter,.int .i64 p_1.Rows,.int .i64 p_1.Cols,.str p_1.Forbidden,.int .i64 p_1.SafeTop,.int .i64 p_1.SafeBottom,.int .i64 p_1.SafeLeft,.int .i64 p_1.SafeRight]),(6,.iptr [.sl (l_2.map (D.int .i64))]),(8,.ptr 3 0),(10,.sl (r7.1.map Z1.d)),(12,.iptr [.int .i64 (IntKind.i64.wrap ((IntKind.i64.wrap (2 * (d_0.Events.length:Int)))+1))])]) (h:=[(3,.box none [.str [],.str [],.int .u8 0,.bool false,.int .i64 0,.nils,.nils,.nils,.nils,.int .i64 0,.nils])]) (n:=24) []))<|xs<|xs<|rK fun K _ E J=>zz ?_;obtain⟨r0,h0,h⟩:=bs h;refine cw (Z7F hI h0)<|zz ?_;subst E J;refine es<|xs<|rz ?_;refine es ?_;obtain⟨k,h⟩|⟨k,h⟩:=iK k h
 ·refine xt<|xs<|rz ?_;refine es<|xs<|xs<|rz ?_;refine es<|xb ?_;obtain⟨e0,h1,h⟩:=bs h;refine Zb (fun x0=>⟨envL [(8,.ptr 0 0),(10,.sl (r7.1.map Z1.d)),(15,.int .i64 r0.2.2),(16,.ptr 1 0),(54,.sl (r0.2.1.map (D.int .i64))),(55,.int .i64 (r0.2.1.length:Int)),(56,.int .i64 x0.1)],Z5 [(0,.box none [.str [],.str [],.int .u8 0,.bool false,.int .i64 0,.nils,.nils,.nils,.nils,.int .i64 0,.nils]),(1,.box none [.str [],.str [],.int .u8 0,.bool false,.int .i64 0,.nils,.nils,.nils,.nils,.int .i64 0,.own 2 x0.2.length]),(2,.vec 47 6 (x0.2.map Z1.d) false)],3,145⟩) (fun _=>.exit 0) (fun e0=>⟨envL [(8,.ptr 0 0),(15,.int .i64 r0.2.2),(16,.ptr 1 0)],Z5 [(0,.box none [.str [],.str [],.int .u8 0,.bool false,.int .i64 0,.nils,.nils,.nils,.nils,.int .i64 0,.nils]),(1,.box none [.str [],.str [],.int .u8 0,.bool false,.int .i64 0,.nils,.nils,.nils,.nils,.int .i64 0,.own 2 e0.length]),(2,.vec 47 6 (e0.map Z1.d) false)],3,145⟩) h1 (wk [(0,some 3),(1,some 36),(2,none)]) (by intro w;simp) ?_ ?_
  ·clear h;intro x0 y h;unfold Z2t at h;refine xs<|rz ?_;refine es<|xs ?_;obtain⟨k,h⟩|⟨k,h⟩:=iK k h
   ·refine xt<|xk<|es<|xs<|xb<|xs<|rK fun K _ E J=>zz ?_;obtain⟨y0,q,h⟩:=bK q h;refine zz ?_;subst E J;refine es<|rD hI fun K _ E J=>zz ?_;obtain⟨y1,q,h⟩:=bK q h;refine zz ?_;obtain⟨h2,h⟩:=Zo h;have h3:x0.2.length+1<=9223372036854775807:=by omega
    try simp only[Nat.reduceLeDiff] at h3
    have q:=And.intro @h3<|And.intro @h2<|q;refine zz ?_;refine hd<|zz ?_;refine hd<|zz ?_;subst E J;refine bn<|es<|rz ?_;cases h;exact en ⟨rfl,wk [(2,some 14)]⟩
   exact Le
  refine bh<|es<|xs<|rz ?_;exact LJ
 refine xf<|xk<|es<|xs<|rK fun K _ E J=>zz ?_;have h4:=(show bldT Tryz.prog 86=false/\Z0g Tryz.prog 86=some D.any/\zOne Tryz.prog 86=true/\szT Tryz.prog 86=some 1 from⟨by show _=_;kernel_rfl,by show _=_;kernel_rfl,by show _=_;kernel_rfl,by show _=_;kernel_rfl⟩);have q:=And.intro @h4<|q;refine zz ?_;subst E J;refine eWk _ ((Wk.freeze (id:=37) (cs:=[.fn 44 [.iptr [.str d_0.Title,.str d_0.Lang,.int .u8 d_0.Rate,.bool d_0.Drop,.int .i64 d_0.Last,.sl (d_0.Regions.map Z3.d),.sl (d_0.Events.map Z0.d),.sl (d_0.Comments.map Z4.d)],.iptr [.str p_1.Name,.int .i64 p_1.Reading,.int .i64 p_1.MinFrames,.int .i64 p_1.MaxFrames,.int .i64 p_1.MinGap,.int .i64 p_1.ShotBefore,.int .i64 p_1.ShotAfter,.int .i64 p_1.Rows,.int .i64 p_1.Cols,.str p_1.Forbidden,.int .i64 p_1.SafeTop,.int .i64 p_1.SafeBottom,.int .i64 p_1.SafeLeft,.int .i64 p_1.SafeRight],.iptr [.sl (l_2.map (D.int .i64))],.iptr [.int .i64 (IntKind.i64.wrap ((IntKind.i64.wrap (2 * (d_0.Events.length:Int)))+1))]]]) fz fz).trans (wkF (l:=[(3,.int .i64 tol_3),(4,.iptr [.str d_0.Title,.str d_0.Lang,.int .u8 d_0.Rate,.bool d_0.Drop,.int .i64 d_0.Last,.sl (d_0.Regions.map Z3.d),.sl (d_0.Events.map Z0.d),.sl (d_0.Comments.map Z4.d)]),(8,.ptr 3 0),(19,.iptr [.fn 44 [.iptr [.str d_0.Title,.str d_0.Lang,.int .u8 d_0.Rate,.bool d_0.Drop,.int .i64 d_0.Last,.sl (d_0.Regions.map Z3.d),.sl (d_0.Events.map Z0.d),.sl (d_0.Comments.map Z4.d)],.iptr [.str p_1.Name,.int .i64 p_1.Reading,.int .i64 p_1.MinFrames,.int .i64 p_1.MaxFrames,.int .i64 p_1.MinGap,.int .i64 p_1.ShotBefore,.int .i64 p_1.ShotAfter,.int .i64 p_1.Rows,.int .i64 p_1.Cols,.str p_1.Forbidden,.int .i64 p_1.SafeTop,.int .i64 p_1.SafeBottom,.int .i64 p_1.SafeLeft,.int .i64 p_1.SafeRight],.iptr [.sl (l_2.map (D.int .i64))],.iptr [.int .i64 (IntKind.i64.wrap ((IntKind.i64.wrap (2 * (d_0.Events.length:Int)))+1))]]])]) (h:=[(3,.box none [.str [],.str [],.int .u8 0,.bool false,.int .i64 0,.nils,.nils,.nils,.nils,.int .i64 0,.nils])]) (n:=39) []))<|xs<|rK fun K _ E J=>zz ?_;obtain⟨r1,h5,h⟩:=bs h;refine cw (ZcQ hI hShp hU8T h5)<|zz ?_;subst E J;refine es<|xs<|rK fun K _ E J=>zz ?_;have h6:=(show aggT Tryz.prog 86=some false by kernel_rfl);have q:=And.intro @h6<|q;refine zz ?_;obtain⟨r2,h7,h⟩:=bs h;refine cw (Z7L hI hShp hU8T h7)<|zz ?_;subst E J;refine es<|xs<|rz ?_;refine es<|xs<|xs<|rz ?_;refine es<|xb ?_;obtain⟨e1,h9,h⟩:=bs h;refine Zb (fun x1=>⟨envL [(4,.iptr [.str d_0.Title,.str d_0.Lang,.int .u8 d_0.Rate,.bool d_0.Drop,.int .i64 d_0.Last,.sl (d_0.Regions.map Z3.d),.sl (d_0.Events.map Z0.d),.sl (d_0.Comments.map Z4.d)]),(8,.ptr 0 0),(21,.sl (r2.1.map (D.int .i64))),(23,.ptr 1 0),(85,.sl (d_0.Events.map Z0.d)),(86,.int .i64 (d_0.Events.length:Int)),(87,.int .i64 x1.1)],Z5 [(0,.box none [.str [],.str [],.int .u8 0,.bool false,.int .i64 0,.nils,.nils,.nils,.nils,.int .i64 0,.nils]),(1,.box none [.str [],.str [],.int .u8 0,.bool false,.int .i64 0,.nils,.nils,.nils,.own 2 x1.2.length,.int .i64 r1,.nils]),(2,.vec 91 3 (x1.2.map Z8.d) false)],3,145⟩) (fun _=>.exit 2) (fun e1=>⟨envL [(4,.iptr [.str d_0.Title,.str d_0.Lang,.int .u8 d_0.Rate,.bool d_0.Drop,.int .i64 d_0.Last,.sl (d_0.Regions.map Z3.d),.sl (d_0.Events.map Z0.d),.sl (d_0.Comments.map Z4.d)]),(8,.ptr 0 0),(23,.ptr 1 0)],Z5 [(0,.box none [.str [],.str [],.int .u8 0,.bool false,.int .i64 0,.nils,.nils,.nils,.nils,.int .i64 0,.nils]),(1,.box none [.str [],.str [],.int .u8 0,.bool false,.int .i64 0,.nils,.nils,.nils,.own 2 e1.length,.int .i64 r1,.nils]),(2,.vec 91 3 (e1.map Z8.d) false)],3,145⟩) h9 (wk [(0,some 3),(1,some 53),(2,none)]) (by intro w;simp) ?_ ?_
 ·clear h;intro x1 y h;unfold Z2u at h;refine xs<|rz ?_;refine es<|xs ?_;obtain⟨k,h⟩|⟨k,h⟩:=iK k h
  ·refine xt<|xk<|es<|xs<|xb<|xs<|rK fun K _ E J=>zz ?_;obtain⟨y2,q,h⟩:=bK q h;refine zz ?_;subst E J;refine es<|xs<|rD hI fun K _ E J=>zz ?_;obtain⟨y3,q,h⟩:=bK q h;refine zz ?_;obtain⟨y4,q,h⟩:=bK q h;refine zz ?_;obtain⟨y5,q,h⟩:=bK q h;refine zz ?_;subst E J;refine es ?_;obtain⟨v0,h10,h⟩:=bs h;refine Zk (fun v0=>⟨envL [(4,.iptr [.str d_0.Title,.str d_0.Lang,.int .u8 d_0.Rate,.bool d_0.Drop,.int .i64 d_0.Last,.sl (d_0.Regions.map Z3.d),.sl (d_0.Events.map Z0.d),.sl (d_0.Comments.map Z4.d)]),(8,.ptr 0 0),(21,.sl (r2.1.map (D.int .i64))),(23,.ptr 1 0),(25,.ptr 3 0),(26,.int .i64 (IntKind.i64.wrap (y3 - y4))),(27,.int .i64 (IntKind.i64.wrap (y5 - y4))),(85,.sl (d_0.Events.map Z0.d)),(86,.int .i64 (d_0.Events.length:Int)),(87,.int .i64 x1.1),(123,.bool v0)],Z5 [(0,.box none [.str [],.str [],.int .u8 0,.bool false,.int .i64 0,.nils,.nils,.nils,.nils,.int .i64 0,.nils]),(1,.box none [.str [],.str [],.int .u8 0,.bool false,.int .i64 0,.nils,.nils,.nils,.own 2 x1.2.length,.int .i64 r1,.nils]),(2,.vec 91 3 (x1.2.map Z8.d) false),(3,.box none [.int .i64 y2.ID,.int .i64 y2.Span.In,.int .i64 y2.Span.Out,.str y2.Region,.int .u8 y2.Kind,.str y2.Speaker,.sl (y2.Rows.map Z6.d)])],4,145⟩) h10 ?_ ?_
   ·clear h;intro v0 h;refine rK fun K _ E J=>zz ?_;obtain⟨k,h⟩|⟨k,h⟩:=iK k h
    ·refine zz ?_;subst E J;cases h;exact en ⟨rfl,wk [(3,some 7)]⟩
    refine zz ?_;subst E J;cases h;exact en ⟨rfl,wk [(3,some 7)]⟩
   obtain⟨k,h⟩|⟨k,h⟩:=iK k h
   ·refine xt<|rK fun K _ E J=>zz ?_;obtain⟨h11,h⟩:=Zo h;have h12:x1.2.length+1<=9223372036854775807:=by omega
    try simp only[Nat.reduceLeDiff] at h12
    have q:=And.intro @h12<|And.intro @h11<|q;refine zz ?_;subst E J;refine bn<|es<|rz ?_;cases h;exact en ⟨rfl,wk [(2,some 12)]⟩
   exact Ll
  exact Le
 refine bh<|es<|xs<|rK fun K _ E J=>zz ?_;obtain⟨r3,h13,h⟩:=bs h;refine cw (ZbC hI hShp hU8T h13)<|zz ?_;exact LQ
structure Zf where
 Doc:Z2
 House:Z7
 Shots:List Int
 Tol:Int
 deriving DecidableEq
def Zf.d (x:Zf):D:=.agg [.str x.Doc.Title,.str x.Doc.Lang,.int .u8 x.Doc.Rate,.bool x.Doc.Drop,.int .i64 x.Doc.Last,.sl (x.Doc.Regions.map Z3.d),.sl (x.Doc.Events.map Z0.d),.sl (x.Doc.Comments.map Z4.d),.str x.House.Name,.int .i64 x.House.Reading,.int .i64 x.House.MinFrames,.int .i64 x.House.MaxFrames,.int .i64 x.House.MinGap,.int .i64 x.House.ShotBefore,.int .i64 x.House.ShotAfter,.int .i64 x.House.Rows,.int .i64 x.House.Cols,.str x.House.Forbidden,.int .i64 x.House.SafeTop,.int .i64 x.House.SafeBottom,.int .i64 x.House.SafeLeft,.int .i64 x.House.SafeRight,.sl (x.Shots.map (D.int .i64)),.int .i64 x.Tol]
theorem Zb5:(∀ x,Z3.d x=.agg [.str x.Name,.int .i64 x.Top,.int .i64 x.Height,.int .i64 x.Left,.int .i64 x.Width,.int .u8 x.Align,.bool x.Bottom])/\(∀ x,Z4.d x=.agg [.int .i64 x.ID,.int .i64 x.Event,.int .i64 x.From,.int .i64 x.To,.str x.Author,.str x.Text,.bool x.Done,.bool x.Lost])/\(∀ x,Ze.d x=.agg [.int .i64 x.In,.int .i64 x.Out])/\(∀ x,Zw.d x=.agg [.int .u8 x.Color,.bool x.Italic,.bool x.Underline])/\(∀ x,Zd.d x=.agg [.str x.Text,.int .u8 x.Style.Color,.bool x.Style.Italic,.bool x.Style.Underline,.str x.Ruby])/\(∀ x,Z6.d x=.agg [.sl (x.Runs.map Zd.d)])/\(∀ x,Z0.d x=.agg [.int .i64 x.ID,.int .i64 x.Span.In,.int .i64 x.Span.Out,.str x.Region,.int .u8 x.Kind,.str x.Speaker,.sl (x.Rows.map Z6.d)])/\(∀ x,Z1.d x=.agg [.int .i64 x.I,.int .i64 x.J,.int .i64 x.C,.int .u8 x.Rule,.int .i64 x.ID,.int .i64 x.Other])/\(∀ x,Z7.d x=.agg [.str x.Name,.int .i64 x.Reading,.int .i64 x.MinFrames,.int .i64 x.MaxFrames,.int .i64 x.MinGap,.int .i64 x.ShotBefore,.int .i64 x.ShotAfter,.int .i64 x.Rows,.int .i64 x.Cols,.str x.Forbidden,.int .i64 x.SafeTop,.int .i64 x.SafeBottom,.int .i64 x.SafeLeft,.int .i64 x.SafeRight])/\(∀ x,Z2.d x=.agg [.str x.Title,.str x.Lang,.int .u8 x.Rate,.bool x.Drop,.int .i64 x.Last,.sl (x.Regions.map Z3.d),.sl (x.Events.map Z0.d),.sl (x.Comments.map Z4.d)])/\(∀ x,Z8.d x=.agg [.int .i64 x.ID,.int .i64 x.In,.int .i64 x.Out])/\(∀ x,Zu.d x=.agg [.str x.Doc.Title,.str x.Doc.Lang,.int .u8 x.Doc.Rate,.bool x.Doc.Drop,.int .i64 x.Doc.Last,.sl (x.Doc.Regions.map Z3.d),.sl (x.Doc.Events.map Z0.d),.sl (x.Doc.Comments.map Z4.d),.sl (x.Shifts.map Z8.d),.int .i64 x.Needed,.sl (x.Conflict.map Z1.d)])/\(∀ x,Zf.d x=.agg [.str x.Doc.Title,.str x.Doc.Lang,.int .u8 x.Doc.Rate,.bool x.Doc.Drop,.int .i64 x.Doc.Last,.sl (x.Doc.Regions.map Z3.d),.sl (x.Doc.Events.map Z0.d),.sl (x.Doc.Comments.map Z4.d),.str x.House.Name,.int .i64 x.House.Reading,.int .i64 x.House.MinFrames,.int .i64 x.House.MaxFrames,.int .i64 x.House.MinGap,.int .i64 x.House.ShotBefore,.int .i64 x.House.ShotAfter,.int .i64 x.House.Rows,.int .i64 x.House.Cols,.str x.House.Forbidden,.int .i64 x.House.SafeTop,.int .i64 x.House.SafeBottom,.int .i64 x.House.SafeLeft,.int .i64 x.House.SafeRight,.sl (x.Shots.map (D.int .i64)),.int .i64 x.Tol]):=⟨fun _=>rfl,fun _=>rfl,fun _=>rfl,fun _=>rfl,fun _=>rfl,fun _=>rfl,fun _=>rfl,fun _=>rfl,fun _=>rfl,fun _=>rfl,fun _=>rfl,fun _=>rfl,fun _=>rfl⟩
def Z01 (s1_0:List Z1)(s2_1:List Z1)(x0:Int):Option (Nx (Int) (Unit ⊕ Unit)) :=
 (if(decide (x0 < (s1_0.length:Int))) then((atI s1_0 x0).bind fun y0=>((atI s2_1 x0).bind fun y1=>(if((y0.I == y1.I)&&((y0.J == y1.J)&&((y0.C == y1.C)&&((y0.Rule == y1.Rule)&&((y0.ID == y1.ID)&&(y0.Other == y1.Other)))))) then(some (.go (IntKind.i64.wrap (x0+1)))) else(some (.out (.inl ())))))) else(some (.out (.inr ()))))
def ZW (s1_0:List Z1)(s2_1:List Z1):Option (Bool) :=
 (if((s1_0.length:Int) != (s2_1.length:Int)) then(some false) else((iter (Z01 s1_0 s2_1) 0).bind fun e0=>(match e0 with|Sum.inl e0=>(some false)|Sum.inr (e0)=>(some true))))
theorem Z37{I:World->Prop}(hI:Stab I){s1_0:List Z1}{s2_1:List Z1}{r:Bool}(h:ZW s1_0 s2_1=some r):AFun Tryz.prog I 16 [.sl (s1_0.map Z1.d),.sl (s2_1.map Z1.d)] (.bool r):=by
 have dd:=Zb5;have k:=True.intro;have q:=k;have rs:=Tryz.results16;unfold ZW at h;refine .en hI Tryz.func16 Tryz.ntmps16 ?_;refine xs<|rz ?_;refine es<|xs<|xs<|rz ?_;refine es ?_;obtain⟨k,h⟩|⟨k,h⟩:=iK k h
 ·exact Lc
 refine xf<|xk<|es<|xs<|xs<|rz ?_;refine es<|xb ?_;obtain⟨e0,h0,h⟩:=bs h;refine Zb (fun x0=>⟨envL [(0,.sl (s1_0.map Z1.d)),(1,.sl (s2_1.map Z1.d)),(12,.int .i64 (s1_0.length:Int)),(13,.int .i64 x0)],Z5 [],0,26⟩) (fun w=>match w with|Sum.inl _=>.ret|Sum.inr (_)=>.exit 0) (fun w=>match w with|Sum.inl e0=>⟨envL [(4,.bool false)],Z5 [],0,26⟩|Sum.inr (e0)=>⟨envL [],Z5 [],0,26⟩) h0 (wk []) (by intro w;rcases w with w|w<;>simp) ?_ ?_
 ·clear h;intro x0 y h;unfold Z01 at h;refine xs<|rz ?_;refine es<|xs ?_;obtain⟨k,h⟩|⟨k,h⟩:=iK k h
  ·refine xt<|xk<|es<|xs<|xb<|xs<|rz ?_;refine es<|xs<|rD hI fun K _ E J=>zz ?_;obtain⟨y0,q,h⟩:=bK q h;refine zz ?_;obtain⟨y1,q,h⟩:=bK q h;refine zz ?_;subst E J;refine es ?_;obtain⟨k,h⟩|⟨k,h⟩:=iK k h
   ·exact Ll
   exact Lk
  exact Le
 rcases e0 with e0|e0
 ·try dsimp only at h ⊢
  exact Li
 try dsimp only at h ⊢
 exact Lg
def Z76 (l_0:List Int)(frame_1:Int)(p_2:Z7):Option (Ze × Int) :=
 ((Z2L p_2).bind fun r7=>(if(r7 != 0) then(some ((Ze.mk 0 0),r7)) else((Z0w l_0).bind fun r0=>(if(r0 != 0) then(some ((Ze.mk 0 0),r0)) else(((if(decide (frame_1 < 0)) then(some true) else(some (decide (5184000 < frame_1)))):Option (Bool)).bind fun v0=>(if v0 then(some ((Ze.mk 0 0),2)) else((Z41 l_0 frame_1 p_2).bind fun r1=>(some (r1.1,r1.2)))))))))
theorem ZcP{I:World->Prop}(hI:Stab I)(hU8T:∀ w,I w->U8T w){l_0:List Int}{frame_1:Int}{p_2:Z7}{r:Ze × Int}(h:Z76 l_0 frame_1 p_2=some r):AFun Tryz.prog I 11 [.sl (l_0.map (D.int .i64)),.int .i64 frame_1,Z7.d p_2] (.tup [Ze.d r.1,.int .i64 r.2]):=by
 have dd:=Zb5;have k:=True.intro;have q:=k;have rs:=Tryz.results11;unfold Z76 at h;refine .en hI Tryz.func11 Tryz.ntmps11 ?_;refine xs<|rz ?_;refine es<|xs<|xs<|rK fun K _ E J=>zz ?_;obtain⟨r7,h8,h⟩:=bs h;refine cw (Z7I hI hU8T h8)<|zz ?_;subst E J;refine es<|xs<|rz ?_;refine es ?_;obtain⟨k,h⟩|⟨k,h⟩:=iK k h
 ·exact Lc
 refine xf<|xk<|es<|xs<|xs<|rK fun K _ E J=>zz ?_;obtain⟨r0,h0,h⟩:=bs h;refine cw (Z72 hI h0)<|zz ?_;subst E J;refine es<|xs<|rz ?_;refine es ?_;obtain⟨k,h⟩|⟨k,h⟩:=iK k h
 ·exact Lc
 refine xf<|xk<|es<|xs ?_;obtain⟨v0,h1,h⟩:=bs h;refine Zk (fun v0=>⟨envL [(0,.sl (l_0.map (D.int .i64))),(1,.int .i64 frame_1),(5,.ptr 0 0),(6,.ptr 1 0),(27,.bool v0)],Z5 [(0,.box none [.str p_2.Name,.int .i64 p_2.Reading,.int .i64 p_2.MinFrames,.int .i64 p_2.MaxFrames,.int .i64 p_2.MinGap,.int .i64 p_2.ShotBefore,.int .i64 p_2.ShotAfter,.int .i64 p_2.Rows,.int .i64 p_2.Cols,.str p_2.Forbidden,.int .i64 p_2.SafeTop,.int .i64 p_2.SafeBottom,.int .i64 p_2.SafeLeft,.int .i64 p_2.SafeRight]),(1,.box none [.int .i64 0,.int .i64 0])],2,35⟩) h1 ?_ ?_
 ·clear h;intro v0 h;refine rK fun K _ E J=>zz ?_;obtain⟨k,h⟩|⟨k,h⟩:=iK k h
  ·exact Ld
  exact Ld
 obtain⟨k,h⟩|⟨k,h⟩:=iK k h
 ·exact Lc
 refine xf<|xk<|es<|xs<|rK fun K _ E J=>zz ?_;obtain⟨r1,h2,h⟩:=bs h;refine cw (Z8S hI h2)<|zz ?_;exact Lz
def Z7c (id_0:Int)(in_1:Int)(out_2:Int):Option (Z0) :=
 (some (Z0.mk id_0 (Ze.mk in_1 out_2) [] 1 [] [(Z6.mk [(Zd.mk [120] (Zw.mk 0 false false) [])])]))
theorem ZaQ{I:World->Prop}(hI:Stab I){id_0:Int}{in_1:Int}{out_2:Int}{r:Z0}(h:Z7c id_0 in_1 out_2=some r):AFun Tryz.prog I 30 [.int .i64 id_0,.int .i64 in_1,.int .i64 out_2] (Z0.d r):=by
 have dd:=Zb5;have k:=True.intro;have q:=k;have rs:=Tryz.results30;unfold Z7c at h;refine .en hI Tryz.func30 Tryz.ntmps30 ?_;exact LA
def Z64  : Option (Bool) :=
 ((Z7c 1 0 12).bind fun r0=>((Z7c 2 11 30).bind fun r1=>((Z0I (Z2.mk [] [] 3 false 2 [] [r0,r1] []) (Z7.mk [65] 10000 10 100 2 0 0 2 32 [] 0 0 0 0) [] 9).bind fun r2=>(((if(r2.2 != 0) then(some true) else(if(r2.1.Needed != 2) then(some true) else(some ((r2.1.Conflict.length:Int) != 0)))):Option (Bool)).bind fun v0=>(if v0 then(some false) else((Z0I (Z2.mk [] [] 3 false 2 [] [r0,r1] []) (Z7.mk [65] 10000 10 100 2 0 0 2 32 [] 0 0 0 0) [] 1).bind fun r3=>(((if(r3.2 != 16) then(some true) else((ZW r3.1.Conflict [(Z1.mk 2 0 (-11) 11 1 0),(Z1.mk 0 3 12 11 2 0),(Z1.mk 3 2 (-2) 4 1 2)]).bind fun r4=>(some (!r4)))):Option (Bool)).bind fun v1=>(if v1 then(some false) else((Z76 [100] 95 (Z7.mk [65] 10000 10 100 2 12 12 2 32 [] 0 0 0 0)).bind fun r5=>(if(r5.2 == 0) then(some ((r5.1.In == 100)&&(r5.1.Out == 101))) else(some false)))))))))))
theorem Zcy{I:World->Prop}(hI:Stab I)(hShp:∀ w,I w->Shp w)(hU8T:∀ w,I w->U8T w) {r:Bool}(h:Z64  = some r):AFun Tryz.prog I 10 [] (.bool r):=by
 have dd:=Zb5;have k:=True.intro;have q:=k;have rs:=Tryz.results10;unfold Z64 at h;refine .en hI Tryz.func10 Tryz.ntmps10 ?_;refine xs<|rz ?_;refine es<|xs<|rz ?_;refine es<|xs<|rK fun K _ E J=>zz ?_;obtain⟨r0,h0,h⟩:=bs h;refine cw (ZaQ hI h0)<|zz ?_;obtain⟨r1,h1,h⟩:=bs h;refine cw (ZaQ hI h1)<|zz ?_;subst E J;refine es<|xs<|rK fun K _ E J=>zz ?_;obtain⟨r2,h2,h⟩:=bs h;refine cw (Z71 hI hShp hU8T h2)<|zz ?_;subst E J;refine es<|xs ?_;obtain⟨v0,h3,h⟩:=bs h;refine Zk (fun v0=>⟨envL [(1,.ptr 0 0),(2,.ptr 1 0),(3,.ptr 3 0),(30,.bool v0)],Z5 [(0,.box none [.str [65],.int .i64 10000,.int .i64 10,.int .i64 100,.int .i64 2,.int .i64 0,.int .i64 0,.int .i64 2,.int .i64 32,.str [],.int .i64 0,.int .i64 0,.int .i64 0,.int .i64 0]),(1,.box none [.str [],.str [],.int .u8 3,.bool false,.int .i64 2,.nils,.own 2 2,.nils]),(2,.vec 64 7 ([r0,r1].map Z0.d) true),(3,.box none [.str r2.1.Doc.Title,.str r2.1.Doc.Lang,.int .u8 r2.1.Doc.Rate,.bool r2.1.Doc.Drop,.int .i64 r2.1.Doc.Last,.sl (r2.1.Doc.Regions.map Z3.d),.sl (r2.1.Doc.Events.map Z0.d),.sl (r2.1.Doc.Comments.map Z4.d),.sl (r2.1.Shifts.map Z8.d),.int .i64 r2.1.Needed,.sl (r2.1.Conflict.map Z1.d)])],4,65⟩) h3 ?_ ?_
 ·clear h;intro v0 h;refine rK fun K _ E J=>zz ?_;obtain⟨k,h⟩|⟨k,h⟩:=iK k h
  ·refine zz ?_;subst E J;cases h;exact en ⟨rfl,wk [(0,some 2),(1,some 8),(2,some 6),(3,some 16)]⟩
  refine zz ?_;obtain⟨k,h⟩|⟨k,h⟩:=iK k h
  ·refine zz ?_;subst E J;cases h;exact en ⟨rfl,wk [(0,some 2),(1,some 8),(2,some 6),(3,some 16)]⟩
  refine zz ?_;subst E J;cases h;exact en ⟨rfl,wk [(0,some 2),(1,some 8),(2,some 6),(3,some 16)]⟩
 obtain⟨k,h⟩|⟨k,h⟩:=iK k h
 ·exact Lc
 refine xf<|xk<|es<|xs<|rK fun K _ E J=>zz ?_;obtain⟨r3,h4,h⟩:=bs h;refine cw (Z71 hI hShp hU8T h4)<|zz ?_;subst E J;refine es<|xs<|rz ?_;refine es<|xs ?_;obtain⟨v1,h5,h⟩:=bs h;refine Zk (fun v1=>⟨envL [(1,.ptr 0 0),(49,.bool v1)],Z5 [(0,.box none [.str [65],.int .i64 10000,.int .i64 10,.int .i64 100,.int .i64 2,.int .i64 0,.int .i64 0,.int .i64 2,.int .i64 32,.str [],.int .i64 0,.int .i64 0,.int .i64 0,.int .i64 0])],1,65⟩) h5 ?_ ?_
 ·clear h;intro v1 h;refine rK fun K _ E J=>zz ?_;obtain⟨k,h⟩|⟨k,h⟩:=iK k h
  ·exact Ld
  refine zz ?_;obtain⟨r4,h6,h⟩:=bs h;refine cw (Z37 hI h6)<|zz ?_;exact LO
 obtain⟨k,h⟩|⟨k,h⟩:=iK k h
 ·exact Lc
 refine xf<|xk<|es<|xs<|rz ?_;refine es<|xs<|rK fun K _ E J=>zz ?_;obtain⟨r5,h7,h⟩:=bs h;refine cw (ZcP hI hU8T h7)<|zz ?_;subst E J;refine es<|xs<|rK fun K _ E J=>zz ?_;obtain⟨k,h⟩|⟨k,h⟩:=iK k h
 ·exact Lj
 exact Lj
def Z5Y (t_0:Zf):Option (Zf) :=
 ((subH t_0.Doc.Events (if 4 < (t_0.Doc.Events.length:Int) then 4 else(t_0.Doc.Events.length:Int))).bind fun z0=>((subH t_0.Doc.Comments (if 4 < (t_0.Doc.Comments.length:Int) then 4 else(t_0.Doc.Comments.length:Int))).bind fun z1=>((subH t_0.Shots (if 6 < (t_0.Shots.length:Int) then 6 else(t_0.Shots.length:Int))).bind fun z2=>(some (Zf.mk (Z2.mk t_0.Doc.Title t_0.Doc.Lang t_0.Doc.Rate t_0.Doc.Drop t_0.Doc.Last t_0.Doc.Regions z0 z1) t_0.House z2 t_0.Tol)))))
theorem Zeo{I:World->Prop}(hI:Stab I){t_0:Zf}{r:Zf}(h:Z5Y t_0=some r):AFun Tryz.prog I 13 [Zf.d t_0] (Zf.d r):=by
 have dd:=Zb5;have k:=True.intro;have q:=k;have rs:=Tryz.results13;unfold Z5Y at h;refine .en hI Tryz.func13 Tryz.ntmps13 ?_;refine xs<|rz ?_;refine es<|xs<|rP hI fun K0 E=>Zg<|zq ?_;refine sP.light rfl fd<|Zg<|zq ?_;refine sP.light rfl fd<|Zg<|zq ?_;refine sP.foot (.cell 0 6 1) (fun _=>ZG.ld rfl rfl rfl (by kernel_rfl) (by decide)) fd (by first|exact .inl (by first|rfl|decide)|exact .inr (by kernel_rfl))<|Zg<|zq ?_;refine sP.light rfl fd<|Zg<|zq ?_;refine sP.light rfl fd<|Zg<|zq ?_;refine sP.foot (.cell 0 6 1) (fun _=>ZG.ld rfl rfl rfl (by kernel_rfl) (by decide)) fd (by first|exact .inl (by first|rfl|decide)|exact .inr (by kernel_rfl))<|Zg<|zq ?_;refine sP.light rfl fd<|Zg<|zq ?_;refine sP.light rfl fd<|Zg<|zq ?_;obtain⟨z0,h0,h⟩:=bind_some h;obtain⟨⟨h1,h2⟩,h3⟩:=Z7Y h0;have q:=And.intro @h1<|And.intro @h2<|q;try simp -implicitDefEqProofs only[vt,vm,sevalprocAttr,dd,k,q] at h3
 have q:=And.intro @h3<|q;refine zq ?_;refine sP.foot (.ids []) (fun hN=>ZG.idsB [] (by rfl) rfl hN) fd (by first|exact .inl (by first|rfl|decide)|exact .inr (by kernel_rfl))<|Zg<|zq ?_;refine sP.light rfl fd<|Zg<|zq ?_;refine sP.light rfl fd<|Zg<|zq ?_;refine sP.foot (.cell 0 7 1) (fun _=>ZG.ld rfl rfl rfl (by kernel_rfl) (by decide)) fd (by first|exact .inl (by first|rfl|decide)|exact .inr (by kernel_rfl))<|Zg<|zq ?_;refine sP.light rfl fd<|Zg<|zq ?_;refine sP.light rfl fd<|Zg<|zq ?_;refine sP.foot (.cell 0 7 1) (fun _=>ZG.ld rfl rfl rfl (by kernel_rfl) (by decide)) fd (by first|exact .inl (by first|rfl|decide)|exact .inr (by kernel_rfl))<|Zg<|zq ?_;refine sP.light rfl fd<|Zg<|zq ?_;refine sP.light rfl fd<|Zg<|zq ?_;obtain⟨z1,h4,h⟩:=bind_some h;obtain⟨⟨h5,h6⟩,h7⟩:=Z7Y h4;have q:=And.intro @h5<|And.intro @h6<|q;try simp -implicitDefEqProofs only[vt,vm,sevalprocAttr,dd,k,q] at h7
 have q:=And.intro @h7<|q;refine zq ?_;refine sP.foot (.ids []) (fun hN=>ZG.idsB [] (by rfl) rfl hN) fd (by first|exact .inl (by first|rfl|decide)|exact .inr (by kernel_rfl))<|Zg<|zq ?_;refine sP.light rfl fd<|Zg<|zq ?_;refine sP.foot (.cell 0 22 1) (fun _=>ZG.ld rfl rfl rfl (by kernel_rfl) (by decide)) fd (by first|exact .inl (by first|rfl|decide)|exact .inr (by kernel_rfl))<|Zg<|zq ?_;refine sP.light rfl fd<|Zg<|zq ?_;refine sP.foot (.cell 0 22 1) (fun _=>ZG.ld rfl rfl rfl (by kernel_rfl) (by decide)) fd (by first|exact .inl (by first|rfl|decide)|exact .inr (by kernel_rfl))<|Zg<|zq ?_;refine sP.light rfl fd<|Zg<|zq ?_;refine sP.light rfl fd<|Zg<|zq ?_;obtain⟨z2,h8,h⟩:=bind_some h;obtain⟨⟨h9,h10⟩,h11⟩:=Z7Y h8;have q:=And.intro @h9<|And.intro @h10<|q;try simp -implicitDefEqProofs only[vt,vm,sevalprocAttr,dd,k,q] at h11
 have q:=And.intro @h11<|q;refine zq ?_;refine sP.foot (.ids []) (fun hN=>ZG.idsB [] (by rfl) rfl hN) fd (by first|exact .inl (by first|rfl|decide)|exact .inr (by kernel_rfl))<|Zg<|zq ?_;refine sP.light rfl fd<|Zg<|zq ?_;refine sP.light rfl fd<|Zg<|zq ?_;refine sP.pat 0 6 1 rfl rfl rfl<|Zg<|zq ?_;refine sP.light rfl fd<|Zg<|zq ?_;refine sP.light rfl fd<|Zg<|zq ?_;refine sP.pat 0 7 1 rfl rfl rfl<|Zg<|zq ?_;refine sP.light rfl fd<|Zg<|zq ?_;refine sP.pat 0 22 1 rfl rfl rfl<|zq ?_;refine Z9Q fk ?_;subst E;exact Lo
end Go.Proofs.YtobglplholhkcaaGreatDoor

namespace Go.Proofs.YtobglplholhkcaaGreatDoor
open Go.RowKit
set_option maxRecDepth 100000
set_option maxHeartbeats 10000000
structure Z4L where
 Title:List UInt8
 Lang:List UInt8
 Rate:Int
 Drop:Bool
 Last:Int
 deriving DecidableEq
def Z4L.d(x:Z4L):D:=.agg [.str x.Title,.str x.Lang,.int .u8 x.Rate,.bool x.Drop,.int .i64 x.Last]
theorem Z6P:(∀ x,Z3.d x=.agg [.str x.Name,.int .i64 x.Top,.int .i64 x.Height,.int .i64 x.Left,.int .i64 x.Width,.int .u8 x.Align,.bool x.Bottom])/\(∀ x,Z4.d x=.agg [.int .i64 x.ID,.int .i64 x.Event,.int .i64 x.From,.int .i64 x.To,.str x.Author,.str x.Text,.bool x.Done,.bool x.Lost])/\(∀ x,Ze.d x=.agg [.int .i64 x.In,.int .i64 x.Out])/\(∀ x,Zw.d x=.agg [.int .u8 x.Color,.bool x.Italic,.bool x.Underline])/\(∀ x,Zd.d x=.agg [.str x.Text,.int .u8 x.Style.Color,.bool x.Style.Italic,.bool x.Style.Underline,.str x.Ruby])/\(∀ x,Z6.d x=.agg [.sl (x.Runs.map Zd.d)])/\(∀ x,Z0.d x=.agg [.int .i64 x.ID,.int .i64 x.Span.In,.int .i64 x.Span.Out,.str x.Region,.int .u8 x.Kind,.str x.Speaker,.sl (x.Rows.map Z6.d)])/\(∀ x,Z1.d x=.agg [.int .i64 x.I,.int .i64 x.J,.int .i64 x.C,.int .u8 x.Rule,.int .i64 x.ID,.int .i64 x.Other])/\(∀ x,Z2.d x=.agg [.str x.Title,.str x.Lang,.int .u8 x.Rate,.bool x.Drop,.int .i64 x.Last,.sl (x.Regions.map Z3.d),.sl (x.Events.map Z0.d),.sl (x.Comments.map Z4.d)])/\(∀ x,Z4L.d x=.agg [.str x.Title,.str x.Lang,.int .u8 x.Rate,.bool x.Drop,.int .i64 x.Last])/\(∀ x,Z7.d x=.agg [.str x.Name,.int .i64 x.Reading,.int .i64 x.MinFrames,.int .i64 x.MaxFrames,.int .i64 x.MinGap,.int .i64 x.ShotBefore,.int .i64 x.ShotAfter,.int .i64 x.Rows,.int .i64 x.Cols,.str x.Forbidden,.int .i64 x.SafeTop,.int .i64 x.SafeBottom,.int .i64 x.SafeLeft,.int .i64 x.SafeRight])/\(∀ x,Zf.d x=.agg [.str x.Doc.Title,.str x.Doc.Lang,.int .u8 x.Doc.Rate,.bool x.Doc.Drop,.int .i64 x.Doc.Last,.sl (x.Doc.Regions.map Z3.d),.sl (x.Doc.Events.map Z0.d),.sl (x.Doc.Comments.map Z4.d),.str x.House.Name,.int .i64 x.House.Reading,.int .i64 x.House.MinFrames,.int .i64 x.House.MaxFrames,.int .i64 x.House.MinGap,.int .i64 x.House.ShotBefore,.int .i64 x.House.ShotAfter,.int .i64 x.House.Rows,.int .i64 x.House.Cols,.str x.House.Forbidden,.int .i64 x.House.SafeTop,.int .i64 x.House.SafeBottom,.int .i64 x.House.SafeLeft,.int .i64 x.House.SafeRight,.sl (x.Shots.map (D.int .i64)),.int .i64 x.Tol])/\(∀ x,Z8.d x=.agg [.int .i64 x.ID,.int .i64 x.In,.int .i64 x.Out])/\(∀ x,Zu.d x=.agg [.str x.Doc.Title,.str x.Doc.Lang,.int .u8 x.Doc.Rate,.bool x.Doc.Drop,.int .i64 x.Doc.Last,.sl (x.Doc.Regions.map Z3.d),.sl (x.Doc.Events.map Z0.d),.sl (x.Doc.Comments.map Z4.d),.sl (x.Shifts.map Z8.d),.int .i64 x.Needed,.sl (x.Conflict.map Z1.d)]):=⟨fun _=>rfl,fun _=>rfl,fun _=>rfl,fun _=>rfl,fun _=>rfl,fun _=>rfl,fun _=>rfl,fun _=>rfl,fun _=>rfl,fun _=>rfl,fun _=>rfl,fun _=>rfl,fun _=>rfl,fun _=>rfl⟩
def Z4b (d_0:Z2):Option (Z4L) :=
 (some (Z4L.mk d_0.Title d_0.Lang d_0.Rate d_0.Drop d_0.Last))
theorem Z7G{I:World->Prop}(hI:Stab I){d_0:Z2}{r:Z4L}(h:Z4b d_0=some r):AFun Tryz.prog I 53 [Z2.d d_0] (Z4L.d r):=by
 have dd:=Z6P;have k:=True.intro;have q:=k;have rs:=Tryz.results53;unfold Z4b at h;refine .en hI Tryz.func53 Tryz.ntmps53 ?_;exact LA
def Z0o (s1_0:List Z3)(s2_1:List Z3)(x0:Int):Option (Nx (Int) (Unit ⊕ Unit)) :=
 (if(decide (x0 < (s1_0.length:Int))) then((atI s1_0 x0).bind fun y0=>((atI s2_1 x0).bind fun y1=>(if((y0.Name == y1.Name)&&((y0.Top == y1.Top)&&((y0.Height == y1.Height)&&((y0.Left == y1.Left)&&((y0.Width == y1.Width)&&((y0.Align == y1.Align)&&(y0.Bottom == y1.Bottom))))))) then(some (.go (IntKind.i64.wrap (x0+1)))) else(some (.out (.inl ())))))) else(some (.out (.inr ()))))
def Z06 (s1_0:List Z3)(s2_1:List Z3):Option (Bool) :=
 (if((s1_0.length:Int) != (s2_1.length:Int)) then(some false) else((iter (Z0o s1_0 s2_1) 0).bind fun e0=>(match e0 with|Sum.inl e0=>(some false)|Sum.inr (e0)=>(some true))))
theorem Z5x{I:World->Prop}(hI:Stab I){s1_0:List Z3}{s2_1:List Z3}{r:Bool}(h:Z06 s1_0 s2_1=some r):AFun Tryz.prog I 54 [.sl (s1_0.map Z3.d),.sl (s2_1.map Z3.d)] (.bool r):=by
 have dd:=Z6P;have k:=True.intro;have q:=k;have rs:=Tryz.results54;unfold Z06 at h;refine .en hI Tryz.func54 Tryz.ntmps54 ?_;refine xs<|rz ?_;refine es<|xs<|xs<|rz ?_;refine es ?_;obtain⟨k,h⟩|⟨k,h⟩:=iK k h
 ·exact Lc
 refine xf<|xk<|es<|xs<|xs<|rz ?_;refine es<|xb ?_;obtain⟨e0,h0,h⟩:=bs h;refine Zb (fun x0=>⟨envL [(0,.sl (s1_0.map Z3.d)),(1,.sl (s2_1.map Z3.d)),(12,.int .i64 (s1_0.length:Int)),(13,.int .i64 x0)],Z5 [],0,26⟩) (fun w=>match w with|Sum.inl _=>.ret|Sum.inr (_)=>.exit 0) (fun w=>match w with|Sum.inl e0=>⟨envL [(4,.bool false)],Z5 [],0,26⟩|Sum.inr (e0)=>⟨envL [],Z5 [],0,26⟩) h0 (wk []) (by intro w;rcases w with w|w<;>simp) ?_ ?_
 ·clear h;intro x0 y h;unfold Z0o at h;refine xs<|rz ?_;refine es<|xs ?_;obtain⟨k,h⟩|⟨k,h⟩:=iK k h
  ·refine xt<|xk<|es<|xs<|xb<|xs<|rz ?_;refine es<|xs<|rD hI fun K _ E J=>zz ?_;obtain⟨y0,q,h⟩:=bK q h;refine zz ?_;obtain⟨y1,q,h⟩:=bK q h;refine zz ?_;subst E J;refine es ?_;obtain⟨k,h⟩|⟨k,h⟩:=iK k h
   ·exact Ll
   exact Lk
  exact Le
 rcases e0 with e0|e0
 ·try dsimp only at h ⊢
  exact Li
 try dsimp only at h ⊢
 exact Lg
def Z0R (s1_0:List Zd)(s2_1:List Zd)(x0:Int):Option (Nx (Int) (Unit ⊕ Unit)) :=
 (if(decide (x0 < (s1_0.length:Int))) then((atI s1_0 x0).bind fun y0=>((atI s2_1 x0).bind fun y1=>(if((y0.Text == y1.Text)&&((y0.Style.Color == y1.Style.Color)&&((y0.Style.Italic == y1.Style.Italic)&&((y0.Style.Underline == y1.Style.Underline)&&(y0.Ruby == y1.Ruby))))) then(some (.go (IntKind.i64.wrap (x0+1)))) else(some (.out (.inl ())))))) else(some (.out (.inr ()))))
def Z0z (s1_0:List Zd)(s2_1:List Zd):Option (Bool) :=
 (if((s1_0.length:Int) != (s2_1.length:Int)) then(some false) else((iter (Z0R s1_0 s2_1) 0).bind fun e0=>(match e0 with|Sum.inl e0=>(some false)|Sum.inr (e0)=>(some true))))
theorem Z6l{I:World->Prop}(hI:Stab I){s1_0:List Zd}{s2_1:List Zd}{r:Bool}(h:Z0z s1_0 s2_1=some r):AFun Tryz.prog I 170 [.sl (s1_0.map Zd.d),.sl (s2_1.map Zd.d)] (.bool r):=by
 have dd:=Z6P;have k:=True.intro;have q:=k;have rs:=Tryz.results170;unfold Z0z at h;refine .en hI Tryz.func170 Tryz.ntmps170 ?_;refine xs<|rz ?_;refine es<|xs<|xs<|rz ?_;refine es ?_;obtain⟨k,h⟩|⟨k,h⟩:=iK k h
 ·exact Lc
 refine xf<|xk<|es<|xs<|xs<|rz ?_;refine es<|xb ?_;obtain⟨e0,h0,h⟩:=bs h;refine Zb (fun x0=>⟨envL [(0,.sl (s1_0.map Zd.d)),(1,.sl (s2_1.map Zd.d)),(12,.int .i64 (s1_0.length:Int)),(13,.int .i64 x0)],Z5 [],0,26⟩) (fun w=>match w with|Sum.inl _=>.ret|Sum.inr (_)=>.exit 0) (fun w=>match w with|Sum.inl e0=>⟨envL [(4,.bool false)],Z5 [],0,26⟩|Sum.inr (e0)=>⟨envL [],Z5 [],0,26⟩) h0 (wk []) (by intro w;rcases w with w|w<;>simp) ?_ ?_
 ·clear h;intro x0 y h;unfold Z0R at h;refine xs<|rz ?_;refine es<|xs ?_;obtain⟨k,h⟩|⟨k,h⟩:=iK k h
  ·refine xt<|xk<|es<|xs<|xb<|xs<|rz ?_;refine es<|xs<|rD hI fun K _ E J=>zz ?_;obtain⟨y0,q,h⟩:=bK q h;refine zz ?_;obtain⟨y1,q,h⟩:=bK q h;refine zz ?_;subst E J;refine es ?_;obtain⟨k,h⟩|⟨k,h⟩:=iK k h
   ·exact Ll
   exact Lk
  exact Le
 rcases e0 with e0|e0
 ·try dsimp only at h ⊢
  exact Li
 try dsimp only at h ⊢
 exact Lg
def Z6v (a_0:Z6)(b_1:Z6):Option (Bool) :=
 ((Z0z a_0.Runs b_1.Runs).bind fun r7=>(some r7))
theorem Zdk{I:World->Prop}(hI:Stab I){a_0:Z6}{b_1:Z6}{r:Bool}(h:Z6v a_0 b_1=some r):AFun Tryz.prog I 147 [Z6.d a_0,Z6.d b_1] (.bool r):=by
 have dd:=Z6P;have k:=True.intro;have q:=k;have rs:=Tryz.results147;unfold Z6v at h;refine .en hI Tryz.func147 Tryz.ntmps147 ?_;refine xs<|rz ?_;refine es<|xs<|rK fun K _ E J=>zz ?_;obtain⟨r7,h8,h⟩:=bs h;refine cw (Z6l hI h8)<|zz ?_;exact Lz
def ZI (s1_0:List Z6)(s2_1:List Z6)(x0:Int):Option (Nx (Int) (Unit ⊕ Unit)) :=
 (if(decide (x0 < (s1_0.length:Int))) then((atI s1_0 x0).bind fun y0=>((atI s2_1 x0).bind fun y1=>((Z6v y0 y1).bind fun r0=>(if r0 then(some (.go (IntKind.i64.wrap (x0+1)))) else(some (.out (.inl ()))))))) else(some (.out (.inr ()))))
def ZN (s1_0:List Z6)(s2_1:List Z6):Option (Bool) :=
 (if((s1_0.length:Int) != (s2_1.length:Int)) then(some false) else((iter (ZI s1_0 s2_1) 0).bind fun e0=>(match e0 with|Sum.inl e0=>(some false)|Sum.inr (e0)=>(some true))))
theorem Z3f{I:World->Prop}(hI:Stab I){s1_0:List Z6}{s2_1:List Z6}{r:Bool}(h:ZN s1_0 s2_1=some r):AFun Tryz.prog I 146 [.sl (s1_0.map Z6.d),.sl (s2_1.map Z6.d),.fn 147 []] (.bool r):=by
 have dd:=Z6P;have k:=True.intro;have q:=k;have rs:=Tryz.results146;unfold ZN at h;refine .en hI Tryz.func146 Tryz.ntmps146 ?_;refine xs<|rz ?_;refine es<|xs<|xs<|rz ?_;refine es ?_;obtain⟨k,h⟩|⟨k,h⟩:=iK k h
 ·exact Lc
 refine xf<|xk<|es<|xs<|xs<|rz ?_;refine es<|xb ?_;obtain⟨e0,h0,h⟩:=bs h;refine Zb (fun x0=>⟨envL [(1,.sl (s2_1.map Z6.d)),(2,.fn 147 []),(15,.sl (s1_0.map Z6.d)),(16,.int .i64 (s1_0.length:Int)),(17,.int .i64 x0)],Z5 [],0,32⟩) (fun w=>match w with|Sum.inl _=>.ret|Sum.inr (_)=>.exit 0) (fun w=>match w with|Sum.inl e0=>⟨envL [(6,.bool false)],Z5 [],0,32⟩|Sum.inr (e0)=>⟨envL [],Z5 [],0,32⟩) h0 (wk []) (by intro w;rcases w with w|w<;>simp) ?_ ?_
 ·clear h;intro x0 y h;unfold ZI at h;refine xs<|rz ?_;refine es<|xs ?_;obtain⟨k,h⟩|⟨k,h⟩:=iK k h
  ·refine xt<|xk<|es<|xs<|xb<|xs<|rK fun K _ E J=>zz ?_;obtain⟨y0,q,h⟩:=bK q h;refine zz ?_;subst E J;refine es<|xs<|rK fun K _ E J=>zz ?_;obtain⟨y1,q,h⟩:=bK q h;refine zz ?_;subst E J;refine es<|xs<|rK fun K _ E J=>zz ?_;obtain⟨r0,h1,h⟩:=bs h;refine cw (Zdk hI h1)<|zz ?_;subst E J;refine es ?_;obtain⟨k,h⟩|⟨k,h⟩:=iK k h
   ·exact Ll
   exact Lk
  exact Le
 rcases e0 with e0|e0
 ·try dsimp only at h ⊢
  exact Li
 try dsimp only at h ⊢
 exact Lg
def Z3I (a_0:List Z6)(b_1:List Z6):Option (Bool) :=
 ((ZN a_0 b_1).bind fun r7=>(some r7))
theorem Zal{I:World->Prop}(hI:Stab I){a_0:List Z6}{b_1:List Z6}{r:Bool}(h:Z3I a_0 b_1=some r):AFun Tryz.prog I 107 [.sl (a_0.map Z6.d),.sl (b_1.map Z6.d)] (.bool r):=by
 have dd:=Z6P;have k:=True.intro;have q:=k;have rs:=Tryz.results107;unfold Z3I at h;refine .en hI Tryz.func107 Tryz.ntmps107 ?_;refine xs<|rz ?_;refine es<|xs<|rK fun K _ E J=>zz ?_;obtain⟨r7,h8,h⟩:=bs h;refine cw (Z3f hI h8)<|zz ?_;exact Lz
def Z5B (a_0:Z0)(b_1:Z0):Option (Bool) :=
 (if(a_0.ID == b_1.ID) then(if((a_0.Span.In == b_1.Span.In)&&(a_0.Span.Out == b_1.Span.Out)) then(if(a_0.Region == b_1.Region) then(if(a_0.Kind == b_1.Kind) then(if(a_0.Speaker == b_1.Speaker) then((Z3I a_0.Rows b_1.Rows).bind fun r0=>(some r0)) else(some false)) else(some false)) else(some false)) else(some false)) else(some false))
theorem Zdb{I:World->Prop}(hI:Stab I){a_0:Z0}{b_1:Z0}{r:Bool}(h:Z5B a_0 b_1=some r):AFun Tryz.prog I 56 [Z0.d a_0,Z0.d b_1] (.bool r):=by
 have dd:=Z6P;have k:=True.intro;have q:=k;have rs:=Tryz.results56;unfold Z5B at h;refine .en hI Tryz.func56 Tryz.ntmps56 ?_;refine xs<|rz ?_;refine es<|xs<|rK fun K _ E J=>zz ?_;obtain⟨k,h⟩|⟨k,h⟩:=iK k h
 ·refine zz ?_;obtain⟨k,h⟩|⟨k,h⟩:=iK k h
  ·refine zz ?_;obtain⟨k,h⟩|⟨k,h⟩:=iK k h
   ·refine zz ?_;obtain⟨k,h⟩|⟨k,h⟩:=iK k h
    ·refine zz ?_;obtain⟨k,h⟩|⟨k,h⟩:=iK k h
     ·refine zz ?_;obtain⟨r0,h0,h⟩:=bs h;refine cw (Zal hI h0)<|zz ?_;exact Lz
     exact Lj
    exact Lj
   exact Lj
  exact Lj
 exact Lj
def Zx (s1_0:List Z0)(s2_1:List Z0)(x0:Int):Option (Nx (Int) (Unit ⊕ Unit)) :=
 (if(decide (x0 < (s1_0.length:Int))) then((atI s1_0 x0).bind fun y0=>((atI s2_1 x0).bind fun y1=>((Z5B y0 y1).bind fun r0=>(if r0 then(some (.go (IntKind.i64.wrap (x0+1)))) else(some (.out (.inl ()))))))) else(some (.out (.inr ()))))
def Zs (s1_0:List Z0)(s2_1:List Z0):Option (Bool) :=
 (if((s1_0.length:Int) != (s2_1.length:Int)) then(some false) else((iter (Zx s1_0 s2_1) 0).bind fun e0=>(match e0 with|Sum.inl e0=>(some false)|Sum.inr (e0)=>(some true))))
theorem Z2f{I:World->Prop}(hI:Stab I){s1_0:List Z0}{s2_1:List Z0}{r:Bool}(h:Zs s1_0 s2_1=some r):AFun Tryz.prog I 55 [.sl (s1_0.map Z0.d),.sl (s2_1.map Z0.d),.fn 56 []] (.bool r):=by
 have dd:=Z6P;have k:=True.intro;have q:=k;have rs:=Tryz.results55;unfold Zs at h;refine .en hI Tryz.func55 Tryz.ntmps55 ?_;refine xs<|rz ?_;refine es<|xs<|xs<|rz ?_;refine es ?_;obtain⟨k,h⟩|⟨k,h⟩:=iK k h
 ·exact Lc
 refine xf<|xk<|es<|xs<|xs<|rz ?_;refine es<|xb ?_;obtain⟨e0,h0,h⟩:=bs h;refine Zb (fun x0=>⟨envL [(1,.sl (s2_1.map Z0.d)),(2,.fn 56 []),(15,.sl (s1_0.map Z0.d)),(16,.int .i64 (s1_0.length:Int)),(17,.int .i64 x0)],Z5 [],0,32⟩) (fun w=>match w with|Sum.inl _=>.ret|Sum.inr (_)=>.exit 0) (fun w=>match w with|Sum.inl e0=>⟨envL [(6,.bool false)],Z5 [],0,32⟩|Sum.inr (e0)=>⟨envL [],Z5 [],0,32⟩) h0 (wk []) (by intro w;rcases w with w|w<;>simp) ?_ ?_
 ·clear h;intro x0 y h;unfold Zx at h;refine xs<|rz ?_;refine es<|xs ?_;obtain⟨k,h⟩|⟨k,h⟩:=iK k h
  ·refine xt<|xk<|es<|xs<|xb<|xs<|rK fun K _ E J=>zz ?_;obtain⟨y0,q,h⟩:=bK q h;refine zz ?_;subst E J;refine es<|xs<|rK fun K _ E J=>zz ?_;obtain⟨y1,q,h⟩:=bK q h;refine zz ?_;subst E J;refine es<|xs<|rK fun K _ E J=>zz ?_;obtain⟨r0,h1,h⟩:=bs h;refine cw (Zdb hI h1)<|zz ?_;subst E J;refine es ?_;obtain⟨k,h⟩|⟨k,h⟩:=iK k h
   ·exact Ll
   exact Lk
  exact Le
 rcases e0 with e0|e0
 ·try dsimp only at h ⊢
  exact Li
 try dsimp only at h ⊢
 exact Lg
def Z0f (s1_0:List Z4)(s2_1:List Z4)(x0:Int):Option (Nx (Int) (Unit ⊕ Unit)) :=
 (if(decide (x0 < (s1_0.length:Int))) then((atI s1_0 x0).bind fun y0=>((atI s2_1 x0).bind fun y1=>(if((y0.ID == y1.ID)&&((y0.Event == y1.Event)&&((y0.From == y1.From)&&((y0.To == y1.To)&&((y0.Author == y1.Author)&&((y0.Text == y1.Text)&&((y0.Done == y1.Done)&&(y0.Lost == y1.Lost)))))))) then(some (.go (IntKind.i64.wrap (x0+1)))) else(some (.out (.inl ())))))) else(some (.out (.inr ()))))
def ZZ (s1_0:List Z4)(s2_1:List Z4):Option (Bool) :=
 (if((s1_0.length:Int) != (s2_1.length:Int)) then(some false) else((iter (Z0f s1_0 s2_1) 0).bind fun e0=>(match e0 with|Sum.inl e0=>(some false)|Sum.inr (e0)=>(some true))))
theorem Z5h{I:World->Prop}(hI:Stab I){s1_0:List Z4}{s2_1:List Z4}{r:Bool}(h:ZZ s1_0 s2_1=some r):AFun Tryz.prog I 57 [.sl (s1_0.map Z4.d),.sl (s2_1.map Z4.d)] (.bool r):=by
 have dd:=Z6P;have k:=True.intro;have q:=k;have rs:=Tryz.results57;unfold ZZ at h;refine .en hI Tryz.func57 Tryz.ntmps57 ?_;refine xs<|rz ?_;refine es<|xs<|xs<|rz ?_;refine es ?_;obtain⟨k,h⟩|⟨k,h⟩:=iK k h
 ·exact Lc
 refine xf<|xk<|es<|xs<|xs<|rz ?_;refine es<|xb ?_;obtain⟨e0,h0,h⟩:=bs h;refine Zb (fun x0=>⟨envL [(0,.sl (s1_0.map Z4.d)),(1,.sl (s2_1.map Z4.d)),(12,.int .i64 (s1_0.length:Int)),(13,.int .i64 x0)],Z5 [],0,26⟩) (fun w=>match w with|Sum.inl _=>.ret|Sum.inr (_)=>.exit 0) (fun w=>match w with|Sum.inl e0=>⟨envL [(4,.bool false)],Z5 [],0,26⟩|Sum.inr (e0)=>⟨envL [],Z5 [],0,26⟩) h0 (wk []) (by intro w;rcases w with w|w<;>simp) ?_ ?_
 ·clear h;intro x0 y h;unfold Z0f at h;refine xs<|rz ?_;refine es<|xs ?_;obtain⟨k,h⟩|⟨k,h⟩:=iK k h
  ·refine xt<|xk<|es<|xs<|xb<|xs<|rz ?_;refine es<|xs<|rD hI fun K _ E J=>zz ?_;obtain⟨y0,q,h⟩:=bK q h;refine zz ?_;obtain⟨y1,q,h⟩:=bK q h;refine zz ?_;subst E J;refine es ?_;obtain⟨k,h⟩|⟨k,h⟩:=iK k h
   ·exact Ll
   exact Lk
  exact Le
 rcases e0 with e0|e0
 ·try dsimp only at h ⊢
  exact Li
 try dsimp only at h ⊢
 exact Lg
def Z4c (a_0:Z2)(b_1:Z2):Option (Bool) :=
 ((Z4b a_0).bind fun r0=>((Z4b b_1).bind fun r1=>(if((r0.Title == r1.Title)&&((r0.Lang == r1.Lang)&&((r0.Rate == r1.Rate)&&((r0.Drop == r1.Drop)&&(r0.Last == r1.Last))))) then((Z06 a_0.Regions b_1.Regions).bind fun r2=>(if r2 then((Zs a_0.Events b_1.Events).bind fun r3=>(if r3 then((ZZ a_0.Comments b_1.Comments).bind fun r4=>(some r4)) else(some false))) else(some false))) else(some false))))
theorem ZaO{I:World->Prop}(hI:Stab I){a_0:Z2}{b_1:Z2}{r:Bool}(h:Z4c a_0 b_1=some r):AFun Tryz.prog I 22 [Z2.d a_0,Z2.d b_1] (.bool r):=by
 have dd:=Z6P;have k:=True.intro;have q:=k;have rs:=Tryz.results22;unfold Z4c at h;refine .en hI Tryz.func22 Tryz.ntmps22 ?_;refine xs<|rz ?_;refine es<|xs<|rD hI fun K _ E J=>zz ?_;obtain⟨r0,h0,h⟩:=bs h;refine cd (Z7G hI h0)<|zz ?_;obtain⟨r1,h1,h⟩:=bs h;refine cd (Z7G hI h1)<|zz ?_;obtain⟨k,h⟩|⟨k,h⟩:=iK k h
 ·refine zz ?_;obtain⟨r2,h2,h⟩:=bs h;refine cd (Z5x hI h2)<|zz ?_;obtain⟨k,h⟩|⟨k,h⟩:=iK k h
  ·refine zz ?_;obtain⟨r3,h3,h⟩:=bs h;refine cd (Z2f hI h3)<|zz ?_;obtain⟨k,h⟩|⟨k,h⟩:=iK k h
   ·refine zz ?_;obtain⟨r4,h4,h⟩:=bs h;refine cd (Z5h hI h4)<|zz ?_;exact Lz
   exact Lj
  exact Lj
 exact Lj
theorem Z4u:(∀ x,Z3.d x=.agg [.str x.Name,.int .i64 x.Top,.int .i64 x.Height,.int .i64 x.Left,.int .i64 x.Width,.int .u8 x.Align,.bool x.Bottom])/\(∀ x,Z4.d x=.agg [.int .i64 x.ID,.int .i64 x.Event,.int .i64 x.From,.int .i64 x.To,.str x.Author,.str x.Text,.bool x.Done,.bool x.Lost])/\(∀ x,Ze.d x=.agg [.int .i64 x.In,.int .i64 x.Out])/\(∀ x,Zw.d x=.agg [.int .u8 x.Color,.bool x.Italic,.bool x.Underline])/\(∀ x,Zd.d x=.agg [.str x.Text,.int .u8 x.Style.Color,.bool x.Style.Italic,.bool x.Style.Underline,.str x.Ruby])/\(∀ x,Z6.d x=.agg [.sl (x.Runs.map Zd.d)])/\(∀ x,Z0.d x=.agg [.int .i64 x.ID,.int .i64 x.Span.In,.int .i64 x.Span.Out,.str x.Region,.int .u8 x.Kind,.str x.Speaker,.sl (x.Rows.map Z6.d)])/\(∀ x,Z1.d x=.agg [.int .i64 x.I,.int .i64 x.J,.int .i64 x.C,.int .u8 x.Rule,.int .i64 x.ID,.int .i64 x.Other])/\(∀ x,Z7.d x=.agg [.str x.Name,.int .i64 x.Reading,.int .i64 x.MinFrames,.int .i64 x.MaxFrames,.int .i64 x.MinGap,.int .i64 x.ShotBefore,.int .i64 x.ShotAfter,.int .i64 x.Rows,.int .i64 x.Cols,.str x.Forbidden,.int .i64 x.SafeTop,.int .i64 x.SafeBottom,.int .i64 x.SafeLeft,.int .i64 x.SafeRight]):=⟨fun _=>rfl,fun _=>rfl,fun _=>rfl,fun _=>rfl,fun _=>rfl,fun _=>rfl,fun _=>rfl,fun _=>rfl,fun _=>rfl⟩
def Z51 (c_0:Int):Option (Bool) :=
 (if(decide (48<=c_0)) then(some (decide (c_0<=57))) else(some false))
theorem ZcB{I:World->Prop}(hI:Stab I){c_0:Int}{r:Bool}(h:Z51 c_0=some r):AFun Tryz.prog I 125 [.int .u8 c_0] (.bool r):=by
 have dd:=Z4u;have k:=True.intro;have q:=k;have rs:=Tryz.results125;unfold Z51 at h;refine .en hI Tryz.func125 Tryz.ntmps125 ?_;refine xs<|rz ?_;refine es<|xs<|rK fun K _ E J=>zz ?_;obtain⟨k,h⟩|⟨k,h⟩:=iK k h
 ·exact Lj
 exact Lj
def Z4f (s_0:List UInt8)(x0:Int):Option (Nx (Int) (Unit ⊕ Unit)) :=
 (if(decide (x0 < (s_0.length:Int))) then((((((atI s_0 x0).bind fun b0=>(if(decide (65<=(b0.toNat:Int))) then(some (decide ((b0.toNat:Int)<=90))) else(some false))):Option (Bool)).bind fun v0=>(if v0 then(some (.go ())) else(if(x0 == 0) then(some (.out ())) else((atI s_0 x0).bind fun b1=>((Z51 (b1.toNat:Int)).bind fun r0=>(if r0 then(some (.go ())) else(if((b1.toNat:Int) != 95) then(if((b1.toNat:Int) != 45) then(some (.out ())) else(some (.go ()))) else(some (.go ()))))))))):Option (Nx (Unit) (Unit))).bind fun w0=>match w0 with|.go v1=>(some (.go (IntKind.i64.wrap (x0+1))))|.out e0=>(some (.out (.inl ())))) else(some (.out (.inr ()))))
def Z0O (s_0:List UInt8):Option (Bool) :=
 (((if(decide ((s_0.length:Int) < 1)) then(some true) else(some (decide (16 < (s_0.length:Int))))):Option (Bool)).bind fun v5=>(if v5 then(some false) else((iter (Z4f s_0) 0).bind fun e0=>(match e0 with|Sum.inl e0=>(some false)|Sum.inr (e0)=>(some true)))))
theorem Z4w{I:World->Prop}(hI:Stab I){s_0:List UInt8}{r:Bool}(h:Z0O s_0=some r):AFun Tryz.prog I 78 [.str s_0] (.bool r):=by
 have dd:=Z4u;have k:=True.intro;have q:=k;have rs:=Tryz.results78;unfold Z0O at h;refine .en hI Tryz.func78 Tryz.ntmps78 ?_;refine xs<|rz ?_;refine es<|xs ?_;obtain⟨v5,h8,h⟩:=bs h;refine Zk (fun v5=>⟨envL [(0,.str s_0),(12,.bool v5)],Z5 [],0,54⟩) h8 ?_ ?_
 ·clear h;intro v5 h;refine rK fun K _ E J=>zz ?_;obtain⟨k,h⟩|⟨k,h⟩:=iK k h
  ·exact Ld
  exact Ld
 obtain⟨k,h⟩|⟨k,h⟩:=iK k h
 ·exact Lc
 refine xf<|xk<|es<|xs<|xs<|rz ?_;refine es<|xb ?_;obtain⟨e0,h0,h⟩:=bs h;refine Zb (fun x0=>⟨envL [(0,.str s_0),(3,.int .i64 x0)],Z5 [],0,54⟩) (fun w=>match w with|Sum.inl _=>.ret|Sum.inr (_)=>.exit 0) (fun w=>match w with|Sum.inl e0=>⟨envL [(2,.bool false)],Z5 [],0,54⟩|Sum.inr (e0)=>⟨envL [],Z5 [],0,54⟩) h0 (wk []) (by intro w;rcases w with w|w<;>simp) ?_ ?_
 ·clear h;intro x0 y h;unfold Z4f at h;refine xs<|xs<|rz ?_;refine es ?_;obtain⟨k,h⟩|⟨k,h⟩:=iK k h
  ·refine xt<|xk<|es ?_;obtain⟨w0,h1,h⟩:=bs h;refine Zbf (fun v0=>⟨envL [(0,.str s_0),(3,.int .i64 x0)],Z5 [],0,54⟩) (fun _=>.ret) (fun e1=>⟨envL [(2,.bool false)],Z5 [],0,54⟩) h1 (by intro w;simp) ?_ ?_ ?_
   ·clear h;intro w0 h;refine xb ?_;obtain⟨v1,h2,h⟩:=bs h;refine Zk (fun v1=>⟨envL [(0,.str s_0),(3,.int .i64 x0),(4,.bool v1)],Z5 [],0,54⟩) h2 ?_ ?_
    ·clear h;intro v1 h;refine rK fun K _ E J=>zz ?_;obtain⟨b0,q,h⟩:=bK q h;refine zz ?_;obtain⟨k,h⟩|⟨k,h⟩:=iK k h
     ·exact Ld
     exact Ld
    refine xs<|rK fun K _ E J=>zz ?_;obtain⟨k,h⟩|⟨k,h⟩:=iK k h
    ·exact LM
    refine zz ?_;obtain⟨k,h⟩|⟨k,h⟩:=iK k h
    ·refine zz ?_;subst E J;refine es<|xt<|xs<|rz ?_;refine es<|xr<|br ?_;exact La
    refine zz ?_;obtain⟨b1,q,h⟩:=bK q h;refine zz ?_;obtain⟨r0,h3,h⟩:=bs h;refine cw (ZcB hI h3)<|zz ?_;obtain⟨k,h⟩|⟨k,h⟩:=iK k h
    ·exact LM
    refine zz ?_;obtain⟨k,h⟩|⟨k,h⟩:=iK k h
    ·refine zz ?_;subst E J;refine es ?_;obtain⟨k,h⟩|⟨k,h⟩:=iK k h
     ·exact Ls
     exact LP
    exact LM
   ·rintro v0 rfl;dsimp only at h;refine rz ?_;exact La
   rintro e1 rfl;dsimp only at h;exact La
  exact Le
 rcases e0 with e0|e0
 ·try dsimp only at h ⊢
  exact Li
 try dsimp only at h ⊢
 exact Lg
def Z0Y (n_0:Int)(lo_1:Int)(hi_2:Int):Option (Bool) :=
 (if(decide (lo_1<=n_0)) then(some (decide (n_0<=hi_2))) else(some false))
theorem Z3p{I:World->Prop}(hI:Stab I){n_0:Int}{lo_1:Int}{hi_2:Int}{r:Bool}(h:Z0Y n_0 lo_1 hi_2=some r):AFun Tryz.prog I 79 [.int .i64 n_0,.int .i64 lo_1,.int .i64 hi_2] (.bool r):=by
 have dd:=Z4u;have k:=True.intro;have q:=k;have rs:=Tryz.results79;unfold Z0Y at h;refine .en hI Tryz.func79 Tryz.ntmps79 ?_;refine xs<|rz ?_;refine es<|xs<|rK fun K _ E J=>zz ?_;obtain⟨k,h⟩|⟨k,h⟩:=iK k h
 ·exact Lj
 exact Lj
def Z0X (n_0:Int)(lo_1:Int)(hi_2:Int):Option (Bool) :=
 (if(decide (lo_1<=n_0)) then(some (decide (n_0<=hi_2))) else(some false))
theorem Z3o{I:World->Prop}(hI:Stab I){n_0:Int}{lo_1:Int}{hi_2:Int}{r:Bool}(h:Z0X n_0 lo_1 hi_2=some r):AFun Tryz.prog I 80 [.int .i64 n_0,.int .i64 lo_1,.int .i64 hi_2] (.bool r):=by
 have dd:=Z4u;have k:=True.intro;have q:=k;have rs:=Tryz.results80;unfold Z0X at h;refine .en hI Tryz.func80 Tryz.ntmps80 ?_;refine xs<|rz ?_;refine es<|xs<|rK fun K _ E J=>zz ?_;obtain⟨k,h⟩|⟨k,h⟩:=iK k h
 ·exact Lj
 exact Lj
def Z1P  : Option ((List UInt8)) :=
 (some [32,33,34,35,36,37,38,39,40,41,42,43,44,45,46,47,48,49,50,51,52,53,54,55,56,57,58,59,60,61,62,63,64,65,66,67,68,69,70,71,72,73,74,75,76,77,78,79,80,81,82,83,84,85,86,87,88,89,90,91,92,93,94,95,96,97,98,99,100,101,102,103,104,105,106,107,108,109,110,111,112,113,114,115,116,117,118,119,120,121,122,123,124,125,126,194,161,194,162,194,163,194,164,194,165,194,166,194,167,194,169,194,171,194,174,194,176,194,183,194,187,194,189,194,191,195,128,195,129,195,130,195,131,195,132,195,133,195,134,195,135,195,136,195,137,195,138,195,139,195,140,195,141,195,142,195,143,195,145,195,146,195,147,195,148,195,149,195,150,195,152,195,153,195,154,195,155,195,156,195,159,195,160,195,161,195,162,195,163,195,164,195,165,195,166,195,167,195,168,195,169,195,170,195,171,195,172,195,173,195,174,195,175,195,177,195,178,195,179,195,180,195,181,195,182,195,184,195,185,195,186,195,187,195,188,197,146,197,147,226,128,148,226,128,152,226,128,153,226,128,156,226,128,157,226,128,162,226,128,166,226,132,162,226,153,170])
theorem Z97{I:World->Prop}(hI:Stab I) {r:(List UInt8)}(h:Z1P  = some r):AFun Tryz.prog I 161 [] (.str r):=by
 have dd:=Z4u;have k:=True.intro;have q:=k;have rs:=Tryz.results161;unfold Z1P at h;refine .en hI Tryz.func161 Tryz.ntmps161 ?_;exact LA
def Z1y (r_0:Int)(r0:(List UInt8))(x0:Int × Nat):Option (Nx (Int × Nat) (Int ⊕ Unit)) :=
 (if(decide (x0.2 < r0.length)) then(if((Z0F r0 x0.2) == r_0) then(some (.out (.inl x0.1))) else(some (.go ((IntKind.i64.wrap (x0.1+1)),(x0.2+Z0q r0 x0.2))))) else(some (.out (.inr ()))))
def Z27 (r_0:Int):Option (Int) :=
 (((if(decide (32<=r_0)) then(some (decide (r_0<=126))) else(some false)):Option (Bool)).bind fun v5=>(if v5 then(some (IntKind.i64.wrap (IntKind.i32.wrap (r_0 - 32)))) else((Z1P).bind fun r0=>((iter (Z1y r_0 r0) (0,0)).bind fun e0=>(match e0 with|Sum.inl e0=>(some e0)|Sum.inr (e0)=>(some (-1)))))))
theorem ZcC{I:World->Prop}(hI:Stab I){r_0:Int}{r:Int}(h:Z27 r_0=some r):AFun Tryz.prog I 126 [.int .i32 r_0] (.int .i64 r):=by
 have dd:=Z4u;have k:=True.intro;have q:=k;have rs:=Tryz.results126;unfold Z27 at h;refine .en hI Tryz.func126 Tryz.ntmps126 ?_;refine xs<|rz ?_;refine es<|xs ?_;obtain⟨v5,h8,h⟩:=bs h;refine Zk (fun v5=>⟨envL [(0,.int .i32 r_0),(11,.bool v5)],Z5 [],0,26⟩) h8 ?_ ?_
 ·clear h;intro v5 h;refine rK fun K _ E J=>zz ?_;obtain⟨k,h⟩|⟨k,h⟩:=iK k h
  ·exact Ld
  exact Ld
 obtain⟨k,h⟩|⟨k,h⟩:=iK k h
 ·exact Lc
 refine xf<|xk<|es<|xs<|rz ?_;refine es<|xs<|xs<|rK fun K _ E J=>zz ?_;obtain⟨r0,h0,h⟩:=bs h;refine cw (Z97 hI h0)<|zz ?_;subst E J;refine es<|xb ?_;obtain⟨e0,h1,h⟩:=bs h;refine Zb (fun x0=>⟨envL [(0,.int .i32 r_0),(3,.int .i64 x0.1),(16,.ptr 0 0)],Z5 [(0,.iter r0 x0.2)],1,26⟩) (fun w=>match w with|Sum.inl _=>.ret|Sum.inr (_)=>.exit 0) (fun w=>match w with|Sum.inl e0=>⟨envL [(2,.int .i64 e0)],Z5 [],0,26⟩|Sum.inr (e0)=>⟨envL [],Z5 [],0,26⟩) h1 (wk [(0,some 2)]) (by intro w;rcases w with w|w<;>simp) ?_ ?_
 ·clear h;intro x0 y h;unfold Z1y at h;refine xs<|rK fun K _ E J=>zz ?_;obtain⟨k,h⟩|⟨k,h⟩:=iK k h
  ·have k:=And.intro (of_decide_eq_true k.1) k.2;refine zz ?_;subst E J;refine es<|xs<|xt<|xk<|es<|xb<|xs<|rz ?_;refine es<|xs<|xs<|rz ?_;refine es ?_;obtain⟨k,h⟩|⟨k,h⟩:=iK k h
   ·exact LB
   refine xf<|xk<|es<|rz ?_;exact LC
  exact Lp
 rcases e0 with e0|e0
 ·try dsimp only at h ⊢
  exact Li
 try dsimp only at h ⊢
 exact Lg
def Z6b (s_0:List UInt8)(x5:Nat):Option (Nx (Nat) (Unit ⊕ Unit)) :=
 (if(decide (x5 < s_0.length)) then((Z27 (Z0F s_0 x5)).bind fun r0=>(if(decide (r0 < 0)) then(some (.out (.inl ()))) else(some (.go (x5+Z0q s_0 x5))))) else(some (.out (.inr ()))))
def Z0d (s_0:List UInt8):Option (Bool) :=
 ((iter (Z6b s_0) 0).bind fun e6=>(match e6 with|Sum.inl e6=>(some false)|Sum.inr (e6)=>(some true)))
theorem Z24{I:World->Prop}(hI:Stab I){s_0:List UInt8}{r:Bool}(h:Z0d s_0=some r):AFun Tryz.prog I 81 [.str s_0] (.bool r):=by
 have dd:=Z4u;have k:=True.intro;have q:=k;have rs:=Tryz.results81;unfold Z0d at h;refine .en hI Tryz.func81 Tryz.ntmps81 ?_;refine xs<|rz ?_;refine es<|xs<|xs<|rz ?_;refine es<|xb ?_;obtain⟨e6,h0,h⟩:=bs h;refine Zb (fun x5=>⟨envL [(6,.ptr 0 0)],Z5 [(0,.iter s_0 x5)],1,13⟩) (fun w=>match w with|Sum.inl _=>.ret|Sum.inr (_)=>.exit 0) (fun w=>match w with|Sum.inl e6=>⟨envL [(2,.bool false)],Z5 [],0,13⟩|Sum.inr (e6)=>⟨envL [],Z5 [],0,13⟩) h0 (wk [(0,some 2)]) (by intro w;rcases w with w|w<;>simp) ?_ ?_
 ·clear h;intro x5 y h;unfold Z6b at h;refine xs<|rK fun K _ E J=>zz ?_;obtain⟨k,h⟩|⟨k,h⟩:=iK k h
  ·have k:=And.intro (of_decide_eq_true k.1) k.2;refine zz ?_;subst E J;refine es<|xs<|xt<|xk<|es<|xb<|xs<|rz ?_;refine es<|xs<|rK fun K _ E J=>zz ?_;obtain⟨r0,h1,h⟩:=bs h;refine cw (ZcC hI h1)<|zz ?_;subst E J;refine es ?_;obtain⟨k,h⟩|⟨k,h⟩:=iK k h
   ·exact Ls
   exact LP
  exact Lp
 rcases e6 with e6|e6
 ·try dsimp only at h ⊢
  exact Li
 try dsimp only at h ⊢
 exact Lg
def Z2p (s_0:List UInt8)(x7:(List Int) × Nat):Option (Nx ((List Int) × Nat) ((List Int))) :=
 (if(decide (x7.2 < s_0.length)) then(if(x7.1.length+1) * 4<=140737488355328 then(some (.go ((x7.1++[(Z0F s_0 x7.2)]),(x7.2+Z0q s_0 x7.2)))) else none) else(some (.out x7.1)))
def Z28 (s_0:List UInt8):Option ((List Int)) :=
 ((iter (Z2p s_0) ([],0)).bind fun e8=>(some e8))
theorem Z8L{I:World->Prop}(hI:Stab I){s_0:List UInt8}{r:(List Int)}(h:Z28 s_0=some r):AFun Tryz.prog I 127 [.str s_0] (.sl (r.map (D.int .i32))):=by
 have dd:=Z4u;have k:=True.intro;have q:=k;have rs:=Tryz.results127;unfold Z28 at h;refine .en hI Tryz.func127 Tryz.ntmps127 ?_;refine xs<|rz ?_;refine es<|xs<|rz ?_;refine es<|xs<|xs<|rz ?_;refine es<|xb ?_;obtain⟨e8,h0,h⟩:=bs h;refine Zb (fun x7=>⟨envL [(3,.own 1 x7.1.length),(7,.ptr 0 0)],Z5 [(0,.iter s_0 x7.2),(1,.vec 21 1 (x7.1.map (D.int .i32)) false)],2,16⟩) (fun _=>.exit 0) (fun e8=>⟨envL [(3,.own 0 e8.length)],Z5 [(0,.vec 21 1 (e8.map (D.int .i32)) false)],1,16⟩) h0 (wk [(0,some 3),(1,none)]) (by intro w;simp) ?_ ?_
 ·clear h;intro x7 y h;unfold Z2p at h;refine xs<|rK fun K _ E J=>zz ?_;obtain⟨k,h⟩|⟨k,h⟩:=iK k h
  ·have k:=And.intro (of_decide_eq_true k.1) k.2;refine zz ?_;subst E J;refine es<|xs<|xt<|xk<|es<|xb<|xs<|rz ?_;refine es<|rK fun K _ E J=>zz ?_;obtain⟨h1,h⟩:=Zo h;have h2:x7.1.length+1<=9223372036854775807:=by omega
   try simp only[Nat.reduceLeDiff] at h2
   have q:=And.intro @h2<|And.intro @h1<|q;refine zz ?_;subst E J;refine bn ?_;exact Lx
  have k:=And.intro (of_decide_eq_false k.1) k.2;refine zz ?_;subst E J;refine es<|xs<|xf<|xx<|ee ?_;exact Lv
 exact Lg
def Z26 (s_0:List UInt8):Option ((List Int)) :=
 ((Z0d s_0).bind fun r7=>(if r7 then((Z28 s_0).bind fun r0=>(some r0)) else(some [])))
theorem Z8K{I:World->Prop}(hI:Stab I){s_0:List UInt8}{r:(List Int)}(h:Z26 s_0=some r):AFun Tryz.prog I 82 [.str s_0] (.sl (r.map (D.int .i32))):=by
 have dd:=Z4u;have k:=True.intro;have q:=k;have rs:=Tryz.results82;unfold Z26 at h;refine .en hI Tryz.func82 Tryz.ntmps82 ?_;refine xs<|rz ?_;refine es<|xs<|xs<|rK fun K _ E J=>zz ?_;obtain⟨r7,h8,h⟩:=bs h;refine cw (Z24 hI h8)<|zz ?_;subst E J;refine es ?_;obtain⟨k,h⟩|⟨k,h⟩:=iK k h
 ·refine xf<|xk<|es<|xs<|rK fun K _ E J=>zz ?_;obtain⟨r0,h0,h⟩:=bs h;refine cw (Z8L hI h0)<|zz ?_;exact Lz
 exact Lc
def Z4N (r0:(List Int))(x0:Int):Option (Nx (Int) (Unit ⊕ Unit)) :=
 (if(decide (x0 < (r0.length:Int))) then((atI r0 x0).bind fun y0=>((atI r0 (IntKind.i64.wrap (x0 - 1))).bind fun y1=>(if(decide (y0<=y1)) then(some (.out (.inl ()))) else(some (.go (IntKind.i64.wrap (x0+1))))))) else(some (.out (.inr ()))))
def Z31 (p_0:Z7):Option (Int) :=
 ((Z0O p_0.Name).bind fun r7=>(if r7 then((((Z0Y p_0.Reading 1 10000).bind fun r0=>(if r0 then((Z0Y p_0.MinFrames 1 5184000).bind fun r1=>(if r1 then((Z0Y p_0.MaxFrames 1 5184000).bind fun r2=>(if r2 then((Z0Y p_0.MinGap 0 1000).bind fun r3=>(if r3 then((Z0Y p_0.ShotBefore 0 1000).bind fun r4=>(if r4 then((Z0Y p_0.ShotAfter 0 1000).bind fun r5=>(some (!r5))) else(some true))) else(some true))) else(some true))) else(some true))) else(some true))):Option (Bool)).bind fun v0=>(if v0 then(some 2) else((((Z0X p_0.Rows 1 4).bind fun r6=>(if r6 then((Z0X p_0.Cols 1 32).bind fun r8=>(if r8 then((Z0X p_0.SafeTop 0 31).bind fun r9=>(if r9 then((Z0X p_0.SafeBottom 0 31).bind fun r10=>(if r10 then((Z0X p_0.SafeLeft 0 31).bind fun r11=>(if r11 then((Z0X p_0.SafeRight 0 31).bind fun r12=>(if r12 then(if(decide (14 < (IntKind.i64.wrap (p_0.SafeTop+p_0.SafeBottom)))) then(some true) else(some (decide (31 < (IntKind.i64.wrap (p_0.SafeLeft+p_0.SafeRight)))))) else(some true))) else(some true))) else(some true))) else(some true))) else(some true))) else(some true))):Option (Bool)).bind fun v1=>(if v1 then(some 2) else(if(decide (p_0.MaxFrames < p_0.MinFrames)) then(some 8) else((Z0d p_0.Forbidden).bind fun r13=>(if r13 then((Z26 p_0.Forbidden).bind fun r14=>((iter (Z4N r14) 1).bind fun e0=>(match e0 with|Sum.inl e0=>(some 8)|Sum.inr (e0)=>(some 0)))) else(some 10)))))))) else(some 5)))
theorem Z8Q{I:World->Prop}(hI:Stab I){p_0:Z7}{r:Int}(h:Z31 p_0=some r):AFun Tryz.prog I 34 [Z7.d p_0] (.int .i64 r):=by
 have dd:=Z4u;have k:=True.intro;have q:=k;have rs:=Tryz.results34;unfold Z31 at h;refine .en hI Tryz.func34 Tryz.ntmps34 ?_;refine xs<|rz ?_;refine es<|xs<|xs<|rK fun K _ E J=>zz ?_;obtain⟨r7,h8,h⟩:=bs h;refine cw (Z4w hI h8)<|zz ?_;subst E J;refine es ?_;obtain⟨k,h⟩|⟨k,h⟩:=iK k h
 ·refine xf<|xk<|es<|xs ?_;obtain⟨v0,h0,h⟩:=bs h;refine Zk (fun v0=>⟨envL [(1,.ptr 0 0),(42,.bool v0)],Z5 [(0,.box none [.str p_0.Name,.int .i64 p_0.Reading,.int .i64 p_0.MinFrames,.int .i64 p_0.MaxFrames,.int .i64 p_0.MinGap,.int .i64 p_0.ShotBefore,.int .i64 p_0.ShotAfter,.int .i64 p_0.Rows,.int .i64 p_0.Cols,.str p_0.Forbidden,.int .i64 p_0.SafeTop,.int .i64 p_0.SafeBottom,.int .i64 p_0.SafeLeft,.int .i64 p_0.SafeRight])],1,121⟩) h0 ?_ ?_
  ·clear h;intro v0 h;refine rK fun K _ E J=>zz ?_;obtain⟨r0,h1,h⟩:=bs h;refine cw (Z3p hI h1)<|zz ?_;obtain⟨k,h⟩|⟨k,h⟩:=iK k h
   ·refine zz ?_;obtain⟨r1,h2,h⟩:=bs h;refine cw (Z3p hI h2)<|zz ?_;obtain⟨k,h⟩|⟨k,h⟩:=iK k h
    ·refine zz ?_;obtain⟨r2,h3,h⟩:=bs h;refine cw (Z3p hI h3)<|zz ?_;obtain⟨k,h⟩|⟨k,h⟩:=iK k h
     ·refine zz ?_;obtain⟨r3,h4,h⟩:=bs h;refine cw (Z3p hI h4)<|zz ?_;obtain⟨k,h⟩|⟨k,h⟩:=iK k h
      ·refine zz ?_;obtain⟨r4,h5,h⟩:=bs h;refine cw (Z3p hI h5)<|zz ?_;obtain⟨k,h⟩|⟨k,h⟩:=iK k h
       ·refine zz ?_;obtain⟨r5,h6,h⟩:=bs h;refine cw (Z3p hI h6)<|zz ?_;exact LO
       exact Ld
      exact Ld
     exact Ld
    exact Ld
   exact Ld
  obtain⟨k,h⟩|⟨k,h⟩:=iK k h
  ·exact Lc
  refine xf<|xk<|es<|xs ?_;obtain⟨v1,h7,h⟩:=bs h;refine Zk (fun v1=>⟨envL [(1,.ptr 0 0),(92,.bool v1)],Z5 [(0,.box none [.str p_0.Name,.int .i64 p_0.Reading,.int .i64 p_0.MinFrames,.int .i64 p_0.MaxFrames,.int .i64 p_0.MinGap,.int .i64 p_0.ShotBefore,.int .i64 p_0.ShotAfter,.int .i64 p_0.Rows,.int .i64 p_0.Cols,.str p_0.Forbidden,.int .i64 p_0.SafeTop,.int .i64 p_0.SafeBottom,.int .i64 p_0.SafeLeft,.int .i64 p_0.SafeRight])],1,121⟩) h7 ?_ ?_
  ·clear h;intro v1 h;refine rK fun K _ E J=>zz ?_;obtain⟨r6,h9,h⟩:=bs h;refine cw (Z3o hI h9)<|zz ?_;obtain⟨k,h⟩|⟨k,h⟩:=iK k h
   ·refine zz ?_;obtain⟨r8,h10,h⟩:=bs h;refine cw (Z3o hI h10)<|zz ?_;obtain⟨k,h⟩|⟨k,h⟩:=iK k h
    ·refine zz ?_;obtain⟨r9,h11,h⟩:=bs h;refine cw (Z3o hI h11)<|zz ?_;obtain⟨k,h⟩|⟨k,h⟩:=iK k h
     ·refine zz ?_;obtain⟨r10,h12,h⟩:=bs h;refine cw (Z3o hI h12)<|zz ?_;obtain⟨k,h⟩|⟨k,h⟩:=iK k h
      ·refine zz ?_;obtain⟨r11,h13,h⟩:=bs h;refine cw (Z3o hI h13)<|zz ?_;obtain⟨k,h⟩|⟨k,h⟩:=iK k h
       ·refine zz ?_;obtain⟨r12,h14,h⟩:=bs h;refine cw (Z3o hI h14)<|zz ?_;obtain⟨k,h⟩|⟨k,h⟩:=iK k h
        ·refine zz ?_;obtain⟨k,h⟩|⟨k,h⟩:=iK k h
         ·exact Ld
         exact Ld
        exact Ld
       exact Ld
      exact Ld
     exact Ld
    exact Ld
   exact Ld
  obtain⟨k,h⟩|⟨k,h⟩:=iK k h
  ·exact Lc
  refine xf<|xk<|es<|xs<|xs<|rz ?_;refine es ?_;obtain⟨k,h⟩|⟨k,h⟩:=iK k h
  ·exact Lc
  refine xf<|xk<|es<|xs<|xs<|rK fun K _ E J=>zz ?_;obtain⟨r13,h15,h⟩:=bs h;refine cw (Z24 hI h15)<|zz ?_;subst E J;refine es ?_;obtain⟨k,h⟩|⟨k,h⟩:=iK k h
  ·refine xf<|xk<|es<|xs<|rK fun K _ E J=>zz ?_;obtain⟨r14,h16,h⟩:=bs h;refine cw (Z8K hI h16)<|zz ?_;subst E J;refine es<|xs<|xs<|rz ?_;refine es<|xb ?_;obtain⟨e0,h17,h⟩:=bs h;refine Zb (fun x0=>⟨envL [(3,.sl (r14.map (D.int .i32))),(4,.int .i64 x0)],Z5 [],0,121⟩) (fun w=>match w with|Sum.inl _=>.ret|Sum.inr (_)=>.exit 0) (fun w=>match w with|Sum.inl e0=>⟨envL [(2,.int .i64 8)],Z5 [],0,121⟩|Sum.inr (e0)=>⟨envL [],Z5 [],0,121⟩) h17 (wk []) (by intro w;rcases w with w|w<;>simp) ?_ ?_
   ·clear h;intro x0 y h;unfold Z4N at h;refine xs<|xs<|rz ?_;refine es ?_;obtain⟨k,h⟩|⟨k,h⟩:=iK k h
    ·refine xt<|xk<|es<|xs<|xb<|xs<|rD hI fun K _ E J=>zz ?_;obtain⟨y0,q,h⟩:=bK q h;refine zz ?_;obtain⟨y1,q,h⟩:=bK q h;refine zz ?_;subst E J;refine es ?_;obtain⟨k,h⟩|⟨k,h⟩:=iK k h
     ·exact Lk
     exact Ll
    exact Le
   rcases e0 with e0|e0
   ·try dsimp only at h ⊢
    exact Li
   try dsimp only at h ⊢
   exact Lg
  exact Lc
 exact Lc
def Z7w (l_0:List Int)(x0:Int):Option (Nx (Int) (Int ⊕ Unit)) :=
 (if(decide (x0 < (l_0.length:Int))) then((atI l_0 x0).bind fun y0=>(((if(decide (y0 < 1)) then(some true) else(some (decide (5184000 < y0)))):Option (Bool)).bind fun v0=>(if v0 then(some (.out (.inl 2))) else(if(decide (0 < x0)) then((atI l_0 (IntKind.i64.wrap (x0 - 1))).bind fun y1=>(if(decide (y0<=y1)) then(some (.out (.inl 8))) else(some (.go (IntKind.i64.wrap (x0+1)))))) else(some (.go (IntKind.i64.wrap (x0+1)))))))) else(some (.out (.inr ()))))
def Z29 (l_0:List Int):Option (Int) :=
 (if(decide (400 < (l_0.length:Int))) then(some 9) else((iter (Z7w l_0) 0).bind fun e0=>(match e0 with|Sum.inl e0=>(some e0)|Sum.inr (e0)=>(some 0))))
theorem Z61{I:World->Prop}(hI:Stab I){l_0:List Int}{r:Int}(h:Z29 l_0=some r):AFun Tryz.prog I 35 [.sl (l_0.map (D.int .i64))] (.int .i64 r):=by
 have dd:=Z4u;have k:=True.intro;have q:=k;have rs:=Tryz.results35;unfold Z29 at h;refine .en hI Tryz.func35 Tryz.ntmps35 ?_;refine xs<|rz ?_;refine es<|xs<|xs<|rz ?_;refine es ?_;obtain⟨k,h⟩|⟨k,h⟩:=iK k h
 ·exact Lc
 refine xf<|xk<|es<|xs<|xs<|rz ?_;refine es<|xb ?_;obtain⟨e0,h0,h⟩:=bs h;refine Zb (fun x0=>⟨envL [(0,.sl (l_0.map (D.int .i64))),(8,.sl (l_0.map (D.int .i64))),(9,.int .i64 (l_0.length:Int)),(10,.int .i64 x0)],Z5 [],0,33⟩) (fun w=>match w with|Sum.inl _=>.ret|Sum.inr (_)=>.exit 0) (fun w=>match w with|Sum.inl e0=>⟨envL [(2,.int .i64 e0)],Z5 [],0,33⟩|Sum.inr (e0)=>⟨envL [],Z5 [],0,33⟩) h0 (wk []) (by intro w;rcases w with w|w<;>simp) ?_ ?_
 ·clear h;intro x0 y h;unfold Z7w at h;refine xs<|rz ?_;refine es<|xs ?_;obtain⟨k,h⟩|⟨k,h⟩:=iK k h
  ·refine xt<|xk<|es<|xs<|xb<|xs<|rK fun K _ E J=>zz ?_;obtain⟨y0,q,h⟩:=bK q h;refine zz ?_;subst E J;refine es<|xs ?_;obtain⟨v0,h1,h⟩:=bs h;refine Zk (fun v0=>⟨envL [(0,.sl (l_0.map (D.int .i64))),(3,.int .i64 x0),(4,.int .i64 y0),(8,.sl (l_0.map (D.int .i64))),(9,.int .i64 (l_0.length:Int)),(10,.int .i64 x0),(20,.bool v0)],Z5 [],0,33⟩) h1 ?_ ?_
   ·clear h;intro v0 h;refine rK fun K _ E J=>zz ?_;obtain⟨k,h⟩|⟨k,h⟩:=iK k h
    ·exact Ld
    exact Ld
   obtain⟨k,h⟩|⟨k,h⟩:=iK k h
   ·exact Lh
   refine xf<|xk<|es<|xs<|rK fun K _ E J=>zz ?_;obtain⟨k,h⟩|⟨k,h⟩:=iK k h
   ·refine zz ?_;obtain⟨y1,q,h⟩:=bK q h;refine zz ?_;subst E J;refine es ?_;obtain⟨k,h⟩|⟨k,h⟩:=iK k h
    ·exact Lk
    exact Ll
   exact Ly
  exact Le
 rcases e0 with e0|e0
 ·try dsimp only at h ⊢
  exact Li
 try dsimp only at h ⊢
 exact Lg
def Z1d (f_0:Int):Option (Bool) :=
 (if(decide (0<=f_0)) then(some (decide (f_0<=5184000))) else(some false))
theorem Z2Y{I:World->Prop}(hI:Stab I){f_0:Int}{r:Bool}(h:Z1d f_0=some r):AFun Tryz.prog I 83 [.int .i64 f_0] (.bool r):=by
 have dd:=Z4u;have k:=True.intro;have q:=k;have rs:=Tryz.results83;unfold Z1d at h;refine .en hI Tryz.func83 Tryz.ntmps83 ?_;refine xs<|rz ?_;refine es<|xs<|rK fun K _ E J=>zz ?_;obtain⟨k,h⟩|⟨k,h⟩:=iK k h
 ·exact Lj
 exact Lj
def Z6c (l_0:List Int)(f_1:Int)(before_2:Int)(after_3:Int)(x0:Int):Option (Nx (Int) (Int ⊕ Unit)) :=
 (if(decide (x0 < (l_0.length:Int))) then((atI l_0 x0).bind fun y0=>(((if(decide ((IntKind.i64.wrap (y0 - before_2)) < f_1)) then(if(decide (f_1 < y0)) then(some true) else(if(decide (y0 < f_1)) then(some (decide (f_1 < (IntKind.i64.wrap (y0+after_3))))) else(some false))) else(if(decide (y0 < f_1)) then(some (decide (f_1 < (IntKind.i64.wrap (y0+after_3))))) else(some false))):Option (Bool)).bind fun v0=>(if v0 then(some (.out (.inl y0))) else(some (.go (IntKind.i64.wrap (x0+1))))))) else(some (.out (.inr ()))))
def Z56 (l_0:List Int)(f_1:Int)(before_2:Int)(after_3:Int):Option (Int × Bool) :=
 ((((Z29 l_0).bind fun r0=>(if(r0 != 0) then(some true) else((Z1d f_1).bind fun r1=>(if r1 then((Z1d before_2).bind fun r2=>(if r2 then((Z1d after_3).bind fun r3=>(some (!r3))) else(some true))) else(some true))))):Option (Bool)).bind fun v0=>(if v0 then(some (0,false)) else((iter (Z6c l_0 f_1 before_2 after_3) 0).bind fun e0=>(match e0 with|Sum.inl e0=>(some (e0,true))|Sum.inr (e0)=>(some (0,false))))))
theorem ZcI{I:World->Prop}(hI:Stab I){l_0:List Int}{f_1:Int}{before_2:Int}{after_3:Int}{r:Int × Bool}(h:Z56 l_0 f_1 before_2 after_3=some r):AFun Tryz.prog I 84 [.sl (l_0.map (D.int .i64)),.int .i64 f_1,.int .i64 before_2,.int .i64 after_3] (.tup [.int .i64 r.1,.bool r.2]):=by
 have dd:=Z4u;have k:=True.intro;have q:=k;have rs:=Tryz.results84;unfold Z56 at h;refine .en hI Tryz.func84 Tryz.ntmps84 ?_;refine xs<|rz ?_;refine es<|xs ?_;obtain⟨v0,h0,h⟩:=bs h;refine Zk (fun v0=>⟨envL [(0,.sl (l_0.map (D.int .i64))),(1,.int .i64 f_1),(2,.int .i64 before_2),(3,.int .i64 after_3),(29,.bool v0)],Z5 [],0,60⟩) h0 ?_ ?_
 ·clear h;intro v0 h;refine rK fun K _ E J=>zz ?_;obtain⟨r0,h1,h⟩:=bs h;refine cw (Z61 hI h1)<|zz ?_;obtain⟨k,h⟩|⟨k,h⟩:=iK k h
  ·exact Ld
  refine zz ?_;obtain⟨r1,h2,h⟩:=bs h;refine cw (Z2Y hI h2)<|zz ?_;obtain⟨k,h⟩|⟨k,h⟩:=iK k h
  ·refine zz ?_;obtain⟨r2,h3,h⟩:=bs h;refine cw (Z2Y hI h3)<|zz ?_;obtain⟨k,h⟩|⟨k,h⟩:=iK k h
   ·refine zz ?_;obtain⟨r3,h4,h⟩:=bs h;refine cw (Z2Y hI h4)<|zz ?_;exact LO
   exact Ld
  exact Ld
 obtain⟨k,h⟩|⟨k,h⟩:=iK k h
 ·exact Lc
 refine xf<|xk<|es<|xs<|xs<|rz ?_;refine es<|xb ?_;obtain⟨e0,h5,h⟩:=bs h;refine Zb (fun x0=>⟨envL [(1,.int .i64 f_1),(2,.int .i64 before_2),(3,.int .i64 after_3),(30,.sl (l_0.map (D.int .i64))),(31,.int .i64 (l_0.length:Int)),(32,.int .i64 x0)],Z5 [],0,60⟩) (fun w=>match w with|Sum.inl _=>.ret|Sum.inr (_)=>.exit 0) (fun w=>match w with|Sum.inl e0=>⟨envL [(8,.int .i64 e0),(9,.bool true)],Z5 [],0,60⟩|Sum.inr (e0)=>⟨envL [],Z5 [],0,60⟩) h5 (wk []) (by intro w;rcases w with w|w<;>simp) ?_ ?_
 ·clear h;intro x0 y h;unfold Z6c at h;refine xs<|rz ?_;refine es<|xs ?_;obtain⟨k,h⟩|⟨k,h⟩:=iK k h
  ·refine xt<|xk<|es<|xs<|xb<|xs<|rK fun K _ E J=>zz ?_;obtain⟨y0,q,h⟩:=bK q h;refine zz ?_;subst E J;refine es ?_;obtain⟨v1,h6,h⟩:=bs h;refine Zk (fun v1=>⟨envL [(1,.int .i64 f_1),(2,.int .i64 before_2),(3,.int .i64 after_3),(11,.int .i64 y0),(30,.sl (l_0.map (D.int .i64))),(31,.int .i64 (l_0.length:Int)),(32,.int .i64 x0),(57,.bool v1)],Z5 [],0,60⟩) h6 ?_ ?_
   ·clear h;intro v1 h;refine rK fun K _ E J=>zz ?_;obtain⟨k,h⟩|⟨k,h⟩:=iK k h
    ·refine zz ?_;obtain⟨k,h⟩|⟨k,h⟩:=iK k h
     ·exact Ld
     refine zz ?_;obtain⟨k,h⟩|⟨k,h⟩:=iK k h
     ·exact Ld
     exact Ld
    refine zz ?_;obtain⟨k,h⟩|⟨k,h⟩:=iK k h
    ·exact Ld
    exact Ld
   obtain⟨k,h⟩|⟨k,h⟩:=iK k h
   ·exact Lk
   exact Ll
  exact Le
 rcases e0 with e0|e0
 ·try dsimp only at h ⊢
  exact Li
 try dsimp only at h ⊢
 exact Lg
def Z4p (n_0:Int):Option (Int) :=
 (some (if(IntKind.i64.wrap (0 - n_0)) > n_0 then(IntKind.i64.wrap (0 - n_0)) else n_0))
theorem Z6K{I:World->Prop}(hI:Stab I){n_0:Int}{r:Int}(h:Z4p n_0=some r):AFun Tryz.prog I 85 [.int .i64 n_0] (.int .i64 r):=by
 have dd:=Z4u;have k:=True.intro;have q:=k;have rs:=Tryz.results85;unfold Z4p at h;refine .en hI Tryz.func85 Tryz.ntmps85 ?_;exact LA
def Z6u (l_0:List Int)(before_2:Int)(after_3:Int)(x0:Int × (List Int)):Option (Nx (Int × (List Int)) ((List Int))) :=
 (if(decide (x0.1 < (l_0.length:Int))) then((atI l_0 x0.1).bind fun y0=>(if(x0.2.length+3) * 8<=140737488355328 then(some (.go ((IntKind.i64.wrap (x0.1+1)),(x0.2++[(IntKind.i64.wrap (y0 - before_2)),y0,(IntKind.i64.wrap (y0+after_3))])))) else none)) else(some (.out x0.2)))
def Z4k (l_0:List Int)(f_1:Int)(before_2:Int)(after_3:Int)(e0:(List Int))(x0:Int × Bool × Int):Option (Nx (Int × Bool × Int) (Int × Bool)) :=
 (if(decide (x0.2.2 < ((e0.length:Nat):Int))) then((atI e0 x0.2.2).bind fun y0=>((Z1d y0).bind fun r0=>(if r0 then((Z56 l_0 y0 before_2 after_3).bind fun r1=>(if r1.2 then(some (.go (x0.1,x0.2.1,(IntKind.i64.wrap (x0.2.2+1))))) else(((if x0.2.1 then((Z4p (IntKind.i64.wrap (y0 - f_1))).bind fun r2=>((Z4p (IntKind.i64.wrap (x0.1 - f_1))).bind fun r3=>(if(decide (r2 < r3)) then(some true) else((Z4p (IntKind.i64.wrap (y0 - f_1))).bind fun r4=>((Z4p (IntKind.i64.wrap (x0.1 - f_1))).bind fun r5=>(if(r4 == r5) then(some (decide (y0 < x0.1))) else(some false))))))) else(some true)):Option (Bool)).bind fun v0=>(if v0 then(some (.go (y0,true,(IntKind.i64.wrap (x0.2.2+1))))) else(some (.go (x0.1,x0.2.1,(IntKind.i64.wrap (x0.2.2+1))))))))) else(some (.go (x0.1,x0.2.1,(IntKind.i64.wrap (x0.2.2+1)))))))) else(some (.out (x0.1,x0.2.1))))
def Z5D (l_0:List Int)(f_1:Int)(before_2:Int)(after_3:Int):Option (Int × Bool) :=
 ((((Z29 l_0).bind fun r0=>(if(r0 != 0) then(some true) else((Z1d f_1).bind fun r1=>(if r1 then((Z1d before_2).bind fun r2=>(if r2 then((Z1d after_3).bind fun r3=>(some (!r3))) else(some true))) else(some true))))):Option (Bool)).bind fun v0=>(if v0 then(some (0,false)) else((iter (Z6u l_0 before_2 after_3) (0,[f_1])).bind fun e0=>((iter (Z4k l_0 f_1 before_2 after_3 e0) (0,false,0)).bind fun e1=>(some (e1.1,e1.2))))))
theorem Zdf{I:World->Prop}(hI:Stab I){l_0:List Int}{f_1:Int}{before_2:Int}{after_3:Int}{r:Int × Bool}(h:Z5D l_0 f_1 before_2 after_3=some r):AFun Tryz.prog I 36 [.sl (l_0.map (D.int .i64)),.int .i64 f_1,.int .i64 before_2,.int .i64 after_3] (.tup [.int .i64 r.1,.bool r.2]):=by
 have dd:=Z4u;have k:=True.intro;have q:=k;have rs:=Tryz.results36;unfold Z5D at h;refine .en hI Tryz.func36 Tryz.ntmps36 ?_;refine xs<|rz ?_;refine es<|xs ?_;obtain⟨v0,h0,h⟩:=bs h;refine Zk (fun v0=>⟨envL [(0,.sl (l_0.map (D.int .i64))),(1,.int .i64 f_1),(2,.int .i64 before_2),(3,.int .i64 after_3),(36,.bool v0)],Z5 [],0,107⟩) h0 ?_ ?_
 ·clear h;intro v0 h;refine rK fun K _ E J=>zz ?_;obtain⟨r0,h1,h⟩:=bs h;refine cw (Z61 hI h1)<|zz ?_;obtain⟨k,h⟩|⟨k,h⟩:=iK k h
  ·exact Ld
  refine zz ?_;obtain⟨r1,h2,h⟩:=bs h;refine cw (Z2Y hI h2)<|zz ?_;obtain⟨k,h⟩|⟨k,h⟩:=iK k h
  ·refine zz ?_;obtain⟨r2,h3,h⟩:=bs h;refine cw (Z2Y hI h3)<|zz ?_;obtain⟨k,h⟩|⟨k,h⟩:=iK k h
   ·refine zz ?_;obtain⟨r3,h4,h⟩:=bs h;refine cw (Z2Y hI h4)<|zz ?_;exact LO
   exact Ld
  exact Ld
 obtain⟨k,h⟩|⟨k,h⟩:=iK k h
 ·exact Lc
 refine xf<|xk<|es<|xs<|rz ?_;refine es<|xs<|xs<|rz ?_;refine es<|xb ?_;obtain⟨e0,h5,h⟩:=bs h;refine Zb (fun x0=>⟨envL [(0,.sl (l_0.map (D.int .i64))),(1,.int .i64 f_1),(2,.int .i64 before_2),(3,.int .i64 after_3),(10,.own 0 x0.2.length),(39,.sl (l_0.map (D.int .i64))),(40,.int .i64 (l_0.length:Int)),(41,.int .i64 x0.1)],Z5 [(0,.vec 2 1 (x0.2.map (D.int .i64)) false)],1,107⟩) (fun _=>.exit 0) (fun e0=>⟨envL [(0,.sl (l_0.map (D.int .i64))),(1,.int .i64 f_1),(2,.int .i64 before_2),(3,.int .i64 after_3),(10,.own 0 e0.length)],Z5 [(0,.vec 2 1 (e0.map (D.int .i64)) false)],1,107⟩) h5 (wk [(0,some 1)]) (by intro w;simp) ?_ ?_
 ·clear h;intro x0 y h;unfold Z6u at h;refine xs<|rz ?_;refine es<|xs ?_;obtain⟨k,h⟩|⟨k,h⟩:=iK k h
  ·refine xt<|xk<|es<|xs<|xb<|xs<|rK fun K _ E J=>zz ?_;obtain⟨y0,q,h⟩:=bK q h;refine zz ?_;subst E J;refine es<|rK fun K _ E J=>zz ?_;obtain⟨h6,h⟩:=Zo h;have h7:x0.2.length+3<=9223372036854775807:=by omega
   try simp only[Nat.reduceLeDiff] at h7
   have q:=And.intro @h7<|And.intro @h6<|q;refine zz ?_;subst E J;refine bn<|es<|rz ?_;cases h;exact en ⟨rfl,wk [(0,some 14)]⟩
  exact Le
 refine bh<|es<|xs<|rz ?_;refine es<|xs<|xs<|rz ?_;refine es<|xb ?_;obtain⟨e1,h8,h⟩:=bs h;refine Zb (fun x1=>⟨envL [(0,.sl (l_0.map (D.int .i64))),(1,.int .i64 f_1),(2,.int .i64 before_2),(3,.int .i64 after_3),(13,.int .i64 x1.1),(14,.bool x1.2.1),(56,.own 0 e0.length),(57,.int .i64 ((e0.length:Nat):Int)),(58,.int .i64 x1.2.2)],Z5 [(0,.vec 2 1 (e0.map (D.int .i64)) false)],1,107⟩) (fun _=>.exit 2) (fun e1=>⟨envL [(13,.int .i64 e1.1),(14,.bool e1.2)],Z5 [],0,107⟩) h8 (wk []) (by intro w;simp) ?_ ?_
 ·clear h;intro x1 y h;unfold Z4k at h;refine xs<|rz ?_;refine es<|xs ?_;obtain⟨k,h⟩|⟨k,h⟩:=iK k h
  ·refine xt<|xk<|es<|xs<|xb<|xs<|rK fun K _ E J=>zz ?_;obtain⟨y1,q,h⟩:=oN q h;refine zz ?_;subst E J;refine es<|xs<|xs<|rK fun K _ E J=>zz ?_;obtain⟨r4,h9,h⟩:=bs h;refine cw (Z2Y hI h9)<|zz ?_;subst E J;refine es ?_;obtain⟨k,h⟩|⟨k,h⟩:=iK k h
   ·refine xf<|xk<|es<|xs<|xs<|rK fun K _ E J=>zz ?_;obtain⟨r5,h10,h⟩:=bs h;refine cw (ZcI hI h10)<|zz ?_;subst E J;refine es<|xs<|rz ?_;refine es ?_;obtain⟨k,h⟩|⟨k,h⟩:=iK k h
    ·exact LG
    refine xf<|xk<|es ?_;obtain⟨v1,h11,h⟩:=bs h;refine Zk (fun v1=>⟨envL [(0,.sl (l_0.map (D.int .i64))),(1,.int .i64 f_1),(2,.int .i64 before_2),(3,.int .i64 after_3),(13,.int .i64 x1.1),(14,.bool x1.2.1),(16,.int .i64 y1),(56,.own 0 e0.length),(57,.int .i64 ((e0.length:Nat):Int)),(58,.int .i64 x1.2.2),(102,.bool v1)],Z5 [(0,.vec 2 1 (e0.map (D.int .i64)) false)],1,107⟩) h11 ?_ ?_
    ·clear h;intro v1 h;refine rK fun K _ E J=>zz ?_;obtain⟨k,h⟩|⟨k,h⟩:=iK k h
     ·refine zz ?_;obtain⟨r6,h12,h⟩:=bs h;refine cw (Z6K hI h12)<|zz ?_;obtain⟨r7,h13,h⟩:=bs h;refine cw (Z6K hI h13)<|zz ?_;obtain⟨k,h⟩|⟨k,h⟩:=iK k h
      ·exact Ld
      refine zz ?_;obtain⟨r8,h14,h⟩:=bs h;refine cw (Z6K hI h14)<|zz ?_;obtain⟨r9,h15,h⟩:=bs h;refine cw (Z6K hI h15)<|zz ?_;obtain⟨k,h⟩|⟨k,h⟩:=iK k h
      ·exact Ld
      exact Ld
     exact Ld
    obtain⟨k,h⟩|⟨k,h⟩:=iK k h
    ·refine xt<|rz ?_;exact Ln
    exact Ll
   exact LG
  exact Le
 exact Lg
def Z2R (p_2:Z7)(r0:Int × Bool)(y0:Int)(x0:Int × Int × Int):Option (Nx (Int × Int × Int) (Int × Int)) :=
 (if(decide (x0.1 < 2)) then((((atI [(Ze.mk (IntKind.i64.wrap ((IntKind.i64.wrap (y0 - p_2.ShotBefore))+1)) y0),(Ze.mk (IntKind.i64.wrap (y0+1)) (IntKind.i64.wrap (y0+p_2.ShotAfter)))] x0.1).bind fun y1=>(if(decide (y1.Out<=y1.In)) then(some (x0.2.1,x0.2.2)) else(if(decide (y1.Out<=r0.1)) then(if(decide (r0.1 < y1.In)) then(some ((if y1.Out > x0.2.1 then y1.Out else x0.2.1),(if y1.In < x0.2.2 then y1.In else x0.2.2))) else(some ((if y1.Out > x0.2.1 then y1.Out else x0.2.1),x0.2.2))) else(if(decide (r0.1 < y1.In)) then(some (x0.2.1,(if y1.In < x0.2.2 then y1.In else x0.2.2))) else(some (x0.2.1,x0.2.2)))))):Option (Int × Int)).bind fun v0=>(some (.go ((IntKind.i64.wrap (x0.1+1)),v0.1,v0.2)))) else(some (.out (x0.2.1,x0.2.2))))
def Z2Q (shots_0:List Int)(p_2:Z7)(r0:Int × Bool)(x0:Int × Int × Int):Option (Nx (Int × Int × Int) (Int × Int)) :=
 (if(decide (x0.1 < (shots_0.length:Int))) then((atI shots_0 x0.1).bind fun y0=>((iter (Z2R p_2 r0 y0) (0,x0.2.1,x0.2.2)).bind fun e0=>(some (.go ((IntKind.i64.wrap (x0.1+1)),e0.1,e0.2))))) else(some (.out (x0.2.1,x0.2.2))))
def Z4F (shots_0:List Int)(frame_1:Int)(p_2:Z7):Option (Ze × Int) :=
 ((Z31 p_2).bind fun r7=>(if(r7 != 0) then(some ((Ze.mk 0 0),r7)) else((Z29 shots_0).bind fun r0=>(if(r0 != 0) then(some ((Ze.mk 0 0),r0)) else(((if(decide (frame_1 < 0)) then(some true) else(some (decide (5184000 < frame_1)))):Option (Bool)).bind fun v0=>(if v0 then(some ((Ze.mk 0 0),2)) else((Z5D shots_0 frame_1 p_2.ShotBefore p_2.ShotAfter).bind fun r1=>(if r1.2 then((iter (Z2Q shots_0 p_2 r1) (0,0,5184001)).bind fun e0=>(some ((Ze.mk e0.1 e0.2),0))) else(some ((Ze.mk 0 0),6))))))))))
theorem Zdi{I:World->Prop}(hI:Stab I){shots_0:List Int}{frame_1:Int}{p_2:Z7}{r:Ze × Int}(h:Z4F shots_0 frame_1 p_2=some r):AFun Tryz.prog I 12 [.sl (shots_0.map (D.int .i64)),.int .i64 frame_1,Z7.d p_2] (.tup [Ze.d r.1,.int .i64 r.2]):=by
 have dd:=Z4u;have k:=True.intro;have q:=k;have rs:=Tryz.results12;unfold Z4F at h;refine .en hI Tryz.func12 Tryz.ntmps12 ?_;refine xs<|rz ?_;refine es<|xs<|xs<|rK fun K _ E J=>zz ?_;obtain⟨r7,h8,h⟩:=bs h;refine cw (Z8Q hI h8)<|zz ?_;subst E J;refine es<|xs<|rz ?_;refine es ?_;obtain⟨k,h⟩|⟨k,h⟩:=iK k h
 ·exact Lc
 refine xf<|xk<|es<|xs<|xs<|rK fun K _ E J=>zz ?_;obtain⟨r0,h0,h⟩:=bs h;refine cw (Z61 hI h0)<|zz ?_;subst E J;refine es<|xs<|rz ?_;refine es ?_;obtain⟨k,h⟩|⟨k,h⟩:=iK k h
 ·exact Lc
 refine xf<|xk<|es<|xs ?_;obtain⟨v0,h1,h⟩:=bs h;refine Zk (fun v0=>⟨envL [(0,.sl (shots_0.map (D.int .i64))),(1,.int .i64 frame_1),(5,.ptr 0 0),(6,.ptr 1 0),(35,.bool v0)],Z5 [(0,.box none [.str p_2.Name,.int .i64 p_2.Reading,.int .i64 p_2.MinFrames,.int .i64 p_2.MaxFrames,.int .i64 p_2.MinGap,.int .i64 p_2.ShotBefore,.int .i64 p_2.ShotAfter,.int .i64 p_2.Rows,.int .i64 p_2.Cols,.str p_2.Forbidden,.int .i64 p_2.SafeTop,.int .i64 p_2.SafeBottom,.int .i64 p_2.SafeLeft,.int .i64 p_2.SafeRight]),(1,.box none [.int .i64 0,.int .i64 0])],2,106⟩) h1 ?_ ?_
 ·clear h;intro v0 h;refine rK fun K _ E J=>zz ?_;obtain⟨k,h⟩|⟨k,h⟩:=iK k h
  ·exact Ld
  exact Ld
 obtain⟨k,h⟩|⟨k,h⟩:=iK k h
 ·exact Lc
 refine xf<|xk<|es<|xs<|rK fun K _ E J=>zz ?_;obtain⟨r1,h2,h⟩:=bs h;refine cw (Zdf hI h2)<|zz ?_;subst E J;refine es<|xs<|xs<|rz ?_;refine es ?_;obtain⟨k,h⟩|⟨k,h⟩:=iK k h
 ·refine xf<|xk<|es<|xs<|rz ?_;refine es<|xs<|xs<|rz ?_;refine es<|xb ?_;obtain⟨e0,h3,h⟩:=bs h;refine Zb (fun x0=>⟨envL [(5,.ptr 0 0),(6,.ptr 1 0),(10,.int .i64 r1.1),(12,.ptr 2 0),(51,.sl (shots_0.map (D.int .i64))),(52,.int .i64 (shots_0.length:Int)),(53,.int .i64 x0.1)],Z5 [(0,.box none [.str p_2.Name,.int .i64 p_2.Reading,.int .i64 p_2.MinFrames,.int .i64 p_2.MaxFrames,.int .i64 p_2.MinGap,.int .i64 p_2.ShotBefore,.int .i64 p_2.ShotAfter,.int .i64 p_2.Rows,.int .i64 p_2.Cols,.str p_2.Forbidden,.int .i64 p_2.SafeTop,.int .i64 p_2.SafeBottom,.int .i64 p_2.SafeLeft,.int .i64 p_2.SafeRight]),(1,.box none [.int .i64 0,.int .i64 0]),(2,.box none [.int .i64 x0.2.1,.int .i64 x0.2.2])],3,106⟩) (fun _=>.exit 0) (fun e0=>⟨envL [(6,.ptr 0 0),(12,.ptr 1 0)],Z5 [(0,.box none [.int .i64 0,.int .i64 0]),(1,.box none [.int .i64 e0.1,.int .i64 e0.2])],2,106⟩) h3 (wk [(2,some 17)]) (by intro w;simp) ?_ ?_
  ·clear h;intro x0 y h;unfold Z2Q at h;refine xs<|rz ?_;refine es<|xs ?_;obtain⟨k,h⟩|⟨k,h⟩:=iK k h
   ·refine xt<|xk<|es<|xs<|xb<|xs<|rK fun K _ E J=>zz ?_;obtain⟨y0,q,h⟩:=bK q h;refine zz ?_;subst E J;refine es<|xs<|rz ?_;refine es<|xs<|rz ?_;refine es<|xb ?_;obtain⟨e1,h4,h⟩:=bs h;refine Zb (fun x1=>⟨envL [(5,.ptr 0 0),(6,.ptr 1 0),(10,.int .i64 r1.1),(12,.ptr 2 0),(51,.sl (shots_0.map (D.int .i64))),(52,.int .i64 (shots_0.length:Int)),(53,.int .i64 x0.1),(72,.own 3 2),(73,.int .i64 2),(74,.int .i64 x1.1)],Z5 [(0,.box none [.str p_2.Name,.int .i64 p_2.Reading,.int .i64 p_2.MinFrames,.int .i64 p_2.MaxFrames,.int .i64 p_2.MinGap,.int .i64 p_2.ShotBefore,.int .i64 p_2.ShotAfter,.int .i64 p_2.Rows,.int .i64 p_2.Cols,.str p_2.Forbidden,.int .i64 p_2.SafeTop,.int .i64 p_2.SafeBottom,.int .i64 p_2.SafeLeft,.int .i64 p_2.SafeRight]),(1,.box none [.int .i64 0,.int .i64 0]),(2,.box none [.int .i64 x1.2.1,.int .i64 x1.2.2]),(3,.vec 27 2 ([(Ze.mk (IntKind.i64.wrap ((IntKind.i64.wrap (y0 - p_2.ShotBefore))+1)) y0),(Ze.mk (IntKind.i64.wrap (y0+1)) (IntKind.i64.wrap (y0+p_2.ShotAfter)))].map Ze.d) false)],4,106⟩) (fun _=>.exit 2) (fun e1=>⟨envL [(5,.ptr 0 0),(6,.ptr 1 0),(10,.int .i64 r1.1),(12,.ptr 2 0),(51,.sl (shots_0.map (D.int .i64))),(52,.int .i64 (shots_0.length:Int)),(53,.int .i64 x0.1)],Z5 [(0,.box none [.str p_2.Name,.int .i64 p_2.Reading,.int .i64 p_2.MinFrames,.int .i64 p_2.MaxFrames,.int .i64 p_2.MinGap,.int .i64 p_2.ShotBefore,.int .i64 p_2.ShotAfter,.int .i64 p_2.Rows,.int .i64 p_2.Cols,.str p_2.Forbidden,.int .i64 p_2.SafeTop,.int .i64 p_2.SafeBottom,.int .i64 p_2.SafeLeft,.int .i64 p_2.SafeRight]),(1,.box none [.int .i64 0,.int .i64 0]),(2,.box none [.int .i64 e1.1,.int .i64 e1.2])],3,106⟩) h4 (wk [(3,some 21)]) (by intro w;simp) ?_ ?_
    ·clear h;intro x1 y h;unfold Z2R at h;refine xs<|rz ?_;refine es<|xs ?_;obtain⟨k,h⟩|⟨k,h⟩:=iK k h
     ·refine xt<|xk<|es ?_;obtain⟨v1,h5,h⟩:=bs h;refine Zk (fun v1=>⟨envL [(5,.ptr 0 0),(6,.ptr 1 0),(10,.int .i64 r1.1),(12,.ptr 2 0),(51,.sl (shots_0.map (D.int .i64))),(52,.int .i64 (shots_0.length:Int)),(53,.int .i64 x0.1),(72,.own 3 2),(73,.int .i64 2),(74,.int .i64 x1.1)],Z5 [(0,.box none [.str p_2.Name,.int .i64 p_2.Reading,.int .i64 p_2.MinFrames,.int .i64 p_2.MaxFrames,.int .i64 p_2.MinGap,.int .i64 p_2.ShotBefore,.int .i64 p_2.ShotAfter,.int .i64 p_2.Rows,.int .i64 p_2.Cols,.str p_2.Forbidden,.int .i64 p_2.SafeTop,.int .i64 p_2.SafeBottom,.int .i64 p_2.SafeLeft,.int .i64 p_2.SafeRight]),(1,.box none [.int .i64 0,.int .i64 0]),(2,.box none [.int .i64 v1.1,.int .i64 v1.2]),(3,.vec 27 2 ([(Ze.mk (IntKind.i64.wrap ((IntKind.i64.wrap (y0 - p_2.ShotBefore))+1)) y0),(Ze.mk (IntKind.i64.wrap (y0+1)) (IntKind.i64.wrap (y0+p_2.ShotAfter)))].map Ze.d) false)],4,106⟩) h5 ?_ ?_
      ·clear h;intro v1 h;refine xb<|xs<|rK fun K _ E J=>zz ?_;obtain⟨y1,h6,h⟩:=bind_some h;obtain⟨h7,h9,h10⟩:=Z6A h6;have h10:=h10 Ze.d;simp only[List.map_cons,List.map_nil,dd] at h10;have h9:x1.1 < 2:=by simpa using h9
       have q:=And.intro h7<|And.intro h9<|And.intro @h10 q;refine zz ?_;subst E J;refine es<|xs<|xs<|rz ?_;refine es ?_;obtain⟨k,h⟩|⟨k,h⟩:=iK k h
       ·refine xt<|xx<|ee<|bh ?_;exact La
       refine xf<|xk<|es<|xs<|xs<|rz ?_;refine es ?_;obtain⟨k,h⟩|⟨k,h⟩:=iK k h
       ·refine xt<|rz ?_;refine es<|xs<|rz ?_;refine es ?_;obtain⟨k,h⟩|⟨k,h⟩:=iK k h
        ·refine xt<|rz ?_;exact LC
        exact LP
       refine xf<|xk<|es<|xs<|rz ?_;refine es ?_;obtain⟨k,h⟩|⟨k,h⟩:=iK k h
       ·refine xt<|rz ?_;exact LC
       exact LP
      refine rz ?_;exact La
     exact Le
    exact LK
   refine xf<|xx<|ee ?_;cases h;exact en ⟨rfl,wk [(0,some 1),(1,some 2)]⟩
  exact Lg
 exact Lc
def nmB (b:UInt8):Bool:=(decide (65<=b.toNat)&&decide (b.toNat<=90))||(decide (48<=b.toNat)&&decide (b.toNat<=57))||b.toNat == 95||b.toNat == 45
def isNm (s:List UInt8):Bool:=match s with
 | []=>false
 | b::_=>decide (s.length<=16)&&(decide (65<=b.toNat)&&decide (b.toNat<=90))&&s.all nmB
theorem Z9K(s:List UInt8)(h1:1<=s.length):isNm s=true ↔ (s.length<=16/\(65<=s[0].toNat/\s[0].toNat<=90)/\∀ i (h:i < s.length),nmB s[i]=true):=by
 match s,h1 with
 | b::t,_ =>
  simp only[isNm,Bool.and_eq_true,decide_eq_true_eq,List.all_eq_true]
  constructor
  ·rintro⟨⟨h1,h2⟩,h3⟩
   exact⟨h1,by simpa using h2,fun i h=>h3 _ (List.getElem_mem h)⟩
  ·rintro⟨h1,h2,h3⟩
   refine⟨⟨h1,by simpa using h2⟩,fun x hx=>?_⟩
   obtain⟨i,hi,rfl⟩:=List.getElem_of_mem hx
   exact h3 i hi
theorem Zbb(s:List UInt8)(hs:s.length<=16):∃ e,iter (Z4d s) 0=some e/\(e=.inr () ↔ ∀ i (h:i < s.length),nmB s[i]=true):=by
 refine Z4q s.length (by omega) (fun n=>∀ i (h:i < s.length),i < n->nmB s[i]=true) _ (by intro i _ h;omega) ?_ ?_
 ·intro i hi hI;have hw:=Z5J ((i:Int)+1) (by omega) (by omega);simp only[Z4d,Zc hi,Option.bind_some,hw];have hb:=u8lt s[i];have hk:nmB s[i]=true\/nmB s[i]=false:=by cases nmB s[i]<;>simp
  rcases hk with hk|hk
  ·left;refine⟨?_,fun j hj hlt=>?_⟩
   ·simp only[nmB] at hk;grind
   by_cases hji:j=i
   ·subst hji;exact hk
   exact hI j hj (by omega)
  right;refine⟨.inl (),?_,?_⟩
  ·simp only[nmB] at hk;grind
  simp only[reduceCtorEq,false_iff];intro h;have:=h i hi;simp[hk] at this
 intro hI;refine⟨.inr (),by simp[Z4d],?_⟩;simp only[true_iff];exact fun i h=>hI i h h
theorem Z1w(s:List UInt8):Z0N s=some (isNm s):=by
 by_cases h0:s.length < 1
 ·match s,h0 with
  | [],_=>rfl
 ·by_cases h1:s.length<=16
  ·obtain⟨e,he,hi⟩:=Zbb s h1
   have hn:=Z9K s (by omega)
   have h0':atI s 0=some s[0]:=Zc (n:=0) (by omega)
   simp only[Z0N,he,h0',Option.bind_some]
   rcases e with⟨⟩|⟨⟩<;>grind
  ·have:isNm s=false:=by
    cases hh:isNm s with
    | false=>rfl
    | true=>exact absurd ((Z9K s (by omega)).1 hh).1 h1
   simp only[Z0N,this]
   grind
theorem ZhM(c:Int):Z51 c=some (decide (48<=c)&&decide (c<=57)):=by
 simp only[Z51];grind
theorem Zbh(s:List UInt8)(hs:s.length<=16)(hs1:1<=s.length):∃ e,iter (Z4f s) 0=some e/\(e=.inr () ↔ (65<=s[0].toNat/\s[0].toNat<=90)/\∀ i (h:i < s.length),nmB s[i]=true):=by
 refine Z4q s.length (by omega) (fun n=>(0 < n->65<=s[0].toNat/\s[0].toNat<=90)/\∀ i (h:i < s.length),i < n->nmB s[i]=true) _ ⟨by omega,by intro i _ h;omega⟩ ?_ ?_
 ·intro i hi ⟨hI0,hI⟩;have hw:=Z5J ((i:Int)+1) (by omega) (by omega);simp only[Z4f,Zc hi,Option.bind_some,hw,ZhM];have hb:=u8lt s[i];by_cases hk:nmB s[i]=true/\(i=0->65<=s[0].toNat/\s[0].toNat<=90)
  ·left;obtain⟨hk,hk0⟩:=hk;refine⟨?_,fun _=>?_,fun j hj hlt=>?_⟩
   ·simp only[nmB] at hk;by_cases h0:i=0
    ·subst h0;grind
    grind
   ·by_cases h0:i=0
    ·exact hk0 h0
    exact hI0 (by omega)
   by_cases hji:j=i
   ·subst hji;exact hk
   exact hI j hj (by omega)
  right;refine⟨.inl (),?_,?_⟩
  ·simp only[nmB] at hk;by_cases h0:i=0
   ·subst h0;grind
   grind
  simp only[reduceCtorEq,false_iff];rintro⟨h1,h2⟩;exact hk ⟨h2 i hi,fun _=>h1⟩
 intro⟨hI0,hI⟩;refine⟨.inr (),by simp[Z4f],?_⟩;simp only[true_iff];exact⟨hI0 (by omega),fun i h=>hI i h h⟩
theorem Z5e(s:List UInt8):Z0O s=some (isNm s):=by
 by_cases h0:s.length < 1
 ·match s,h0 with
  | [],_=>rfl
 ·by_cases h1:s.length<=16
  ·obtain⟨e,he,hi⟩:=Zbh s h1 (by omega)
   have hn:=Z9K s (by omega)
   simp only[Z0O,he,Option.bind_some]
   rcases e with⟨⟩|⟨⟩<;>grind
  ·have:isNm s=false:=by
    cases hh:isNm s with
    | false=>rfl
    | true=>exact absurd ((Z9K s (by omega)).1 hh).1 h1
   simp only[Z0O,this]
   grind
theorem Zdr{l:List UInt8}(h:l≠[]):decL l=Lib.decodeL l:=by
 unfold Lib.decodeL;have:=ZbK l 0 ((List.length_pos_iff.2 h));rw[this];simp
theorem Z6C{l:List UInt8}(h:l≠[]):1<=(decL l).2:=by rw[Zdr h];exact Lib.decodeL_width l
theorem Z6Y{s:List UInt8}{p:Nat}(h:p < s.length):1<=Z0q s p:=by
 unfold Z0q;refine Z6C fun h0=>?_;have:=congrArg List.length h0;simp at this;omega
theorem ZfZ(s:List UInt8)(r:Int):Z47 s r=Z1y r s:=by
 funext x;unfold Z47 Z1y;rfl
theorem ZeF(s:List UInt8)(hs:s.length<=1000)(r:Int):∃ e,iter (Z1y r s) (0,0)=some e:=by
 have:=ZD (step:=Z1y r s) (fun x=>0<=x.1/\x.1<=x.2) (fun x=>s.length - x.2) (fun _=>True) (x:=(0,0)) ⟨Int.le_refl _,by simp⟩ (by show s.length - 0 < _;omega) ?_
 ·obtain⟨e,h,_⟩:=this;exact⟨e,h⟩
 rintro⟨n,p⟩ ⟨h0,h1⟩;dsimp only at h0 h1;unfold Z1y;dsimp only;by_cases hp:p < s.length
 ·rw[if_pos (by simpa using hp)];by_cases hr:(Z0F s p == r)=true
  ·right;rw[if_pos hr];exact⟨_,rfl,trivial⟩
  left;rw[if_neg hr];have hw:=Z6Y hp;refine⟨_,rfl,?_,?_⟩
  ·dsimp only;rw[wr64 (by omega)];omega
  dsimp only;omega
 right;rw[if_neg (by simpa using hp)];exact⟨_,rfl,trivial⟩
theorem ZfC(r:Int):∃ v,Z2H r=some v/\Z27 r=some v:=by
 unfold Z2H Z27 Z5o
 by_cases h:32<=r/\r<=126
 ·rw[if_pos (by simpa using h.1)]
  simp only[Option.bind_some]
  rw[if_pos (by simpa using h.2),if_pos (by simpa using h.2)]
  exact⟨_,rfl,rfl⟩
 ·have:(if decide (32<=r)=true then some (decide (r<=126)) else some false:Option Bool)=some false:=by
   by_cases h1:32<=r
   ·have:¬ r<=126:=fun h2=>h ⟨h1,h2⟩
    simp[h1,this]
   ·simp[h1]
  rw[this]
  simp only[Option.bind_some,Bool.false_eq_true,if_false,ZfZ,Z1P]
  obtain⟨e,he⟩:=ZeF Z1P.get! (by decide) r
  simp only[Z1P,Option.get!] at he
  rw[he]
  cases e<;>exact⟨_,rfl,rfl⟩
def ixv (r:Int):Int:=(Z27 r).getD 0
theorem ZiZ(r:Int):Z2H r=some (ixv r)/\Z27 r=some (ixv r):=by
 obtain⟨v,h1,h2⟩:=ZfC r;unfold ixv;rw[h2];exact⟨h1,rfl⟩
theorem Zfd:Z27 65533=some (-1):=by decide +kernel
def gv (l:List UInt8):Bool:=if h:l=[] then true else decide (0<=ixv (decL l).1)&&gv (l.drop (decL l).2)
termination_by l.length
decreasing_by
 have:=Z6C h
 have:=(List.length_pos_iff.2 h)
 simp;omega
theorem ZgJ:gv []=true:=by unfold gv;simp
theorem Z9I{l:List UInt8}(h:l≠[]):gv l=(decide (0<=ixv (decL l).1)&&gv (l.drop (decL l).2)):=by
 rw[gv,dif_neg h]
theorem Zfc{step:Nat->Option (Nx Nat (Unit ⊕ Unit))}(s:List UInt8)(hs:s.length < 73786976294838206464)(hst:∀ p,step p=(if decide (p < s.length)=true then(if decide (ixv (Z0F s p) < 0)=true then some (.out (.inl ())) else some (.go (p+Z0q s p))) else some (.out (.inr ())))) :
  iter step 0=some (if gv s then .inr () else .inl ()):=by
 refine Z0T (fun p e=>e=if gv (s.drop p) then .inr () else .inl ()) (fun p=>s.length - p) ?_ (x:=0) (by simp) (by show s.length - 0 < _;omega)
 rintro p e rfl
 rw[hst]
 by_cases hp:p < s.length
 ·rw[if_pos (by simpa using hp)]
  have hne:s.drop p≠[]:=fun h0=>by have:=congrArg List.length h0;simp at this;omega
  by_cases hr:ixv (Z0F s p) < 0
  ·right
   rw[if_pos (by simpa using hr),Z9I hne]
   have:¬ 0<=ixv (decL (s.drop p)).1:=by unfold Z0F at hr;omega
   simp[this]
  ·left
   rw[if_neg (by simpa using hr)]
   have hw:=Z6Y hp
   refine⟨_,rfl,?_,by omega⟩
   rw[Z9I hne]
   have:0<=ixv (decL (s.drop p)).1:=by unfold Z0F at hr;omega
   simp only[this,decide_true,Bool.true_and,List.drop_drop]
   rfl
 ·right
  rw[if_neg (by simpa using hp),List.drop_eq_nil_of_le (by omega),ZgJ];rfl
theorem Z3K(s:List UInt8)(hs:s.length<=140737488355328):Z0d s=some (gv s):=by
 unfold Z0d;rw[Zfc s (by omega) (fun p=>by unfold Z6b;simp only[(ZiZ _).2,Option.bind_some])];cases gv s<;>rfl
theorem ZhX:∀ (n:Nat) (l:List UInt8),l.length<=n->gv l=true->Lib.validD l=true:=by
 intro n
 induction n with
 | zero=>intro l hl _;have:l=[]:=List.eq_nil_of_length_eq_zero (by omega);subst this;rfl
 | succ n ih =>
  intro l hl h
  by_cases hne:l=[]
  ·subst hne;rfl
  ·rw[Z9I hne,Bool.and_eq_true,decide_eq_true_eq] at h
   have hw:=Z6C hne
   have hlen:=List.length_pos_iff.2 hne
   rw[Lib.validD_step l hne,<- Zdr hne,if_neg]
   ·exact ih _ (by simp;omega) h.2
   ·rintro⟨h1,_⟩
    have h2:=h.1
    rw[h1] at h2
    unfold ixv at h2
    rw[show(((65533:Nat):Nat):Int)=65533 from rfl,Zfd] at h2
    simp at h2
theorem Z0K(s:List UInt8)(hs:s.length<=140737488355328):ZT s=some (gv s):=by
 unfold ZT Z34;simp only[Option.bind_some];rw[Zfc s (by omega) (fun p=>by unfold Z5A;simp only[(ZiZ _).1,Option.bind_some])];cases hg:gv s
 ·cases Lib.validD s<;>rfl
 rw[ZhX s.length s (Nat.le_refl _) hg];rfl
def rnL (l:List UInt8):List Int:=if h:l=[] then[] else(((decL l).1:Nat):Int)::rnL (l.drop (decL l).2)
termination_by l.length
decreasing_by
 have h1:=Z6C h
 have h2:=List.length_pos_iff.2 h
 simp only[List.length_drop];omega
theorem Z6H:rnL []=[]:=by unfold rnL;simp
theorem Z9v{l:List UInt8}(h:l≠[]):rnL l=(((decL l).1:Nat):Int)::rnL (l.drop (decL l).2):=by rw[rnL,dif_neg h]
theorem Z9u{s:List UInt8}{p:Nat}(h:p < s.length):rnL (s.drop p)=Z0F s p::rnL (s.drop (p+Z0q s p)):=by
 have hne:s.drop p≠[]:=by
  intro e
  have:=congrArg List.length e
  simp at this;omega
 rw[Z9v hne]
 unfold Z0F Z0q
 rw[List.drop_drop]
theorem Z7m{s:List UInt8}{p:Nat}(h:s.length<=p):rnL (s.drop p)=[]:=by rw[List.drop_eq_nil_of_le h,Z6H]
theorem ZbO:∀ (n:Nat) (l:List UInt8),l.length<=n->(rnL l).length<=l.length
 | 0,l,h=>by
  have:l=[]:=List.eq_nil_of_length_eq_zero (by omega)
  subst this;rw[Z6H];simp
 | n+1,l,h=>by
  by_cases hl:l=[]
  ·subst hl;rw[Z6H];simp
  ·have h1:=Z6C hl
   have h2:=List.length_pos_iff.2 hl
   have ih:=ZbO n (l.drop (decL l).2) (by simp only[List.length_drop];omega)
   rw[Z9v hl,List.length_cons]
   simp only[List.length_drop] at ih
   omega
theorem Zfp:∀ (n:Nat) (l:List UInt8),l.length<=n->∀ x ∈ rnL l,0<=x
 | 0,l,h=>by
  have:l=[]:=List.eq_nil_of_length_eq_zero (by omega)
  subst this;rw[Z6H];simp
 | n+1,l,h=>by
  by_cases hl:l=[]
  ·subst hl;rw[Z6H];simp
  ·have h1:=Z6C hl
   have h2:=List.length_pos_iff.2 hl
   have ih:=Zfp n (l.drop (decL l).2) (by simp only[List.length_drop];omega)
   rw[Z9v hl]
   intro x hx
   rcases List.mem_cons.1 hx with rfl|hx
   ·omega
   ·exact ih x hx
def ascF:Int->List Int->Bool
 | _,[]=>true
 | a,x::l=>decide (a < x)&&ascF x l
theorem Zea(s:List UInt8)(hs:s.length<=1048576):Z28 s=some (rnL s):=by
 unfold Z28
 have key:iter (Z2p s) ([],0)=some (rnL s):=by
  refine Z0T (fun x e=>x.1.length<=x.2/\x.1.length<=1048576/\e=x.1++rnL (s.drop x.2)) (fun x=>s.length - x.2) ?_ (x:=([],0)) ⟨Nat.le_refl _,by simp,by simp⟩ (by show s.length - 0 < _;omega)
  rintro⟨o,p⟩ e ⟨h1,h2,rfl⟩
  dsimp only at h1 h2 ⊢
  unfold Z2p
  dsimp only
  by_cases h:p < s.length
  ·left
   have hw:1<=Z0q s p:=Z6Y h
   refine⟨(o++[Z0F s p],p+Z0q s p),?_,⟨?_,?_,?_⟩,?_⟩
   ·rw[if_pos (by simpa using h),if_pos (by omega)]
   ·simp;omega
   ·simp;omega
   ·dsimp only
    rw[Z9u h,List.append_assoc];rfl
   ·dsimp only;omega
  ·right
   rw[if_neg (by simpa using h),Z7m (by omega)]
   simp
 rw[key];rfl
theorem Zhx(s:List UInt8)(hs:s.length<=1048576):Z26 s=some (if gv s then rnL s else[]):=by
 unfold Z26;rw[Z3K s (by omega)];cases gv s
 ·rfl
 simp only[Option.bind_some,if_true];rw[Zea s hs];rfl
theorem Zig(p:Z7)(hs:p.Forbidden.length<=1048576):iter (Z4e p) (-1,0)=some (if ascF (-1) (rnL p.Forbidden) then .inr () else .inl ()):=by
 refine Z0T (fun x e=>e=if ascF x.1 (rnL (p.Forbidden.drop x.2)) then .inr () else .inl ()) (fun x=>p.Forbidden.length - x.2) ?_ (x:=(-1,0)) (by simp) (by show p.Forbidden.length - 0 < _;omega);rintro⟨a,q⟩ e rfl;dsimp only;unfold Z4e;dsimp only;by_cases h:q < p.Forbidden.length
 ·have hw:1<=Z0q p.Forbidden q:=Z6Y h;rw[if_pos (by simpa using h),Z9u h];by_cases hr:Z0F p.Forbidden q<=a
  ·right;rw[if_pos (by simpa using hr)];simp[ascF,show ¬ a < Z0F p.Forbidden q from by omega]
  left;rw[if_neg (by simpa using hr)];refine⟨_,rfl,?_,by dsimp only;omega⟩;simp[ascF,show a < Z0F p.Forbidden q from by omega]
 right;rw[if_neg (by simpa using h),Z7m (by omega)];simp[ascF]
theorem Zka(l:List Int){i:Nat}(h0:1<=i)(h:i < l.length):ascF (l[i - 1]'(by omega)) (l.drop i)=(decide (l[i - 1]'(by omega) < l[i])&&ascF l[i] (l.drop (i+1))):=by
 rw[List.drop_eq_getElem_cons h];rfl
theorem ZjF(l:List Int)(hl:l.length<=1048576)(hp:∀ x ∈ l,0<=x):iter (Z4N l) 1=some (if ascF (-1) l then .inr () else .inl ()):=by
 by_cases hn:l=[]
 ·subst hn
  refine Z0T (fun(x:Int) (e:Unit ⊕ Unit)=>x=1/\e=.inr ()) (fun _=>0) ?_ ⟨rfl,rfl⟩ (by omega)
  rintro x e ⟨rfl,rfl⟩
  right
  rfl
 ·have hpos:=List.length_pos_iff.2 hn
  have e0:ascF (-1) l=ascF (l[0]'hpos) (l.drop 1):=by
   obtain⟨a,t,rfl⟩:=List.exists_cons_of_ne_nil hn
   have:=hp a (by simp)
   simp[ascF];intro;omega
  rw[e0]
  refine Z0T (fun(x:Int) e=>∃ (i:Nat) (h1:1<=i) (h2:i<=l.length),x=(i:Int)/\e=if ascF (l[i - 1]'(by omega)) (l.drop i) then Sum.inr () else Sum.inl ()) (fun x=>l.length - x.toNat) ?_ (x:=1) ⟨1,Nat.le_refl _,hpos,rfl,rfl⟩ (by show l.length - _ < _;omega)
  rintro x e ⟨i,h1,h2,rfl,rfl⟩
  unfold Z4N
  by_cases h:i < l.length
  ·rw[if_pos (by simpa using h),Zc h]
   have e1:IntKind.i64.wrap ((i:Int) - 1)=((i - 1:Nat):Int):=by rw[wr64 (by omega)];omega
   simp only[Option.bind_some,e1]
   rw[Zc (show i - 1 < l.length by omega),Zka l h1 h]
   simp only[Option.bind_some]
   by_cases hr:l[i]<=l[i - 1]'(by omega)
   ·right
    rw[if_pos (by simpa using hr)]
    simp[show ¬ (l[i - 1]'(by omega) < l[i]) from by omega]
   ·left
    rw[if_neg (by simpa using hr)]
    refine⟨((i+1:Nat):Int),by rw[wr64 (by omega)];rfl,⟨i+1,by omega,h,rfl,?_⟩,by omega⟩
    simp[show l[i - 1]'(by omega) < l[i] from by omega]
  ·right
   rw[if_neg (by simpa using h)]
   have:i=l.length:=by omega
   subst this
   simp[ascF]
def okR (p:Z7):Prop:=(1<=p.Reading/\p.Reading<=10000)/\(1<=p.MinFrames/\p.MinFrames<=5184000)/\(1<=p.MaxFrames/\p.MaxFrames<=5184000)/\(0<=p.MinGap/\p.MinGap<=1000)/\(0<=p.ShotBefore/\p.ShotBefore<=1000)/\(0<=p.ShotAfter/\p.ShotAfter<=1000)/\(1<=p.Rows/\p.Rows<=4)/\(1<=p.Cols/\p.Cols<=32)/\(0<=p.SafeTop/\p.SafeTop<=31)/\(0<=p.SafeBottom/\p.SafeBottom<=31)/\(0<=p.SafeLeft/\p.SafeLeft<=31)/\(0<=p.SafeRight/\p.SafeRight<=31)
instance (p:Z7):Decidable (okR p):=by unfold okR;infer_instance
def ckS (p:Z7):Int :=
 if isNm p.Name=false then 5 else if ¬ okR p then 2 else if 15<=p.SafeTop+p.SafeBottom\/32<=p.SafeLeft+p.SafeRight then 2 else if p.MaxFrames < p.MinFrames then 8 else if gv p.Forbidden=false then 10 else if ascF (-1) (rnL p.Forbidden) then 0 else 8
def lmL (p:Z7):List Zh:=[⟨p.Reading,1,10000⟩,⟨p.MinFrames,1,5184000⟩,⟨p.MaxFrames,1,5184000⟩,⟨p.MinGap,0,1000⟩,⟨p.ShotBefore,0,1000⟩,⟨p.ShotAfter,0,1000⟩,⟨p.Rows,1,4⟩,⟨p.Cols,1,32⟩,⟨p.SafeTop,0,31⟩,⟨p.SafeBottom,0,31⟩,⟨p.SafeLeft,0,31⟩,⟨p.SafeRight,0,31⟩]
theorem ZgP(p:Z7):Z3u p=some (lmL p):=by
 unfold Z3u;rw[show iter (Z5j p) (0,[(Zh.mk p.Reading 1 10000),(Zh.mk p.MinFrames 1 5184000),(Zh.mk p.MaxFrames 1 5184000),(Zh.mk p.MinGap 0 1000),(Zh.mk p.ShotBefore 0 1000),(Zh.mk p.ShotAfter 0 1000),(Zh.mk p.Rows 1 4),(Zh.mk p.Cols 1 32)])=some (lmL p) from rfl];rfl
theorem ZeD(l:List Zh)(hl:l.length<=1048576):iter (Z1O l) 0=some (if l.all fun y=>decide (y.lo_<=y.n_)&&decide (y.n_<=y.hi_) then .inr () else .inl ()):=by
 have:=Zi1 (step:=Z1O l) l.length (by omega) (fun i=>if(l.drop i).all fun y=>decide (y.lo_<=y.n_)&&decide (y.n_<=y.hi_) then .inr () else .inl ()) (fun i hi=>?_) ?_
 ·simpa using this
 ·unfold Z1O;rw[if_pos (by simpa using hi),Zc hi,List.drop_eq_getElem_cons hi,wr64 (by omega)];simp only[Option.bind_some,List.all_cons];by_cases h1:l[i].n_ < l[i].lo_
  ·right;simp[h1,show ¬ l[i].lo_<=l[i].n_ from by omega]
  by_cases h2:l[i].hi_ < l[i].n_
  ·right;simp[h1,h2,show ¬ l[i].n_<=l[i].hi_ from by omega]
  left;simp[h1,h2,show l[i].lo_<=l[i].n_ from by omega,show l[i].n_<=l[i].hi_ from by omega]
 unfold Z1O;rw[if_neg (by simp)];simp
theorem Zkt(p:Z7):((lmL p).all fun y=>decide (y.lo_<=y.n_)&&decide (y.n_<=y.hi_))=decide (okR p):=by
 rw[Bool.eq_iff_iff,decide_eq_true_iff];unfold lmL okR;simp only[List.all_cons,List.all_nil,Bool.and_true,Bool.and_eq_true,decide_eq_true_eq]
theorem Zg0(p:Z7)(h1:p.Name.length<=1048576)(h2:p.Forbidden.length<=1048576):Z2L p=some (ckS p):=by
 unfold Z2L ckS;rw[Z1w p.Name,ZgP,Z0K p.Forbidden (by omega)];simp only[Option.bind_some];cases hn:isNm p.Name
 ·rfl
 rw[ZeD _ (by simp[lmL]),Zkt,Zig p h2];simp only[Option.bind_some,if_true,Bool.true_eq_false,if_false];by_cases hr:okR p
 ·have hr':=hr;unfold okR at hr';rw[wr64 (by omega),wr64 (by omega)];simp only[hr,decide_true,if_true,not_true,if_false];by_cases q1:15<=p.SafeTop+p.SafeBottom
  ·simp[q1]
  by_cases q2:32<=p.SafeLeft+p.SafeRight
  ·simp[q1,q2]
  simp only[q1,q2,decide_false,Bool.false_eq_true,if_false,Option.bind_some,false_or];by_cases q3:p.MaxFrames < p.MinFrames
  ·simp[q3]
  simp only[q3,decide_false,Bool.false_eq_true,if_false];cases gv p.Forbidden
  ·rfl
  cases ascF (-1) (rnL p.Forbidden)<;>rfl
 simp only[hr,decide_false,Bool.false_eq_true,if_false,not_false_eq_true,if_true]
theorem Zhv(n lo hi:Int):Z0Y n lo hi=some (decide (lo<=n/\n<=hi)):=by
 unfold Z0Y;by_cases h:lo<=n<;>simp[h]
theorem ZgL(n lo hi:Int):Z0X n lo hi=some (decide (lo<=n/\n<=hi)):=by
 unfold Z0X;by_cases h:lo<=n<;>simp[h]
theorem Zci(p:Z7)(h1:p.Name.length<=1048576)(h2:p.Forbidden.length<=1048576):Z31 p=some (ckS p):=by
 unfold Z31 ckS;rw[Z5e p.Name,Z3K p.Forbidden (by omega),Zhx p.Forbidden h2];simp only[Option.bind_some,Zhv,ZgL];cases hn:isNm p.Name
 ·rfl
 simp only[if_true,Bool.true_eq_false,if_false];by_cases hr:okR p
 ·have hr':=hr;unfold okR at hr';obtain⟨a1,a2,a3,a4,a5,a6,a7,a8,a9,b1,b2,b3⟩:=hr';rw[wr64 (by omega),wr64 (by omega)];simp only[a1,a2,a3,a4,a5,a6,a7,a8,a9,b1,b2,b3,and_self,decide_true,if_true,Bool.not_true,Bool.false_eq_true,if_false,Option.bind_some,hr,not_true];by_cases q1:15<=p.SafeTop+p.SafeBottom
  ·simp[q1,show 14 < p.SafeTop+p.SafeBottom from by omega]
  by_cases q2:32<=p.SafeLeft+p.SafeRight
  ·simp[q1,q2,show ¬ 14 < p.SafeTop+p.SafeBottom from by omega,show 31 < p.SafeLeft+p.SafeRight from by omega]
  simp only[q1,q2,show ¬ 14 < p.SafeTop+p.SafeBottom from by omega,show ¬ 31 < p.SafeLeft+p.SafeRight from by omega,decide_false,Bool.false_eq_true,if_false,Option.bind_some,false_or];by_cases q3:p.MaxFrames < p.MinFrames
  ·simp[q3]
  simp only[q3,decide_false,Bool.false_eq_true,if_false];cases hg:gv p.Forbidden
  ·rfl
  simp only[if_true,Option.bind_some];rw[ZjF _ (Nat.le_trans (ZbO _ _ (Nat.le_refl _)) h2) (Zfp _ _ (Nat.le_refl _))];cases ascF (-1) (rnL p.Forbidden)<;>rfl
 have hr':=hr;unfold okR at hr';simp only[hr,not_false_eq_true,if_true];by_cases c0:1<=p.Reading/\p.Reading<=10000;rotate_left
 ·simp only[c0,decide_false,Bool.false_eq_true,if_false,Bool.not_false,Option.bind_some,if_true]
 simp only[c0,and_self,decide_true,if_true,Option.bind_some,Bool.not_true,Bool.false_eq_true,if_false];by_cases c1:1<=p.MinFrames/\p.MinFrames<=5184000;rotate_left
 ·simp only[c1,decide_false,Bool.false_eq_true,if_false,Bool.not_false,Option.bind_some,if_true]
 simp only[c1,and_self,decide_true,if_true,Option.bind_some,Bool.not_true,Bool.false_eq_true,if_false];by_cases c2:1<=p.MaxFrames/\p.MaxFrames<=5184000;rotate_left
 ·simp only[c2,decide_false,Bool.false_eq_true,if_false,Bool.not_false,Option.bind_some,if_true]
 simp only[c2,and_self,decide_true,if_true,Option.bind_some,Bool.not_true,Bool.false_eq_true,if_false];by_cases c3:0<=p.MinGap/\p.MinGap<=1000;rotate_left
 ·simp only[c3,decide_false,Bool.false_eq_true,if_false,Bool.not_false,Option.bind_some,if_true]
 simp only[c3,and_self,decide_true,if_true,Option.bind_some,Bool.not_true,Bool.false_eq_true,if_false];by_cases c4:0<=p.ShotBefore/\p.ShotBefore<=1000;rotate_left
 ·simp only[c4,decide_false,Bool.false_eq_true,if_false,Bool.not_false,Option.bind_some,if_true]
 simp only[c4,and_self,decide_true,if_true,Option.bind_some,Bool.not_true,Bool.false_eq_true,if_false];by_cases c5:0<=p.ShotAfter/\p.ShotAfter<=1000;rotate_left
 ·simp only[c5,decide_false,Bool.false_eq_true,if_false,Bool.not_false,Option.bind_some,if_true]
 simp only[c5,and_self,decide_true,if_true,Option.bind_some,Bool.not_true,Bool.false_eq_true,if_false];by_cases c6:1<=p.Rows/\p.Rows<=4;rotate_left
 ·simp only[c6,decide_false,Bool.false_eq_true,if_false,Bool.not_false,Option.bind_some,if_true]
 simp only[c6,and_self,decide_true,if_true,Option.bind_some,Bool.not_true,Bool.false_eq_true,if_false];by_cases c7:1<=p.Cols/\p.Cols<=32;rotate_left
 ·simp only[c7,decide_false,Bool.false_eq_true,if_false,Bool.not_false,Option.bind_some,if_true]
 simp only[c7,and_self,decide_true,if_true,Option.bind_some,Bool.not_true,Bool.false_eq_true,if_false];by_cases c8:0<=p.SafeTop/\p.SafeTop<=31;rotate_left
 ·simp only[c8,decide_false,Bool.false_eq_true,if_false,Bool.not_false,Option.bind_some,if_true]
 simp only[c8,and_self,decide_true,if_true,Option.bind_some,Bool.not_true,Bool.false_eq_true,if_false];by_cases c9:0<=p.SafeBottom/\p.SafeBottom<=31;rotate_left
 ·simp only[c9,decide_false,Bool.false_eq_true,if_false,Bool.not_false,Option.bind_some,if_true]
 simp only[c9,and_self,decide_true,if_true,Option.bind_some,Bool.not_true,Bool.false_eq_true,if_false];by_cases c10:0<=p.SafeLeft/\p.SafeLeft<=31;rotate_left
 ·simp only[c10,decide_false,Bool.false_eq_true,if_false,Bool.not_false,Option.bind_some,if_true]
 simp only[c10,and_self,decide_true,if_true,Option.bind_some,Bool.not_true,Bool.false_eq_true,if_false];by_cases c11:0<=p.SafeRight/\p.SafeRight<=31;rotate_left
 ·simp only[c11,decide_false,Bool.false_eq_true,if_false,Bool.not_false,Option.bind_some,if_true]
 simp only[c11,and_self,decide_true,if_true,Option.bind_some,Bool.not_true,Bool.false_eq_true,if_false];exact absurd ⟨c0,c1,c2,c3,c4,c5,c6,c7,c8,c9,c10,c11⟩ hr'
theorem Z1X:(∀ x,Z3.d x=.agg [.str x.Name,.int .i64 x.Top,.int .i64 x.Height,.int .i64 x.Left,.int .i64 x.Width,.int .u8 x.Align,.bool x.Bottom])/\(∀ x,Z4.d x=.agg [.int .i64 x.ID,.int .i64 x.Event,.int .i64 x.From,.int .i64 x.To,.str x.Author,.str x.Text,.bool x.Done,.bool x.Lost])/\(∀ x,Ze.d x=.agg [.int .i64 x.In,.int .i64 x.Out])/\(∀ x,Zw.d x=.agg [.int .u8 x.Color,.bool x.Italic,.bool x.Underline])/\(∀ x,Zd.d x=.agg [.str x.Text,.int .u8 x.Style.Color,.bool x.Style.Italic,.bool x.Style.Underline,.str x.Ruby])/\(∀ x,Z6.d x=.agg [.sl (x.Runs.map Zd.d)])/\(∀ x,Z0.d x=.agg [.int .i64 x.ID,.int .i64 x.Span.In,.int .i64 x.Span.Out,.str x.Region,.int .u8 x.Kind,.str x.Speaker,.sl (x.Rows.map Z6.d)])/\(∀ x,Z1.d x=.agg [.int .i64 x.I,.int .i64 x.J,.int .i64 x.C,.int .u8 x.Rule,.int .i64 x.ID,.int .i64 x.Other])/\(∀ x,Z2.d x=.agg [.str x.Title,.str x.Lang,.int .u8 x.Rate,.bool x.Drop,.int .i64 x.Last,.sl (x.Regions.map Z3.d),.sl (x.Events.map Z0.d),.sl (x.Comments.map Z4.d)])/\(∀ x,Zn.d x=.agg [.int .i64 x.Row,.int .i64 x.Col,.int .i64 x.Len]):=⟨fun _=>rfl,fun _=>rfl,fun _=>rfl,fun _=>rfl,fun _=>rfl,fun _=>rfl,fun _=>rfl,fun _=>rfl,fun _=>rfl,fun _=>rfl⟩
def Z25 (r_0:Int):Option (Bool) :=
 (if(decide (1<=r_0)) then(some (decide (r_0<=7))) else(some false))
theorem Z70{I:World->Prop}(hI:Stab I){r_0:Int}{r:Bool}(h:Z25 r_0=some r):AFun Tryz.prog I 97 [.int .u8 r_0] (.bool r):=by
 have dd:=Z1X;have k:=True.intro;have q:=k;have rs:=Tryz.results97;unfold Z25 at h;refine .en hI Tryz.func97 Tryz.ntmps97 ?_;refine xs<|rz ?_;refine es<|xs<|rK fun K _ E J=>zz ?_;obtain⟨k,h⟩|⟨k,h⟩:=iK k h
 ·exact Lj
 exact Lj
def Z5p (r_0:Int):Option (Bool) :=
 (if(r_0 == 4) then(some true) else(some (r_0 == 7)))
theorem ZaR{I:World->Prop}(hI:Stab I){r_0:Int}{r:Bool}(h:Z5p r_0=some r):AFun Tryz.prog I 131 [.int .u8 r_0] (.bool r):=by
 have dd:=Z1X;have k:=True.intro;have q:=k;have rs:=Tryz.results131;unfold Z5p at h;refine .en hI Tryz.func131 Tryz.ntmps131 ?_;refine xs<|rz ?_;refine es<|xs<|rK fun K _ E J=>zz ?_;obtain⟨k,h⟩|⟨k,h⟩:=iK k h
 ·exact Lj
 exact Lj
def Z3e (d_0:Z2):Option (Int) :=
 ((Z0d d_0.Title).bind fun r0=>(if r0 then(if(decide (400 < (d_0.Title.length:Int))) then(some 9) else(((if(d_0.Lang == ([]:List UInt8)) then(some false) else((Z0O d_0.Lang).bind fun r1=>(some (!r1)))):Option (Bool)).bind fun v0=>(if v0 then(some 5) else((((Z25 d_0.Rate).bind fun r2=>(if r2 then(if d_0.Drop then((Z5p d_0.Rate).bind fun r3=>(some (!r3))) else(some false)) else(some true))):Option (Bool)).bind fun v1=>(if v1 then(some 13) else(if(decide (d_0.Last < 0)) then(some 2) else(if(decide (1099511627776 < d_0.Last)) then(some 2) else(some 0)))))))) else(some 10)))
theorem Z9Y{I:World->Prop}(hI:Stab I){d_0:Z2}{r:Int}(h:Z3e d_0=some r):AFun Tryz.prog I 92 [Z2.d d_0] (.int .i64 r):=by
 have dd:=Z1X;have k:=True.intro;have q:=k;have rs:=Tryz.results92;unfold Z3e at h;refine .en hI Tryz.func92 Tryz.ntmps92 ?_;refine xs<|rz ?_;refine es<|xs<|xb<|xs<|rK fun K _ E J=>zz ?_;obtain⟨r0,h0,h⟩:=bs h;refine cw (Z24 hI h0)<|zz ?_;subst E J;refine es ?_;obtain⟨k,h⟩|⟨k,h⟩:=iK k h
 ·refine xf<|xs<|rz ?_;refine es ?_;obtain⟨k,h⟩|⟨k,h⟩:=iK k h
  ·exact Lf
  refine xf ?_;obtain⟨v0,h1,h⟩:=bs h;refine Zk (fun v0=>⟨envL [(1,.ptr 0 0),(13,.bool v0)],Z5 [(0,.box none [.str d_0.Title,.str d_0.Lang,.int .u8 d_0.Rate,.bool d_0.Drop,.int .i64 d_0.Last,.sl (d_0.Regions.map Z3.d),.sl (d_0.Events.map Z0.d),.sl (d_0.Comments.map Z4.d)])],1,47⟩) h1 ?_ ?_
  ·clear h;intro v0 h;refine rK fun K _ E J=>zz ?_;obtain⟨k,h⟩|⟨k,h⟩:=iK k h
   ·exact Ld
   refine zz ?_;obtain⟨r1,h2,h⟩:=bs h;refine cw (Z4w hI h2)<|zz ?_;exact LO
  obtain⟨k,h⟩|⟨k,h⟩:=iK k h
  ·exact Lf
  refine xf ?_;obtain⟨v1,h3,h⟩:=bs h;refine Zk (fun v1=>⟨envL [(1,.ptr 0 0),(23,.bool v1)],Z5 [(0,.box none [.str d_0.Title,.str d_0.Lang,.int .u8 d_0.Rate,.bool d_0.Drop,.int .i64 d_0.Last,.sl (d_0.Regions.map Z3.d),.sl (d_0.Events.map Z0.d),.sl (d_0.Comments.map Z4.d)])],1,47⟩) h3 ?_ ?_
  ·clear h;intro v1 h;refine rK fun K _ E J=>zz ?_;obtain⟨r2,h4,h⟩:=bs h;refine cw (Z70 hI h4)<|zz ?_;obtain⟨k,h⟩|⟨k,h⟩:=iK k h
   ·refine zz ?_;obtain⟨k,h⟩|⟨k,h⟩:=iK k h
    ·refine zz ?_;obtain⟨r3,h5,h⟩:=bs h;refine cw (ZaR hI h5)<|zz ?_;exact LO
    exact Ld
   exact Ld
  obtain⟨k,h⟩|⟨k,h⟩:=iK k h
  ·exact Lf
  refine xf<|xs<|rK fun K _ E J=>zz ?_;obtain⟨k,h⟩|⟨k,h⟩:=iK k h
  ·refine zz ?_;subst E J;refine es<|xt<|xs<|rz ?_;refine es<|xr<|br<|er ?_;cases h;exact en fr
  refine zz ?_;subst E J;refine es ?_;obtain⟨k,h⟩|⟨k,h⟩:=iK k h
  ·exact Lf
  exact LF
 exact Lf
def Z3Y (r_0:Z3):Option (Int) :=
 ((Z0O r_0.Name).bind fun r0=>(if r0 then(((if(decide (r_0.Top < 0)) then(some true) else(if(decide (14 < r_0.Top)) then(some true) else(if(decide (r_0.Height < 1)) then(some true) else(if(decide ((IntKind.i64.wrap (15 - r_0.Top)) < r_0.Height)) then(some true) else(if(decide (r_0.Left < 0)) then(some true) else(if(decide (31 < r_0.Left)) then(some true) else(if(decide (r_0.Width < 1)) then(some true) else(some (decide ((IntKind.i64.wrap (32 - r_0.Left)) < r_0.Width)))))))))):Option (Bool)).bind fun v0=>(if v0 then(some 2) else(if(r_0.Align != 1) then(if(r_0.Align != 2) then(if(r_0.Align != 3) then(some 3) else(some 0)) else(some 0)) else(some 0)))) else(some 5)))
theorem Z8N{I:World->Prop}(hI:Stab I){r_0:Z3}{r:Int}(h:Z3Y r_0=some r):AFun Tryz.prog I 132 [Z3.d r_0] (.int .i64 r):=by
 have dd:=Z1X;have k:=True.intro;have q:=k;have rs:=Tryz.results132;unfold Z3Y at h;refine .en hI Tryz.func132 Tryz.ntmps132 ?_;refine xs<|rz ?_;refine es<|xs<|xb<|xs<|rK fun K _ E J=>zz ?_;obtain⟨r0,h0,h⟩:=bs h;refine cw (Z4w hI h0)<|zz ?_;subst E J;refine es ?_;obtain⟨k,h⟩|⟨k,h⟩:=iK k h
 ·refine xf ?_;obtain⟨v0,h1,h⟩:=bs h;refine Zk (fun v0=>⟨envL [(1,.ptr 0 0),(8,.bool v0)],Z5 [(0,.box none [.str r_0.Name,.int .i64 r_0.Top,.int .i64 r_0.Height,.int .i64 r_0.Left,.int .i64 r_0.Width,.int .u8 r_0.Align,.bool r_0.Bottom])],1,67⟩) h1 ?_ ?_
  ·clear h;intro v0 h;refine rK fun K _ E J=>zz ?_;obtain⟨k,h⟩|⟨k,h⟩:=iK k h
   ·exact Ld
   refine zz ?_;obtain⟨k,h⟩|⟨k,h⟩:=iK k h
   ·exact Ld
   refine zz ?_;obtain⟨k,h⟩|⟨k,h⟩:=iK k h
   ·exact Ld
   refine zz ?_;obtain⟨k,h⟩|⟨k,h⟩:=iK k h
   ·exact Ld
   refine zz ?_;obtain⟨k,h⟩|⟨k,h⟩:=iK k h
   ·exact Ld
   refine zz ?_;obtain⟨k,h⟩|⟨k,h⟩:=iK k h
   ·exact Ld
   refine zz ?_;obtain⟨k,h⟩|⟨k,h⟩:=iK k h
   ·exact Ld
   exact Ld
  obtain⟨k,h⟩|⟨k,h⟩:=iK k h
  ·exact Lf
  refine xf<|xs<|rK fun K _ E J=>zz ?_;obtain⟨k,h⟩|⟨k,h⟩:=iK k h
  ·refine zz ?_;obtain⟨k,h⟩|⟨k,h⟩:=iK k h
   ·refine zz ?_;subst E J;refine es ?_;obtain⟨k,h⟩|⟨k,h⟩:=iK k h
    ·exact Lf
    exact LF
   refine zz ?_;subst E J;refine es<|xf<|xk<|bn<|es<|xs<|rz ?_;exact Lb
  refine zz ?_;subst E J;refine es<|xf<|xk<|bn<|es<|xs<|rz ?_;exact Lb
 exact Lf
def Z3i (l_0:List Z3)(x0:Int):Option (Nx (Int) (Int ⊕ Unit)) :=
 (if(decide (x0 < (l_0.length:Int))) then((atI l_0 x0).bind fun y0=>((Z3Y y0).bind fun r0=>(if(r0 != 0) then(some (.out (.inl r0))) else(((if(decide (0 < x0)) then((atI l_0 (IntKind.i64.wrap (x0 - 1))).bind fun y1=>(some (y0.Name == y1.Name))) else(some false)):Option (Bool)).bind fun v0=>(if v0 then(some (.out (.inl 7))) else(if(decide (0 < x0)) then((atI l_0 (IntKind.i64.wrap (x0 - 1))).bind fun y2=>(if(Op.bytesLess y0.Name y2.Name) then(some (.out (.inl 8))) else(some (.go (IntKind.i64.wrap (x0+1)))))) else(some (.go (IntKind.i64.wrap (x0+1)))))))))) else(some (.out (.inr ()))))
def Z3d (l_0:List Z3):Option (Int) :=
 (if(decide (16 < (l_0.length:Int))) then(some 9) else((iter (Z3i l_0) 0).bind fun e0=>(match e0 with|Sum.inl e0=>(some e0)|Sum.inr (e0)=>(some 0))))
theorem Z9X{I:World->Prop}(hI:Stab I){l_0:List Z3}{r:Int}(h:Z3d l_0=some r):AFun Tryz.prog I 93 [.sl (l_0.map Z3.d)] (.int .i64 r):=by
 have dd:=Z1X;have k:=True.intro;have q:=k;have rs:=Tryz.results93;unfold Z3d at h;refine .en hI Tryz.func93 Tryz.ntmps93 ?_;refine xs<|rz ?_;refine es<|xs<|xs<|rz ?_;refine es ?_;obtain⟨k,h⟩|⟨k,h⟩:=iK k h
 ·exact Lc
 refine xf<|xk<|es<|xs<|xs<|rz ?_;refine es<|xb ?_;obtain⟨e0,h0,h⟩:=bs h;refine Zb (fun x0=>⟨envL [(0,.sl (l_0.map Z3.d)),(9,.sl (l_0.map Z3.d)),(10,.int .i64 (l_0.length:Int)),(11,.int .i64 x0)],Z5 [],0,48⟩) (fun w=>match w with|Sum.inl _=>.ret|Sum.inr (_)=>.exit 0) (fun w=>match w with|Sum.inl e0=>⟨envL [(2,.int .i64 e0)],Z5 [],0,48⟩|Sum.inr (e0)=>⟨envL [],Z5 [],0,48⟩) h0 (wk []) (by intro w;rcases w with w|w<;>simp) ?_ ?_
 ·clear h;intro x0 y h;unfold Z3i at h;refine xs<|rz ?_;refine es<|xs ?_;obtain⟨k,h⟩|⟨k,h⟩:=iK k h
  ·refine xt<|xk<|es<|xs<|xb<|xs<|rK fun K _ E J=>zz ?_;obtain⟨y0,q,h⟩:=bK q h;refine zz ?_;subst E J;refine es<|xs<|xs<|rK fun K _ E J=>zz ?_;obtain⟨r0,h1,h⟩:=bs h;refine cw (Z8N hI h1)<|zz ?_;subst E J;refine es<|xs<|rz ?_;refine es ?_;obtain⟨k,h⟩|⟨k,h⟩:=iK k h
   ·exact Lh
   refine xf<|xk<|es<|xs ?_;obtain⟨v0,h2,h⟩:=bs h;refine Zk (fun v0=>⟨envL [(0,.sl (l_0.map Z3.d)),(3,.int .i64 x0),(4,.ptr 0 0),(9,.sl (l_0.map Z3.d)),(10,.int .i64 (l_0.length:Int)),(11,.int .i64 x0),(33,.bool v0)],Z5 [(0,.box none [.str y0.Name,.int .i64 y0.Top,.int .i64 y0.Height,.int .i64 y0.Left,.int .i64 y0.Width,.int .u8 y0.Align,.bool y0.Bottom])],1,48⟩) h2 ?_ ?_
   ·clear h;intro v0 h;refine rD hI fun K _ E J=>zz ?_;obtain⟨k,h⟩|⟨k,h⟩:=iK k h
    ·refine zz ?_;obtain⟨y1,q,h⟩:=bK q h;exact Lq
    exact Lq
   obtain⟨k,h⟩|⟨k,h⟩:=iK k h
   ·exact Lh
   refine xf<|xk<|es<|xs<|rD hI fun K _ E J=>zz ?_;obtain⟨k,h⟩|⟨k,h⟩:=iK k h
   ·refine zz ?_;obtain⟨y2,q,h⟩:=bK q h;refine zz ?_;subst E J;refine es ?_;obtain⟨k,h⟩|⟨k,h⟩:=iK k h
    ·exact Lk
    exact Ll
   exact Ly
  exact Le
 rcases e0 with e0|e0
 ·try dsimp only at h ⊢
  exact Li
 try dsimp only at h ⊢
 exact Lg
def Z5r (s_0:Ze):Option (Bool) :=
 (if(decide (0<=s_0.In)) then(if(decide (s_0.In < s_0.Out)) then(some (decide (s_0.Out<=5184000))) else(some false)) else(some false))
theorem ZaS{I:World->Prop}(hI:Stab I){s_0:Ze}{r:Bool}(h:Z5r s_0=some r):AFun Tryz.prog I 133 [Ze.d s_0] (.bool r):=by
 have dd:=Z1X;have k:=True.intro;have q:=k;have rs:=Tryz.results133;unfold Z5r at h;refine .en hI Tryz.func133 Tryz.ntmps133 ?_;refine xs<|rz ?_;refine es<|xs<|rK fun K _ E J=>zz ?_;obtain⟨k,h⟩|⟨k,h⟩:=iK k h
 ·refine zz ?_;obtain⟨k,h⟩|⟨k,h⟩:=iK k h
  ·exact Lj
  exact Lj
 exact Lj
def Z4g  : Option (Z3) :=
 (some (Z3.mk [] 11 4 0 32 2 true))
theorem Z7J{I:World->Prop}(hI:Stab I) {r:Z3}(h:Z4g  = some r):AFun Tryz.prog I 163 [] (Z3.d r):=by
 have dd:=Z1X;have k:=True.intro;have q:=k;have rs:=Tryz.results163;unfold Z4g at h;refine .en hI Tryz.func163 Tryz.ntmps163 ?_;exact LA
def Z7R (l_0:List Z3)(name_1:List UInt8)(x0:Int):Option (Nx (Int) (((List UInt8) × Int × Int × Int × Int × Int × Bool) ⊕ Unit)) :=
 (if(decide (x0 < (l_0.length:Int))) then((atI l_0 x0).bind fun y0=>(if(y0.Name == name_1) then(some (.out (.inl (y0.Name,y0.Top,y0.Height,y0.Left,y0.Width,y0.Align,y0.Bottom)))) else(some (.go (IntKind.i64.wrap (x0+1)))))) else(some (.out (.inr ()))))
def Z6t (l_0:List Z3)(name_1:List UInt8):Option (Z3 × Bool) :=
 (if(name_1 == ([]:List UInt8)) then((Z4g).bind fun r0=>(some (r0,true))) else((iter (Z7R l_0 name_1) 0).bind fun e0=>(match e0 with|Sum.inl e0=>(some ((Z3.mk e0.1 e0.2.1 e0.2.2.1 e0.2.2.2.1 e0.2.2.2.2.1 e0.2.2.2.2.2.1 e0.2.2.2.2.2.2),true))|Sum.inr (e0)=>(some ((Z3.mk [] 0 0 0 0 0 false),false)))))
theorem Zdd{I:World->Prop}(hI:Stab I){l_0:List Z3}{name_1:List UInt8}{r:Z3 × Bool}(h:Z6t l_0 name_1=some r):AFun Tryz.prog I 134 [.sl (l_0.map Z3.d),.str name_1] (.tup [Z3.d r.1,.bool r.2]):=by
 have dd:=Z1X;have k:=True.intro;have q:=k;have rs:=Tryz.results134;unfold Z6t at h;refine .en hI Tryz.func134 Tryz.ntmps134 ?_;refine xs<|rz ?_;refine es<|xs<|xs<|rz ?_;refine es ?_;obtain⟨k,h⟩|⟨k,h⟩:=iK k h
 ·refine xt<|xs<|rK fun K _ E J=>zz ?_;obtain⟨r0,h0,h⟩:=bs h;refine cw (Z7J hI h0)<|zz ?_;subst E J;exact LJ
 refine xf<|xk<|es<|xs<|xs<|rz ?_;refine es<|xb ?_;obtain⟨e0,h1,h⟩:=bs h;refine Zb (fun x0=>⟨envL [(1,.str name_1),(4,.ptr 0 0),(11,.sl (l_0.map Z3.d)),(12,.int .i64 (l_0.length:Int)),(13,.int .i64 x0)],Z5 [(0,.box none [.str [],.int .i64 0,.int .i64 0,.int .i64 0,.int .i64 0,.int .u8 0,.bool false])],1,24⟩) (fun w=>match w with|Sum.inl _=>.ret|Sum.inr (_)=>.exit 0) (fun w=>match w with|Sum.inl e0=>⟨envL [(4,.ptr 0 0),(5,.bool true)],Z5 [(0,.box none [.str e0.1,.int .i64 e0.2.1,.int .i64 e0.2.2.1,.int .i64 e0.2.2.2.1,.int .i64 e0.2.2.2.2.1,.int .u8 e0.2.2.2.2.2.1,.bool e0.2.2.2.2.2.2])],1,24⟩|Sum.inr (e0)=>⟨envL [(4,.ptr 0 0)],Z5 [(0,.box none [.str [],.int .i64 0,.int .i64 0,.int .i64 0,.int .i64 0,.int .u8 0,.bool false])],1,24⟩) h1 (wk []) (by intro w;rcases w with w|w<;>simp) ?_ ?_
 ·clear h;intro x0 y h;unfold Z7R at h;refine xs<|rz ?_;refine es<|xs ?_;obtain⟨k,h⟩|⟨k,h⟩:=iK k h
  ·refine xt<|xk<|es<|xs<|xb<|xs<|rK fun K _ E J=>zz ?_;obtain⟨y0,q,h⟩:=bK q h;refine zz ?_;subst E J;refine es<|xs<|rz ?_;refine es ?_;obtain⟨k,h⟩|⟨k,h⟩:=iK k h
   ·exact Lk
   exact Ll
  exact Le
 rcases e0 with e0|e0
 ·try dsimp only at h ⊢
  exact Li
 try dsimp only at h ⊢
 exact Lg
def Z66 (s_0:Zw):Option (Bool) :=
 (some (decide (s_0.Color<=6)))
theorem ZcF{I:World->Prop}(hI:Stab I){s_0:Zw}{r:Bool}(h:Z66 s_0=some r):AFun Tryz.prog I 164 [Zw.d s_0] (.bool r):=by
 have dd:=Z1X;have k:=True.intro;have q:=k;have rs:=Tryz.results164;unfold Z66 at h;refine .en hI Tryz.func164 Tryz.ntmps164 ?_;exact LA
def Z4M (Zr:Z6)(x0:Int):Option (Nx (Int) (Int ⊕ Unit)) :=
 (if(decide (x0 < (Zr.Runs.length:Int))) then((atI Zr.Runs x0).bind fun y0=>((Z0d y0.Text).bind fun r0=>(if r0 then(if(y0.Text == ([]:List UInt8)) then(some (.out (.inl 4))) else((Z66 y0.Style).bind fun r1=>(if r1 then((Z0d y0.Ruby).bind fun r2=>(if r2 then(((if(decide (0 < x0)) then((atI Zr.Runs (IntKind.i64.wrap (x0 - 1))).bind fun y1=>(if((y1.Style.Color == y0.Style.Color)&&((y1.Style.Italic == y0.Style.Italic)&&(y1.Style.Underline == y0.Style.Underline))) then(if(y1.Ruby == ([]:List UInt8)) then(some (y0.Ruby == ([]:List UInt8))) else(some false)) else(some false))) else(some false)):Option (Bool)).bind fun v0=>(if v0 then(some (.out (.inl 8))) else(some (.go (IntKind.i64.wrap (x0+1)))))) else(some (.out (.inl 10))))) else(some (.out (.inl 12)))))) else(some (.out (.inl 10)))))) else(some (.out (.inr ()))))
def Z52 (Zr:Z6):Option (Int) :=
 (if(decide (16 < (Zr.Runs.length:Int))) then(some 9) else((iter (Z4M Zr) 0).bind fun e0=>(match e0 with|Sum.inl e0=>(some e0)|Sum.inr (e0)=>(some 0))))
theorem ZcD{I:World->Prop}(hI:Stab I){Zr:Z6}{r:Int}(h:Z52 Zr=some r):AFun Tryz.prog I 135 [Z6.d Zr] (.int .i64 r):=by
 have dd:=Z1X;have k:=True.intro;have q:=k;have rs:=Tryz.results135;unfold Z52 at h;refine .en hI Tryz.func135 Tryz.ntmps135 ?_;refine xs<|rz ?_;refine es<|xs<|xs<|rz ?_;refine es ?_;obtain⟨k,h⟩|⟨k,h⟩:=iK k h
 ·exact Lc
 refine xf<|xk<|es<|xs<|xs<|rz ?_;refine es<|xb ?_;obtain⟨e0,h0,h⟩:=bs h;refine Zb (fun x0=>⟨envL [(1,.ptr 0 0),(10,.sl (Zr.Runs.map Zd.d)),(11,.int .i64 (Zr.Runs.length:Int)),(12,.int .i64 x0)],Z5 [(0,.box none [.sl (Zr.Runs.map Zd.d)])],1,67⟩) (fun w=>match w with|Sum.inl _=>.ret|Sum.inr (_)=>.exit 0) (fun w=>match w with|Sum.inl e0=>⟨envL [(2,.int .i64 e0)],Z5 [],0,67⟩|Sum.inr (e0)=>⟨envL [],Z5 [],0,67⟩) h0 (wk []) (by intro w;rcases w with w|w<;>simp) ?_ ?_
 ·clear h;intro x0 y h;unfold Z4M at h;refine xs<|rz ?_;refine es<|xs ?_;obtain⟨k,h⟩|⟨k,h⟩:=iK k h
  ·refine xt<|xk<|es<|xs<|xb<|xs<|rK fun K _ E J=>zz ?_;obtain⟨y0,q,h⟩:=bK q h;refine zz ?_;subst E J;refine es<|xb<|xs<|rK fun K _ E J=>zz ?_;obtain⟨r0,h1,h⟩:=bs h;refine cw (Z24 hI h1)<|zz ?_;subst E J;refine es ?_;obtain⟨k,h⟩|⟨k,h⟩:=iK k h
   ·refine xf<|xs<|rz ?_;refine es ?_;obtain⟨k,h⟩|⟨k,h⟩:=iK k h
    ·exact Lm
    refine xf<|xs<|rK fun K _ E J=>zz ?_;obtain⟨r1,h2,h⟩:=bs h;refine cw (ZcF hI h2)<|zz ?_;subst E J;refine es ?_;obtain⟨k,h⟩|⟨k,h⟩:=iK k h
    ·refine xf<|xs<|rK fun K _ E J=>zz ?_;obtain⟨r2,h3,h⟩:=bs h;refine cw (Z24 hI h3)<|zz ?_;subst E J;refine es ?_;obtain⟨k,h⟩|⟨k,h⟩:=iK k h
     ·refine xf ?_;obtain⟨v0,h4,h⟩:=bs h;refine Zk (fun v0=>⟨envL [(1,.ptr 0 0),(10,.sl (Zr.Runs.map Zd.d)),(11,.int .i64 (Zr.Runs.length:Int)),(12,.int .i64 x0),(36,.bool v0)],Z5 [(0,.box none [.sl (Zr.Runs.map Zd.d)])],1,67⟩) h4 ?_ ?_
      ·clear h;intro v0 h;refine rD hI fun K _ E J=>zz ?_;obtain⟨k,h⟩|⟨k,h⟩:=iK k h
       ·refine zz ?_;obtain⟨y1,q,h⟩:=bK q h;refine zz ?_;obtain⟨k,h⟩|⟨k,h⟩:=iK k h
        ·refine zz ?_;obtain⟨k,h⟩|⟨k,h⟩:=iK k h
         ·exact Ld
         exact Ld
        exact Ld
       exact Ld
      obtain⟨k,h⟩|⟨k,h⟩:=iK k h
      ·exact Lm
      exact LN
     exact Lm
    exact Lm
   exact Lm
  exact Le
 rcases e0 with e0|e0
 ·try dsimp only at h ⊢
  exact Li
 try dsimp only at h ⊢
 exact Lg
def Z3x (Zr:Z6)(x7:(List UInt8) × Int):Option (Nx ((List UInt8) × Int) ((List UInt8))) :=
 (if(decide (x7.2 < (Zr.Runs.length:Int))) then((atI Zr.Runs x7.2).bind fun y0=>(if x7.1.length+y0.Text.length<=9223372036854775807 then(some (.go ((x7.1++y0.Text),(IntKind.i64.wrap (x7.2+1))))) else none)) else(some (.out x7.1)))
def Z3X (Zr:Z6):Option ((List UInt8)) :=
 ((iter (Z3x Zr) ([],0)).bind fun e8=>(some e8))
theorem Z8M{I:World->Prop}(hI:Stab I){Zr:Z6}{r:(List UInt8)}(h:Z3X Zr=some r):AFun Tryz.prog I 100 [Z6.d Zr] (.str r):=by
 have dd:=Z1X;have k:=True.intro;have q:=k;have rs:=Tryz.results100;unfold Z3X at h;refine .en hI Tryz.func100 Tryz.ntmps100 ?_;refine xs<|rz ?_;refine es<|xs<|rz ?_;refine es<|xs<|xs<|rz ?_;refine es<|xb ?_;obtain⟨e8,h0,h⟩:=bs h;refine Zb (fun x7=>⟨envL [(3,.str x7.1),(7,.sl (Zr.Runs.map Zd.d)),(8,.int .i64 (Zr.Runs.length:Int)),(9,.int .i64 x7.2)],Z5 [],0,19⟩) (fun _=>.exit 0) (fun e8=>⟨envL [(3,.str e8)],Z5 [],0,19⟩) h0 (wk []) (by intro w;simp) ?_ ?_
 ·clear h;intro x7 y h;unfold Z3x at h;refine xs<|rz ?_;refine es<|xs ?_;obtain⟨k,h⟩|⟨k,h⟩:=iK k h
  ·refine xt<|xk<|es<|xs<|xb<|xs<|rK fun K _ E J=>zz ?_;obtain⟨y0,q,h⟩:=bK q h;refine zz ?_;subst E J;refine es<|rK fun K _ E J=>zz ?_;obtain⟨h1,h⟩:=Zo h;have h2:x7.1.length+y0.Text.length<=9223372036854775807:=by(try simp only[List.length_append,List.length_cons,List.length_nil]);omega
   try simp -implicitDefEqProofs only[vt,vm,sevalprocAttr,dd,k,q] at h2
   have q:=And.intro @h2<|And.intro @h1<|q;exact LI
  exact Le
 exact Lg
def Z5q (s_0:List UInt8)(x0:Int):Option (Nx (Int) (Unit ⊕ Unit)) :=
 (if(decide (x0 < (s_0.length:Int))) then((atI s_0 x0).bind fun b0=>(if((b0.toNat:Int) == 32) then((atI s_0 (IntKind.i64.wrap (x0 - 1))).bind fun b1=>(if((b1.toNat:Int) == 32) then(some (.out (.inl ()))) else(some (.go (IntKind.i64.wrap (x0+1)))))) else(some (.go (IntKind.i64.wrap (x0+1)))))) else(some (.out (.inr ()))))
def Z5C (s_0:List UInt8):Option (Bool) :=
 (((if(s_0 == ([]:List UInt8)) then(some true) else((atI s_0 0).bind fun b0=>(if((b0.toNat:Int) == 32) then(some true) else((atI s_0 (IntKind.i64.wrap ((s_0.length:Int) - 1))).bind fun b1=>(some ((b1.toNat:Int) == 32)))))):Option (Bool)).bind fun v0=>(if v0 then(some false) else((iter (Z5q s_0) 1).bind fun e0=>(match e0 with|Sum.inl e0=>(some false)|Sum.inr (e0)=>(some true)))))
theorem Zde{I:World->Prop}(hI:Stab I){s_0:List UInt8}{r:Bool}(h:Z5C s_0=some r):AFun Tryz.prog I 136 [.str s_0] (.bool r):=by
 have dd:=Z1X;have k:=True.intro;have q:=k;have rs:=Tryz.results136;unfold Z5C at h;refine .en hI Tryz.func136 Tryz.ntmps136 ?_;refine xs<|rz ?_;refine es<|xs ?_;obtain⟨v0,h0,h⟩:=bs h;refine Zk (fun v0=>⟨envL [(0,.str s_0),(18,.bool v0)],Z5 [],0,36⟩) h0 ?_ ?_
 ·clear h;intro v0 h;refine rK fun K _ E J=>zz ?_;obtain⟨k,h⟩|⟨k,h⟩:=iK k h
  ·exact Ld
  refine zz ?_;obtain⟨b0,q,h⟩:=bK q h;refine zz ?_;obtain⟨k,h⟩|⟨k,h⟩:=iK k h
  ·exact Ld
  refine zz ?_;obtain⟨b1,q,h⟩:=bK q h;exact Ld
 obtain⟨k,h⟩|⟨k,h⟩:=iK k h
 ·exact Lc
 refine xf<|xk<|es<|xs<|xs<|rz ?_;refine es<|xb ?_;obtain⟨e0,h1,h⟩:=bs h;refine Zb (fun x0=>⟨envL [(0,.str s_0),(3,.int .i64 x0)],Z5 [],0,36⟩) (fun w=>match w with|Sum.inl _=>.ret|Sum.inr (_)=>.exit 0) (fun w=>match w with|Sum.inl e0=>⟨envL [(2,.bool false)],Z5 [],0,36⟩|Sum.inr (e0)=>⟨envL [],Z5 [],0,36⟩) h1 (wk []) (by intro w;rcases w with w|w<;>simp) ?_ ?_
 ·clear h;intro x0 y h;unfold Z5q at h;refine xs<|xs<|rz ?_;refine es ?_;obtain⟨k,h⟩|⟨k,h⟩:=iK k h
  ·refine xt<|xk<|es<|xs<|xb<|xs<|rK fun K _ E J=>zz ?_;obtain⟨b2,q,h⟩:=bK q h;refine zz ?_;obtain⟨k,h⟩|⟨k,h⟩:=iK k h
   ·refine zz ?_;obtain⟨b3,q,h⟩:=bK q h;refine zz ?_;subst E J;refine es ?_;obtain⟨k,h⟩|⟨k,h⟩:=iK k h
    ·exact Lk
    exact Ll
   exact Ly
  exact Le
 rcases e0 with e0|e0
 ·try dsimp only at h ⊢
  exact Li
 try dsimp only at h ⊢
 exact Lg
def Z5Z (s_0:List UInt8):Option (Int) :=
 ((Z0d s_0).bind fun r7=>(if r7 then((Z28 s_0).bind fun r0=>(some (r0.length:Int))) else(some (-1))))
theorem Zep{I:World->Prop}(hI:Stab I){s_0:List UInt8}{r:Int}(h:Z5Z s_0=some r):AFun Tryz.prog I 165 [.str s_0] (.int .i64 r):=by
 have dd:=Z1X;have k:=True.intro;have q:=k;have rs:=Tryz.results165;unfold Z5Z at h;refine .en hI Tryz.func165 Tryz.ntmps165 ?_;refine xs<|rz ?_;refine es<|xs<|xs<|rK fun K _ E J=>zz ?_;obtain⟨r7,h8,h⟩:=bs h;refine cw (Z24 hI h8)<|zz ?_;subst E J;refine es ?_;obtain⟨k,h⟩|⟨k,h⟩:=iK k h
 ·refine xf<|xk<|es<|xs<|rK fun K _ E J=>zz ?_;obtain⟨r0,h0,h⟩:=bs h;refine cw (Z8L hI h0)<|zz ?_;exact Lz
 exact Lc
def Z5N (Zr:Z6)(x7:Int × Int):Option (Nx (Int × Int) (Unit ⊕ Int)) :=
 (if(decide (x7.2 < (Zr.Runs.length:Int))) then((atI Zr.Runs x7.2).bind fun y0=>((Z5Z y0.Text).bind fun r0=>(if(decide (r0 < 0)) then(some (.out (.inl ()))) else(some (.go ((IntKind.i64.wrap (x7.1+r0)),(IntKind.i64.wrap (x7.2+1)))))))) else(some (.out (.inr x7.1))))
def Z4o (Zr:Z6):Option (Int) :=
 ((iter (Z5N Zr) (0,0)).bind fun e8=>(match e8 with|Sum.inl e8=>(some (-1))|Sum.inr (e8)=>(some e8)))
theorem Z80{I:World->Prop}(hI:Stab I){Zr:Z6}{r:Int}(h:Z4o Zr=some r):AFun Tryz.prog I 137 [Z6.d Zr] (.int .i64 r):=by
 have dd:=Z1X;have k:=True.intro;have q:=k;have rs:=Tryz.results137;unfold Z4o at h;refine .en hI Tryz.func137 Tryz.ntmps137 ?_;refine xs<|rz ?_;refine es<|xs<|rz ?_;refine es<|xs<|xs<|rz ?_;refine es<|xb ?_;obtain⟨e8,h0,h⟩:=bs h;refine Zb (fun x7=>⟨envL [(3,.int .i64 x7.1),(8,.sl (Zr.Runs.map Zd.d)),(9,.int .i64 (Zr.Runs.length:Int)),(10,.int .i64 x7.2)],Z5 [],0,24⟩) (fun w=>match w with|Sum.inl _=>.ret|Sum.inr (_)=>.exit 0) (fun w=>match w with|Sum.inl e8=>⟨envL [(2,.int .i64 (-1))],Z5 [],0,24⟩|Sum.inr (e8)=>⟨envL [(3,.int .i64 e8)],Z5 [],0,24⟩) h0 (wk []) (by intro w;rcases w with w|w<;>simp) ?_ ?_
 ·clear h;intro x7 y h;unfold Z5N at h;refine xs<|rz ?_;refine es<|xs ?_;obtain⟨k,h⟩|⟨k,h⟩:=iK k h
  ·refine xt<|xk<|es<|xs<|xb<|xs<|rK fun K _ E J=>zz ?_;obtain⟨y0,q,h⟩:=bK q h;refine zz ?_;subst E J;refine es<|xs<|rK fun K _ E J=>zz ?_;obtain⟨r0,h1,h⟩:=bs h;refine cw (Zep hI h1)<|zz ?_;subst E J;refine es<|xs<|xs<|rz ?_;refine es ?_;obtain⟨k,h⟩|⟨k,h⟩:=iK k h
   ·exact Lh
   refine xf<|xk<|es<|rz ?_;exact Ln
  exact Le
 rcases e8 with e8|e8
 ·try dsimp only at h ⊢
  exact Li
 try dsimp only at h ⊢
 exact Lg
def Z4B (r_0:Z3):Option (Bool) :=
 ((Z3Y r_0).bind fun r0=>(if(r0 == 0) then(some true) else((Z4g).bind fun r1=>(some ((r_0.Name == r1.Name)&&((r_0.Top == r1.Top)&&((r_0.Height == r1.Height)&&((r_0.Left == r1.Left)&&((r_0.Width == r1.Width)&&((r_0.Align == r1.Align)&&(r_0.Bottom == r1.Bottom)))))))))))
theorem Zby{I:World->Prop}(hI:Stab I){r_0:Z3}{r:Bool}(h:Z4B r_0=some r):AFun Tryz.prog I 166 [Z3.d r_0] (.bool r):=by
 have dd:=Z1X;have k:=True.intro;have q:=k;have rs:=Tryz.results166;unfold Z4B at h;refine .en hI Tryz.func166 Tryz.ntmps166 ?_;refine xs<|rz ?_;refine es<|xs<|rD hI fun K _ E J=>zz ?_;obtain⟨r0,h0,h⟩:=bs h;refine cd (Z8N hI h0)<|zz ?_;obtain⟨k,h⟩|⟨k,h⟩:=iK k h
 ·exact Lj
 refine zz ?_;obtain⟨r1,h1,h⟩:=bs h;refine cd (Z7J hI h1)<|zz ?_;exact Lz
def Z2q (r_0:Z3)(lens_1:List Int)(x0:(List Zn) × Int):Option (Nx ((List Zn) × Int) (Int ⊕ ((List Zn)))) :=
 (if(decide (x0.2 < (lens_1.length:Int))) then((((atI lens_1 x0.2).bind fun y0=>(if(decide (y0 < 0)) then(some (.out 2)) else(if(decide (r_0.Width < y0)) then(some (.out 11)) else(if r_0.Bottom then(if(r_0.Align == 3) then(if(x0.1.length+1) * 24<=140737488355328 then(some (.go (x0.1++[(Zn.mk (IntKind.i64.wrap ((IntKind.i64.wrap (r_0.Top+x0.2))+(IntKind.i64.wrap (r_0.Height - (lens_1.length:Int))))) (IntKind.i64.wrap (r_0.Left+(IntKind.i64.wrap (r_0.Width - y0)))) y0)]))) else none) else(if(r_0.Align == 2) then(if(x0.1.length+1) * 24<=140737488355328 then(some (.go (x0.1++[(Zn.mk (IntKind.i64.wrap ((IntKind.i64.wrap (r_0.Top+x0.2))+(IntKind.i64.wrap (r_0.Height - (lens_1.length:Int))))) (IntKind.i64.wrap (r_0.Left+(IntKind.i64.wrap (Int.tdiv (IntKind.i64.wrap (r_0.Width - y0)) 2)))) y0)]))) else none) else(if(x0.1.length+1) * 24<=140737488355328 then(some (.go (x0.1++[(Zn.mk (IntKind.i64.wrap ((IntKind.i64.wrap (r_0.Top+x0.2))+(IntKind.i64.wrap (r_0.Height - (lens_1.length:Int))))) r_0.Left y0)]))) else none))) else(if(r_0.Align == 3) then(if(x0.1.length+1) * 24<=140737488355328 then(some (.go (x0.1++[(Zn.mk (IntKind.i64.wrap (r_0.Top+x0.2)) (IntKind.i64.wrap (r_0.Left+(IntKind.i64.wrap (r_0.Width - y0)))) y0)]))) else none) else(if(r_0.Align == 2) then(if(x0.1.length+1) * 24<=140737488355328 then(some (.go (x0.1++[(Zn.mk (IntKind.i64.wrap (r_0.Top+x0.2)) (IntKind.i64.wrap (r_0.Left+(IntKind.i64.wrap (Int.tdiv (IntKind.i64.wrap (r_0.Width - y0)) 2)))) y0)]))) else none) else(if(x0.1.length+1) * 24<=140737488355328 then(some (.go (x0.1++[(Zn.mk (IntKind.i64.wrap (r_0.Top+x0.2)) r_0.Left y0)]))) else none))))))):Option (Nx ((List Zn)) (Int))).bind fun w0=>match w0 with|.go v0=>(some (.go (v0,(IntKind.i64.wrap (x0.2+1)))))|.out e0=>(some (.out (.inl e0)))) else(some (.out (.inr x0.1))))
def Z54 (r_0:Z3)(lens_1:List Int):Option ((List Zn) × Int) :=
 ((Z4B r_0).bind fun r7=>(if r7 then(if(decide (r_0.Height < (lens_1.length:Int))) then(some ([],9)) else((iter (Z2q r_0 lens_1) ([],0)).bind fun e0=>(match e0 with|Sum.inl e0=>(some ([],e0))|Sum.inr (e0)=>(some (e0,0))))) else(some ([],1))))
theorem ZcG{I:World->Prop}(hI:Stab I){r_0:Z3}{lens_1:List Int}{r:(List Zn) × Int}(h:Z54 r_0 lens_1=some r):AFun Tryz.prog I 138 [Z3.d r_0,.sl (lens_1.map (D.int .i64))] (.tup [.sl (r.1.map Zn.d),.int .i64 r.2]):=by
 have dd:=Z1X;have k:=True.intro;have q:=k;have rs:=Tryz.results138;unfold Z54 at h;refine .en hI Tryz.func138 Tryz.ntmps138 ?_;refine xs<|rz ?_;refine es<|xs<|xs<|rK fun K _ E J=>zz ?_;obtain⟨r7,h8,h⟩:=bs h;refine cw (Zby hI h8)<|zz ?_;subst E J;refine es ?_;obtain⟨k,h⟩|⟨k,h⟩:=iK k h
 ·refine xf<|xk<|es<|xs<|xs<|rz ?_;refine es ?_;obtain⟨k,h⟩|⟨k,h⟩:=iK k h
  ·exact Lc
  refine xf<|xk<|es<|xs<|rz ?_;refine es<|xs<|xs<|rz ?_;refine es<|xb ?_;obtain⟨e0,h0,h⟩:=bs h;refine Zb (fun x0=>⟨envL [(1,.sl (lens_1.map (D.int .i64))),(2,.ptr 0 0),(6,.own 1 x0.1.length),(18,.sl (lens_1.map (D.int .i64))),(19,.int .i64 (lens_1.length:Int)),(20,.int .i64 x0.2)],Z5 [(0,.box none [.str r_0.Name,.int .i64 r_0.Top,.int .i64 r_0.Height,.int .i64 r_0.Left,.int .i64 r_0.Width,.int .u8 r_0.Align,.bool r_0.Bottom]),(1,.vec 194 3 (x0.1.map Zn.d) false)],2,79⟩) (fun w=>match w with|Sum.inl _=>.ret|Sum.inr (_)=>.exit 0) (fun w=>match w with|Sum.inl e0=>⟨envL [(4,.nils),(5,.int .i64 e0)],Z5 [],0,79⟩|Sum.inr (e0)=>⟨envL [(6,.own 0 e0.length)],Z5 [(0,.vec 194 3 (e0.map Zn.d) false)],1,79⟩) h0 (wk [(1,none)]) (by intro w;rcases w with w|w<;>simp) ?_ ?_
  ·clear h;intro x0 y h;unfold Z2q at h;refine xs<|rz ?_;refine es<|xs ?_;obtain⟨k,h⟩|⟨k,h⟩:=iK k h
   ·refine xt<|xk<|es ?_;obtain⟨w0,h1,h⟩:=bs h;refine Zbf (fun v0=>⟨envL [(1,.sl (lens_1.map (D.int .i64))),(2,.ptr 0 0),(6,.own 1 v0.length),(18,.sl (lens_1.map (D.int .i64))),(19,.int .i64 (lens_1.length:Int)),(20,.int .i64 x0.2)],Z5 [(0,.box none [.str r_0.Name,.int .i64 r_0.Top,.int .i64 r_0.Height,.int .i64 r_0.Left,.int .i64 r_0.Width,.int .u8 r_0.Align,.bool r_0.Bottom]),(1,.vec 194 3 (v0.map Zn.d) false)],2,79⟩) (fun _=>.ret) (fun e1=>⟨envL [(4,.nils),(5,.int .i64 e1)],Z5 [],0,79⟩) h1 (by intro w;simp) ?_ ?_ ?_
    ·clear h;intro w0 h;refine xb<|xs<|rK fun K _ E J=>zz ?_;obtain⟨y0,q,h⟩:=bK q h;refine zz ?_;subst E J;refine es<|xs<|xs<|rz ?_;refine es ?_;obtain⟨k,h⟩|⟨k,h⟩:=iK k h
     ·exact LB
     refine xf<|xk<|es<|xs<|xs<|rz ?_;refine es ?_;obtain⟨k,h⟩|⟨k,h⟩:=iK k h
     ·exact LB
     refine xf<|xk<|es<|xs<|rz ?_;refine es<|xs<|xs<|rz ?_;refine es ?_;obtain⟨k,h⟩|⟨k,h⟩:=iK k h
     ·refine xt<|rz ?_;refine es<|xs<|xs<|rz ?_;refine es<|xb<|xs<|rz ?_;refine es ?_;obtain⟨k,h⟩|⟨k,h⟩:=iK k h
      ·refine xt<|rz ?_;refine bn<|es<|rK fun K _ E J=>zz ?_;obtain⟨h2,h⟩:=Zo h;have h3:x0.1.length+1<=9223372036854775807:=by omega
       try simp only[Nat.reduceLeDiff] at h3
       have q:=And.intro @h3<|And.intro @h2<|q;refine zz ?_;subst E J;refine bn ?_;cases h;exact en ⟨rfl,wk [(1,some 52)]⟩
      refine xf<|xs<|rz ?_;refine es ?_;obtain⟨k,h⟩|⟨k,h⟩:=iK k h
      ·refine xt<|rz ?_;refine bn<|es<|rK fun K _ E J=>zz ?_;obtain⟨h4,h⟩:=Zo h;have h5:x0.1.length+1<=9223372036854775807:=by omega
       try simp only[Nat.reduceLeDiff] at h5
       have q:=And.intro @h5<|And.intro @h4<|q;refine zz ?_;subst E J;refine bn ?_;cases h;exact en ⟨rfl,wk [(1,some 55)]⟩
      refine xf<|xk<|bn<|es<|rK fun K _ E J=>zz ?_;obtain⟨h6,h⟩:=Zo h;have h7:x0.1.length+1<=9223372036854775807:=by omega
      try simp only[Nat.reduceLeDiff] at h7
      have q:=And.intro @h7<|And.intro @h6<|q;refine zz ?_;subst E J;refine bn ?_;cases h;exact en ⟨rfl,wk [(1,some 45)]⟩
     refine xf<|xk<|es<|xs<|xs<|rz ?_;refine es<|xb<|xs<|rz ?_;refine es ?_;obtain⟨k,h⟩|⟨k,h⟩:=iK k h
     ·refine xt<|rz ?_;refine bn<|es<|rK fun K _ E J=>zz ?_;obtain⟨h9,h⟩:=Zo h;have h10:x0.1.length+1<=9223372036854775807:=by omega
      try simp only[Nat.reduceLeDiff] at h10
      have q:=And.intro @h10<|And.intro @h9<|q;refine zz ?_;subst E J;refine bn ?_;cases h;exact en ⟨rfl,wk [(1,some 42)]⟩
     refine xf<|xs<|rz ?_;refine es ?_;obtain⟨k,h⟩|⟨k,h⟩:=iK k h
     ·refine xt<|rz ?_;refine bn<|es<|rK fun K _ E J=>zz ?_;obtain⟨h11,h⟩:=Zo h;have h12:x0.1.length+1<=9223372036854775807:=by omega
      try simp only[Nat.reduceLeDiff] at h12
      have q:=And.intro @h12<|And.intro @h11<|q;refine zz ?_;subst E J;refine bn ?_;cases h;exact en ⟨rfl,wk [(1,some 45)]⟩
     refine xf<|xk<|bn<|es<|rK fun K _ E J=>zz ?_;obtain⟨h13,h⟩:=Zo h;have h14:x0.1.length+1<=9223372036854775807:=by omega
     try simp only[Nat.reduceLeDiff] at h14
     have q:=And.intro @h14<|And.intro @h13<|q;refine zz ?_;subst E J;refine bn ?_;cases h;exact en ⟨rfl,wk [(1,some 35)]⟩
    ·rintro v0 rfl;dsimp only at h;refine rz ?_;exact La
    rintro e1 rfl;dsimp only at h;exact La
   refine xf<|xx<|ee ?_;exact Lv
  rcases e0 with e0|e0
  ·try dsimp only at h ⊢
   exact Li
  try dsimp only at h ⊢
  exact Lg
 exact Lc
def Z1z (e_0:Z0)(x0:(List Int) × Int):Option (Nx ((List Int) × Int) (Int ⊕ ((List Int)))) :=
 (if(decide (x0.2 < (e_0.Rows.length:Int))) then((atI e_0.Rows x0.2).bind fun y0=>((Z52 y0).bind fun r0=>(if(r0 != 0) then(some (.out (.inl r0))) else((Z3X y0).bind fun r1=>((Z5C r1).bind fun r2=>(if r2 then((Z4o y0).bind fun r3=>(if(decide (32 < r3)) then(some (.out (.inl 11))) else((Z4o y0).bind fun r4=>(if(x0.1.length+1) * 8<=140737488355328 then(some (.go ((x0.1++[r4]),(IntKind.i64.wrap (x0.2+1))))) else none)))) else(some (.out (.inl 4))))))))) else(some (.out (.inr x0.1))))
def Z55 (e_0:Z0)(regions_1:List Z3):Option (Int) :=
 (((if(decide (e_0.ID < 1)) then(some true) else(if(decide (1099511627776 < e_0.ID)) then(some true) else((Z5r e_0.Span).bind fun r0=>(some (!r0))))):Option (Bool)).bind fun v8=>(if v8 then(some 2) else((Z6t regions_1 e_0.Region).bind fun r1=>(if r1.2 then(((if(decide (e_0.Kind < 1)) then(some true) else(some (decide (4 < e_0.Kind)))):Option (Bool)).bind fun v0=>(if v0 then(some 3) else(((if(e_0.Speaker == ([]:List UInt8)) then(some false) else((Z0O e_0.Speaker).bind fun r2=>(some (!r2)))):Option (Bool)).bind fun v1=>(if v1 then(some 5) else(((if((e_0.Rows.length:Int) == 0) then(some true) else(some (decide (4 < (e_0.Rows.length:Int))))):Option (Bool)).bind fun v2=>(if v2 then(some 9) else((iter (Z1z e_0) ([],0)).bind fun e0=>(match e0 with|Sum.inl e0=>(some e0)|Sum.inr (e0)=>((Z54 r1.1 e0).bind fun r3=>(some r3.2)))))))))) else(some 6)))))
theorem ZcH{I:World->Prop}(hI:Stab I){e_0:Z0}{regions_1:List Z3}{r:Int}(h:Z55 e_0 regions_1=some r):AFun Tryz.prog I 94 [Z0.d e_0,.sl (regions_1.map Z3.d)] (.int .i64 r):=by
 have dd:=Z1X;have k:=True.intro;have q:=k;have rs:=Tryz.results94;unfold Z55 at h;refine .en hI Tryz.func94 Tryz.ntmps94 ?_;refine xs<|rz ?_;refine es<|xs ?_;obtain⟨v8,h0,h⟩:=bs h;refine Zk (fun v8=>⟨envL [(1,.sl (regions_1.map Z3.d)),(2,.ptr 0 0),(26,.bool v8)],Z5 [(0,.box none [.int .i64 e_0.ID,.int .i64 e_0.Span.In,.int .i64 e_0.Span.Out,.str e_0.Region,.int .u8 e_0.Kind,.str e_0.Speaker,.sl (e_0.Rows.map Z6.d)])],1,99⟩) h0 ?_ ?_
 ·clear h;intro v8 h;refine rK fun K _ E J=>zz ?_;obtain⟨k,h⟩|⟨k,h⟩:=iK k h
  ·exact Ld
  refine zz ?_;obtain⟨k,h⟩|⟨k,h⟩:=iK k h
  ·exact Ld
  refine zz ?_;obtain⟨r0,h1,h⟩:=bs h;refine cw (ZaS hI h1)<|zz ?_;exact LO
 obtain⟨k,h⟩|⟨k,h⟩:=iK k h
 ·exact Lc
 refine xf<|xk<|es<|xs<|rK fun K _ E J=>zz ?_;obtain⟨r1,h2,h⟩:=bs h;refine cw (Zdd hI h2)<|zz ?_;subst E J;refine es<|xs<|xb<|xs<|rz ?_;refine es ?_;obtain⟨k,h⟩|⟨k,h⟩:=iK k h
 ·refine xf ?_;obtain⟨v0,h3,h⟩:=bs h;refine Zk (fun v0=>⟨envL [(2,.ptr 0 0),(5,.ptr 1 0),(37,.bool v0)],Z5 [(0,.box none [.int .i64 e_0.ID,.int .i64 e_0.Span.In,.int .i64 e_0.Span.Out,.str e_0.Region,.int .u8 e_0.Kind,.str e_0.Speaker,.sl (e_0.Rows.map Z6.d)]),(1,.box none [.str r1.1.Name,.int .i64 r1.1.Top,.int .i64 r1.1.Height,.int .i64 r1.1.Left,.int .i64 r1.1.Width,.int .u8 r1.1.Align,.bool r1.1.Bottom])],2,99⟩) h3 ?_ ?_
  ·clear h;intro v0 h;refine rK fun K _ E J=>zz ?_;obtain⟨k,h⟩|⟨k,h⟩:=iK k h
   ·refine zz ?_;subst E J;cases h;exact en ⟨rfl,wk [(1,some 8)]⟩
   refine zz ?_;subst E J;cases h;exact en ⟨rfl,wk [(1,some 8)]⟩
  obtain⟨k,h⟩|⟨k,h⟩:=iK k h
  ·exact Lf
  refine xf ?_;obtain⟨v1,h4,h⟩:=bs h;refine Zk (fun v1=>⟨envL [(2,.ptr 0 0),(5,.ptr 1 0),(46,.bool v1)],Z5 [(0,.box none [.int .i64 e_0.ID,.int .i64 e_0.Span.In,.int .i64 e_0.Span.Out,.str e_0.Region,.int .u8 e_0.Kind,.str e_0.Speaker,.sl (e_0.Rows.map Z6.d)]),(1,.box none [.str r1.1.Name,.int .i64 r1.1.Top,.int .i64 r1.1.Height,.int .i64 r1.1.Left,.int .i64 r1.1.Width,.int .u8 r1.1.Align,.bool r1.1.Bottom])],2,99⟩) h4 ?_ ?_
  ·clear h;intro v1 h;refine rK fun K _ E J=>zz ?_;obtain⟨k,h⟩|⟨k,h⟩:=iK k h
   ·exact Ld
   refine zz ?_;obtain⟨r2,h5,h⟩:=bs h;refine cw (Z4w hI h5)<|zz ?_;exact LO
  obtain⟨k,h⟩|⟨k,h⟩:=iK k h
  ·exact Lf
  refine xf ?_;obtain⟨v2,h6,h⟩:=bs h;refine Zk (fun v2=>⟨envL [(2,.ptr 0 0),(5,.ptr 1 0),(56,.bool v2)],Z5 [(0,.box none [.int .i64 e_0.ID,.int .i64 e_0.Span.In,.int .i64 e_0.Span.Out,.str e_0.Region,.int .u8 e_0.Kind,.str e_0.Speaker,.sl (e_0.Rows.map Z6.d)]),(1,.box none [.str r1.1.Name,.int .i64 r1.1.Top,.int .i64 r1.1.Height,.int .i64 r1.1.Left,.int .i64 r1.1.Width,.int .u8 r1.1.Align,.bool r1.1.Bottom])],2,99⟩) h6 ?_ ?_
  ·clear h;intro v2 h;refine rK fun K _ E J=>zz ?_;obtain⟨k,h⟩|⟨k,h⟩:=iK k h
   ·exact Ld
   exact Ld
  obtain⟨k,h⟩|⟨k,h⟩:=iK k h
  ·exact Lf
  refine xf<|xk<|bn<|es<|xs<|rz ?_;refine es<|xs<|xs<|rz ?_;refine es<|xb ?_;obtain⟨e0,h7,h⟩:=bs h;refine Zb (fun x0=>⟨envL [(5,.ptr 0 0),(7,.own 1 x0.1.length),(68,.sl (e_0.Rows.map Z6.d)),(69,.int .i64 (e_0.Rows.length:Int)),(70,.int .i64 x0.2)],Z5 [(0,.box none [.str r1.1.Name,.int .i64 r1.1.Top,.int .i64 r1.1.Height,.int .i64 r1.1.Left,.int .i64 r1.1.Width,.int .u8 r1.1.Align,.bool r1.1.Bottom]),(1,.vec 3 1 (x0.1.map (D.int .i64)) false)],2,99⟩) (fun w=>match w with|Sum.inl _=>.ret|Sum.inr (_)=>.exit 1) (fun w=>match w with|Sum.inl e0=>⟨envL [(4,.int .i64 e0)],Z5 [],0,99⟩|Sum.inr (e0)=>⟨envL [(5,.ptr 0 0),(7,.own 1 e0.length)],Z5 [(0,.box none [.str r1.1.Name,.int .i64 r1.1.Top,.int .i64 r1.1.Height,.int .i64 r1.1.Left,.int .i64 r1.1.Width,.int .u8 r1.1.Align,.bool r1.1.Bottom]),(1,.vec 3 1 (e0.map (D.int .i64)) false)],2,99⟩) h7 (wk [(0,some 1),(1,none)]) (by intro w;rcases w with w|w<;>simp) ?_ ?_
  ·clear h;intro x0 y h;unfold Z1z at h;refine xs<|rz ?_;refine es<|xs ?_;obtain⟨k,h⟩|⟨k,h⟩:=iK k h
   ·refine xt<|xk<|es<|xs<|xb<|xs<|rK fun K _ E J=>zz ?_;obtain⟨y0,q,h⟩:=bK q h;refine zz ?_;subst E J;refine es<|xs<|xs<|rK fun K _ E J=>zz ?_;obtain⟨r3,h8,h⟩:=bs h;refine cw (ZcD hI h8)<|zz ?_;subst E J;refine es<|xs<|rz ?_;refine es ?_;obtain⟨k,h⟩|⟨k,h⟩:=iK k h
    ·exact Lh
    refine xf<|xk<|es<|xs<|xs<|rK fun K _ E J=>zz ?_;obtain⟨r4,h9,h⟩:=bs h;refine cw (Z8M hI h9)<|zz ?_;obtain⟨r5,h10,h⟩:=bs h;refine cw (Zde hI h10)<|zz ?_;subst E J;refine es ?_;obtain⟨k,h⟩|⟨k,h⟩:=iK k h
    ·refine xf<|xk<|es<|xs<|xs<|rK fun K _ E J=>zz ?_;obtain⟨r6,h11,h⟩:=bs h;refine cw (Z80 hI h11)<|zz ?_;subst E J;refine es ?_;obtain⟨k,h⟩|⟨k,h⟩:=iK k h
     ·exact Lh
     refine xf<|xk<|es<|rK fun K _ E J=>zz ?_;obtain⟨r7,h12,h⟩:=bs h;refine cw (Z80 hI h12)<|zz ?_;obtain⟨h15,h⟩:=Zo h;have h16:x0.1.length+1<=9223372036854775807:=by omega
     try simp only[Nat.reduceLeDiff] at h16
     have q:=And.intro @h16<|And.intro @h15<|q;refine zz ?_;subst E J;refine bn<|es<|rz ?_;cases h;exact en ⟨rfl,wk [(1,some 23)]⟩
    exact Lh
   exact Le
  rcases e0 with e0|e0
  ·try dsimp only at h ⊢
   exact Li
  try dsimp only at h ⊢
  refine bh<|es<|xs<|rK fun K _ E J=>zz ?_;obtain⟨r8,h17,h⟩:=bs h;refine cw (ZcG hI h17)<|zz ?_;exact LQ
 exact Lf
def Z4C (a_0:Z0)(b_1:Z0):Option (Bool) :=
 (if(decide (a_0.Span.In < b_1.Span.In)) then(some true) else(if(a_0.Span.In == b_1.Span.In) then(some (decide (a_0.ID < b_1.ID))) else(some false)))
theorem Z98{I:World->Prop}(hI:Stab I){a_0:Z0}{b_1:Z0}{r:Bool}(h:Z4C a_0 b_1=some r):AFun Tryz.prog I 95 [Z0.d a_0,Z0.d b_1] (.bool r):=by
 have dd:=Z1X;have k:=True.intro;have q:=k;have rs:=Tryz.results95;unfold Z4C at h;refine .en hI Tryz.func95 Tryz.ntmps95 ?_;refine xs<|rz ?_;refine es<|xs<|rK fun K _ E J=>zz ?_;obtain⟨k,h⟩|⟨k,h⟩:=iK k h
 ·exact Lj
 refine zz ?_;obtain⟨k,h⟩|⟨k,h⟩:=iK k h
 ·exact Lj
 exact Lj
def Z2M (d_0:Z2)(id_1:Int)(x5:Int):Option (Nx (Int) (Int ⊕ Unit)) :=
 (if(decide (x5 < (d_0.Events.length:Int))) then((atI d_0.Events x5).bind fun y0=>(if(y0.ID == id_1) then(some (.out (.inl x5))) else(some (.go (IntKind.i64.wrap (x5+1)))))) else(some (.out (.inr ()))))
def Z1s (d_0:Z2)(id_1:Int):Option (Int) :=
 ((iter (Z2M d_0 id_1) 0).bind fun e6=>(match e6 with|Sum.inl e6=>(some e6)|Sum.inr (e6)=>(some (-1))))
theorem Z7q{I:World->Prop}(hI:Stab I){d_0:Z2}{id_1:Int}{r:Int}(h:Z1s d_0 id_1=some r):AFun Tryz.prog I 51 [Z2.d d_0,.int .i64 id_1] (.int .i64 r):=by
 have dd:=Z1X;have k:=True.intro;have q:=k;have rs:=Tryz.results51;unfold Z1s at h;refine .en hI Tryz.func51 Tryz.ntmps51 ?_;refine xs<|rz ?_;refine es<|xs<|xs<|rz ?_;refine es<|xb ?_;obtain⟨e6,h0,h⟩:=bs h;refine Zb (fun x5=>⟨envL [(1,.int .i64 id_1),(8,.sl (d_0.Events.map Z0.d)),(9,.int .i64 (d_0.Events.length:Int)),(10,.int .i64 x5)],Z5 [],0,21⟩) (fun w=>match w with|Sum.inl _=>.ret|Sum.inr (_)=>.exit 0) (fun w=>match w with|Sum.inl e6=>⟨envL [(4,.int .i64 e6)],Z5 [],0,21⟩|Sum.inr (e6)=>⟨envL [],Z5 [],0,21⟩) h0 (wk []) (by intro w;rcases w with w|w<;>simp) ?_ ?_
 ·clear h;intro x5 y h;unfold Z2M at h;refine xs<|rz ?_;refine es<|xs ?_;obtain⟨k,h⟩|⟨k,h⟩:=iK k h
  ·refine xt<|xk<|es<|xs<|xb<|xs<|rK fun K _ E J=>zz ?_;obtain⟨y0,q,h⟩:=bK q h;refine zz ?_;subst E J;refine es<|xs<|rz ?_;refine es ?_;obtain⟨k,h⟩|⟨k,h⟩:=iK k h
   ·exact Lk
   exact Ll
  exact Le
 rcases e6 with e6|e6
 ·try dsimp only at h ⊢
  exact Li
 try dsimp only at h ⊢
 exact Lg
def Z6U (d_0:Z2)(id_1:Int)(x5:Int):Option (Nx (Int) (Int ⊕ Unit)) :=
 (if(decide (x5 < ((d_0.Events.length:Nat):Int))) then((atI d_0.Events x5).bind fun y0=>(if(y0.ID == id_1) then(some (.out (.inl x5))) else(some (.go (IntKind.i64.wrap (x5+1)))))) else(some (.out (.inr ()))))
def Z4h (d_0:Z2)(id_1:Int):Option (Int) :=
 ((iter (Z6U d_0 id_1) 0).bind fun e6=>(match e6 with|Sum.inl e6=>(some e6)|Sum.inr (e6)=>(some (-1))))
theorem Zag{I:World->Prop}(hI:Stab I){H:Nat->Option Blk}{nid i0:Nat}{pn:Option Value}{d_0:Z2}{id_1:Int}{r:Int}(h:Z4h d_0 id_1=some r)(b0:H i0=some (rowB pn 64 7 (d_0.Events.map Z0.d))):Zi Tryz.prog I 51 [.agg [.str d_0.Title,.str d_0.Lang,.int .u8 d_0.Rate,.bool d_0.Drop,.int .i64 d_0.Last,.sl (d_0.Regions.map Z3.d),.own i0 d_0.Events.length,.sl (d_0.Comments.map Z4.d)],.int .i64 id_1] H nid (.int .i64 r) []:=by
 refine Zi.ro (eff:=[(i0,some (rowB pn 64 7 (d_0.Events.map Z0.d)))]) (Zi.inrow (i0:=i0) (ds0:=[.agg [.str d_0.Title,.str d_0.Lang,.int .u8 d_0.Rate,.bool d_0.Drop,.int .i64 d_0.Last,.sl (d_0.Regions.map Z3.d),.own 0 d_0.Events.length,.sl (d_0.Comments.map Z4.d)],.int .i64 id_1]) hI Tryz.func51 rfl (by decide) (by simp[Tryz.f51]) (by kernel_rfl) rfl rfl b0 fun uv=>?_) (ro1 b0);have dd:=Z1X;have k:=True.intro;have q:=k;have rs:=Tryz.results51;unfold Z4h at h;simp only[List.length_cons,List.length_nil,Nat.zero_add,Nat.reduceAdd,Tryz.ntmps51,dd];refine xs<|rz ?_;refine es<|xs<|xs<|rz ?_;refine es<|xb ?_;obtain⟨e6,h0,h⟩:=bs h;refine Zb (fun x5=>⟨envL [(0,.agg [.str d_0.Title,.str d_0.Lang,.int .u8 d_0.Rate,.bool d_0.Drop,.int .i64 d_0.Last,.sl (d_0.Regions.map Z3.d),.own 0 d_0.Events.length,.sl (d_0.Comments.map Z4.d)]),(1,.int .i64 id_1),(8,.own 0 d_0.Events.length),(9,.int .i64 ((d_0.Events.length:Nat):Int)),(10,.int .i64 x5)],Z5 [(0,.lrow uv 64 7 (d_0.Events.map Z0.d))],1,21⟩) (fun w=>match w with|Sum.inl _=>.ret|Sum.inr (_)=>.exit 0) (fun w=>match w with|Sum.inl e6=>⟨envL [(0,.agg [.str d_0.Title,.str d_0.Lang,.int .u8 d_0.Rate,.bool d_0.Drop,.int .i64 d_0.Last,.sl (d_0.Regions.map Z3.d),.own 0 d_0.Events.length,.sl (d_0.Comments.map Z4.d)]),(4,.int .i64 e6)],Z5 [(0,.lrow uv 64 7 (d_0.Events.map Z0.d))],1,21⟩|Sum.inr (e6)=>⟨envL [(0,.agg [.str d_0.Title,.str d_0.Lang,.int .u8 d_0.Rate,.bool d_0.Drop,.int .i64 d_0.Last,.sl (d_0.Regions.map Z3.d),.own 0 d_0.Events.length,.sl (d_0.Comments.map Z4.d)])],Z5 [(0,.lrow uv 64 7 (d_0.Events.map Z0.d))],1,21⟩) h0 (wk []) (by intro w;rcases w with w|w<;>simp) ?_ ?_
 ·clear h;intro x5 y h;unfold Z6U at h;refine xs<|rz ?_;refine es<|xs ?_;obtain⟨k,h⟩|⟨k,h⟩:=iK k h
  ·refine xt<|xk<|es<|xs<|xb<|xs<|rK fun K _ E J=>zz ?_;obtain⟨y0,q,h⟩:=oN q h;refine zz ?_;subst E J;refine es<|xs<|rz ?_;refine es ?_;obtain⟨k,h⟩|⟨k,h⟩:=iK k h
   ·exact Lk
   exact Ll
  exact Le
 rcases e6 with e6|e6
 ·try dsimp only at h ⊢
  refine br<|er ?_;exact LS
 try dsimp only at h ⊢
 exact LE
theorem ZaT{I:World->Prop}(hI:Stab I){H:Nat->Option Blk}{nid i0:Nat}{d_0:Z2}{id_1:Int}{r:Int}(h:Z4h d_0 id_1=some r)(b0:H i0=some (.vec 64 7 (d_0.Events.map Z0.d) false)):Zi Tryz.prog I 51 [.agg [.str d_0.Title,.str d_0.Lang,.int .u8 d_0.Rate,.bool d_0.Drop,.int .i64 d_0.Last,.sl (d_0.Regions.map Z3.d),.own i0 d_0.Events.length,.sl (d_0.Comments.map Z4.d)],.int .i64 id_1] H nid (.int .i64 r) [] :=
 Zag hI (pn:=none) h b0
def Z2r (e_0:Z0)(x7:Int × Int):Option (Nx (Int × Int) (Unit ⊕ Int)) :=
 (if(decide (x7.2 < (e_0.Rows.length:Int))) then((atI e_0.Rows x7.2).bind fun y0=>((Z4o y0).bind fun r0=>(if(decide (r0 < 0)) then(some (.out (.inl ()))) else(if(decide (0 < x7.2)) then(some (.go ((IntKind.i64.wrap ((IntKind.i64.wrap (x7.1+1))+r0)),(IntKind.i64.wrap (x7.2+1))))) else(some (.go ((IntKind.i64.wrap (x7.1+r0)),(IntKind.i64.wrap (x7.2+1))))))))) else(some (.out (.inr x7.1))))
def Z5f (e_0:Z0):Option (Int) :=
 ((iter (Z2r e_0) (0,0)).bind fun e8=>(match e8 with|Sum.inl e8=>(some (-1))|Sum.inr (e8)=>(some e8)))
theorem Zeq{I:World->Prop}(hI:Stab I){e_0:Z0}{r:Int}(h:Z5f e_0=some r):AFun Tryz.prog I 139 [Z0.d e_0] (.int .i64 r):=by
 have dd:=Z1X;have k:=True.intro;have q:=k;have rs:=Tryz.results139;unfold Z5f at h;refine .en hI Tryz.func139 Tryz.ntmps139 ?_;refine xs<|rz ?_;refine es<|xs<|rz ?_;refine es<|xs<|xs<|rz ?_;refine es<|xb ?_;obtain⟨e8,h0,h⟩:=bs h;refine Zb (fun x7=>⟨envL [(3,.int .i64 x7.1),(8,.sl (e_0.Rows.map Z6.d)),(9,.int .i64 (e_0.Rows.length:Int)),(10,.int .i64 x7.2)],Z5 [],0,28⟩) (fun w=>match w with|Sum.inl _=>.ret|Sum.inr (_)=>.exit 0) (fun w=>match w with|Sum.inl e8=>⟨envL [(2,.int .i64 (-1))],Z5 [],0,28⟩|Sum.inr (e8)=>⟨envL [(3,.int .i64 e8)],Z5 [],0,28⟩) h0 (wk []) (by intro w;rcases w with w|w<;>simp) ?_ ?_
 ·clear h;intro x7 y h;unfold Z2r at h;refine xs<|rz ?_;refine es<|xs ?_;obtain⟨k,h⟩|⟨k,h⟩:=iK k h
  ·refine xt<|xk<|es<|xs<|xb<|xs<|rK fun K _ E J=>zz ?_;obtain⟨y0,q,h⟩:=bK q h;refine zz ?_;subst E J;refine es<|xs<|rK fun K _ E J=>zz ?_;obtain⟨r0,h1,h⟩:=bs h;refine cw (Z80 hI h1)<|zz ?_;subst E J;refine es<|xs<|xs<|rz ?_;refine es ?_;obtain⟨k,h⟩|⟨k,h⟩:=iK k h
   ·exact Lh
   refine xf<|xk<|es<|xs<|xs<|rz ?_;refine es ?_;obtain⟨k,h⟩|⟨k,h⟩:=iK k h
   ·refine xt<|rz ?_;refine es<|rz ?_;exact Ln
   refine xf<|xk<|es<|rz ?_;exact Ln
  exact Le
 rcases e8 with e8|e8
 ·try dsimp only at h ⊢
  exact Li
 try dsimp only at h ⊢
 exact Lg
def Z3j (d_0:Z2)(i_1:Int):Option (Int) :=
 ((atI d_0.Comments i_1).bind fun y7=>(((if(decide (y7.ID < 1)) then(some true) else(some (decide (d_0.Last < y7.ID)))):Option (Bool)).bind fun v0=>(if v0 then(some 2) else(((if(decide (0 < i_1)) then((atI d_0.Comments (IntKind.i64.wrap (i_1 - 1))).bind fun y0=>(some (decide (y7.ID<=y0.ID)))) else(some false)):Option (Bool)).bind fun v1=>(if v1 then(some 8) else((Z1s d_0 y7.ID).bind fun r0=>(if(decide (0<=r0)) then(some 7) else(((if(decide (y7.Event < 1)) then(some true) else(some (decide (d_0.Last < y7.Event)))):Option (Bool)).bind fun v2=>(if v2 then(some 2) else(if y7.Lost then(((if(y7.From != 0) then(some true) else(some (y7.To != 0))):Option (Bool)).bind fun v3=>(if v3 then(some 2) else((Z0O y7.Author).bind fun r1=>(if r1 then((Z0d y7.Text).bind fun r2=>(if r2 then(if(y7.Text == ([]:List UInt8)) then(some 4) else(if(decide (400 < (y7.Text.length:Int))) then(some 9) else(some 0))) else(some 10))) else(some 5))))) else((Z1s d_0 y7.Event).bind fun r3=>(if(decide (r3 < 0)) then(some 6) else(((if(decide (y7.From < 0)) then(some true) else(if(decide (y7.To<=y7.From)) then(some true) else((atI d_0.Events r3).bind fun y1=>((Z5f y1).bind fun r4=>(some (decide (r4 < y7.To))))))):Option (Bool)).bind fun v4=>(if v4 then(some 2) else((Z0O y7.Author).bind fun r5=>(if r5 then((Z0d y7.Text).bind fun r6=>(if r6 then(if(y7.Text == ([]:List UInt8)) then(some 4) else(if(decide (400 < (y7.Text.length:Int))) then(some 9) else(some 0))) else(some 10))) else(some 5)))))))))))))))))
theorem Z8g{I:World->Prop}(hI:Stab I){d_0:Z2}{i_1:Int}{r:Int}(h:Z3j d_0 i_1=some r):AFun Tryz.prog I 96 [Z2.d d_0,.int .i64 i_1] (.int .i64 r):=by
 have dd:=Z1X;have k:=True.intro;have q:=k;have rs:=Tryz.results96;unfold Z3j at h;refine .en hI Tryz.func96 Tryz.ntmps96 ?_;refine xs<|rz ?_;refine es<|xs<|rK fun K _ E J=>zz ?_;obtain⟨y7,q,h⟩:=bK q h;refine zz ?_;subst E J;refine es<|xs ?_;obtain⟨v0,h0,h⟩:=bs h;refine Zk (fun v0=>⟨envL [(1,.int .i64 i_1),(2,.ptr 0 0),(5,.ptr 1 0),(21,.bool v0)],Z5 [(0,.box none [.str d_0.Title,.str d_0.Lang,.int .u8 d_0.Rate,.bool d_0.Drop,.int .i64 d_0.Last,.sl (d_0.Regions.map Z3.d),.sl (d_0.Events.map Z0.d),.sl (d_0.Comments.map Z4.d)]),(1,.box none [.int .i64 y7.ID,.int .i64 y7.Event,.int .i64 y7.From,.int .i64 y7.To,.str y7.Author,.str y7.Text,.bool y7.Done,.bool y7.Lost])],2,107⟩) h0 ?_ ?_
 ·clear h;intro v0 h;refine rK fun K _ E J=>zz ?_;obtain⟨k,h⟩|⟨k,h⟩:=iK k h
  ·refine zz ?_;subst E J;cases h;exact en ⟨rfl,wk [(1,some 7)]⟩
  refine zz ?_;subst E J;cases h;exact en ⟨rfl,wk [(1,some 7)]⟩
 obtain⟨k,h⟩|⟨k,h⟩:=iK k h
 ·exact Lc
 refine xf<|xk<|es<|xs ?_;obtain⟨v1,h1,h⟩:=bs h;refine Zk (fun v1=>⟨envL [(2,.ptr 0 0),(5,.ptr 1 0),(35,.bool v1)],Z5 [(0,.box none [.str d_0.Title,.str d_0.Lang,.int .u8 d_0.Rate,.bool d_0.Drop,.int .i64 d_0.Last,.sl (d_0.Regions.map Z3.d),.sl (d_0.Events.map Z0.d),.sl (d_0.Comments.map Z4.d)]),(1,.box none [.int .i64 y7.ID,.int .i64 y7.Event,.int .i64 y7.From,.int .i64 y7.To,.str y7.Author,.str y7.Text,.bool y7.Done,.bool y7.Lost])],2,107⟩) h1 ?_ ?_
 ·clear h;intro v1 h;refine rD hI fun K _ E J=>zz ?_;obtain⟨k,h⟩|⟨k,h⟩:=iK k h
  ·refine zz ?_;obtain⟨y0,q,h⟩:=bK q h;exact Ld
  exact Ld
 obtain⟨k,h⟩|⟨k,h⟩:=iK k h
 ·exact Lc
 refine xf<|xk<|es<|xs<|xs<|rK fun K _ E J=>zz ?_;obtain⟨r0,h2,h⟩:=bs h;refine cw (Z7q hI h2)<|zz ?_;subst E J;refine es ?_;obtain⟨k,h⟩|⟨k,h⟩:=iK k h
 ·exact Lc
 refine xf<|xk<|es<|xs ?_;obtain⟨v2,h3,h⟩:=bs h;refine Zk (fun v2=>⟨envL [(2,.ptr 0 0),(5,.ptr 1 0),(50,.bool v2)],Z5 [(0,.box none [.str d_0.Title,.str d_0.Lang,.int .u8 d_0.Rate,.bool d_0.Drop,.int .i64 d_0.Last,.sl (d_0.Regions.map Z3.d),.sl (d_0.Events.map Z0.d),.sl (d_0.Comments.map Z4.d)]),(1,.box none [.int .i64 y7.ID,.int .i64 y7.Event,.int .i64 y7.From,.int .i64 y7.To,.str y7.Author,.str y7.Text,.bool y7.Done,.bool y7.Lost])],2,107⟩) h3 ?_ ?_
 ·clear h;intro v2 h;refine rK fun K _ E J=>zz ?_;obtain⟨k,h⟩|⟨k,h⟩:=iK k h
  ·exact Ld
  exact Ld
 obtain⟨k,h⟩|⟨k,h⟩:=iK k h
 ·exact Lc
 refine xf<|xk<|es<|xs<|xs<|rz ?_;refine es ?_;obtain⟨k,h⟩|⟨k,h⟩:=iK k h
 ·refine xt ?_;obtain⟨v3,h4,h⟩:=bs h;refine Zk (fun v3=>⟨envL [(5,.ptr 0 0),(60,.bool v3)],Z5 [(0,.box none [.int .i64 y7.ID,.int .i64 y7.Event,.int .i64 y7.From,.int .i64 y7.To,.str y7.Author,.str y7.Text,.bool y7.Done,.bool y7.Lost])],1,107⟩) h4 ?_ ?_
  ·clear h;intro v3 h;refine rK fun K _ E J=>zz ?_;obtain⟨k,h⟩|⟨k,h⟩:=iK k h
   ·refine zz ?_;subst E J;exact Lv
   refine zz ?_;subst E J;exact Lv
  obtain⟨k,h⟩|⟨k,h⟩:=iK k h
  ·exact Lc
  refine xf<|xk<|es<|xs<|xb<|xs<|rK fun K _ E J=>zz ?_;obtain⟨r1,h5,h⟩:=bs h;refine cw (Z4w hI h5)<|zz ?_;subst E J;refine es ?_;obtain⟨k,h⟩|⟨k,h⟩:=iK k h
  ·refine xf<|xs<|rK fun K _ E J=>zz ?_;obtain⟨r2,h6,h⟩:=bs h;refine cw (Z24 hI h6)<|zz ?_;subst E J;refine es ?_;obtain⟨k,h⟩|⟨k,h⟩:=iK k h
   ·refine xf<|xs<|rz ?_;refine es ?_;obtain⟨k,h⟩|⟨k,h⟩:=iK k h
    ·exact Lf
    refine xf<|xs<|rz ?_;refine es ?_;obtain⟨k,h⟩|⟨k,h⟩:=iK k h
    ·exact Lf
    exact LF
   exact Lf
  exact Lf
 refine xf<|xs<|rK fun K _ E J=>zz ?_;obtain⟨r3,h7,h⟩:=bs h;refine cw (Z7q hI h7)<|zz ?_;subst E J;refine es<|xs<|xs<|rz ?_;refine es ?_;obtain⟨k,h⟩|⟨k,h⟩:=iK k h
 ·refine xt<|xs<|rz ?_;refine es<|xr<|er<|er ?_;cases h;exact en fr
 refine xf<|xk<|es ?_;obtain⟨v4,h8,h⟩:=bs h;refine Zk (fun v4=>⟨envL [(5,.ptr 0 0),(87,.bool v4)],Z5 [(0,.box none [.int .i64 y7.ID,.int .i64 y7.Event,.int .i64 y7.From,.int .i64 y7.To,.str y7.Author,.str y7.Text,.bool y7.Done,.bool y7.Lost])],1,107⟩) h8 ?_ ?_
 ·clear h;intro v4 h;refine rD hI fun K _ E J=>zz ?_;obtain⟨k,h⟩|⟨k,h⟩:=iK k h
  ·refine zz ?_;subst E J;exact Lv
  refine zz ?_;obtain⟨k,h⟩|⟨k,h⟩:=iK k h
  ·refine zz ?_;subst E J;exact Lv
  refine zz ?_;obtain⟨y1,q,h⟩:=bK q h;refine zz ?_;obtain⟨r4,h9,h⟩:=bs h;refine cd (Zeq hI h9)<|zz ?_;subst E J;exact Lv
 obtain⟨k,h⟩|⟨k,h⟩:=iK k h
 ·exact Lc
 refine xf<|xk<|es<|xs<|xb<|xs<|rK fun K _ E J=>zz ?_;obtain⟨r5,h10,h⟩:=bs h;refine cw (Z4w hI h10)<|zz ?_;subst E J;refine es ?_;obtain⟨k,h⟩|⟨k,h⟩:=iK k h
 ·refine xf<|xs<|rK fun K _ E J=>zz ?_;obtain⟨r6,h11,h⟩:=bs h;refine cw (Z24 hI h11)<|zz ?_;subst E J;refine es ?_;obtain⟨k,h⟩|⟨k,h⟩:=iK k h
  ·refine xf<|xs<|rz ?_;refine es ?_;obtain⟨k,h⟩|⟨k,h⟩:=iK k h
   ·exact Lf
   refine xf<|xs<|rz ?_;refine es ?_;obtain⟨k,h⟩|⟨k,h⟩:=iK k h
   ·exact Lf
   exact LF
  exact Lf
 exact Lf
def Z1A (d_0:Z2)(x0:Int):Option (Nx (Int) (Int ⊕ Unit)) :=
 (if(decide (x0 < (d_0.Events.length:Int))) then((atI d_0.Events x0).bind fun y0=>((Z55 y0 d_0.Regions).bind fun r0=>(if(r0 != 0) then(some (.out (.inl r0))) else(if(decide (d_0.Last < y0.ID)) then(some (.out (.inl 2))) else(((if(decide (0 < x0)) then((atI d_0.Events (IntKind.i64.wrap (x0 - 1))).bind fun y1=>((Z4C y1 y0).bind fun r1=>(some (!r1)))) else(some false)):Option (Bool)).bind fun v0=>(if v0 then(some (.out (.inl 8))) else((Z1s d_0 y0.ID).bind fun r2=>(if(r2 != x0) then(some (.out (.inl 7))) else(some (.go (IntKind.i64.wrap (x0+1)))))))))))) else(some (.out (.inr ()))))
def Z3y (d_0:Z2)(x0:Int):Option (Nx (Int) (Int ⊕ Unit)) :=
 (if(decide (x0 < (d_0.Comments.length:Int))) then((Z3j d_0 x0).bind fun r0=>(if(r0 != 0) then(some (.out (.inl r0))) else(some (.go (IntKind.i64.wrap (x0+1)))))) else(some (.out (.inr ()))))
def Z40 (d_0:Z2):Option (Int) :=
 ((Z3e d_0).bind fun r7=>(if(r7 != 0) then(some r7) else((Z3d d_0.Regions).bind fun r0=>(if(r0 != 0) then(some r0) else(if(decide (400 < (d_0.Events.length:Int))) then(some 9) else((iter (Z1A d_0) 0).bind fun e0=>(match e0 with|Sum.inl e0=>(some e0)|Sum.inr (e0)=>(if(decide (64 < (d_0.Comments.length:Int))) then(some 9) else((iter (Z3y d_0) 0).bind fun e1=>(match e1 with|Sum.inl e1=>(some e1)|Sum.inr (e1)=>(some 0)))))))))))
theorem Z8P{I:World->Prop}(hI:Stab I){d_0:Z2}{r:Int}(h:Z40 d_0=some r):AFun Tryz.prog I 41 [Z2.d d_0] (.int .i64 r):=by
 have dd:=Z1X;have k:=True.intro;have q:=k;have rs:=Tryz.results41;unfold Z40 at h;refine .en hI Tryz.func41 Tryz.ntmps41 ?_;refine xs<|rz ?_;refine es<|xs<|xs<|rK fun K _ E J=>zz ?_;obtain⟨r7,h8,h⟩:=bs h;refine cw (Z9Y hI h8)<|zz ?_;subst E J;refine es<|xs<|rz ?_;refine es ?_;obtain⟨k,h⟩|⟨k,h⟩:=iK k h
 ·exact Lc
 refine xf<|xk<|es<|xs<|xs<|rK fun K _ E J=>zz ?_;obtain⟨r0,h0,h⟩:=bs h;refine cw (Z9X hI h0)<|zz ?_;subst E J;refine es<|xs<|rz ?_;refine es ?_;obtain⟨k,h⟩|⟨k,h⟩:=iK k h
 ·exact Lc
 refine xf<|xk<|es<|xs<|xs<|rz ?_;refine es ?_;obtain⟨k,h⟩|⟨k,h⟩:=iK k h
 ·exact Lc
 refine xf<|xk<|es<|xs<|xs<|rz ?_;refine es<|xb ?_;obtain⟨e0,h1,h⟩:=bs h;refine Zb (fun x0=>⟨envL [(1,.ptr 0 0),(26,.sl (d_0.Events.map Z0.d)),(27,.int .i64 (d_0.Events.length:Int)),(28,.int .i64 x0)],Z5 [(0,.box none [.str d_0.Title,.str d_0.Lang,.int .u8 d_0.Rate,.bool d_0.Drop,.int .i64 d_0.Last,.sl (d_0.Regions.map Z3.d),.sl (d_0.Events.map Z0.d),.sl (d_0.Comments.map Z4.d)])],1,82⟩) (fun w=>match w with|Sum.inl _=>.ret|Sum.inr (_)=>.exit 0) (fun w=>match w with|Sum.inl e0=>⟨envL [(2,.int .i64 e0)],Z5 [],0,82⟩|Sum.inr (e0)=>⟨envL [(1,.ptr 0 0)],Z5 [(0,.box none [.str d_0.Title,.str d_0.Lang,.int .u8 d_0.Rate,.bool d_0.Drop,.int .i64 d_0.Last,.sl (d_0.Regions.map Z3.d),.sl (d_0.Events.map Z0.d),.sl (d_0.Comments.map Z4.d)])],1,82⟩) h1 (wk []) (by intro w;rcases w with w|w<;>simp) ?_ ?_
 ·clear h;intro x0 y h;unfold Z1A at h;refine xs<|rz ?_;refine es<|xs ?_;obtain⟨k,h⟩|⟨k,h⟩:=iK k h
  ·refine xt<|xk<|es<|xs<|xb<|xs<|rK fun K _ E J=>zz ?_;obtain⟨y0,q,h⟩:=bK q h;refine zz ?_;subst E J;refine es<|xs<|xs<|rK fun K _ E J=>zz ?_;obtain⟨r1,h2,h⟩:=bs h;refine cw (ZcH hI h2)<|zz ?_;subst E J;refine es<|xs<|rz ?_;refine es ?_;obtain⟨k,h⟩|⟨k,h⟩:=iK k h
   ·exact Lh
   refine xf<|xk<|es<|xs<|xs<|rz ?_;refine es ?_;obtain⟨k,h⟩|⟨k,h⟩:=iK k h
   ·exact Lh
   refine xf<|xk<|es<|xs ?_;obtain⟨v0,h3,h⟩:=bs h;refine Zk (fun v0=>⟨envL [(1,.ptr 0 0),(5,.int .i64 x0),(6,.ptr 1 0),(26,.sl (d_0.Events.map Z0.d)),(27,.int .i64 (d_0.Events.length:Int)),(28,.int .i64 x0),(57,.bool v0)],Z5 [(0,.box none [.str d_0.Title,.str d_0.Lang,.int .u8 d_0.Rate,.bool d_0.Drop,.int .i64 d_0.Last,.sl (d_0.Regions.map Z3.d),.sl (d_0.Events.map Z0.d),.sl (d_0.Comments.map Z4.d)]),(1,.box none [.int .i64 y0.ID,.int .i64 y0.Span.In,.int .i64 y0.Span.Out,.str y0.Region,.int .u8 y0.Kind,.str y0.Speaker,.sl (y0.Rows.map Z6.d)])],2,82⟩) h3 ?_ ?_
   ·clear h;intro v0 h;refine rD hI fun K _ E J=>zz ?_;obtain⟨k,h⟩|⟨k,h⟩:=iK k h
    ·refine zz ?_;obtain⟨y1,q,h⟩:=bK q h;refine zz ?_;obtain⟨r2,h4,h⟩:=bs h;refine cd (Z98 hI h4)<|zz ?_;subst E J;cases h;exact en ⟨rfl,wk [(1,some 5)]⟩
    refine zz ?_;subst E J;cases h;exact en ⟨rfl,wk [(1,some 5)]⟩
   obtain⟨k,h⟩|⟨k,h⟩:=iK k h
   ·exact Lh
   refine xf<|xk<|es<|xs<|rK fun K _ E J=>zz ?_;obtain⟨r3,h5,h⟩:=bs h;refine cw (Z7q hI h5)<|zz ?_;subst E J;refine es ?_;obtain⟨k,h⟩|⟨k,h⟩:=iK k h
   ·exact Lk
   exact Ll
  exact Le
 rcases e0 with e0|e0
 ·try dsimp only at h ⊢
  exact Li
 try dsimp only at h ⊢
 refine bh<|es<|xs<|xs<|rz ?_;refine es ?_;obtain⟨k,h⟩|⟨k,h⟩:=iK k h
 ·exact Lc
 refine xf<|xk<|es<|xs<|xs<|rz ?_;refine es<|xb ?_;obtain⟨e1,h6,h⟩:=bs h;refine Zb (fun x1=>⟨envL [(1,.ptr 0 0),(71,.int .i64 (d_0.Comments.length:Int)),(72,.int .i64 x1)],Z5 [(0,.box none [.str d_0.Title,.str d_0.Lang,.int .u8 d_0.Rate,.bool d_0.Drop,.int .i64 d_0.Last,.sl (d_0.Regions.map Z3.d),.sl (d_0.Events.map Z0.d),.sl (d_0.Comments.map Z4.d)])],1,82⟩) (fun w=>match w with|Sum.inl _=>.ret|Sum.inr (_)=>.exit 2) (fun w=>match w with|Sum.inl e1=>⟨envL [(2,.int .i64 e1)],Z5 [],0,82⟩|Sum.inr (e1)=>⟨envL [],Z5 [],0,82⟩) h6 (wk []) (by intro w;rcases w with w|w<;>simp) ?_ ?_
 ·clear h;intro x1 y h;unfold Z3y at h;refine xs<|rz ?_;refine es<|xs ?_;obtain⟨k,h⟩|⟨k,h⟩:=iK k h
  ·refine xt<|xk<|es<|xs<|xb<|xs<|rz ?_;refine es<|xs<|rK fun K _ E J=>zz ?_;obtain⟨r4,h7,h⟩:=bs h;refine cw (Z8g hI h7)<|zz ?_;subst E J;refine es<|xs<|rz ?_;refine es ?_;obtain⟨k,h⟩|⟨k,h⟩:=iK k h
   ·exact Lk
   exact Ll
  exact Le
 rcases e1 with e1|e1
 ·try dsimp only at h ⊢
  exact Li
 try dsimp only at h ⊢
 exact Lg
theorem Zb6:(∀ x,Z3.d x=.agg [.str x.Name,.int .i64 x.Top,.int .i64 x.Height,.int .i64 x.Left,.int .i64 x.Width,.int .u8 x.Align,.bool x.Bottom])/\(∀ x,Z4.d x=.agg [.int .i64 x.ID,.int .i64 x.Event,.int .i64 x.From,.int .i64 x.To,.str x.Author,.str x.Text,.bool x.Done,.bool x.Lost])/\(∀ x,Ze.d x=.agg [.int .i64 x.In,.int .i64 x.Out])/\(∀ x,Zw.d x=.agg [.int .u8 x.Color,.bool x.Italic,.bool x.Underline])/\(∀ x,Zd.d x=.agg [.str x.Text,.int .u8 x.Style.Color,.bool x.Style.Italic,.bool x.Style.Underline,.str x.Ruby])/\(∀ x,Z6.d x=.agg [.sl (x.Runs.map Zd.d)])/\(∀ x,Z0.d x=.agg [.int .i64 x.ID,.int .i64 x.Span.In,.int .i64 x.Span.Out,.str x.Region,.int .u8 x.Kind,.str x.Speaker,.sl (x.Rows.map Z6.d)])/\(∀ x,Z1.d x=.agg [.int .i64 x.I,.int .i64 x.J,.int .i64 x.C,.int .u8 x.Rule,.int .i64 x.ID,.int .i64 x.Other])/\(∀ x,Z2.d x=.agg [.str x.Title,.str x.Lang,.int .u8 x.Rate,.bool x.Drop,.int .i64 x.Last,.sl (x.Regions.map Z3.d),.sl (x.Events.map Z0.d),.sl (x.Comments.map Z4.d)])/\(∀ x,Z7.d x=.agg [.str x.Name,.int .i64 x.Reading,.int .i64 x.MinFrames,.int .i64 x.MaxFrames,.int .i64 x.MinGap,.int .i64 x.ShotBefore,.int .i64 x.ShotAfter,.int .i64 x.Rows,.int .i64 x.Cols,.str x.Forbidden,.int .i64 x.SafeTop,.int .i64 x.SafeBottom,.int .i64 x.SafeLeft,.int .i64 x.SafeRight]):=⟨fun _=>rfl,fun _=>rfl,fun _=>rfl,fun _=>rfl,fun _=>rfl,fun _=>rfl,fun _=>rfl,fun _=>rfl,fun _=>rfl,fun _=>rfl⟩
def Z4O (r0:(List Int))(x0:Int × Int):Option (Nx (Int × Int) (Int)) :=
 (if(decide (x0.2 < (r0.length:Int))) then((atI r0 x0.2).bind fun y0=>(if(y0 != 32) then(some (.go ((IntKind.i64.wrap (x0.1+1)),(IntKind.i64.wrap (x0.2+1))))) else(some (.go (x0.1,(IntKind.i64.wrap (x0.2+1))))))) else(some (.out x0.1)))
def Z3A (rows_0:List Z6)(x7:Int × Int):Option (Nx (Int × Int) (Int)) :=
 (if(decide (x7.2 < (rows_0.length:Int))) then((atI rows_0 x7.2).bind fun y0=>((Z3X y0).bind fun r0=>((Z26 r0).bind fun r1=>((iter (Z4O r1) (x7.1,0)).bind fun e0=>(some (.go (e0,(IntKind.i64.wrap (x7.2+1))))))))) else(some (.out x7.1)))
def Z57 (rows_0:List Z6):Option (Int) :=
 ((iter (Z3A rows_0) (0,0)).bind fun e8=>(some e8))
theorem ZcJ{I:World->Prop}(hI:Stab I){rows_0:List Z6}{r:Int}(h:Z57 rows_0=some r):AFun Tryz.prog I 43 [.sl (rows_0.map Z6.d)] (.int .i64 r):=by
 have dd:=Zb6;have k:=True.intro;have q:=k;have rs:=Tryz.results43;unfold Z57 at h;refine .en hI Tryz.func43 Tryz.ntmps43 ?_;refine xs<|rz ?_;refine es<|xs<|rz ?_;refine es<|xs<|xs<|rz ?_;refine es<|xb ?_;obtain⟨e8,h0,h⟩:=bs h;refine Zb (fun x7=>⟨envL [(3,.int .i64 x7.1),(8,.sl (rows_0.map Z6.d)),(9,.int .i64 (rows_0.length:Int)),(10,.int .i64 x7.2)],Z5 [],0,29⟩) (fun _=>.exit 0) (fun e8=>⟨envL [(3,.int .i64 e8)],Z5 [],0,29⟩) h0 (wk []) (by intro w;simp) ?_ ?_
 ·clear h;intro x7 y h;unfold Z3A at h;refine xs<|rz ?_;refine es<|xs ?_;obtain⟨k,h⟩|⟨k,h⟩:=iK k h
  ·refine xt<|xk<|es<|xs<|xb<|xs<|rK fun K _ E J=>zz ?_;obtain⟨y0,q,h⟩:=bK q h;refine zz ?_;subst E J;refine es<|xs<|rK fun K _ E J=>zz ?_;obtain⟨r0,h1,h⟩:=bs h;refine cw (Z8M hI h1)<|zz ?_;obtain⟨r1,h2,h⟩:=bs h;refine cw (Z8K hI h2)<|zz ?_;subst E J;refine es<|xb ?_;obtain⟨e0,h3,h⟩:=bs h;refine Zb (fun x0=>⟨envL [(3,.int .i64 x0.1),(8,.sl (rows_0.map Z6.d)),(9,.int .i64 (rows_0.length:Int)),(10,.int .i64 x7.2),(16,.sl (r1.map (D.int .i32))),(17,.int .i64 (r1.length:Int)),(18,.int .i64 x0.2)],Z5 [],0,29⟩) (fun _=>.exit 2) (fun e0=>⟨envL [(3,.int .i64 e0),(8,.sl (rows_0.map Z6.d)),(9,.int .i64 (rows_0.length:Int)),(10,.int .i64 x7.2)],Z5 [],0,29⟩) h3 (wk []) (by intro w;simp) ?_ ?_
   ·clear h;intro x0 y h;unfold Z4O at h;refine xs<|rz ?_;refine es<|xs ?_;obtain⟨k,h⟩|⟨k,h⟩:=iK k h
    ·refine xt<|xk<|es<|xs<|xb<|xs<|rK fun K _ E J=>zz ?_;obtain⟨y1,q,h⟩:=bK q h;refine zz ?_;subst E J;refine es<|xs<|rz ?_;refine es ?_;obtain⟨k,h⟩|⟨k,h⟩:=iK k h
     ·refine xt<|rz ?_;exact Ln
     exact Ll
    exact Le
   exact LK
  exact Le
 exact Lg
def Z3q (n_0:Int)(lo_1:Int)(hi_2:Int):Option (Bool) :=
 (if(decide (lo_1<=n_0)) then(some (decide (n_0<=hi_2))) else(some false))
theorem Z84{I:World->Prop}(hI:Stab I){n_0:Int}{lo_1:Int}{hi_2:Int}{r:Bool}(h:Z3q n_0 lo_1 hi_2=some r):AFun Tryz.prog I 98 [.int .i64 n_0,.int .i64 lo_1,.int .i64 hi_2] (.bool r):=by
 have dd:=Zb6;have k:=True.intro;have q:=k;have rs:=Tryz.results98;unfold Z3q at h;refine .en hI Tryz.func98 Tryz.ntmps98 ?_;refine xs<|rz ?_;refine es<|xs<|rK fun K _ E J=>zz ?_;obtain⟨k,h⟩|⟨k,h⟩:=iK k h
 ·exact Lj
 exact Lj
def Z50 (r_0:Int):Option (Int) :=
 ((Z25 r_0).bind fun r7=>(if r7 then((atI [5005,5000,4800,4004,4000,2400,2002] (IntKind.u8.wrap (r_0 - 1))).bind fun y0=>(some y0)) else(some 0)))
theorem ZcA{I:World->Prop}(hI:Stab I){r_0:Int}{r:Int}(h:Z50 r_0=some r):AFun Tryz.prog I 99 [.int .u8 r_0] (.int .i64 r):=by
 have dd:=Zb6;have k:=True.intro;have q:=k;have rs:=Tryz.results99;unfold Z50 at h;refine .en hI Tryz.func99 Tryz.ntmps99 ?_;refine xs<|rz ?_;refine es<|xs<|xs<|rK fun K _ E J=>zz ?_;obtain⟨r7,h8,h⟩:=bs h;refine cw (Z70 hI h8)<|zz ?_;subst E J;refine es ?_;obtain⟨k,h⟩|⟨k,h⟩:=iK k h
 ·refine xf<|xk<|es<|xs<|rK fun K _ E J=>zz ?_;obtain⟨y0,h0,h⟩:=bind_some h;obtain⟨h1,h2,h3⟩:=Z6A h0;have h3:=h3 (D.int .i64);simp only[List.map_cons,List.map_nil,dd] at h3;have h2:(IntKind.u8.wrap (r_0 - 1)) < 7:=by simpa using h2
  have q:=And.intro h1<|And.intro h2<|And.intro @h3 q;exact Lj
 exact Lc
def Z4D (rate_0:Int)(chars_1:Int)(limit_2:Int):Option (Int × Int) :=
 ((Z25 rate_0).bind fun r7=>(if r7 then((((Z3q chars_1 0 10000).bind fun r0=>(if r0 then((Z3q limit_2 1 10000).bind fun r1=>(some (!r1))) else(some true))):Option (Bool)).bind fun v0=>(if v0 then(some (0,2)) else((Z50 rate_0).bind fun r2=>(if ¬ (IntKind.i64.wrap (limit_2 * r2))=0 then(some ((IntKind.i64.wrap (Int.tdiv (IntKind.i64.wrap ((IntKind.i64.wrap ((IntKind.i64.wrap ((IntKind.i64.wrap (chars_1 * 100)) * 120000))+(IntKind.i64.wrap (limit_2 * r2)))) - 1)) (IntKind.i64.wrap (limit_2 * r2)))),0)) else none)))) else(some (0,3))))
theorem Zbz{I:World->Prop}(hI:Stab I){rate_0:Int}{chars_1:Int}{limit_2:Int}{r:Int × Int}(h:Z4D rate_0 chars_1 limit_2=some r):AFun Tryz.prog I 42 [.int .u8 rate_0,.int .i64 chars_1,.int .i64 limit_2] (.tup [.int .i64 r.1,.int .i64 r.2]):=by
 have dd:=Zb6;have k:=True.intro;have q:=k;have rs:=Tryz.results42;unfold Z4D at h;refine .en hI Tryz.func42 Tryz.ntmps42 ?_;refine xs<|rz ?_;refine es<|xs<|xs<|rK fun K _ E J=>zz ?_;obtain⟨r7,h8,h⟩:=bs h;refine cw (Z70 hI h8)<|zz ?_;subst E J;refine es ?_;obtain⟨k,h⟩|⟨k,h⟩:=iK k h
 ·refine xf<|xk<|es<|xs ?_;obtain⟨v0,h0,h⟩:=bs h;refine Zk (fun v0=>⟨envL [(0,.int .u8 rate_0),(1,.int .i64 chars_1),(2,.int .i64 limit_2),(19,.bool v0)],Z5 [],0,32⟩) h0 ?_ ?_
  ·clear h;intro v0 h;refine rK fun K _ E J=>zz ?_;obtain⟨r0,h1,h⟩:=bs h;refine cw (Z84 hI h1)<|zz ?_;obtain⟨k,h⟩|⟨k,h⟩:=iK k h
   ·refine zz ?_;obtain⟨r1,h2,h⟩:=bs h;refine cw (Z84 hI h2)<|zz ?_;exact LO
   exact Ld
  obtain⟨k,h⟩|⟨k,h⟩:=iK k h
  ·exact Lc
  refine xf<|xk<|es<|xs<|rK fun K _ E J=>zz ?_;obtain⟨r2,h3,h⟩:=bs h;refine cw (ZcA hI h3)<|zz ?_;subst E J;refine es<|xs<|rK fun K _ E J=>zz ?_;obtain⟨q,h⟩:=oK q h;exact Lj
 exact Lc
def Z1i (p_1:Z7)(shots_2:List Int)(x0:Int × (List Z1))(y0:Z0)(x1:Int × (List Z1)):Option (Nx (Int × (List Z1)) (Int ⊕ ((List Z1)))) :=
 (if(decide (x1.1 < 2)) then((atI [y0.Span.In,y0.Span.Out] x1.1).bind fun y1=>((Z4F shots_2 y1 p_1).bind fun r0=>(if(r0.2 != 0) then(some (.out (.inl r0.2))) else(if(x1.2.length+2) * 48<=140737488355328 then(some (.go ((IntKind.i64.wrap (x1.1+1)),(x1.2++[(Z1.mk (IntKind.i64.wrap ((IntKind.i64.wrap ((IntKind.i64.wrap (2 * x0.1))+1))+x1.1)) 0 (IntKind.i64.wrap (0 - r0.1.In)) 6 y0.ID 0),(Z1.mk 0 (IntKind.i64.wrap ((IntKind.i64.wrap ((IntKind.i64.wrap (2 * x0.1))+1))+x1.1)) (IntKind.i64.wrap (r0.1.Out - 1)) 6 y0.ID 0)])))) else none)))) else(some (.out (.inr x1.2))))
def Z1j (tol_3:Int)(x0:Int × (List Z1))(y0:Z0)(x1:Int × (List Z1)):Option (Nx (Int × (List Z1)) ((List Z1))) :=
 (if(decide (x1.1 < 2)) then((atI [y0.Span.In,y0.Span.Out] x1.1).bind fun y1=>(if(x1.2.length+2) * 48<=140737488355328 then(some (.go ((IntKind.i64.wrap (x1.1+1)),(x1.2++[(Z1.mk (IntKind.i64.wrap ((IntKind.i64.wrap ((IntKind.i64.wrap (2 * x0.1))+1))+x1.1)) 0 (IntKind.i64.wrap (tol_3 - y1)) 11 y0.ID 0),(Z1.mk 0 (IntKind.i64.wrap ((IntKind.i64.wrap ((IntKind.i64.wrap (2 * x0.1))+1))+x1.1)) (IntKind.i64.wrap (y1+tol_3)) 11 y0.ID 0)])))) else none)) else(some (.out x1.2)))
def Z1h (d_0:Z2)(p_1:Z7)(shots_2:List Int)(tol_3:Int)(x0:Int × (List Z1)):Option (Nx (Int × (List Z1)) (Int ⊕ ((List Z1)))) :=
 (if(decide (x0.1 < (d_0.Events.length:Int))) then((atI d_0.Events x0.1).bind fun y0=>((Z57 y0.Rows).bind fun r0=>((Z4D d_0.Rate r0 p_1.Reading).bind fun r1=>(if(x0.2.length+3) * 48<=140737488355328 then((iter (Z1i p_1 shots_2 x0 y0) (0,(x0.2++[(Z1.mk (IntKind.i64.wrap ((IntKind.i64.wrap (2 * x0.1))+2)) (IntKind.i64.wrap ((IntKind.i64.wrap (2 * x0.1))+1)) (IntKind.i64.wrap (0 - r1.1)) 1 y0.ID 0),(Z1.mk (IntKind.i64.wrap ((IntKind.i64.wrap (2 * x0.1))+2)) (IntKind.i64.wrap ((IntKind.i64.wrap (2 * x0.1))+1)) (IntKind.i64.wrap (0 - p_1.MinFrames)) 2 y0.ID 0),(Z1.mk (IntKind.i64.wrap ((IntKind.i64.wrap (2 * x0.1))+1)) (IntKind.i64.wrap ((IntKind.i64.wrap (2 * x0.1))+2)) p_1.MaxFrames 3 y0.ID 0)]))).bind fun e0=>(match e0 with|Sum.inl e0=>(some (.out (.inl e0)))|Sum.inr (e0)=>((iter (Z1j tol_3 x0 y0) (0,e0)).bind fun e1=>(if(decide ((IntKind.i64.wrap (x0.1+1)) < (d_0.Events.length:Int))) then((atI d_0.Events (IntKind.i64.wrap (x0.1+1))).bind fun y1=>(if(e1.length+1) * 48<=140737488355328 then(some (.go ((IntKind.i64.wrap (x0.1+1)),(e1++[(Z1.mk (IntKind.i64.wrap ((IntKind.i64.wrap ((IntKind.i64.wrap (2 * x0.1))+2))+1)) (IntKind.i64.wrap ((IntKind.i64.wrap (2 * x0.1))+2)) (IntKind.i64.wrap (0 - p_1.MinGap)) 4 y0.ID y1.ID)])))) else none)) else(some (.go ((IntKind.i64.wrap (x0.1+1)),e1))))))) else none)))) else(some (.out (.inr x0.2))))
def Z4E (d_0:Z2)(p_1:Z7)(shots_2:List Int)(tol_3:Int):Option ((List Z1) × Int) :=
 ((Z40 d_0).bind fun r7=>(if(r7 != 0) then(some ([],r7)) else((Z31 p_1).bind fun r0=>(if(r0 != 0) then(some ([],r0)) else((Z29 shots_2).bind fun r1=>(if(r1 != 0) then(some ([],r1)) else(((if(decide (tol_3 < 0)) then(some true) else(some (decide (5184000 < tol_3)))):Option (Bool)).bind fun v0=>(if v0 then(some ([],2)) else(if(decide (255 < (d_0.Events.length:Int))) then(some ([],9)) else((iter (Z1h d_0 p_1 shots_2 tol_3) (0,[])).bind fun e0=>(match e0 with|Sum.inl e0=>(some ([],e0))|Sum.inr (e0)=>(some (e0,0)))))))))))))
theorem ZbA{I:World->Prop}(hI:Stab I){d_0:Z2}{p_1:Z7}{shots_2:List Int}{tol_3:Int}{r:(List Z1) × Int}(h:Z4E d_0 p_1 shots_2 tol_3=some r):AFun Tryz.prog I 15 [Z2.d d_0,Z7.d p_1,.sl (shots_2.map (D.int .i64)),.int .i64 tol_3] (.tup [.sl (r.1.map Z1.d),.int .i64 r.2]):=by
 have dd:=Zb6;have k:=True.intro;have q:=k;have rs:=Tryz.results15;unfold Z4E at h;refine .en hI Tryz.func15 Tryz.ntmps15 ?_;refine xs<|rz ?_;refine es<|xs<|xs<|rK fun K _ E J=>zz ?_;obtain⟨r7,h8,h⟩:=bs h;refine cw (Z8P hI h8)<|zz ?_;subst E J;refine es<|xs<|rz ?_;refine es ?_;obtain⟨k,h⟩|⟨k,h⟩:=iK k h
 ·exact Lc
 refine xf<|xk<|es<|xs<|xs<|rK fun K _ E J=>zz ?_;obtain⟨r0,h0,h⟩:=bs h;refine cw (Z8Q hI h0)<|zz ?_;subst E J;refine es<|xs<|rz ?_;refine es ?_;obtain⟨k,h⟩|⟨k,h⟩:=iK k h
 ·exact Lc
 refine xf<|xk<|es<|xs<|xs<|rK fun K _ E J=>zz ?_;obtain⟨r1,h1,h⟩:=bs h;refine cw (Z61 hI h1)<|zz ?_;subst E J;refine es<|xs<|rz ?_;refine es ?_;obtain⟨k,h⟩|⟨k,h⟩:=iK k h
 ·exact Lc
 refine xf<|xk<|es<|xs ?_;obtain⟨v0,h2,h⟩:=bs h;refine Zk (fun v0=>⟨envL [(2,.sl (shots_2.map (D.int .i64))),(3,.int .i64 tol_3),(4,.ptr 0 0),(5,.ptr 1 0),(47,.bool v0)],Z5 [(0,.box none [.str d_0.Title,.str d_0.Lang,.int .u8 d_0.Rate,.bool d_0.Drop,.int .i64 d_0.Last,.sl (d_0.Regions.map Z3.d),.sl (d_0.Events.map Z0.d),.sl (d_0.Comments.map Z4.d)]),(1,.box none [.str p_1.Name,.int .i64 p_1.Reading,.int .i64 p_1.MinFrames,.int .i64 p_1.MaxFrames,.int .i64 p_1.MinGap,.int .i64 p_1.ShotBefore,.int .i64 p_1.ShotAfter,.int .i64 p_1.Rows,.int .i64 p_1.Cols,.str p_1.Forbidden,.int .i64 p_1.SafeTop,.int .i64 p_1.SafeBottom,.int .i64 p_1.SafeLeft,.int .i64 p_1.SafeRight])],2,205⟩) h2 ?_ ?_
 ·clear h;intro v0 h;refine rK fun K _ E J=>zz ?_;obtain⟨k,h⟩|⟨k,h⟩:=iK k h
  ·exact Ld
  exact Ld
 obtain⟨k,h⟩|⟨k,h⟩:=iK k h
 ·exact Lc
 refine xf<|xk<|es<|xs<|xs<|rz ?_;refine es ?_;obtain⟨k,h⟩|⟨k,h⟩:=iK k h
 ·exact Lc
 refine xf<|xk<|es<|xs<|rz ?_;refine es<|xs<|xs<|rz ?_;refine es<|xb ?_;obtain⟨e0,h3,h⟩:=bs h;refine Zb (fun x0=>⟨envL [(2,.sl (shots_2.map (D.int .i64))),(3,.int .i64 tol_3),(4,.ptr 0 0),(5,.ptr 1 0),(13,.own 2 x0.2.length),(54,.sl (d_0.Events.map Z0.d)),(55,.int .i64 (d_0.Events.length:Int)),(56,.int .i64 x0.1)],Z5 [(0,.box none [.str d_0.Title,.str d_0.Lang,.int .u8 d_0.Rate,.bool d_0.Drop,.int .i64 d_0.Last,.sl (d_0.Regions.map Z3.d),.sl (d_0.Events.map Z0.d),.sl (d_0.Comments.map Z4.d)]),(1,.box none [.str p_1.Name,.int .i64 p_1.Reading,.int .i64 p_1.MinFrames,.int .i64 p_1.MaxFrames,.int .i64 p_1.MinGap,.int .i64 p_1.ShotBefore,.int .i64 p_1.ShotAfter,.int .i64 p_1.Rows,.int .i64 p_1.Cols,.str p_1.Forbidden,.int .i64 p_1.SafeTop,.int .i64 p_1.SafeBottom,.int .i64 p_1.SafeLeft,.int .i64 p_1.SafeRight]),(2,.vec 47 6 (x0.2.map Z1.d) false)],3,205⟩) (fun w=>match w with|Sum.inl _=>.ret|Sum.inr (_)=>.exit 0) (fun w=>match w with|Sum.inl e0=>⟨envL [(8,.nils),(9,.int .i64 e0)],Z5 [],0,205⟩|Sum.inr (e0)=>⟨envL [(13,.own 0 e0.length)],Z5 [(0,.vec 47 6 (e0.map Z1.d) false)],1,205⟩) h3 (wk [(2,some 6)]) (by intro w;rcases w with w|w<;>simp) ?_ ?_
 ·clear h;intro x0 y h;unfold Z1h at h;refine xs<|rz ?_;refine es<|xs ?_;obtain⟨k,h⟩|⟨k,h⟩:=iK k h
  ·refine xt<|xk<|es<|xs<|xb<|xs<|rK fun K _ E J=>zz ?_;obtain⟨y0,q,h⟩:=bK q h;refine zz ?_;subst E J;refine es<|xs<|rz ?_;refine es<|xs<|rD hI fun K _ E J=>zz ?_;obtain⟨r2,h4,h⟩:=bs h;refine cd (ZcJ hI h4)<|zz ?_;obtain⟨r3,h5,h⟩:=bs h;refine cd (Zbz hI h5)<|zz ?_;subst E J;refine es<|xs<|rK fun K _ E J=>zz ?_;obtain⟨h6,h⟩:=Zo h;have h7:x0.2.length+3<=9223372036854775807:=by omega
   try simp only[Nat.reduceLeDiff] at h7
   have q:=And.intro @h7<|And.intro @h6<|q;refine zz ?_;subst E J;refine es<|xs<|rz ?_;refine es<|xs<|xs<|rz ?_;refine es<|xb ?_;obtain⟨e1,h9,h⟩:=bs h;refine Zb (fun x1=>⟨envL [(2,.sl (shots_2.map (D.int .i64))),(3,.int .i64 tol_3),(4,.ptr 0 0),(5,.ptr 1 0),(13,.own 2 x1.2.length),(14,.int .i64 x0.1),(15,.ptr 3 0),(16,.int .i64 (IntKind.i64.wrap ((IntKind.i64.wrap (2 * x0.1))+1))),(17,.int .i64 (IntKind.i64.wrap ((IntKind.i64.wrap (2 * x0.1))+2))),(20,.own 4 2),(54,.sl (d_0.Events.map Z0.d)),(55,.int .i64 (d_0.Events.length:Int)),(56,.int .i64 x0.1),(110,.own 4 2),(111,.int .i64 2),(112,.int .i64 x1.1)],Z5 [(0,.box none [.str d_0.Title,.str d_0.Lang,.int .u8 d_0.Rate,.bool d_0.Drop,.int .i64 d_0.Last,.sl (d_0.Regions.map Z3.d),.sl (d_0.Events.map Z0.d),.sl (d_0.Comments.map Z4.d)]),(1,.box none [.str p_1.Name,.int .i64 p_1.Reading,.int .i64 p_1.MinFrames,.int .i64 p_1.MaxFrames,.int .i64 p_1.MinGap,.int .i64 p_1.ShotBefore,.int .i64 p_1.ShotAfter,.int .i64 p_1.Rows,.int .i64 p_1.Cols,.str p_1.Forbidden,.int .i64 p_1.SafeTop,.int .i64 p_1.SafeBottom,.int .i64 p_1.SafeLeft,.int .i64 p_1.SafeRight]),(2,.vec 47 6 (x1.2.map Z1.d) false),(3,.box none [.int .i64 y0.ID,.int .i64 y0.Span.In,.int .i64 y0.Span.Out,.str y0.Region,.int .u8 y0.Kind,.str y0.Speaker,.sl (y0.Rows.map Z6.d)]),(4,.vec 2 1 ([y0.Span.In,y0.Span.Out].map (D.int .i64)) false)],5,205⟩) (fun w=>match w with|Sum.inl _=>.ret|Sum.inr (_)=>.exit 2) (fun w=>match w with|Sum.inl e1=>⟨envL [(8,.nils),(9,.int .i64 e1)],Z5 [],0,205⟩|Sum.inr (e1)=>⟨envL [(2,.sl (shots_2.map (D.int .i64))),(3,.int .i64 tol_3),(4,.ptr 0 0),(5,.ptr 1 0),(13,.own 2 e1.length),(14,.int .i64 x0.1),(15,.ptr 3 0),(16,.int .i64 (IntKind.i64.wrap ((IntKind.i64.wrap (2 * x0.1))+1))),(17,.int .i64 (IntKind.i64.wrap ((IntKind.i64.wrap (2 * x0.1))+2))),(20,.own 4 2),(54,.sl (d_0.Events.map Z0.d)),(55,.int .i64 (d_0.Events.length:Int)),(56,.int .i64 x0.1)],Z5 [(0,.box none [.str d_0.Title,.str d_0.Lang,.int .u8 d_0.Rate,.bool d_0.Drop,.int .i64 d_0.Last,.sl (d_0.Regions.map Z3.d),.sl (d_0.Events.map Z0.d),.sl (d_0.Comments.map Z4.d)]),(1,.box none [.str p_1.Name,.int .i64 p_1.Reading,.int .i64 p_1.MinFrames,.int .i64 p_1.MaxFrames,.int .i64 p_1.MinGap,.int .i64 p_1.ShotBefore,.int .i64 p_1.ShotAfter,.int .i64 p_1.Rows,.int .i64 p_1.Cols,.str p_1.Forbidden,.int .i64 p_1.SafeTop,.int .i64 p_1.SafeBottom,.int .i64 p_1.SafeLeft,.int .i64 p_1.SafeRight]),(2,.vec 47 6 (e1.map Z1.d) false),(3,.box none [.int .i64 y0.ID,.int .i64 y0.Span.In,.int .i64 y0.Span.Out,.str y0.Region,.int .u8 y0.Kind,.str y0.Speaker,.sl (y0.Rows.map Z6.d)]),(4,.vec 2 1 ([y0.Span.In,y0.Span.Out].map (D.int .i64)) false)],5,205⟩) h9 (wk [(2,some 55),(3,some 7),(4,some 63)]) (by intro w;rcases w with w|w<;>simp) ?_ ?_
   ·clear h;intro x1 y h;unfold Z1i at h;refine xs<|rz ?_;refine es<|xs ?_;obtain⟨k,h⟩|⟨k,h⟩:=iK k h
    ·refine xt<|xk<|es<|xs<|xb<|xs<|rK fun K _ E J=>zz ?_;obtain⟨y1,h10,h⟩:=bind_some h;obtain⟨h11,h12,h13⟩:=Z6A h10;have h13:=h13 (D.int .i64);simp only[List.map_cons,List.map_nil,dd] at h13;have h12:x1.1 < 2:=by simpa using h12
     have q:=And.intro h11<|And.intro h12<|And.intro @h13 q;refine zz ?_;subst E J;refine es<|xs<|rK fun K _ E J=>zz ?_;obtain⟨r4,h14,h⟩:=bs h;refine cw (Zdi hI h14)<|zz ?_;subst E J;refine es<|xs<|xs<|rz ?_;refine es ?_;obtain⟨k,h⟩|⟨k,h⟩:=iK k h
     ·exact Lh
     refine xf<|xk<|es<|rK fun K _ E J=>zz ?_;obtain⟨h15,h⟩:=Zo h;have h16:x1.2.length+2<=9223372036854775807:=by omega
     try simp only[Nat.reduceLeDiff] at h16
     have q:=And.intro @h16<|And.intro @h15<|q;refine zz ?_;subst E J;refine bn<|es<|rz ?_;cases h;exact en ⟨rfl,wk [(2,some 43)]⟩
    exact Le
   rcases e1 with e1|e1
   ·try dsimp only at h ⊢
    refine br<|er<|br<|er ?_;exact La
   try dsimp only at h ⊢
   refine bh<|es<|xs<|xs<|rz ?_;refine es<|xb ?_;obtain⟨e2,h17,h⟩:=bs h;refine Zb (fun x2=>⟨envL [(2,.sl (shots_2.map (D.int .i64))),(3,.int .i64 tol_3),(4,.ptr 0 0),(5,.ptr 1 0),(13,.own 2 x2.2.length),(14,.int .i64 x0.1),(15,.ptr 3 0),(16,.int .i64 (IntKind.i64.wrap ((IntKind.i64.wrap (2 * x0.1))+1))),(17,.int .i64 (IntKind.i64.wrap ((IntKind.i64.wrap (2 * x0.1))+2))),(54,.sl (d_0.Events.map Z0.d)),(55,.int .i64 (d_0.Events.length:Int)),(56,.int .i64 x0.1),(149,.own 4 2),(150,.int .i64 2),(151,.int .i64 x2.1)],Z5 [(0,.box none [.str d_0.Title,.str d_0.Lang,.int .u8 d_0.Rate,.bool d_0.Drop,.int .i64 d_0.Last,.sl (d_0.Regions.map Z3.d),.sl (d_0.Events.map Z0.d),.sl (d_0.Comments.map Z4.d)]),(1,.box none [.str p_1.Name,.int .i64 p_1.Reading,.int .i64 p_1.MinFrames,.int .i64 p_1.MaxFrames,.int .i64 p_1.MinGap,.int .i64 p_1.ShotBefore,.int .i64 p_1.ShotAfter,.int .i64 p_1.Rows,.int .i64 p_1.Cols,.str p_1.Forbidden,.int .i64 p_1.SafeTop,.int .i64 p_1.SafeBottom,.int .i64 p_1.SafeLeft,.int .i64 p_1.SafeRight]),(2,.vec 47 6 (x2.2.map Z1.d) false),(3,.box none [.int .i64 y0.ID,.int .i64 y0.Span.In,.int .i64 y0.Span.Out,.str y0.Region,.int .u8 y0.Kind,.str y0.Speaker,.sl (y0.Rows.map Z6.d)]),(4,.vec 2 1 ([y0.Span.In,y0.Span.Out].map (D.int .i64)) false)],5,205⟩) (fun _=>.exit 4) (fun e2=>⟨envL [(2,.sl (shots_2.map (D.int .i64))),(3,.int .i64 tol_3),(4,.ptr 0 0),(5,.ptr 1 0),(13,.own 2 e2.length),(14,.int .i64 x0.1),(15,.ptr 3 0),(17,.int .i64 (IntKind.i64.wrap ((IntKind.i64.wrap (2 * x0.1))+2))),(54,.sl (d_0.Events.map Z0.d)),(55,.int .i64 (d_0.Events.length:Int)),(56,.int .i64 x0.1)],Z5 [(0,.box none [.str d_0.Title,.str d_0.Lang,.int .u8 d_0.Rate,.bool d_0.Drop,.int .i64 d_0.Last,.sl (d_0.Regions.map Z3.d),.sl (d_0.Events.map Z0.d),.sl (d_0.Comments.map Z4.d)]),(1,.box none [.str p_1.Name,.int .i64 p_1.Reading,.int .i64 p_1.MinFrames,.int .i64 p_1.MaxFrames,.int .i64 p_1.MinGap,.int .i64 p_1.ShotBefore,.int .i64 p_1.ShotAfter,.int .i64 p_1.Rows,.int .i64 p_1.Cols,.str p_1.Forbidden,.int .i64 p_1.SafeTop,.int .i64 p_1.SafeBottom,.int .i64 p_1.SafeLeft,.int .i64 p_1.SafeRight]),(2,.vec 47 6 (e2.map Z1.d) false),(3,.box none [.int .i64 y0.ID,.int .i64 y0.Span.In,.int .i64 y0.Span.Out,.str y0.Region,.int .u8 y0.Kind,.str y0.Speaker,.sl (y0.Rows.map Z6.d)])],4,205⟩) h17 (wk []) (by intro w;simp) ?_ ?_
   ·clear h;intro x2 y h;unfold Z1j at h;refine xs<|rz ?_;refine es<|xs ?_;obtain⟨k,h⟩|⟨k,h⟩:=iK k h
    ·refine xt<|xk<|es<|xs<|xb<|xs<|rK fun K _ E J=>zz ?_;obtain⟨y2,h18,h⟩:=bind_some h;obtain⟨h20,h21,h22⟩:=Z6A h18;have h22:=h22 (D.int .i64);simp only[List.map_cons,List.map_nil,dd] at h22;have h21:x2.1 < 2:=by simpa using h21
     have q:=And.intro h20<|And.intro h21<|And.intro @h22 q;refine zz ?_;subst E J;refine es<|rK fun K _ E J=>zz ?_;obtain⟨h23,h⟩:=Zo h;have h24:x2.2.length+2<=9223372036854775807:=by omega
     try simp only[Nat.reduceLeDiff] at h24
     have q:=And.intro @h24<|And.intro @h23<|q;refine zz ?_;subst E J;refine bn<|es<|rz ?_;cases h;exact en ⟨rfl,wk [(2,some 31)]⟩
    exact Le
   refine bh<|es<|xs<|rz ?_;refine es ?_;obtain⟨k,h⟩|⟨k,h⟩:=iK k h
   ·refine xt<|rD hI fun K _ E J=>zz ?_;obtain⟨y3,q,h⟩:=bK q h;refine zz ?_;obtain⟨h25,h⟩:=Zo h;have h26:e2.length+1<=9223372036854775807:=by omega
    try simp only[Nat.reduceLeDiff] at h26
    have q:=And.intro @h26<|And.intro @h25<|q;refine zz ?_;refine hd<|zz ?_;subst E J;refine bn<|es<|rz ?_;cases h;exact en ⟨rfl,wk [(2,some 28)]⟩
   exact Ll
  refine xf<|xx<|ee ?_;cases h;exact en ⟨rfl,wk [(0,some 2)]⟩
 rcases e0 with e0|e0
 ·try dsimp only at h ⊢
  exact Li
 try dsimp only at h ⊢
 exact Lg
def rtV (r:Int):Bool:=decide (1<=r)&&decide (r<=7)
def rtT (r:Int):Int:=if r=1 then 5005 else if r=2 then 5000 else if r=3 then 4800 else if r=4 then 4004 else if r=5 then 4000 else if r=6 then 2400 else if r=7 then 2002 else 0
theorem ZgZ:∀ r:Fin 256,Z2v ((r.val:Nat):Int)=some (rtV ((r.val:Nat):Int))/\Z25 ((r.val:Nat):Int)=some (rtV ((r.val:Nat):Int))/\Z3J ((r.val:Nat):Int)=some (rtT ((r.val:Nat):Int)) /\
  (rtV ((r.val:Nat):Int)=true->Z50 ((r.val:Nat):Int)=some (rtT ((r.val:Nat):Int))/\2002<=rtT ((r.val:Nat):Int)/\rtT ((r.val:Nat):Int)<=5005):=by decide +kernel
theorem Zj1(r:Int)(h0:0<=r)(h1:r<=255):Z2v r=some (rtV r)/\Z25 r=some (rtV r)/\Z3J r=some (rtT r)/\(rtV r=true->Z50 r=some (rtT r)/\2002<=rtT r/\rtT r<=5005):=by
 have:=ZgZ ⟨r.toNat,by omega⟩;have e:((r.toNat:Nat):Int)=r:=by omega
 simp only[e] at this;exact this
def wiB (n lo hi:Int):Bool:=decide (lo<=n)&&decide (n<=hi)
theorem Zga(n lo hi:Int):Z2o n lo hi=some (wiB n lo hi):=by
 unfold Z2o wiB;cases decide (lo<=n)<;>simp
theorem Zgm(n lo hi:Int):Z3q n lo hi=some (wiB n lo hi):=by
 unfold Z3q wiB;cases decide (lo<=n)<;>simp
theorem Zd8{n lo hi:Int}(h:wiB n lo hi=true):lo<=n/\n<=hi:=by
 unfold wiB at h;simpa using h
def upQ (a b:Int):Int:=Int.tdiv (a+b - 1) b
theorem Zht{a b f:Int}(ha:0<=a)(hb:0 < b):upQ a b<=f ↔ a<=f * b:=by
 unfold upQ
 rw[Int.tdiv_eq_ediv_of_nonneg (by omega)]
 constructor
 ·intro h
  have h1:=Int.lt_mul_ediv_self_add (x:=a+b - 1) hb
  have h2:b * ((a+b - 1) / b)<=b * f:=Int.mul_le_mul_of_nonneg_left h (by omega)
  rw[Int.mul_comm f b]
  omega
 ·intro h
  have:(a+b - 1) / b < f+1:=by
   refine Int.ediv_lt_of_lt_mul hb ?_
   rw[Int.add_mul]
   omega
  omega
def Z7i (r c l:Int):Int × Int:=if rtV r then(if wiB c 0 10000&&wiB l 1 10000 then(upQ (c * 12000000) (l * rtT r),0) else(0,2)) else(0,3)
theorem Zcb{x t:Int}(k:Int)(hx:1<=x)(hk:x<=k)(h1:2002<=t)(h2:t<=5005)(hkk:k<=5184000):1<=x * t/\x * t<=25945920000:=by
 have a1:x * t<=5184000 * t:=Int.mul_le_mul_of_nonneg_right (by omega) (by omega);have a2:5184000 * t<=5184000 * 5005:=Int.mul_le_mul_of_nonneg_left h2 (by omega);have a3:1 * t<=x * t:=Int.mul_le_mul_of_nonneg_right hx (by omega);omega
theorem ZbW(r c l:Int)(h0:0<=r)(h1:r<=255):Z3v r c l=some (Z7i r c l)/\Z4D r c l=some (Z7i r c l):=by
 obtain⟨e1,e2,e3,e4⟩:=Zj1 r h0 h1
 unfold Z3v Z4D Z7i
 simp only[e1,e2,Zga,Zgm,Option.bind_some]
 cases hv:rtV r with
 | false=>simp
 | true =>
  obtain⟨e5,t0,t1⟩:=e4 hv
  simp only[if_true,e3,e5,Option.bind_some]
  cases hc:wiB c 0 10000 with
  | false=>simp
  | true =>
   cases hl:wiB l 1 10000 with
   | false=>simp
   | true =>
    have hc':=Zd8 hc
    have hl':=Zd8 hl
    obtain⟨m1,m2⟩:=Zcb 10000 hl'.1 hl'.2 t0 t1 (by omega)
    generalize l * rtT r=b at m1 m2
    have w0:=Z5J (c * 100) (by omega) (by omega)
    have w1:=Z5J (c * 100 * 120000) (by omega) (by omega)
    have w2:=Z5J b (by omega) (by omega)
    have w3:=Z5J (c * 100 * 120000+b) (by omega) (by omega)
    have w4:=Z5J (c * 100 * 120000+b - 1) (by omega) (by omega)
    have hb:¬ b=0:=by omega
    have hq:=Zht (a:=c * 12000000) (b:=b) (f:=120000000000) (by omega) (by omega)
    have hq1:upQ (c * 12000000) b<=120000000000:=hq.2 (by have:=Int.mul_le_mul_of_nonneg_left m1 (show(0:Int)<=120000000000 by omega);omega)
    have hq0:0<=upQ (c * 12000000) b:=by unfold upQ;exact Int.tdiv_nonneg (by omega) (by omega)
    have eu:Int.tdiv (c * 100 * 120000+b - 1) b=upQ (c * 12000000) b:=by unfold upQ;congr 1;omega
    have w5:=Z5J (upQ (c * 12000000) b) (by omega) (by omega)
    simp only[Bool.not_true,Bool.false_eq_true,if_false,Bool.and_self,if_true,Z5M,Z6s,Option.bind_some,w0,w1,w2,w3,w4,hb,not_false_eq_true,eu,w5,and_self]
theorem Z7V:Z29=Z0w:=rfl
theorem Z9s:Z1d=Z1v:=rfl
theorem ZjH:Z4p=Z0W:=rfl
theorem ZdY:Z6c=Z1p:=rfl
theorem ZeJ:Z6u=Z2V:=rfl
theorem ZeT(l:List Int)(hl:l.length<=1000):∃ v,Z0w l=some v:=by
 unfold Z0w
 by_cases h:400 < (l.length:Int)
 ·exact⟨9,by simp[h]⟩
 ·rw[if_neg (by simpa using h)]
  have hh:∃ e,iter (Z3H l) 0=some e:=by
   refine Z6g l.length (by omega) (fun i hi=>?_) ?_
   ·unfold Z3H
    rw[if_pos (by simpa using hi),Zc hi,wr64 (x:=(i:Int)+1) (by omega)]
    simp only[Option.bind_some]
    have hv:∃ b:Bool,(if decide (l[i] < 1)=true then some true else some (decide (5184000 < l[i])):Option Bool)=some b:=by
     by_cases q:l[i] < 1
     ·exact⟨true,by simp[q]⟩
     ·exact⟨_,by simp[q];rfl⟩
    obtain⟨b,hb⟩:=hv
    rw[hb]
    simp only[Option.bind_some]
    cases b
    ·simp only[Bool.false_eq_true,if_false]
     by_cases q:0 < (i:Int)
     ·rw[if_pos (by simpa using q),wr64 (by omega),show((i:Int) - 1)=((i - 1:Nat):Int) by omega,Zc (show i - 1 < l.length by omega)]
      simp only[Option.bind_some]
      by_cases q2:l[i]<=l[i - 1]
      ·exact .inr ⟨_,by rw[if_pos (by simpa using q2)]⟩
      ·exact .inl (by rw[if_neg (by simpa using q2)])
     ·exact .inl (by rw[if_neg (by simpa using q)])
    ·exact .inr ⟨_,rfl⟩
   ·unfold Z3H
    exact⟨_,by rw[if_neg (by simp)]⟩
  obtain⟨e,he⟩:=hh
  rw[he]
  cases e<;>exact⟨_,rfl⟩
def shC (l:List Int):Int:=(Z0w l).getD 0
theorem Z8b(l:List Int)(hl:l.length<=1000):Z0w l=some (shC l):=by
 obtain⟨v,h⟩:=ZeT l hl;unfold shC;rw[h];rfl
def frB (f:Int):Bool:=decide (0<=f)&&decide (f<=5184000)
theorem Z6a(f:Int):Z1v f=some (frB f):=by
 unfold Z1v frB;by_cases h:0<=f<;>simp[h]
theorem Zev(l:List Int)(hl:l.length<=1000)(f b a:Int):∃ r,Z1D l f b a=some r:=by
 have hh:∃ e,iter (Z1p l f b a) 0=some e:=by
  refine Z6g l.length (by omega) (fun i hi=>?_) ?_
  ·unfold Z1p
   rw[if_pos (by simpa using hi),Zc hi,wr64 (x:=(i:Int)+1) (by omega)]
   simp only[Option.bind_some]
   split
   ·split
    ·exact .inr ⟨_,rfl⟩
    ·split
     ·simp only[Option.bind_some];split
      ·exact .inr ⟨_,rfl⟩
      ·exact .inl rfl
     ·exact .inl rfl
   ·split
    ·simp only[Option.bind_some];split
     ·exact .inr ⟨_,rfl⟩
     ·exact .inl rfl
    ·exact .inl rfl
  ·unfold Z1p
   exact⟨_,by rw[if_neg (by simp)]⟩
 obtain⟨e,he⟩:=hh
 unfold Z1D
 rw[he]
 cases e<;>exact⟨_,rfl⟩
theorem Zfv(n:Int):∃ r,Z0W n=some r:=⟨_,rfl⟩
theorem Zhy(l:List Int)(f b a:Int)(h:Z0w l=some 0)(h1:frB f=true)(h2:frB b=true)(h3:frB a=true):Z56 l f b a=Z1D l f b a:=by
 unfold Z56 Z1D;rw[Z7V,Z9s,ZdY,h,Z6a,Z6a,Z6a,h1,h2,h3];rfl
theorem ZjW(l:List Int)(f b a:Int)(e:List Int)(h:Z0w l=some 0)(h2:frB b=true)(h3:frB a=true):Z4k l f b a e=Z21 l f b a e:=by
 funext x
 unfold Z4k Z21
 rw[Z9s,ZjH]
 by_cases hx:x.2.2 < ((e.length:Nat):Int)
 ·rw[if_pos (by simpa using hx),if_pos (by simpa using hx)]
  cases atI e x.2.2 with
  | none=>rfl
  | some y =>
   simp only[Option.bind_some,Z6a]
   cases h1:frB y with
   | false=>rfl
   | true =>
    simp only[if_true]
    rw[Zhy l y b a h h1 h2 h3]
 ·rw[if_neg (by simpa using hx),if_neg (by simpa using hx)]
theorem Zj7(l:List Int)(hl:l.length<=1000)(f b a:Int):Z5D l f b a=Z20 l f b a:=by
 unfold Z5D Z20 Z3r;rw[Z7V,Z9s,Z8b l hl,ZeJ];simp only[Option.bind_some,Z6a];by_cases h:shC l=0
 ·rw[h];cases h1:frB f<;>cases h2:frB b<;>cases h3:frB a<;>try rfl
  have:Z4k l f b a=Z21 l f b a:=funext fun e=>ZjW l f b a e (by rw[Z8b l hl,h]) h2 h3;rw[this];rfl
 have e1:(shC l != 0)=true:=by simpa using h
 have e2:(shC l == 0)=false:=by simpa using h
 rw[e1,e2];rfl
theorem ZfD(l:List Int)(hl:l.length<=1000)(f b a:Int):∃ r,Z20 l f b a=some r/\(r.2=true->frB r.1=true):=by
 have h0:∃ v,Z3r l f b a=some v:=by
  unfold Z3r
  rw[Z8b l hl]
  simp only[Option.bind_some,Z6a]
  cases shC l == 0<;>cases frB f<;>cases frB b<;>exact⟨_,rfl⟩
 obtain⟨v,hv⟩:=h0
 unfold Z20
 rw[hv]
 simp only[Option.bind_some]
 cases v with
 | false=>exact⟨_,rfl,by simp⟩
 | true =>
  simp only[if_true]
  have h1:=ZF (step:=Z2V l b a) l (by omega) (fun i s=>(i,s)) (fun s y=>.inr (s++[IntKind.i64.wrap (y - b),y,IntKind.i64.wrap (y+a)])) id (fun i s=>s.length=3 * i+1) (s0:=[f]) rfl
   (fun i hi s hs=>.inr ⟨_,rfl,by
    unfold Z2V
    rw[if_pos (by simpa using hi),Zc hi,wr64 (x:=(i:Int)+1) (by omega)]
    simp only[Option.bind_some]
    rw[if_pos (by omega)],by simp[hs];omega⟩)
   (fun s hs=>by unfold Z2V;rw[if_neg (by simp)];rfl)
  rw[h1]
  simp only[Option.bind_some]
  generalize hE:runF (E:=List Int) _ _ _ l=E0
  have hlen:E0.length<=3001:=by
   have:∀ (t:List Int) (s:List Int),(runF (fun(s:List Int) y=>(.inr (s++[IntKind.i64.wrap (y - b),y,IntKind.i64.wrap (y+a)]):List Int ⊕ List Int)) id s t).length=s.length+3 * t.length:=by
    intro t
    induction t with
    | nil=>intro s;simp[runF]
    | cons c t ih=>intro s;simp only[runF];rw[ih];simp;omega
   have:=this l [f]
   rw[hE] at this
   rw[this];simp;omega
  obtain⟨e,he,hp⟩:=ZD (step:=Z21 l f b a E0) (fun x=>0<=x.2.2/\x.2.2<=(E0.length:Int)/\(x.2.1=true->frB x.1=true)) (fun x=>E0.length - x.2.2.toNat) (fun e=>e.2=true->frB e.1=true) (x:=(0,false,0)) ⟨by simp,by simp,by simp⟩ (by dsimp only;omega) (by
   rintro⟨bst,ok,i⟩ ⟨q1,q2,q3⟩
   dsimp only at q1 q2 q3
   obtain⟨i,rfl⟩:=Int.eq_ofNat_of_zero_le q1
   unfold Z21
   dsimp only
   by_cases hi:i < E0.length
   ·left
    rw[if_pos (by simpa using hi),Zc hi,wr64 (x:=(i:Int)+1) (by omega)]
    simp only[Option.bind_some,Z6a]
    cases hf:frB E0[i] with
    | false=>exact⟨_,rfl,⟨by dsimp only;omega,by dsimp only;omega,q3⟩,by dsimp only;omega⟩
    | true =>
     simp only[if_true]
     obtain⟨r,hr⟩:=Zev l hl E0[i] b a
     rw[hr]
     simp only[Option.bind_some]
     cases r.2 with
     | true=>exact⟨_,rfl,⟨by dsimp only;omega,by dsimp only;omega,q3⟩,by dsimp only;omega⟩
     | false =>
      simp only[Bool.false_eq_true,if_false]
      have hv:∃ v:Bool,(if ok=true then((Z0W (IntKind.i64.wrap (E0[i] - f))).bind fun r365=>((Z0W (IntKind.i64.wrap (bst - f))).bind fun r367=>(if(decide (r365 < r367)) then(some true) else((Z0W (IntKind.i64.wrap (E0[i] - f))).bind fun r370=>((Z0W (IntKind.i64.wrap (bst - f))).bind fun r372=>(if(r370 == r372) then(some (decide (E0[i] < bst))) else(some false))))))) else(some true):Option Bool)=some v:=by
       cases ok with
       | false=>exact⟨_,rfl⟩
       | true =>
        obtain⟨r1,e1⟩:=Zfv (IntKind.i64.wrap (E0[i] - f))
        obtain⟨r2,e2⟩:=Zfv (IntKind.i64.wrap (bst - f))
        simp only[e1,e2,Option.bind_some,if_true]
        split
        ·exact⟨_,rfl⟩
        ·split<;>exact⟨_,rfl⟩
      obtain⟨v,hv⟩:=hv
      rw[hv]
      simp only[Option.bind_some]
      cases v with
      | true=>exact⟨_,rfl,⟨by dsimp only;omega,by dsimp only;omega,fun _=>hf⟩,by dsimp only;omega⟩
      | false=>exact⟨_,rfl,⟨by dsimp only;omega,by dsimp only;omega,q3⟩,by dsimp only;omega⟩
   ·right
    rw[if_neg (by simpa using hi)]
    exact⟨_,rfl,q3⟩)
  rw[he]
  exact⟨_,rfl,hp⟩
def snS (l:List Int)(f b a:Int):Int × Bool:=(Z20 l f b a).getD (0,false)
theorem Zeg(l:List Int)(hl:l.length<=1000)(f b a:Int):Z20 l f b a=some (snS l f b a)/\((snS l f b a).2=true->0<=(snS l f b a).1/\(snS l f b a).1<=5184000):=by
 obtain⟨r,h,hr⟩:=ZfD l hl f b a;unfold snS;rw[h];refine⟨rfl,fun q=>?_⟩;have:=hr q;unfold frB at this;simpa using this
def cutS (t0:Int)(s:Int × Int)(from' below:Int):Int × Int:=if below<=from' then s else(if below<=t0 then(if below > s.1 then below else s.1) else s.1,if t0 < from' then(if from' < s.2 then from' else s.2) else s.2)
theorem Zhw(from' below t0:Int)(s:Ze):Z2U from' below t0 s=some (t0,⟨(cutS t0 (s.In,s.Out) from' below).1,(cutS t0 (s.In,s.Out) from' below).2⟩):=by
 unfold Z2U cutS;by_cases h1:below<=from'<;>by_cases h2:below<=t0<;>by_cases h3:t0 < from'<;>simp[h1,h2,h3]
def zoF (p:Z7)(t0:Int)(s:Int × Int)(y:Int):Int × Int :=
 cutS t0 (cutS t0 s (IntKind.i64.wrap (IntKind.i64.wrap (y - p.ShotBefore)+1)) y) (IntKind.i64.wrap (y+1)) (IntKind.i64.wrap (y+p.ShotAfter))
def zoR (p:Z7)(t0:Int)(l:List Int):Int × Int:=runF (fun s y=>.inr (zoF p t0 s y)) id (0,5184001) l
theorem Zf5{t0:Int}{s:Int × Int}{f b:Int}(h:0<=s.1/\s.1<=t0/\t0 < s.2/\s.2<=5184001):0<=(cutS t0 s f b).1/\(cutS t0 s f b).1<=t0/\t0 < (cutS t0 s f b).2/\(cutS t0 s f b).2<=5184001:=by
 unfold cutS;split
 ·exact h
 refine⟨?_,?_,?_,?_⟩<;>dsimp only<;>(repeat' split)<;>omega
theorem ZkZ(p:Z7){t0:Int}(h0:0<=t0/\t0<=5184000)(l:List Int):0<=(zoR p t0 l).1/\(zoR p t0 l).1<=t0/\t0 < (zoR p t0 l).2/\(zoR p t0 l).2<=5184001:=by
 have:∀ (l:List Int) (s:Int × Int),(0<=s.1/\s.1<=t0/\t0 < s.2/\s.2<=5184001)->0<=(runF (fun s y=>(.inr (zoF p t0 s y):(Int × Int) ⊕ (Int × Int))) id s l).1/\(runF (fun s y=>(.inr (zoF p t0 s y):(Int × Int) ⊕ (Int × Int))) id s l).1<=t0/\t0 < (runF (fun s y=>(.inr (zoF p t0 s y):(Int × Int) ⊕ (Int × Int))) id s l).2/\(runF (fun s y=>(.inr (zoF p t0 s y):(Int × Int) ⊕ (Int × Int))) id s l).2<=5184001:=by
  intro l
  induction l with
  | nil=>intro s h;exact h
  | cons y t ih=>intro s h;simp only[runF];exact ih _ (Zf5 (Zf5 h))
 exact this l (0,5184001) (by dsimp only;omega)
def zoS (l:List Int)(f:Int)(p:Z7):Ze × Int :=
 if(snS l f p.ShotBefore p.ShotAfter).2 then(⟨(zoR p (snS l f p.ShotBefore p.ShotAfter).1 l).1,(zoR p (snS l f p.ShotBefore p.ShotAfter).1 l).2⟩,0) else(⟨0,0⟩,6)
theorem Zk6(l:List Int)(hl:l.length<=1000)(f:Int)(p:Z7):Z41 l f p=some (zoS l f p):=by
 unfold Z41 zoS
 rw[(Zeg l hl f _ _).1]
 simp only[Option.bind_some]
 cases h:(snS l f p.ShotBefore p.ShotAfter).2 with
 | false=>rfl
 | true =>
  simp only[if_true]
  generalize (snS l f p.ShotBefore p.ShotAfter).1=t0
  have:=ZF (step:=Z3G l p) l (by omega) (fun i (s:Int × Int)=>(i,s.1,s.2,t0)) (fun s y=>.inr (zoF p t0 s y)) id (fun _ _=>True) (s0:=(0,5184001)) trivial
   (fun i hi s _=>.inr ⟨_,rfl,by
    unfold Z3G
    rw[if_pos (by simpa using hi),Zc hi,wr64 (x:=(i:Int)+1) (by omega)]
    simp only[Option.bind_some,Zhw]
    rfl,trivial⟩)
   (fun s _=>by unfold Z3G;rw[if_neg (by simp)];rfl)
  rw[show(((0:Int),(0:Int),(5184001:Int),t0):Int × Int × Int × Int)=(fun i (s:Int × Int)=>(i,s.1,s.2,t0)) 0 (0,5184001) from rfl,this]
  rfl
theorem ZeL(p:Z7)(r:Int × Bool)(y i o:Int):iter (Z2R p r y) (0,i,o)=some ((zoF p r.1 (i,o) y).1,(zoF p r.1 (i,o) y).2):=by
 have:=ZF (step:=Z2R p r y) [(⟨IntKind.i64.wrap (IntKind.i64.wrap (y - p.ShotBefore)+1),y⟩:Ze),⟨IntKind.i64.wrap (y+1),IntKind.i64.wrap (y+p.ShotAfter)⟩] (by simp) (fun i (s:Int × Int)=>(i,s.1,s.2)) (fun s y=>.inr (cutS r.1 s y.In y.Out)) id (fun _ _=>True) (s0:=(i,o)) trivial
   (fun i hi s _=>.inr ⟨_,rfl,by
    unfold Z2R
    have hi2:i < 2:=hi
    rw[if_pos (by simp;omega),Zc hi,wr64 (x:=(i:Int)+1) (by omega)]
    simp only[Option.bind_some]
    generalize ([(⟨IntKind.i64.wrap (IntKind.i64.wrap (y - p.ShotBefore)+1),y⟩:Ze),⟨IntKind.i64.wrap (y+1),IntKind.i64.wrap (y+p.ShotAfter)⟩][i])=u
    unfold cutS
    by_cases h1:u.Out<=u.In<;>by_cases h2:u.Out<=r.1<;>by_cases h3:r.1 < u.In<;>simp[h1,h2,h3],trivial⟩)
   (fun s _=>by unfold Z2R;rw[if_neg (by simp)];rfl)
 exact this
theorem ZeK(l:List Int)(hl:l.length<=1000)(p:Z7)(r:Int × Bool):iter (Z2Q l p r) (0,0,5184001)=some ((zoR p r.1 l).1,(zoR p r.1 l).2):=by
 have:=ZF (step:=Z2Q l p r) l (by omega) (fun i (s:Int × Int)=>(i,s.1,s.2)) (fun s y=>.inr (zoF p r.1 s y)) id (fun _ _=>True) (s0:=(0,5184001)) trivial
   (fun i hi s _=>.inr ⟨_,rfl,by
    unfold Z2Q
    rw[if_pos (by simpa using hi),Zc hi,wr64 (x:=(i:Int)+1) (by omega)]
    simp only[Option.bind_some,ZeL],trivial⟩)
   (fun s _=>by unfold Z2Q;rw[if_neg (by simp)];rfl)
 exact this
theorem Zir(l:List Int)(hl:l.length<=1000)(f:Int)(p:Z7){c:Int}(hc:Z31 p=some c):Z4F l f p=some (if c≠0 then(⟨0,0⟩,c) else if shC l≠0 then(⟨0,0⟩,shC l) else if frB f=false then(⟨0,0⟩,2) else zoS l f p):=by
 unfold Z4F
 rw[hc,Z7V,Z8b l hl,Zj7 l hl,(Zeg l hl f _ _).1]
 simp only[Option.bind_some]
 by_cases h1:c=0
 ·by_cases h2:shC l=0
  ·simp only[h1,h2,bne_self_eq_false,Bool.false_eq_true,if_false,ne_eq,not_true_eq_false]
   by_cases h3:f < 0
   ·have:frB f=false:=by unfold frB;simp;omega
    simp[h3,this]
   ·by_cases h4:5184000 < f
    ·have:frB f=false:=by unfold frB;simp;omega
     simp[h3,h4,this]
    ·have:frB f=true:=by unfold frB;simp;omega
     simp only[h3,h4,this,decide_false,Bool.false_eq_true,if_false,Option.bind_some,Bool.true_eq_false]
     unfold zoS
     cases(snS l f p.ShotBefore p.ShotAfter).2 with
     | false=>rfl
     | true=>simp only[if_true];rw[ZeK l hl p];rfl
  ·have:(shC l != 0)=true:=by simpa using h2
   simp[h1,h2,this]
 ·have:(c != 0)=true:=by simpa using h1
  simp[h1,this]
theorem Zfa(n lo hi:Int):Z2d n lo hi=some (decide (lo<=n)&&decide (n<=hi)):=by
 unfold Z2d;by_cases h:lo<=n<;>simp[h]
theorem Z7A(r:Z3):∃ v,Z1Q r=some v:=by
 unfold Z1Q
 rw[Z1w]
 simp only[Option.bind_some,Zfa]
 cases isNm r.Name with
 | false=>exact⟨_,rfl⟩
 | true =>
  simp only[if_true]
  generalize (decide (0<=r.Top)&&decide (r.Top<=14))=b1
  generalize (decide (1<=r.Height)&&decide (r.Height<=IntKind.i64.wrap (15 - r.Top)))=b2
  generalize (decide (0<=r.Left)&&decide (r.Left<=31))=b3
  generalize (decide (1<=r.Width)&&decide (r.Width<=IntKind.i64.wrap (32 - r.Left)))=b4
  cases b1<;>cases b2<;>cases b3<;>cases b4<;>simp only[Bool.false_eq_true,if_false,if_true,Option.bind_some,Bool.not_true,Bool.not_false]<;>first|exact⟨_,rfl⟩|(split<;>first|exact⟨_,rfl⟩|(split<;>exact⟨_,rfl⟩))
theorem Z6R(l:List Z3):∃ v,Z0S l=some v:=by
 unfold Z0S
 by_cases h:16 < (l.length:Int)
 ·exact⟨9,by simp[h]⟩
 ·rw[if_neg (by simpa using h)]
  obtain⟨e,he⟩:∃ e,iter (Z0P l) 0=some e:=by
   refine Z6g l.length (by omega) (fun i hi=>?_) ?_
   ·unfold Z0P
    rw[if_pos (by simpa using hi),Zc hi,wr64 (x:=(i:Int)+1) (by omega)]
    simp only[Option.bind_some]
    obtain⟨v,hv⟩:=Z7A l[i]
    rw[hv]
    simp only[Option.bind_some]
    split
    ·exact .inr ⟨_,rfl⟩
    ·by_cases q:0 < (i:Int)
     ·rw[if_pos (by simpa using q),if_pos (by simpa using q),wr64 (by omega),show((i:Int) - 1)=((i - 1:Nat):Int) by omega,Zc (show i - 1 < l.length by omega)]
      simp only[Option.bind_some]
      split
      ·exact .inr ⟨_,rfl⟩
      ·split
       ·exact .inr ⟨_,rfl⟩
       ·exact .inl rfl
     ·rw[if_neg (by simpa using q),if_neg (by simpa using q)]
      simp only[Option.bind_some,Bool.false_eq_true,if_false]
      exact .inl trivial
   ·unfold Z0P
    exact⟨_,by rw[if_neg (by simp)]⟩
  rw[he]
  cases e<;>exact⟨_,rfl⟩
theorem Za8(l:List Z3)(hl:l.length<=9223372036854775807)(n:List UInt8):∃ v,Z2c l n=some v:=by
 unfold Z2c
 split
 ·exact⟨_,rfl⟩
 ·obtain⟨e,he⟩:∃ e,iter (Z3F l n) 0=some e:=by
   refine Z6g l.length hl (fun i hi=>?_) ?_
   ·unfold Z3F
    rw[if_pos (by simpa using hi),Zc hi,wr64 (x:=(i:Int)+1) (by omega)]
    simp only[Option.bind_some]
    split
    ·exact .inr ⟨_,rfl⟩
    ·exact .inl rfl
   ·unfold Z3F
    exact⟨_,by rw[if_neg (by simp)]⟩
  rw[he]
  cases e<;>exact⟨_,rfl⟩
theorem Zim:∀ r:Fin 256,(Z13 ((r.val:Nat):Int) true).isSome=true/\(Z13 ((r.val:Nat):Int) false).isSome=true:=by decide +kernel
theorem ZdW(r:Int)(h0:0<=r)(h1:r<=255)(d:Bool):∃ v,Z13 r d=some v:=by
 have:=Zim ⟨r.toNat,by omega⟩;simp only[Int.toNat_of_nonneg h0] at this;cases d
 ·exact Option.isSome_iff_exists.1 this.2
 exact Option.isSome_iff_exists.1 this.1
theorem Z7d(d:Z2)(ht:d.Title.length<=1048576)(h0:0<=d.Rate)(h1:d.Rate<=255):∃ v,Z0r d=some v:=by
 unfold Z0r
 rw[Z0K _ (by omega),Z1w]
 obtain⟨v,hv⟩:=ZdW d.Rate h0 h1 d.Drop
 rw[hv]
 simp only[Option.bind_some]
 cases gv d.Title with
 | false=>exact⟨_,rfl⟩
 | true =>
  simp only[if_true]
  split
  ·exact⟨_,rfl⟩
  ·split
   ·simp only[Option.bind_some]
    (repeat' split)<;>exact⟨_,rfl⟩
   ·cases isNm d.Lang
    ·exact⟨_,rfl⟩
    ·simp only[if_true,Option.bind_some]
     (repeat' split)<;>exact⟨_,rfl⟩
def spB (s:Ze):Bool:=decide (0<=s.In)&&decide (s.In < s.Out)&&decide (s.Out<=5184000)
theorem ZaF(s:Ze):Z30 s=some (spB s):=by
 unfold Z30 spB;by_cases h1:0<=s.In<;>by_cases h2:s.In < s.Out<;>simp[h1,h2]
theorem Zi2(k:Int):∃ v,Z18 k=some v:=by
 unfold Z18;by_cases h1:k < 1
 ·exact⟨[],by simp[h1]⟩
 by_cases h2:4 < k
 ·exact⟨[],by simp[h1,h2]⟩
 simp only[h1,h2,decide_false,Bool.false_eq_true,if_false,Option.bind_some];have:k=1\/k=2\/k=3\/k=4:=by omega
 rcases this with rfl|rfl|rfl|rfl<;>exact⟨_,rfl⟩
theorem ZbX(a b:Zd):∃ v,Z5b a b=some v:=by
 unfold Z5b;(repeat' split)<;>exact⟨_,rfl⟩
def RowZ (r:Z6):Prop:=∀ u ∈ r.Runs,u.Text.length<=1048576/\u.Ruby.length<=1048576
theorem Z9z(r:Z6)(h:RowZ r):∃ v,Z0J r=some v/\(v=0->r.Runs.length<=16):=by
 unfold Z0J
 by_cases h16:16 < (r.Runs.length:Int)
 ·exact⟨9,by simp[h16],by simp⟩
 ·rw[if_neg (by simpa using h16)]
  obtain⟨e,he⟩:∃ e,iter (Z0D r) 0=some e:=by
   refine Z6g r.Runs.length (by omega) (fun i hi=>?_) ?_
   ·unfold Z0D
    rw[if_pos (by simpa using hi),Zc hi,wr64 (x:=(i:Int)+1) (by omega)]
    simp only[Option.bind_some]
    have hz:=h _ (List.getElem_mem hi)
    rw[Z0K _ (by omega),Z0K _ (by omega)]
    simp only[Option.bind_some,Z42]
    split
    ·split
     ·exact .inr ⟨_,rfl⟩
     ·split
      ·split
       ·by_cases q:0 < (i:Int)
        ·rw[if_pos (by simpa using q),wr64 (by omega),show((i:Int) - 1)=((i - 1:Nat):Int) by omega,Zc (show i - 1 < r.Runs.length by omega)]
         simp only[Option.bind_some]
         obtain⟨v,hv⟩:=ZbX (r.Runs[i - 1]'(by omega)) r.Runs[i]
         rw[hv]
         simp only[Option.bind_some]
         split
         ·exact .inr ⟨_,rfl⟩
         ·exact .inl rfl
        ·rw[if_neg (by simpa using q)]
         exact .inl rfl
       ·exact .inr ⟨_,rfl⟩
      ·exact .inr ⟨_,rfl⟩
    ·exact .inr ⟨_,rfl⟩
   ·unfold Z0D
    exact⟨_,by rw[if_neg (by simp)]⟩
  rw[he]
  cases e<;>exact⟨_,rfl,fun _=>by omega⟩
theorem Z9q(r:Z6)(h:RowZ r)(h16:r.Runs.length<=16):∃ s,Z2e r=some s/\s.length<=16777216:=by
 obtain⟨e,he,hp⟩:=ZD (step:=Z1E r) (fun x=>0<=x.1/\x.1<=(r.Runs.length:Int)/\(x.2.length:Int)<=x.1 * 1048576) (fun x=>r.Runs.length - x.1.toNat) (fun e=>e.length<=16777216) (x:=(0,[])) ⟨by simp,by simp,by simp⟩ (by dsimp only;omega) (by
  rintro⟨i,s⟩ ⟨q1,q2,q3⟩
  dsimp only at q1 q2 q3
  obtain⟨i,rfl⟩:=Int.eq_ofNat_of_zero_le q1
  unfold Z1E
  dsimp only
  by_cases hi:i < r.Runs.length
  ·left
   have hz:=h _ (List.getElem_mem hi)
   rw[if_pos (by simpa using hi),Zc hi,wr64 (x:=(i:Int)+1) (by omega)]
   simp only[Option.bind_some]
   rw[if_pos (by omega)]
   refine⟨_,rfl,⟨by dsimp only;omega,by dsimp only;omega,?_⟩,by dsimp only;omega⟩
   simp only[List.length_append,toI,List.length_map]
   omega
  ·right
   rw[if_neg (by simpa using hi)]
   exact⟨_,rfl,by omega⟩)
 unfold Z2e
 rw[he]
 exact⟨_,rfl,by simpa[ZR] using hp⟩
theorem Zgy(s:List UInt8)(h:s.length<=1048576):∃ v,Z2Z s=some v:=by
 unfold Z2Z
 rw[Z0K _ (by omega)]
 simp only[Option.bind_some]
 cases gv s with
 | false=>exact⟨_,rfl⟩
 | true =>
  simp only[if_true,Z0U]
  rw[if_pos (by omega)]
  exact⟨_,rfl⟩
theorem Z8H(r:Z6)(h:RowZ r)(hr:r.Runs.length<=1048576):∃ v,Z1U r=some v:=by
 obtain⟨e,he,hp⟩:=ZD (step:=Z3s r) (fun x=>0<=x.2/\x.2<=(r.Runs.length:Int)) (fun x=>r.Runs.length - x.2.toNat) (fun e=>True) (x:=(0,0)) ⟨by simp,by simp⟩ (by dsimp only;omega) (by
  rintro⟨s,i⟩ ⟨q1,q2⟩
  dsimp only at q1 q2
  obtain⟨i,rfl⟩:=Int.eq_ofNat_of_zero_le q1
  unfold Z3s
  dsimp only
  by_cases hi:i < r.Runs.length
  ·have hz:=h _ (List.getElem_mem hi)
   rw[if_pos (by simpa using hi),Zc hi,wr64 (x:=(i:Int)+1) (by omega)]
   simp only[Option.bind_some]
   obtain⟨v,hv⟩:=Zgy _ hz.1
   rw[hv]
   simp only[Option.bind_some]
   split
   ·exact .inr ⟨_,rfl,trivial⟩
   ·exact .inl ⟨_,rfl,⟨by dsimp only;omega,by dsimp only;omega⟩,by dsimp only;omega⟩
  ·right
   rw[if_neg (by simpa using hi)]
   exact⟨_,rfl,trivial⟩)
 unfold Z1U
 rw[he]
 cases e<;>exact⟨_,rfl⟩
theorem Zfq(r:Z6)(h:RowZ r):∃ v,Z3n r=some v/\(v=0->r.Runs.length<=16):=by
 unfold Z3n
 obtain⟨v,hv,h16⟩:=Z9z r h
 rw[hv]
 simp only[Option.bind_some]
 by_cases h0:v=0
 ·have hl:=h16 h0
  rw[if_neg (by simpa using h0)]
  obtain⟨s,hs,hsl⟩:=Z9q r h hl
  obtain⟨n,hn⟩:=Z8H r h (by omega)
  rw[hs,hn]
  simp only[Option.bind_some]
  obtain⟨b,hb⟩:∃ b:Bool,(if(s == ([]:List UInt8)) then(some true) else((atI s 0).bind fun b33=>(if((b33.toNat:Int) == 32) then(some true) else((atI s (IntKind.i64.wrap ((s.length:Int) - 1))).bind fun b36=>(if((b36.toNat:Int) == 32) then(some true) else((Z1R s [32,32]).bind fun r39=>(some r39)))))))=some b:=by
   by_cases he:s=[]
   ·exact⟨true,by simp[he]⟩
   ·have hp:0 < s.length:=List.length_pos_iff.2 he
    rw[if_neg (by simpa using he),show(0:Int)=((0:Nat):Int) from rfl,Zc hp,wr64 (by omega),show((s.length:Int) - 1)=((s.length - 1:Nat):Int) by omega,Zc (show s.length - 1 < s.length by omega)]
    simp only[Option.bind_some,Z1R]
    rw[if_pos (show s.length < 4294967281 by omega)]
    simp only[Option.bind_some]
    (repeat' split)<;>exact⟨_,rfl⟩
  rw[hb]
  simp only[Option.bind_some]
  split
  ·exact⟨_,rfl,fun _=>hl⟩
  ·split<;>exact⟨_,rfl,fun _=>hl⟩
 ·rw[if_pos (by simpa using h0)]
  exact⟨_,rfl,fun e=>absurd e h0⟩
def EvZ (e:Z0):Prop:=e.Rows.length<=1048576/\∀ r ∈ e.Rows,RowZ r/\r.Runs.length<=1048576
theorem ZdG(e:Z0)(h:EvZ e):∃ l,Z1r e=some l/\l.length<=1048576:=by
 obtain⟨x,he,hp⟩:=ZD (step:=Z08 e) (fun x=>0<=x.2/\x.2<=(e.Rows.length:Int)/\(x.1.length:Int)=x.2) (fun x=>e.Rows.length - x.2.toNat) (fun l=>l.length<=1048576) (x:=([],0)) ⟨by simp,by simp,by simp⟩ (by have:=h.1;dsimp only;omega) (by
  rintro⟨s,i⟩ ⟨q1,q2,q3⟩
  dsimp only at q1 q2 q3
  obtain⟨i,rfl⟩:=Int.eq_ofNat_of_zero_le q1
  have h1:=h.1
  unfold Z08
  dsimp only
  by_cases hi:i < e.Rows.length
  ·have hz:=h.2 _ (List.getElem_mem hi)
   rw[if_pos (by simpa using hi),Zc hi,wr64 (x:=(i:Int)+1) (by omega)]
   simp only[Option.bind_some]
   obtain⟨v,hv⟩:=Z8H _ hz.1 hz.2
   rw[hv]
   simp only[Option.bind_some]
   rw[if_pos (by omega)]
   exact .inl ⟨_,rfl,⟨by dsimp only;omega,by dsimp only;omega,by simp;omega⟩,by dsimp only;omega⟩
  ·right
   rw[if_neg (by simpa using hi)]
   exact⟨_,rfl,by omega⟩)
 unfold Z1r
 rw[he]
 exact⟨_,rfl,hp⟩
theorem Zgk(r:Z3):∃ v,Z1n r=some v:=by
 unfold Z1n Z1C;simp only[Option.bind_some];split
 ·exact⟨_,rfl⟩
 obtain⟨v,hv⟩:=Z7A r;rw[hv];exact⟨_,rfl⟩
theorem Zie(r:Z3)(l:List Int)(hl:l.length<=1048576):∃ e,iter (Z1k r l) ([],0)=some e:=by
 obtain⟨x,he,_⟩:=ZD (step:=Z1k r l) (fun x=>0<=x.2/\x.2<=(l.length:Int)/\(x.1.length:Int)=x.2) (fun x=>l.length - x.2.toNat) (fun _=>True) (x:=([],0)) ⟨by simp,by simp,by simp⟩ (by dsimp only;omega) (by
  rintro⟨s,i⟩ ⟨q1,q2,q3⟩
  dsimp only at q1 q2 q3
  obtain⟨i,rfl⟩:=Int.eq_ofNat_of_zero_le q1
  unfold Z1k
  dsimp only
  by_cases hi:i < l.length
  ·rw[if_pos (by simpa using hi),Zc hi,wr64 (x:=(i:Int)+1) (by omega)]
   simp only[Option.bind_some]
   have hc:(s.length+1) * 24<=140737488355328:=by omega
   simp only[hc,if_true]
   split
   ·exact .inr ⟨_,rfl,trivial⟩
   ·split
    ·exact .inr ⟨_,rfl,trivial⟩
    ·(repeat' split)<;>exact .inl ⟨_,rfl,⟨by dsimp only;omega,by dsimp only;omega,by simp;omega⟩,by dsimp only;omega⟩
  ·right
   rw[if_neg (by simpa using hi)]
   exact⟨_,rfl,trivial⟩)
 exact⟨x,he⟩
theorem Zif(r:Z3)(l:List Int)(hl:l.length<=1048576):∃ e,iter (Z1l r l) ([],0)=some e:=by
 obtain⟨x,he,_⟩:=ZD (step:=Z1l r l) (fun x=>0<=x.2/\x.2<=(l.length:Int)/\(x.1.length:Int)=x.2) (fun x=>l.length - x.2.toNat) (fun _=>True) (x:=([],0)) ⟨by simp,by simp,by simp⟩ (by dsimp only;omega) (by
  rintro⟨s,i⟩ ⟨q1,q2,q3⟩
  dsimp only at q1 q2 q3
  obtain⟨i,rfl⟩:=Int.eq_ofNat_of_zero_le q1
  unfold Z1l
  dsimp only
  by_cases hi:i < l.length
  ·rw[if_pos (by simpa using hi),Zc hi,wr64 (x:=(i:Int)+1) (by omega)]
   simp only[Option.bind_some]
   have hc:(s.length+1) * 24<=140737488355328:=by omega
   simp only[hc,if_true]
   split
   ·exact .inr ⟨_,rfl,trivial⟩
   ·split
    ·exact .inr ⟨_,rfl,trivial⟩
    ·(repeat' split)<;>exact .inl ⟨_,rfl,⟨by dsimp only;omega,by dsimp only;omega,by simp;omega⟩,by dsimp only;omega⟩
  ·right
   rw[if_neg (by simpa using hi)]
   exact⟨_,rfl,trivial⟩)
 exact⟨x,he⟩
theorem ZgX(r:Z3)(l:List Int)(hl:l.length<=1048576):∃ v,Z2s r l=some v:=by
 unfold Z2s;obtain⟨v,hv⟩:=Zgk r;obtain⟨e1,h1⟩:=Zie r l hl;obtain⟨e2,h2⟩:=Zif r l hl;rw[hv,h1,h2];simp only[Option.bind_some];cases v<;>cases e1<;>cases e2<;>simp only[Bool.false_eq_true,if_false,if_true]<;>(repeat' split)<;>exact⟨_,rfl⟩
structure EvOK(e:Z0):Prop where
 id:1<=e.ID/\e.ID<=1099511627776
 span:0<=e.Span.In/\e.Span.In < e.Span.Out/\e.Span.Out<=5184000
 rows:e.Rows.length<=4
 runs:∀ r ∈ e.Rows,r.Runs.length<=16
theorem Z6Q(e:Z0)(h:EvZ e)(l:List Z3)(hl:l.length<=1048576):∃ v,Z0c e l=some v/\(v=0->EvOK e):=by
 unfold Z0c
 obtain⟨f,hf⟩:=Za8 l (by omega) e.Region
 obtain⟨kn,hk⟩:=Zi2 e.Kind
 rw[hf,ZaF,hk,Z1w]
 simp only[Option.bind_some]
 by_cases a1:e.ID < 1
 ·exact⟨2,by simp[a1],by simp⟩
 by_cases a2:1099511627776 < e.ID
 ·exact⟨2,by simp[a1,a2],by simp⟩
 cases a3:spB e.Span with
 | false=>exact⟨2,by simp[a1,a2],by simp⟩
 | true =>
  simp only[a1,a2,decide_false,Bool.false_eq_true,if_false,Option.bind_some,Bool.not_true]
  cases f.2 with
  | false=>exact⟨6,rfl,by simp⟩
  | true =>
   simp only[if_true]
   by_cases a4:kn=[]
   ·exact⟨3,by simp[a4],by simp⟩
   rw[if_neg (by simpa using a4)]
   obtain⟨b,hb⟩:∃ b:Bool,(if(e.Speaker == ([]:List UInt8))=true then(some false) else(some (!isNm e.Speaker)):Option Bool)=some b:=by split<;>exact⟨_,rfl⟩
   rw[hb]
   simp only[Option.bind_some]
   cases b with
   | true=>exact⟨5,rfl,by simp⟩
   | false =>
    simp only[Bool.false_eq_true,if_false]
    by_cases a5:e.Rows.length=0
    ·exact⟨9,by simp[a5],by simp⟩
    by_cases a6:4 < (e.Rows.length:Int)
    ·exact⟨9,by simp[a5,a6],by simp⟩
    rw[if_neg (by simpa using a5)]
    simp only[a6,decide_false,Option.bind_some,Bool.false_eq_true,if_false]
    have hrows:e.Rows.length<=4:=by omega
    obtain⟨x,hx,hxp⟩:=Z4q (step:=Z00 e) e.Rows.length (by omega) (fun i=>∀ j (hj:j < e.Rows.length),j < i->e.Rows[j].Runs.length<=16) (fun x=>(∀ v,x=.inl v->v≠0)/\(x=.inr ()->∀ j (hj:j < e.Rows.length),e.Rows[j].Runs.length<=16)) (fun j _ h=>by omega) (fun i hi hI=>by
     unfold Z00
     rw[if_pos (by simpa using hi),Zc hi,wr64 (x:=(i:Int)+1) (by omega)]
     simp only[Option.bind_some]
     obtain⟨v,hv,hv0⟩:=Zfq e.Rows[i] (h.2 _ (List.getElem_mem hi)).1
     rw[hv]
     simp only[Option.bind_some]
     by_cases q:v=0
     ·rw[if_neg (by simpa using q)]
      exact .inl ⟨rfl,fun j hj hji=>by
       rcases Nat.lt_succ_iff_lt_or_eq.1 hji with h1|h1
       ·exact hI j hj h1
       ·subst h1;exact hv0 q⟩
     ·rw[if_pos (by simpa using q)]
      exact .inr ⟨_,rfl,fun w hw=>by cases hw;exact q,by simp⟩) (fun hI=>by
     unfold Z00
     exact⟨_,by rw[if_neg (by simp)],by simp,fun _ j hj=>hI j hj hj⟩)
    rw[hx]
    simp only[Option.bind_some]
    have hok:(x=.inr ())->EvOK e:=fun hx1=>⟨by omega,by unfold spB at a3;simp at a3;omega,hrows,fun r hr=>by
     obtain⟨j,hj,rfl⟩:=List.getElem_of_mem hr
     exact hxp.2 hx1 j hj⟩
    cases x with
    | inl v =>
     exact⟨v,rfl,fun hv=>absurd hv (hxp.1 v rfl)⟩
    | inr u =>
     obtain⟨ls,hls,hlen⟩:=ZdG e h
     obtain⟨pl,hpl⟩:=ZgX f.1 ls hlen
     simp only[hls,hpl,Option.bind_some]
     exact⟨_,rfl,fun _=>hok rfl⟩
theorem Zb1(x y:Int):Z0G x y=some (if x < y then -1 else if y < x then 1 else 0):=by
 unfold Z0G Z3a;simp only[bne_self_eq_false,Option.bind_some,Bool.false_eq_true,if_false];by_cases h1:x < y<;>by_cases h2:y < x<;>simp[h1,h2]
theorem ZjA(L:List Int)(hL:L.length<=1000):iter (Z1Y L) 0=some (runF (fun(_:Unit) (y:Int)=>if y≠0 then .inl (.inl y:Int ⊕ Unit) else .inr ()) (fun _=>(.inr ():Int ⊕ Unit)) () L):=by
 have hst:∀ (i:Nat) (hi:i < L.length),Z1Y L (i:Int)=if(L[i] != 0)=true then some (.out (.inl L[i])) else some (.go ((i:Int)+1)):=fun i hi=>by
  unfold Z1Y
  rw[if_pos (by simpa using hi),Zc hi,wr64 (x:=(i:Int)+1) (by omega)]
  simp only[Option.bind_some]
 refine ZF (step:=Z1Y L) L (by omega) (fun i (_:Unit)=>i) (fun _ y=>if y≠0 then .inl (.inl y) else .inr ()) (fun _=>(.inr ():Int ⊕ Unit)) (fun _ _=>True) (s0:=()) trivial
  (fun i hi s _=>?_) (fun s _=>by unfold Z1Y;rw[if_neg (by simp)])
 rw[hst i hi]
 by_cases q:L[i]=0
 ·exact .inr ⟨(),by simp[q],by simp[q],trivial⟩
 ·exact .inl ⟨.inl L[i],by simp[q],by simp[q]⟩
theorem ZgT(a b:Int):Z4z [a,b]=some (if a≠0 then a else b):=by
 unfold Z4z;rw[ZjA _ (by simp)];by_cases ha:a=0<;>by_cases hb:b=0<;>simp[runF,ha,hb]
def ltE (a b:Z0):Bool:=decide (a.Span.In < b.Span.In)||(decide (a.Span.In=b.Span.In)&&decide (a.ID < b.ID))
theorem ZbM(a b:Z0):Z4A a b=some (ltE a b):=by
 unfold Z4A ltE;rw[Zb1,Zb1];simp only[Option.bind_some,ZgT];congr 1;by_cases h1:a.Span.In < b.Span.In
 ·simp[h1]
 by_cases h2:b.Span.In < a.Span.In
 ·have:¬ a.Span.In=b.Span.In:=by omega
  simp[h1,h2,this]
 have:a.Span.In=b.Span.In:=by omega
 by_cases h3:a.ID < b.ID
 ·simp[h1,h2,this,h3]
 by_cases h4:b.ID < a.ID<;>simp[h1,h2,this,h3,h4]
theorem Zc5(e:Z0)(h:EvZ e):∃ v,Z1T e=some v:=by
 unfold Z1T
 obtain⟨l,hl,hlen⟩:=ZdG e h
 rw[hl]
 simp only[Option.bind_some]
 generalize (if 0 > (IntKind.i64.wrap ((e.Rows.length:Int) - 1)) then 0 else(IntKind.i64.wrap ((e.Rows.length:Int) - 1)))=c0
 obtain⟨x,he,_⟩:=ZD (step:=Z1f l) (fun x=>0<=x.2/\x.2<=(l.length:Int)) (fun x=>l.length - x.2.toNat) (fun _=>True) (x:=(c0,0)) ⟨by simp,by simp⟩ (by dsimp only;omega) (by
  rintro⟨s,i⟩ ⟨q1,q2⟩
  dsimp only at q1 q2
  obtain⟨i,rfl⟩:=Int.eq_ofNat_of_zero_le q1
  unfold Z1f
  dsimp only
  by_cases hi:i < l.length
  ·rw[if_pos (by simpa using hi),Zc hi,wr64 (x:=(i:Int)+1) (by omega)]
   simp only[Option.bind_some]
   split
   ·exact .inr ⟨_,rfl,trivial⟩
   ·exact .inl ⟨_,rfl,⟨by dsimp only;omega,by dsimp only;omega⟩,by dsimp only;omega⟩
  ·right
   rw[if_neg (by simpa using hi)]
   exact⟨_,rfl,trivial⟩)
 rw[he]
 cases x<;>exact⟨_,rfl⟩
structure DocZ(d:Z2):Prop where
 title:d.Title.length<=1048576
 rate:0<=d.Rate/\d.Rate<=255
 regs:d.Regions.length<=1048576
 evs:d.Events.length<=1048576
 ev:∀ e ∈ d.Events,EvZ e
 coms:d.Comments.length<=1048576
 com:∀ c ∈ d.Comments,c.Text.length<=1048576
structure MapZ(n:Nat)(m:MI Int):Prop where
 len:m.ks.length=m.vs.length
 val:∀ v ∈ m.vs,0<=v/\v < (n:Int)
theorem Zca:∀ (ks vs:List Int) (c z:Int),ks.length=vs.length->ks.contains c=true->Z2g ks vs c z ∈ vs
 | [],_,c,z,_,h=>by simp at h
 | k::ks,[],c,z,h,_=>by simp at h
 | k::ks,v::vs,c,z,h,hc=>by
  unfold Z2g
  by_cases q:k=c
  ·rw[if_pos q];simp
  ·rw[if_neg q]
   have:ks.contains c=true:=by
    simp only[List.contains_cons,Bool.or_eq_true,beq_iff_eq] at hc
    rcases hc with hc|hc
    ·exact absurd hc.symm q
    ·exact hc
   exact List.mem_cons_of_mem _ (Zca ks vs c z (by simpa using h) this)
theorem Zhz(d:Z2)(hd:DocZ d)(c:Z4)(m:MI Int)(hm:MapZ d.Events.length m):∃ v,ZY d c m=some v:=by
 unfold ZY
 by_cases h1:c.Event < 1
 ·exact⟨2,by simp[h1]⟩
 by_cases h2:d.Last < c.Event
 ·exact⟨2,by simp[h1,h2]⟩
 rw[if_neg (by simpa using h1),if_neg (by simpa using h2)]
 cases c.Lost with
 | true =>
  simp only[if_true]
  by_cases h3:c.From=0<;>by_cases h4:c.To=0<;>simp[h3,h4]
 | false =>
  simp only[Bool.false_eq_true,if_false]
  cases h3:m.ks.contains c.Event with
  | false=>exact⟨6,by simp⟩
  | true =>
   simp only[if_true]
   have hv:=hm.val _ (Zca m.ks m.vs c.Event 0 hm.len h3)
   generalize hk:Z2g m.ks m.vs c.Event 0=k at hv
   obtain⟨k,rfl⟩:=Int.eq_ofNat_of_zero_le hv.1
   have hlt:k < d.Events.length:=by omega
   rw[Zc hlt]
   simp only[Option.bind_some]
   obtain⟨v,hv2⟩:=Zc5 _ (hd.ev _ (List.getElem_mem hlt))
   rw[hv2]
   simp only[Option.bind_some]
   (repeat' split)<;>exact⟨_,rfl⟩
theorem ZhH(d:Z2)(hd:DocZ d)(m:MI Int)(hm:MapZ d.Events.length m):∃ v,Z0b d m=some v:=by
 unfold Z0b
 by_cases h:64 < (d.Comments.length:Int)
 ·exact⟨9,by simp[h]⟩
 ·rw[if_neg (by simpa using h)]
  obtain⟨e,he⟩:∃ e,iter (ZS d m) 0=some e:=by
   refine Z6g d.Comments.length (by omega) (fun i hi=>?_) ?_
   ·unfold ZS
    rw[if_pos (by simpa using hi),Zc hi,wr64 (x:=(i:Int)+1) (by omega)]
    simp only[Option.bind_some]
    obtain⟨v,hv⟩:=Zhz d hd d.Comments[i] m hm
    rw[hv,Z1w,Z0K _ (by have:=hd.com _ (List.getElem_mem hi);omega)]
    simp only[Option.bind_some]
    have hp:0 < (i:Int)->∃ w,atI d.Comments (IntKind.i64.wrap ((i:Int) - 1))=some w:=fun q=>by
     rw[wr64 (by omega),show((i:Int) - 1)=((i - 1:Nat):Int) by omega,Zc (show i - 1 < d.Comments.length by omega)]
     exact⟨_,rfl⟩
    generalize d.Comments[i]=cm at *
    generalize m.ks.contains cm.ID=b1
    generalize (v != 0)=b2
    generalize isNm cm.Author=b3
    generalize gv cm.Text=b4
    generalize (cm.Text == ([]:List UInt8))=b5
    generalize decide (400 < (cm.Text.length:Int))=b6
    generalize decide (cm.ID < 1)=b7
    generalize decide (d.Last < cm.ID)=b8
    cases b7
    case true=>exact .inr ⟨_,rfl⟩
    cases b8
    case true=>exact .inr ⟨_,rfl⟩
    simp only[Bool.false_eq_true,if_false]
    by_cases q:0 < (i:Int)
    ·obtain⟨w,hw⟩:=hp q
     rw[if_pos (by simpa using q),hw]
     simp only[Option.bind_some]
     generalize decide (cm.ID<=w.ID)=b9
     cases b9<;>cases b1<;>cases b2<;>cases b3<;>cases b4<;>cases b5<;>cases b6<;>first|exact .inr ⟨_,rfl⟩|exact .inl rfl
    ·rw[if_neg (by simpa using q)]
     cases b1<;>cases b2<;>cases b3<;>cases b4<;>cases b5<;>cases b6<;>first|exact .inr ⟨_,rfl⟩|exact .inl rfl
   ·unfold ZS
    exact⟨_,by rw[if_neg (by simp)]⟩
  rw[he]
  cases e<;>exact⟨_,rfl⟩
theorem Zau:∀ (ks:List Int) (n:Int),ks.contains n=false->putK ks n=ks++[n]
 | [],n,_=>rfl
 | k::ks,n,h=>by
  simp only[List.contains_cons,Bool.or_eq_false_iff,beq_eq_false_iff_ne,ne_eq] at h
  unfold putK
  rw[if_neg (fun e=>h.1 e.symm),Zau ks n h.2]
  rfl
theorem Zaw:∀ (ks vs:List Int) (n y:Int),ks.contains n=false->ks.length=vs.length->putV ks vs n y=vs++[y]
 | [],[],n,y,_,_=>rfl
 | [],v::vs,n,y,_,h=>by simp at h
 | k::ks,[],n,y,_,h=>by simp at h
 | k::ks,v::vs,n,y,h,hl=>by
  simp only[List.contains_cons,Bool.or_eq_false_iff,beq_eq_false_iff_ne,ne_eq] at h
  unfold putV
  rw[if_neg (fun e=>h.1 e.symm),Zaw ks vs n y h.2 (by simpa using hl)]
  rfl
structure Z8f(d:Z2):Prop where
 num:d.Events.length<=400
 ev:∀ e ∈ d.Events,EvOK e
 ids:(d.Events.map (·.ID)).Nodup
 ord:∀ i (h:i+1 < d.Events.length),ltE d.Events[i] d.Events[i+1]=true
structure ChI(d:Z2)(i:Nat)(ks vs:List Int):Prop where
 kq:ks=(d.Events.take i).map (·.ID)
 nd:ks.Nodup
 len:vs.length=i
 val:∀ v ∈ vs,0<=v/\v < (d.Events.length:Int)
 ev:∀ j (h:j < d.Events.length),j < i->EvOK d.Events[j]
 ord:∀ j (h:j+1 < d.Events.length),j+1 < i->ltE d.Events[j] d.Events[j+1]=true
theorem ZfK(d:Z2)(hd:DocZ d):∃ e,iter (Z0a d) (0,[],[])=some e/\(∀ v,e=.inl v->v≠0)/\(∀ ks vs,e=.inr (ks,vs)->ChI d d.Events.length ks vs):=by
 refine ZD (step:=Z0a d) (fun x=>∃ i:Nat,x.1=i/\i<=d.Events.length/\ChI d i x.2.1 x.2.2) (fun x=>d.Events.length - x.1.toNat) (fun e=>(∀ v,e=.inl v->v≠0)/\(∀ ks vs,e=.inr (ks,vs)->ChI d d.Events.length ks vs)) (x:=(0,[],[])) ⟨0,rfl,by omega,⟨by simp,by simp,rfl,by simp,fun _ _ h=>by omega,fun _ _ h=>by omega⟩⟩ (by have:=hd.evs;dsimp only;omega) ?_
 rintro⟨x,ks,vs⟩ ⟨i,h1,hi,hI⟩
 dsimp only at h1 hI
 subst h1
 have hn:=hd.evs
 unfold Z0a
 dsimp only
 by_cases hlt:i < d.Events.length
 ·rw[if_pos (by simpa using hlt),Zc hlt,wr64 (x:=(i:Int)+1) (by omega)]
  simp only[Option.bind_some]
  obtain⟨v,hv,hv0⟩:=Z6Q _ (hd.ev _ (List.getElem_mem hlt)) d.Regions hd.regs
  rw[hv]
  simp only[Option.bind_some]
  by_cases q:v=0
  ·rw[if_neg (by simpa using q)]
   by_cases q1:d.Last < d.Events[i].ID
   ·right
    rw[if_pos (by simpa using q1)]
    exact⟨_,rfl,fun w hw=>by cases hw;decide,fun _ _ hw=>by cases hw⟩
   ·rw[if_neg (by simpa using q1)]
    have next:ks.contains d.Events[i].ID=false->(0 < i->ltE (d.Events[i - 1]'(by omega)) d.Events[i]=true)->ChI d (i+1) (putK ks d.Events[i].ID) (putV ks vs d.Events[i].ID (i:Int)):=by
     intro hc ho
     rw[Zau _ _ hc,Zaw _ _ _ _ hc (by rw[hI.kq,hI.len];simp;omega)]
     refine⟨?_,?_,?_,?_,?_,?_⟩
     ·rw[hI.kq,List.take_succ_eq_append_getElem hlt,List.map_append];rfl
     ·rw[List.nodup_append]
      refine⟨hI.nd,by simp,fun a ha b hb=>?_⟩
      simp only[List.mem_singleton] at hb
      subst hb
      intro e
      subst e
      have:ks.contains d.Events[i].ID=true:=List.contains_iff_mem.2 ha
      rw[hc] at this;cases this
     ·simp[hI.len]
     ·intro v hv
      rcases List.mem_append.1 hv with hv|hv
      ·exact hI.val v hv
      ·simp only[List.mem_singleton] at hv;subst hv;omega
     ·intro j hj hji
      rcases Nat.lt_succ_iff_lt_or_eq.1 hji with h2|h2
      ·exact hI.ev j hj h2
      ·subst h2;exact hv0 q
     ·intro j hj hji
      rcases Nat.lt_succ_iff_lt_or_eq.1 hji with h2|h2
      ·exact hI.ord j hj h2
      ·have:=ho (by omega)
       obtain rfl:i=j+1:=h2.symm
       exact this
    by_cases q2:0 < (i:Int)
    ·rw[if_pos (by simpa using q2),wr64 (by omega),show((i:Int) - 1)=((i - 1:Nat):Int) by omega,Zc (show i - 1 < d.Events.length by omega)]
     simp only[Option.bind_some,ZbM]
     cases q3:ltE (d.Events[i - 1]'(by omega)) d.Events[i] with
     | false=>exact .inr ⟨_,rfl,fun w hw=>by cases hw;decide,fun _ _ hw=>by cases hw⟩
     | true =>
      simp only[if_true]
      cases q4:ks.contains d.Events[i].ID with
      | true=>exact .inr ⟨_,rfl,fun w hw=>by cases hw;decide,fun _ _ hw=>by cases hw⟩
      | false=>exact .inl ⟨_,rfl,⟨i+1,by simp,by omega,next q4 (fun _=>q3)⟩,by dsimp only;omega⟩
    ·rw[if_neg (by simpa using q2)]
     cases q4:ks.contains d.Events[i].ID with
     | true=>exact .inr ⟨_,rfl,fun w hw=>by cases hw;decide,fun _ _ hw=>by cases hw⟩
     | false=>exact .inl ⟨_,rfl,⟨i+1,by simp,by omega,next q4 (fun h=>by omega)⟩,by dsimp only;omega⟩
  ·right
   rw[if_pos (by simpa using q)]
   exact⟨_,rfl,fun w hw=>by cases hw;exact q,fun _ _ hw=>by cases hw⟩
 ·obtain rfl:i=d.Events.length:=by omega
  right
  rw[if_neg (by simp)]
  exact⟨_,rfl,fun w hw=>(by cases hw),fun ks' vs' hw=>(by cases hw;exact hI)⟩
theorem Zds(d:Z2)(hd:DocZ d):∃ v,Zq d=some v/\(v=0->Z8f d):=by
 unfold Zq
 obtain⟨v1,h1⟩:=Z7d d hd.title hd.rate.1 hd.rate.2
 obtain⟨v2,h2⟩:=Z6R d.Regions
 obtain⟨e,he,h3,h4⟩:=ZfK d hd
 rw[h1,h2,he]
 simp only[Option.bind_some]
 split
 ·rename_i q;exact⟨_,rfl,fun e=>by simp[e] at q⟩
 ·split
  ·rename_i q;exact⟨_,rfl,fun e=>by simp[e] at q⟩
  ·split
   ·exact⟨_,rfl,by simp⟩
   ·rename_i q
    cases e with
    | inl v=>exact⟨_,rfl,fun e=>absurd e (h3 v rfl)⟩
    | inr p =>
     obtain⟨ks,vs⟩:=p
     have hc:=h4 ks vs rfl
     obtain⟨v,hv⟩:=ZhH d hd ⟨ks,vs⟩ ⟨by rw[hc.kq,hc.len];simp,hc.val⟩
     simp only[hv,Option.bind_some]
     refine⟨_,rfl,fun _=>⟨by simp at q;omega,fun e he=>?_,?_,fun i h=>hc.ord i h h⟩⟩
     ·obtain⟨j,hj,rfl⟩:=List.getElem_of_mem he
      exact hc.ev j hj hj
     ·have:=hc.nd
      rw[hc.kq,List.take_length] at this
      exact this
end Go.Proofs.YtobglplholhkcaaGreatDoor
